
/- What is kept while an edit is applied. Condition: none. -/
import Derived.Test.YtekfaodjadinnaaWTb4
import Derived.Deep.MidRow
namespace Go.Proofs.Ytekfaodjadinnaa
open Go.RowKit

namespace Pl
def kept (L : Lv) (drop : List Nat) (k : Nat) : List Tb := (L.t k).filter (fun x => !decide (x.num ∈ drop))
/-- the tables that are left, of the levels ahead of k, and of the first i tables of level k -/
def tK (L : Lv) (drop : List Nat) (k i : Nat) : Nat → List Tb := fun j => if j < k then kept L drop j else if j = k then ((L.t k).take i).filter (fun x => !decide (x.num ∈ drop)) else []
theorem tK_zero (L : Lv) (drop : List Nat) : tK L drop 0 0 = fun _ => [] := by
  funext j
  unfold tK
  rcases j with _ | j <;> simp
theorem tK_next (L : Lv) (drop : List Nat) (k : Nat) : tK L drop (k + 1) 0 = tK L drop k (L.t k).length := by
  funext j
  unfold tK kept
  by_cases h1 : j < k
  · rw [if_pos h1, if_pos (by omega)]
  · by_cases h2 : j = k
    · subst h2
      rw [if_pos (by omega), if_neg h1, if_pos rfl, List.take_of_length_le (Nat.le_refl _)]
    · rw [if_neg h1, if_neg h2, if_neg (by omega)]
      by_cases h3 : j = k + 1
      · rw [if_pos h3]; simp
      · rw [if_neg h3]
/-- one table more at a level's end -/
def snocT (t : Nat → List Tb) (k : Nat) (x : Tb) : Nat → List Tb := fun j => if j = k then t j ++ [x] else t j
theorem tK_lt {L : Lv} {drop : List Nat} {k i j : Nat} (h : j < k) : tK L drop k i j = kept L drop j := if_pos h
theorem tK_eq {L : Lv} {drop : List Nat} {k i : Nat} : tK L drop k i k = ((L.t k).take i).filter (fun x => !decide (x.num ∈ drop)) := by unfold tK; rw [if_neg (Nat.lt_irrefl _), if_pos rfl]
theorem tK_gt {L : Lv} {drop : List Nat} {k i j : Nat} (h : k < j) : tK L drop k i j = [] := by unfold tK; rw [if_neg (by omega), if_neg (by omega)]
theorem tK_keep (L : Lv) (drop : List Nat) (k i : Nat) (h : i < (L.t k).length) (hx : (L.t k)[i].num ∉ drop) : tK L drop k (i + 1) = snocT (tK L drop k i) k (L.t k)[i] := by
  funext j
  show _ = if j = k then tK L drop k i j ++ [(L.t k)[i]] else tK L drop k i j
  rcases Nat.lt_trichotomy j k with h1 | rfl | h1
  · rw [tK_lt h1, tK_lt h1, if_neg (by omega)]
  · rw [tK_eq, tK_eq, if_pos rfl, List.take_succ_eq_append_getElem h, List.filter_append]
    simp [hx]
  · rw [tK_gt h1, tK_gt h1, if_neg (by omega)]
theorem tK_drop (L : Lv) (drop : List Nat) (k i : Nat) (h : i < (L.t k).length) (hx : (L.t k)[i].num ∈ drop) : tK L drop k (i + 1) = tK L drop k i := by
  funext j
  unfold tK
  by_cases h1 : j < k
  · rw [if_pos h1, if_pos h1]
  · by_cases h2 : j = k
    · subst h2
      rw [if_neg h1, if_pos rfl, if_neg h1, if_pos rfl, List.take_succ_eq_append_getElem h, List.filter_append]
      simp [hx]
    · rw [if_neg h1, if_neg h2, if_neg h1, if_neg h2]
theorem tK_length (L : Lv) (drop : List Nat) (k i j : Nat) (N : Nat) (hk : k ≤ 4) (hj : j < 4) (h : ∀ q, q < 4 → (L.t q).length ≤ N) : (tK L drop k i j).length ≤ N := by
  unfold tK kept
  split
  · exact Nat.le_trans (List.length_filter_le _ _) (h j hj)
  · split
    · rename_i h2
      subst h2
      refine Nat.le_trans (List.length_filter_le _ _) ?_
      rw [List.length_take]
      have := h j hj
      omega
    · simp
def dropOk (had drop : List Nat) : Bool := decide (∀ i (h : i < drop.length), drop[i] ∈ had ∧ drop[i] ∉ drop.take i)
open Classical in
noncomputable def addOne (next : Nat) (o : Lv) (t : Tb) : Option Lv :=
  if t.num ∈ nums o ∨ next ≤ t.num then none
  else if 0 < t.level ∧ ∃ y ∈ o.t t.level.toNat, overB y t.least t.greatest = true then none
  else some { o with t := fun k => if k = t.level.toNat then put (o.t k) t else o.t k }
noncomputable def addAll (next : Nat) : Lv → List Tb → Option Lv
  | o, [] => some o
  | o, t :: r => match addOne next o t with
    | none => none
    | some o' => addAll next o' r
noncomputable def apply (L : Lv) (e : Ed) : Option Lv :=
  if mayE e = false then none
  else if e.next < L.next ∨ e.seq < L.seq ∨ e.log < L.log then none
  else if dropOk (nums L) e.drop = false then none
  else addAll e.next ⟨e.next, e.seq, e.log, tK L e.drop 4 0⟩ e.add
end Pl

/-- live tables in a box of their own -/
def LvBox (W : World) (b : Nat) (L : Pl.Lv) (a : Nat → Option Addr) (c : Nat → Nat) : Prop := W.heap[b]? = some (.cells (lvCells L a c) 30 (0, 0))
theorem LvBox.lt {W : World} {b : Nat} {L : Pl.Lv} {a : Nat → Option Addr} {c : Nat → Nat} (h : LvBox W b L a c) : b < W.heap.size := (Array.getElem?_eq_some_iff.1 h).1
theorem LvBox.cells {W : World} {b : Nat} {L : Pl.Lv} {a : Nat → Option Addr} {c : Nat → Nat} (h : LvBox W b L a c) :
    W.cell? ⟨b, 0, none⟩ = some (.int .u64 (L.next : Int)) ∧ W.cell? ⟨b, 1, none⟩ = some (.int .u64 (L.seq : Int)) ∧ W.cell? ⟨b, 2, none⟩ = some (.int .u64 (L.log : Int)) ∧
    W.cell? ⟨b, 3, none⟩ = some (.slice (a 0) (L.t 0).length (c 0)) ∧ W.cell? ⟨b, 4, none⟩ = some (.slice (a 1) (L.t 1).length (c 1)) ∧ W.cell? ⟨b, 5, none⟩ = some (.slice (a 2) (L.t 2).length (c 2)) ∧ W.cell? ⟨b, 6, none⟩ = some (.slice (a 3) (L.t 3).length (c 3)) := by
  unfold LvBox lvCells at h
  refine ⟨?_, ?_, ?_, ?_, ?_, ?_, ?_⟩ <;> simp [World.cell?, h]
theorem LvBox.frz {W : World} {b : Nat} {L : Pl.Lv} {a : Nat → Option Addr} {c : Nat → Nat} (h : LvBox W b L a c) (o : Nat) : W.frozen? ⟨b, o, none⟩ = false := by
  unfold LvBox at h
  simp [World.frozen?, h]
theorem LvBox.k {W : World} {b : Nat} {L : Pl.Lv} {a : Nat → Option Addr} {c : Nat → Nat} (h : LvBox W b L a c) (k : Nat) (hk : k < 4) : W.cell? ⟨b, 3 + k, none⟩ = some (.slice (a k) (L.t k).length (c k)) := by
  unfold LvBox at h
  simp [World.cell?, h, lvCells_k L a c k hk]
theorem LvBox.keep {W W' : World} {b : Nat} {L : Pl.Lv} {a : Nat → Option Addr} {c : Nat → Nat} (h : LvBox W b L a c) {fp : Nat → Prop} (hk : Keep fp W W') (hf : fp b) : LvBox W' b L a c := (hk.block b hf h.lt).trans h
theorem LvBox.below {W W' : World} {b : Nat} {L : Pl.Lv} {a : Nat → Option Addr} {c : Nat → Nat} (h : LvBox W b L a c) (hb : Below W.heap.size W W') : LvBox W' b L a c := (hb.block b h.lt).trans h
theorem LvBox.new (W : World) (L : Pl.Lv) (a : Nat → Option Addr) (c : Nat → Nat) : LvBox (W.alloc (.cells (lvCells L a c) 30)) W.heap.size L a c := World.alloc_heap_new _ _
theorem heap_seven {W : World} {b : Nat} {y0 y1 y2 y3 y4 y5 y6 : Value} {t : TypeId} (h : W.heap[b]? = some (.cells #[y0, y1, y2, y3, y4, y5, y6] t (0, 0))) (x0 x1 x2 x3 x4 x5 x6 : Value) :
    (((((((W.setCell ⟨b, 0, none⟩ x0).setCell ⟨b, 1, none⟩ x1).setCell ⟨b, 2, none⟩ x2).setCell ⟨b, 3, none⟩ x3).setCell ⟨b, 4, none⟩ x4).setCell ⟨b, 5, none⟩ x5).setCell ⟨b, 6, none⟩ x6).heap[b]? = some (.cells #[x0, x1, x2, x3, x4, x5, x6] t (0, 0)) := by
  simp [World.setCell, Array.getElem?_modify, h]
theorem keep_seven (W : World) (b : Nat) (x0 x1 x2 x3 x4 x5 x6 : Value) : Keep (fun q => q ≠ b) W (((((((W.setCell ⟨b, 0, none⟩ x0).setCell ⟨b, 1, none⟩ x1).setCell ⟨b, 2, none⟩ x2).setCell ⟨b, 3, none⟩ x3).setCell ⟨b, 4, none⟩ x4).setCell ⟨b, 5, none⟩ x5).setCell ⟨b, 6, none⟩ x6) :=
  (((((((Keep.refl _ _).setCell _ _ _ (fun h _ => h rfl)).setCell _ _ _ (fun h _ => h rfl)).setCell _ _ _ (fun h _ => h rfl)).setCell _ _ _ (fun h _ => h rfl)).setCell _ _ _ (fun h _ => h rfl)).setCell _ _ _ (fun h _ => h rfl)).setCell _ _ _ (fun h _ => h rfl)
theorem live_loadVar {W : World} {b : Nat} {L : Pl.Lv} {a : Nat → Option Addr} {c : Nat → Nat} (h : LvBox W b L a c) : (loadVar 30 ⟨b, 0, none⟩).run Try.prog W = .ok (lvV L a c) W :=
  run_loadVar_mid (P := Try.prog) W b 0 30 (lvCells L a c).toList _ (fun j u hj => by
    obtain ⟨d0, d1, d2, d3, d4, d5, d6⟩ := h.cells
    rw [Nat.zero_add]
    rcases j with _ | _ | _ | _ | _ | _ | _ | j
    · cases hj; exact d0
    · cases hj; exact d1
    · cases hj; exact d2
    · cases hj; exact d3
    · cases hj; exact d4
    · cases hj; exact d5
    · cases hj; exact d6
    · simp [lvCells] at hj) Try.underlying30 rfl (by kernel_rfl)
theorem results_live {fn : Func} {p : Tmp} (h : fn.results = #[.cell p 30]) {tmps : Array Value} {b : Nat} {L : Pl.Lv} {a : Nat → Option Addr} {c : Nat → Nat} {w : World} (hp : tmps.getD p undef = .pointer (some ⟨b, 0, none⟩)) (hc : LvBox w b L a c) :
    (results fn tmps).run Try.prog w = .ok (lvV L a c) w := by
  have hp' : tmps[p]?.getD undef = .pointer (some ⟨b, 0, none⟩) := by simpa using hp
  simp [results, h, hp', asAddr, live_loadVar hc]
theorem results_live2 {fn : Func} {p q : Tmp} (h : fn.results = #[.cell p 30, .tmp q]) {tmps : Array Value} {b : Nat} {v : Value} {L : Pl.Lv} {a : Nat → Option Addr} {c : Nat → Nat} {w : World} (hp : tmps.getD p undef = .pointer (some ⟨b, 0, none⟩)) (hq : tmps.getD q undef = v) (hc : LvBox w b L a c) :
    (results fn tmps).run Try.prog w = .ok (.tuple #[lvV L a c, v]) w := by
  have hp' : tmps[p]?.getD undef = .pointer (some ⟨b, 0, none⟩) := by simpa using hp
  have hq' : tmps[q]?.getD undef = v := by simpa using hq
  simp [results, h, hp', hq', asAddr, live_loadVar hc]

/-- what stands about Apply: the boxes of its parameters and of its result -/
structure ApW (w : World) (L : Pl.Lv) (a : Nat → Option Addr) (c : Nat → Nat) (e : Pl.Ed) (ua ud : Value) (W : World) : Prop where
  lb : LvBox W w.heap.size L a c
  eb : W.heap[w.heap.size + 1]? = some (.cells #[.int .u64 (e.next : Int), .int .u64 (e.seq : Int), .int .u64 (e.log : Int), ua, ud] 57 (0, 0))
  rb : LvBox W (w.heap.size + 1 + 1) Pl.Lv.zero (fun _ => none) (fun _ => 0)
  old : Below w.heap.size w W
theorem ApW.lt {w : World} {L : Pl.Lv} {a : Nat → Option Addr} {c : Nat → Nat} {e : Pl.Ed} {ua ud : Value} {W : World} (h : ApW w L a c e ua ud W) : w.heap.size + 1 + 1 < W.heap.size := h.rb.lt
theorem ApW.keep {w : World} {L : Pl.Lv} {a : Nat → Option Addr} {c : Nat → Nat} {e : Pl.Ed} {ua ud : Value} {W W' : World} (h : ApW w L a c e ua ud W) {fp : Nat → Prop} (hk : Keep fp W W') (hf : ∀ q, q < w.heap.size + 3 → fp q) : ApW w L a c e ua ud W' :=
  ⟨h.lb.keep hk (hf _ (by omega)), (hk.block _ (hf _ (by omega)) (Array.getElem?_eq_some_iff.1 h.eb).1).trans h.eb, h.rb.keep hk (hf _ (by omega)), hk.below h.old (Nat.le_refl _) (fun q hq => hf q (by omega))⟩
theorem ApW.below {w : World} {L : Pl.Lv} {a : Nat → Option Addr} {c : Nat → Nat} {e : Pl.Ed} {ua ud : Value} {W W' : World} (h : ApW w L a c e ua ud W) (hb : Below W.heap.size W W') : ApW w L a c e ua ud W' :=
  h.keep (Keep.of_below (fp := fun q => q < w.heap.size + 3) hb (fun q hq _ => by have := h.lt; omega)) (fun _ h => h)
theorem ApW.ecells {w : World} {L : Pl.Lv} {a : Nat → Option Addr} {c : Nat → Nat} {e : Pl.Ed} {ua ud : Value} {W : World} (h : ApW w L a c e ua ud W) :
    W.cell? ⟨w.heap.size + 1, 0, none⟩ = some (.int .u64 (e.next : Int)) ∧ W.cell? ⟨w.heap.size + 1, 1, none⟩ = some (.int .u64 (e.seq : Int)) ∧ W.cell? ⟨w.heap.size + 1, 2, none⟩ = some (.int .u64 (e.log : Int)) ∧ W.cell? ⟨w.heap.size + 1, 3, none⟩ = some ua ∧ W.cell? ⟨w.heap.size + 1, 4, none⟩ = some ud := by
  have h := h.eb
  refine ⟨?_, ?_, ?_, ?_, ?_⟩ <;> simp [World.cell?, h]
/-- a refusal: the result's box is filled with noughts once more -/
theorem ApW.refuse {w : World} {L : Pl.Lv} {a : Nat → Option Addr} {c : Nat → Nat} {e : Pl.Ed} {ua ud : Value} {W : World} (h : ApW w L a c e ua ud W) :
    LvBox (((((((W.setCell ⟨w.heap.size + 1 + 1, 0, none⟩ (.int .u64 0)).setCell ⟨w.heap.size + 1 + 1, 1, none⟩ (.int .u64 0)).setCell ⟨w.heap.size + 1 + 1, 2, none⟩ (.int .u64 0)).setCell ⟨w.heap.size + 1 + 1, 3, none⟩ (.slice none 0 0)).setCell ⟨w.heap.size + 1 + 1, 4, none⟩ (.slice none 0 0)).setCell ⟨w.heap.size + 1 + 1, 5, none⟩ (.slice none 0 0)).setCell ⟨w.heap.size + 1 + 1, 6, none⟩ (.slice none 0 0)) (w.heap.size + 1 + 1) Pl.Lv.zero (fun _ => none) (fun _ => 0) ∧
    Below w.heap.size w (((((((W.setCell ⟨w.heap.size + 1 + 1, 0, none⟩ (.int .u64 0)).setCell ⟨w.heap.size + 1 + 1, 1, none⟩ (.int .u64 0)).setCell ⟨w.heap.size + 1 + 1, 2, none⟩ (.int .u64 0)).setCell ⟨w.heap.size + 1 + 1, 3, none⟩ (.slice none 0 0)).setCell ⟨w.heap.size + 1 + 1, 4, none⟩ (.slice none 0 0)).setCell ⟨w.heap.size + 1 + 1, 5, none⟩ (.slice none 0 0)).setCell ⟨w.heap.size + 1 + 1, 6, none⟩ (.slice none 0 0)) :=
  ⟨heap_seven h.rb _ _ _ _ _ _ _, (keep_seven W (w.heap.size + 1 + 1) _ _ _ _ _ _ _).below h.old (Nat.le_refl _) (fun q hq => by omega)⟩
end Go.Proofs.Ytekfaodjadinnaa
