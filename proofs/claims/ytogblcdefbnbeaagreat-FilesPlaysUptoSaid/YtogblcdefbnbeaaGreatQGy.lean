
/- Walks: numbers and texts read one behind the other, from bytes that were put. Condition: none. -/
import Derived.Test.YtogblcdefbnbeaaGreatQWRefEncRt
import Derived.Test.YtogblcdefbnbeaaGreatQGe
import Derived.Test.YtogblcdefbnbeaaGreatQGa
import Derived.Test.YtogblcdefbnbeaaGreatQGc
import Derived.Test.YtogblcdefbnbeaaGreatQPi
import Derived.Deep.DeepCutAuto
set_option maxRecDepth 100000
namespace Go.Proofs.YtogblcdefbnbeaaGreat
section
open Go.RowKit
def RdAt (W : World) (R : Nat) (l : List UInt8) : Prop := W.heap[R]? = some (.cells #[.string ⟨l.toArray⟩] 136 (0, 0))
theorem RdAt.lt {W : World} {R : Nat} {l : List UInt8} (h : RdAt W R l) : R < W.heap.size := (Array.getElem?_eq_some_iff.1 h).1
theorem RdAt.below {W W' : World} {R : Nat} {l : List UInt8} (h : RdAt W R l) (hb : Below W.heap.size W W') : RdAt W' R l := (hb.block R h.lt).trans h
theorem RdAt.set {W : World} {R : Nat} {l l' : List UInt8} (h : RdAt W R l) : RdAt (W.setCell ⟨R, 0, none⟩ (.string ⟨l'.toArray⟩)) R l' := by
 obtain ⟨hlt, hk⟩ := Array.getElem?_eq_some_iff.1 h
 show (W.heap.modify R _)[R]? = _
 rw [Array.getElem?_eq_getElem (by rw [Array.size_modify]; exact hlt), Array.getElem_modify_self, hk]
 simp
end
section
open Go.RowKit
def icells4 (l : List Int) : List Value := l.map fun b => .int .i64 b
theorem icells4_length (l : List Int) : (icells4 l).length = l.length := by simp [icells4]
theorem icells4_snoc (l : List Int) (b : Int) : icells4 l ++ (#[Value.int .i64 b] : Array Value).toList = icells4 (l ++ [b]) := by simp [icells4]
def fcells4 : List (Pl.FileP × Value) → List Value
 | [] => []
 | x :: l => .string x.1.name :: .int .i64 x.1.size :: x.2 :: fcells4 l
theorem fcells4_append : ∀ l r : List (Pl.FileP × Value), fcells4 (l ++ r) = fcells4 l ++ fcells4 r
 | [], _ => rfl
 | x :: l, r => by simp [fcells4, fcells4_append l r]
def IOwn (W : World) (B : Nat) (u : Value) (l : List Int) : Prop := W.ownsRow B 3 1 u l.length (icells4 l)
theorem IOwn.at {W : World} {B : Nat} {u : Value} {l : List Int} (h : IOwn W B u l) : IntsAt W u l := by
 rcases id h.2 with ⟨rfl, h0⟩ | ⟨g, cap, cur, rfl, hB, hg, hnc, hcm, hcs, ht⟩
 ·exact ⟨none, 0, by rw [h0], by omega, by omega, fun h => by omega⟩
 ·refine ⟨some ⟨g, 0, none⟩, cap, rfl, hnc, by unfold maxLen at hcm; exact hcm, fun _ => ⟨g, 0, rfl, (Array.getElem?_eq_some_iff.1 hg).1, fun i hi => ?_⟩⟩
  rw [Nat.zero_add]
  have := h.cells (g := g) rfl i (.int .i64 l[i]) (by simp [icells4, hi])
  rw [Addr.add_lit, Nat.zero_add] at this
  exact this
theorem info_int4 : (Tryz.prog.info? 3).map (fun i => (i.zero, i.size, i.bytes)) = some (some (.int .i64 0), 1, 8) := by kernel_rfl
theorem info_file4 : (Tryz.prog.info? 76).map (fun i => (i.zero, i.size, i.bytes)) = some (some (.agg #[.string .empty, .int .i64 0, .slice none 0 0]), 3, 48) := by kernel_rfl
structure RtW (w : World) (R B0 B1 gen : Nat) (vf : Value) (l : List (Pl.FileP × Value)) (rest : List UInt8) (W : World) : Prop where
 rd : RdAt W R rest
 res : W.heap[B0]? = some (.cells #[.int .u64 0, .slice none 0 0] 71 (0, 0))
 out : W.heap[B1]? = some (.cells #[.int .u64 (gen : Int), vf] 71 (0, 0))
 row : W.ownsRow (B1 + 1) 76 3 vf l.length (fcells4 l)
 ints : ∀ x ∈ l, IOwn W (B1 + 1) x.2 x.1.blocks
 old : Keep (fun q => q ≠ R) w W
theorem RtW.lt {w : World} {R B0 B1 gen : Nat} {vf : Value} {l : List (Pl.FileP × Value)} {rest : List UInt8} {W : World} (h : RtW w R B0 B1 gen vf l rest W) : R < W.heap.size ∧ B0 < W.heap.size ∧ B1 < W.heap.size :=
 ⟨h.rd.lt, (Array.getElem?_eq_some_iff.1 h.res).1, (Array.getElem?_eq_some_iff.1 h.out).1⟩
theorem RtW.keep {w : World} {R B0 B1 gen Z : Nat} {vf : Value} {l : List (Pl.FileP × Value)} {rest rest' : List UInt8} {W W' : World} (h : RtW w R B0 B1 gen vf l rest W) (hk : Keep (fun q => q < Z ∧ q ≠ R) W W') (hZ : W.heap.size ≤ Z) (hw : w.heap.size ≤ Z) (h0 : B0 ≠ R) (h1 : R < B1) (hrd : RdAt W' R rest') : RtW w R B0 B1 gen vf l rest' W' := by
 obtain ⟨l1, l2, l3⟩ := h.lt
 refine ⟨hrd, (hk.block B0 ⟨by omega, h0⟩ l2).trans h.res, (hk.block B1 ⟨by omega, by omega⟩ l3).trans h.out, hk.ownsRow h.row (fun q e => ?_), fun x hx => hk.ownsRow (h.ints x hx) (fun q e => ?_), h.old.trans hk (fun q hq hql => ⟨by omega, hq⟩)⟩
 ·have := h.row.lt q e; omega
 ·have := World.ownsRow.lt (h.ints x hx) q e; omega
theorem fcells4_get : ∀ (l : List (Pl.FileP × Value)) (i : Nat) (h : i < l.length), (fcells4 l)[i * 3]? = some (.string l[i].1.name) ∧ (fcells4 l)[i * 3 + 1]? = some (.int .i64 l[i].1.size) ∧ (fcells4 l)[i * 3 + 2]? = some l[i].2
 | x :: l, 0, _ => ⟨rfl, rfl, rfl⟩
 | x :: l, i + 1, h => by
  have := fcells4_get l i (by simpa using h)
  rw [show (i + 1) * 3 = i * 3 + 1 + 1 + 1 by omega]
  simpa [fcells4] using this
theorem files_of_rows {B : Nat} {vf : Value} {l : List (Pl.FileP × Value)} {W : World} (hrow : W.ownsRow B 76 3 vf l.length (fcells4 l)) (hints : ∀ x ∈ l, IOwn W B x.2 x.1.blocks) : FilesAt W vf (l.map (·.1)) := by
 rcases id hrow.2 with ⟨rfl, h0⟩ | ⟨g, cap, cur, rfl, hB, hg, hnc, hcm, hcs, ht⟩
 ·exact ⟨none, 0, by rw [List.length_map, h0], by rw [List.length_map]; omega, by omega, fun h => by rw [List.length_map] at h; omega⟩
 ·refine ⟨some ⟨g, 0, none⟩, cap, by rw [List.length_map], by rw [List.length_map]; exact hnc, by unfold maxLen at hcm; exact hcm, fun _ => ⟨g, 0, rfl, (Array.getElem?_eq_some_iff.1 hg).1, fun i hi => ?_⟩⟩
  rw [Nat.zero_add]
  have hi' : i < l.length := by rwa [List.length_map] at hi
  obtain ⟨c0, c1, c2⟩ := fcells4_get l i hi'
  have d0 := hrow.cells (g := g) rfl _ _ c0
  have d1 := hrow.cells (g := g) rfl _ _ c1
  have d2 := hrow.cells (g := g) rfl _ _ c2
  rw [Addr.add_lit, Nat.zero_add] at d0 d1 d2
  rw [List.getElem_map]
  exact ⟨d0, d1, l[i].2, d2, IOwn.at (hints l[i] (List.getElem_mem hi'))⟩
theorem RtW.files {w : World} {R B0 B1 gen : Nat} {vf : Value} {l : List (Pl.FileP × Value)} {rest : List UInt8} {W : World} (h : RtW w R B0 B1 gen vf l rest W) : FilesAt W vf (l.map (·.1)) := files_of_rows h.row h.ints
theorem root_loadVar {W : World} {b : Nat} {g : Int} {v : Value} (hc : W.heap[b]? = some (.cells #[.int .u64 g, v] 71 (0, 0))) : (loadVar 71 ⟨b, 0, none⟩).run Tryz.prog W = .ok (.agg #[.int .u64 g, v]) W :=
 run_loadVar_mid (P := Tryz.prog) W b 0 71 [.int .u64 g, v] _ (fun j u hj => by
  rcases j with _ | _ | j
  ·obtain rfl : Value.int .u64 g = u := by simpa using hj
   simp [World.cell?, hc]
  ·obtain rfl : v = u := by simpa using hj
   simp [World.cell?, hc]
  ·simp at hj) Tryz.underlying71 rfl (by kernel_rfl)
theorem results_root {fn : Func} {p : Tmp} (h : fn.results = #[.cell p 71]) {tmps : Array Value} {b : Nat} {g : Int} {v : Value} {w : World} (hp : tmps.getD p undef = .pointer (some ⟨b, 0, none⟩)) (hc : w.heap[b]? = some (.cells #[.int .u64 g, v] 71 (0, 0))) :
  (results fn tmps).run Tryz.prog w = .ok (.agg #[.int .u64 g, v]) w := by
 have hp' : tmps[p]?.getD undef = .pointer (some ⟨b, 0, none⟩) := by simpa using hp
 simp [results, h, hp', asAddr, root_loadVar hc]
theorem heap_two {W : World} {b : Nat} {x y u v : Value} {t : TypeId} (h : W.heap[b]? = some (.cells #[x, y] t (0, 0))) : ((W.setCell ⟨b, 0, none⟩ u).setCell ⟨b, 1, none⟩ v).heap[b]? = some (.cells #[u, v] t (0, 0)) := by
 simp [World.setCell, Array.getElem?_modify, h]
structure FlW (wr : World) (R B2 : Nat) (nm : ByteArray) (szn : Nat) (vb : Value) (done : List Int) (rest : List UInt8) (W : World) : Prop where
 rd : RdAt W R rest
 box : W.heap[B2]? = some (.cells #[.string nm, .int .i64 (szn : Int), vb] 76 (0, 0))
 row : IOwn W (B2 + 1) vb done
 old : Keep (fun q => q < B2 ∧ q ≠ R) wr W
theorem FlW.keepR {wr : World} {R B2 szn : Nat} {nm : ByteArray} {vb : Value} {done : List Int} {rest rest' : List UInt8} {W W' : World} (h : FlW wr R B2 nm szn vb done rest W) (hk : Keep (fun q => q ≠ R) W W') (hR : R < B2) (hrd : RdAt W' R rest') : FlW wr R B2 nm szn vb done rest' W' := by
 have l2 := (Array.getElem?_eq_some_iff.1 h.box).1
 exact ⟨hrd, (hk.block B2 (show B2 ≠ R by omega) l2).trans h.box, hk.ownsRow h.row (fun q e => by have := World.ownsRow.lt h.row q e; omega), h.old.trans hk (fun q h _ => h.2)⟩
theorem rows_apart4 {W : World} {B B' s s' n n' : Nat} {e e' : TypeId} {v v' : Value} {xs xs' : List Value} (h : W.ownsRow B e s v n xs) (h' : W.ownsRow B' e' s' v' n' xs') (he : e ≠ e') (q : Nat) (hq : v.ownBlock = some q) : v'.ownBlock ≠ some q := by
 rcases h.2 with ⟨rfl, _⟩ | ⟨g, cap, cur, rfl, _, hg, _⟩
 ·cases hq
 ·rcases h'.2 with ⟨rfl, _⟩ | ⟨g', cap', cur', rfl, _, hg', _⟩
  ·intro e; cases e
  ·simp only [Value.ownBlock, Option.some.injEq] at hq ⊢
   intro e2
   subst hq
   cases e2
   rw [hg] at hg'
   injection hg' with hg'
   injection hg' with _ e3
   exact he e3
theorem row_base {W : World} {B B' s n : Nat} {e : TypeId} {v : Value} {xs : List Value} (h : W.ownsRow B e s v n xs) (hB : B' ≤ B) : W.ownsRow B' e s v n xs := by
 refine ⟨h.1, h.2.imp id ?_⟩
 rintro ⟨g, cap, cur, e1, e2, e3⟩
 exact ⟨g, cap, cur, e1, Nat.le_trans hB e2, e3⟩
theorem keep_app {W w1 : World} {v : Value} {o : Obj} (hgrow : (W.alloc o).grownBy w1 v.ownBlock) : Keep (fun q => v.ownBlock ≠ some q) W w1 :=
 ((Keep.refl _ W).alloc o).trans (fp' := fun q => v.ownBlock ≠ some q) (Keep.of_grownBy hgrow (fun k e _ hf => hf e)) (fun _ h _ => h)
theorem keep_set (W : World) (b o : Nat) (v : Value) : Keep (fun q => q ≠ b) W (W.setCell ⟨b, o, none⟩ v) := (Keep.refl _ _).setCell _ _ _ (fun h _ => h rfl)
theorem FlW.app {wr : World} {R B2 szn : Nat} {nm : ByteArray} {vb : Value} {done : List Int} {rest : List UInt8} {W w1 : World} {b : Int} {g cap : Nat} {o : Obj} (h : FlW wr R B2 nm szn vb done rest W) (hR : R < B2) (hB : B2 ≤ W.heap.size)
  (hown : w1.ownsRow (B2 + 1) 3 1 (.slice (some ⟨g, 0, none⟩) (done.length + 1) cap) (done.length + 1) (icells4 done ++ (#[.int .i64 b] : Array Value).toList)) (hgrow : (W.alloc o).grownBy w1 vb.ownBlock) :
  w1.frozen? ⟨B2, 2, none⟩ = false ∧ w1.cell? ⟨B2, 2, none⟩ = some vb ∧ B2 < w1.heap.size ∧ FlW wr R B2 nm szn (.slice (some ⟨g, 0, none⟩) (done.length + 1) cap) (done ++ [b]) rest (w1.setCell ⟨B2, 2, none⟩ (.slice (some ⟨g, 0, none⟩) (done.length + 1) cap)) := by
 have l2 := (Array.getElem?_eq_some_iff.1 h.box).1
 have hk := keep_app hgrow
 have hlow : ∀ q, q ≤ B2 → vb.ownBlock ≠ some q := fun q hq e => by have := World.ownsRow.lt h.row q e; omega
 have hbox := (hk.block B2 (hlow _ (Nat.le_refl _)) l2).trans h.box
 have hrd := (hk.block R (hlow _ (by omega)) h.rd.lt).trans h.rd
 have hs := keep_set w1 B2 2 (.slice (some ⟨g, 0, none⟩) (done.length + 1) cap)
 refine ⟨by simp [World.frozen?, hbox], by simp [World.cell?, hbox], (Array.getElem?_eq_some_iff.1 hbox).1, ?_, ?_, ?_, ?_⟩
 ·exact (hs.block R (show R ≠ B2 by omega) (Array.getElem?_eq_some_iff.1 hrd).1).trans hrd
 ·simp [World.setCell, Array.getElem?_modify, hbox]
 ·rw [icells4_snoc] at hown
  unfold IOwn
  rw [List.length_append, List.length_singleton]
  exact hs.ownsRow hown (fun q e => by have := hown.lt q e; omega)
 ·exact (h.old.trans hk (fun q h _ => hlow q (by omega))).trans hs (fun q h _ => by omega)
theorem RtW.app {w : World} {R B0 B1 gen : Nat} {vf vb : Value} {l : List (Pl.FileP × Value)} {x : Pl.FileP} {rest : List UInt8} {W w1 : World} {B2 g cap : Nat} {o : Obj} (h : RtW w R B0 B1 gen vf l rest W) (hR : R < B1) (h0 : B0 < B1) (h2 : B1 ≤ B2) (hw : w.heap.size ≤ B1) (hi : IOwn W (B2 + 1) vb x.blocks)
  (hown : w1.ownsRow (B1 + 1) 76 3 (.slice (some ⟨g, 0, none⟩) (l.length + 1) cap) (l.length + 1) (fcells4 l ++ (#[.string x.name, .int .i64 x.size, vb] : Array Value).toList)) (hgrow : (W.alloc o).grownBy w1 vf.ownBlock) :
  w1.frozen? ⟨B1, 1, none⟩ = false ∧ w1.cell? ⟨B1, 1, none⟩ = some vf ∧ B1 < w1.heap.size ∧ RtW w R B0 B1 gen (.slice (some ⟨g, 0, none⟩) (l.length + 1) cap) (l ++ [(x, vb)]) rest (w1.setCell ⟨B1, 1, none⟩ (.slice (some ⟨g, 0, none⟩) (l.length + 1) cap)) := by
 obtain ⟨l1, l2, l3⟩ := h.lt
 have hk := keep_app hgrow
 have hlow : ∀ q, q ≤ B1 → vf.ownBlock ≠ some q := fun q hq e => by have := h.row.lt q e; omega
 have hbox := (hk.block B1 (hlow _ (Nat.le_refl _)) l3).trans h.out
 have hrd := (hk.block R (hlow _ (by omega)) l1).trans h.rd
 have hres := (hk.block B0 (hlow _ (by omega)) l2).trans h.res
 have hs := keep_set w1 B1 1 (.slice (some ⟨g, 0, none⟩) (l.length + 1) cap)
 have hne : 3 ≠ 76 := by decide
 refine ⟨by simp [World.frozen?, hbox], by simp [World.cell?, hbox], (Array.getElem?_eq_some_iff.1 hbox).1, ?_, ?_, ?_, ?_, ?_, ?_⟩
 ·exact (hs.block R (show R ≠ B1 by omega) (Array.getElem?_eq_some_iff.1 hrd).1).trans hrd
 ·exact (hs.block B0 (show B0 ≠ B1 by omega) (Array.getElem?_eq_some_iff.1 hres).1).trans hres
 ·simp [World.setCell, Array.getElem?_modify, hbox]
 ·rw [List.length_append, List.length_singleton, fcells4_append]
  exact hs.ownsRow hown (fun q e => by have := hown.lt q e; omega)
 ·intro y hy
  have hy' : IOwn W (B1 + 1) y.2 y.1.blocks := by
   rcases List.mem_append.1 hy with hy | hy
   ·exact h.ints y hy
   ·obtain rfl := List.mem_singleton.1 hy
    exact row_base hi (by omega)
  exact hs.ownsRow (hk.ownsRow hy' (fun q e => rows_apart4 hy' h.row hne q e)) (fun q e => by have := World.ownsRow.lt hy' q e; omega)
 ·exact (h.old.trans hk (fun q h _ => hlow q (by omega))).trans hs (fun q h _ => by omega)
end
end Go.Proofs.YtogblcdefbnbeaaGreat
