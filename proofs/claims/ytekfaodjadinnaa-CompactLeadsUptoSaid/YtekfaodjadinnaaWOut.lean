/- The tables that are left, while they are collected: four rows of the call's own. Condition: none. -/
import Derived.Test.YtekfaodjadinnaaWAp1
import Derived.Deep.RegionLaw
import Derived.Maps.AppendAt
namespace Go.Proofs.Ytekfaodjadinnaa
open Go.RowKit

theorem heap_drewN (w : World) (n : Nat) : (w.drewN n).heap = w.heap := rfl
/-- 'append(v, t)' of a table as a step of a region that draws, told by its block -/
theorem step_tab {ops : Array Oper} {o : Oper} {a : Act} {K : Act → World → Prop} {Q : Exit → Act → World → Prop} {E : Prop} {s x : Operand} (w0 : World) (B : Nat) (v : Value) (xs : List Pl.Tb) (t : Pl.Tb) (hr : TOwn w0 B v xs) (hB : B ≤ w0.heap.size) (hn : xs.length + 1 ≤ 1099511627776)
    (hgd : o.guard = none) (ho : o.op = .call { callee := .builtin .append, args := #[s, x], argTypes := #[27, 27] }) (hs : a.eval s = v) (hx : a.eval x = .slice (some ⟨w0.heap.size, 0, none⟩) 1 1)
    (h : ∀ g cap w', TOwn w' B (.slice (some ⟨g, 0, none⟩) (xs.length + 1) cap) (xs ++ [t]) → (w0.alloc (.cells #[.int .u64 (t.num : Int), .int .i64 t.level, .int .i64 t.size, .int .i64 t.count, .string t.least, .string t.greatest] 40)).grownBy w' v.ownBlock → (v.ownBlock = some g ∨ w0.heap.size ≤ g) → g < w'.heap.size → K (a.put o.dst (.slice (some ⟨g, 0, none⟩) (xs.length + 1) cap)) w') :
    if Region.wanted o (yielded ops a.tmps) = true then Oper.wp Try.prog o a (w0.alloc (.cells #[.int .u64 (t.num : Int), .int .i64 t.level, .int .i64 t.size, .int .i64 t.count, .string t.least, .string t.greatest] 40)).drew K Q else E := by
  have hw : Region.wanted o (yielded ops a.tmps) = true := by simp [Region.wanted, hgd]
  rw [if_pos hw]
  obtain ⟨i, hi', hz0, hz1, hz2⟩ := info_parts info_table
  obtain ⟨v', w', hrun, h2, h3, h4, h5⟩ := run_append_own_at (P := Try.prog) (w0.alloc (.cells #[.int .u64 (t.num : Int), .int .i64 t.level, .int .i64 t.size, .int .i64 t.count, .string t.least, .string t.greatest] 40)).drew B 27 o.type 40 i (.agg #[.int .u64 0, .int .i64 0, .int .i64 0, .int .i64 0, .string .empty, .string .empty]) 6 64 Try.underlying27 hi' hz0 hz1 hz2 rfl (by decide) v xs.length (tcells xs) (hr.alloc _)
    ⟨w0.heap.size, 0, none⟩ 1 1 (tcell t) rfl (fun j u hj => by
      have hw : (w0.alloc (.cells #[.int .u64 (t.num : Int), .int .i64 t.level, .int .i64 t.size, .int .i64 t.count, .string t.least, .string t.greatest] 40)).drew.cell? ⟨w0.heap.size, j, none⟩ = (#[Value.int .u64 (t.num : Int), .int .i64 t.level, .int .i64 t.size, .int .i64 t.count, .string t.least, .string t.greatest] : Array Value)[j]? := World.cell?_alloc_mark w0 _ 40 (0, 0) j
      have ha : (⟨w0.heap.size, 0, none⟩ : Addr).add j = ⟨w0.heap.size, j, none⟩ := by rw [Addr.add_lit]; simp
      rw [ha, hw, ← Array.getElem?_toList]; exact hj) (by simp [tcell, Value.oneCell']) (by unfold maxLen; omega) (by omega) (by show B ≤ (w0.alloc _).heap.size; simp; omega)
  obtain ⟨g, cap, rfl⟩ := ownsRow_succ h2
  unfold Oper.wp execOp
  simp only [ho, resolve, invoke, builtin, Sem.run_bind, Sem.run_pure, Result.andThen_ok, List.map_toArray, List.map_cons, List.map_nil, hs, hx, hrun]
  refine h g cap w' ?_ ⟨h3.os, h3.tape, h3.output, h3.size, h3.block⟩ ?_ (h2.lt g rfl).2
  · unfold TOwn
    rw [List.length_append, tcells_append]
    exact h2
  · rcases h5 with h5 | h5
    · exact .inl h5.symm
    · right
      have : g = (w0.alloc (.cells #[.int .u64 (t.num : Int), .int .i64 t.level, .int .i64 t.size, .int .i64 t.count, .string t.least, .string t.greatest] 40)).heap.size := by simpa [Value.ownBlock] using h5
      rw [World.size_alloc] at this
      omega

/-- four rows of the call's own, and the box in which they lie -/
structure OutW (w2 : World) (m : Nat) (o : Pl.Lv) (a : Nat → Option Addr) (c : Nat → Nat) (W : World) : Prop where
  ob : LvBox W m o a c
  own : ∀ j, j < 4 → TOwn W (m + 1) (.slice (a j) (o.t j).length (c j)) (o.t j)
  apart : ∀ i j, i < 4 → j < 4 → i ≠ j → ∀ q, (Value.slice (a i) (o.t i).length (c i)).ownBlock = some q → (Value.slice (a j) (o.t j).length (c j)).ownBlock ≠ some q
  old : Keep (fun q => q < m) w2 W
theorem OutW.at {w2 : World} {m : Nat} {o : Pl.Lv} {a : Nat → Option Addr} {c : Nat → Nat} {W : World} (h : OutW w2 m o a c W) : LvAt W o a c := fun k hk => (h.own k hk).at
theorem OutW.drewN {w2 : World} {m : Nat} {o : Pl.Lv} {a : Nat → Option Addr} {c : Nat → Nat} {W : World} (h : OutW w2 m o a c W) (n : Nat) : OutW w2 m o a c (W.drewN n) := ⟨h.ob, h.own, h.apart, h.old.drewN n⟩
theorem OutW.new (w2 : World) (nx sq lg : Nat) : OutW w2 w2.heap.size ⟨nx, sq, lg, fun _ => []⟩ (fun _ => none) (fun _ => 0) (w2.alloc (.cells #[.int .u64 (nx : Int), .int .u64 (sq : Int), .int .u64 (lg : Int), .slice none 0 0, .slice none 0 0, .slice none 0 0, .slice none 0 0] 30)) :=
  ⟨World.alloc_heap_new _ _, fun _ _ => World.ownsRow_nil _ _ _ _, fun _ _ _ _ _ q e => (by cases e), (Keep.refl _ _).alloc _⟩
theorem lvBox_set {W : World} {m : Nat} {nx sq lg : Nat} {t : Nat → List Pl.Tb} {a : Nat → Option Addr} {c : Nat → Nat} (h : LvBox W m ⟨nx, sq, lg, t⟩ a c) (k : Nat) (hk : k < 4) (t' : Nat → List Pl.Tb) (ht : ∀ j, j ≠ k → t' j = t j) (b : Option Addr) (cap : Nat) :
    LvBox (W.setCell ⟨m, 3 + k, none⟩ (.slice b (t' k).length cap)) m ⟨nx, sq, lg, t'⟩ (fun j => if j = k then b else a j) (fun j => if j = k then cap else c j) := by
  unfold LvBox lvCells at *
  have e0 := ht 0
  have e1 := ht 1
  have e2 := ht 2
  have e3 := ht 3
  rcases k with _ | _ | _ | _ | k
  · simp [World.setCell, Array.getElem?_modify, h, e1 (by decide), e2 (by decide), e3 (by decide)]
  · simp [World.setCell, Array.getElem?_modify, h, e0 (by decide), e2 (by decide), e3 (by decide)]
  · simp [World.setCell, Array.getElem?_modify, h, e0 (by decide), e1 (by decide), e3 (by decide)]
  · simp [World.setCell, Array.getElem?_modify, h, e0 (by decide), e1 (by decide), e2 (by decide)]
  · omega
theorem OutW.app {w2 : World} {m : Nat} {nx sq lg : Nat} {t : Nat → List Pl.Tb} {a : Nat → Option Addr} {c : Nat → Nat} {W w1 : World} {k g cap : Nat} {x : Pl.Tb} {ob : Obj} (h : OutW w2 m ⟨nx, sq, lg, t⟩ a c W) (hk : k < 4)
    (hown : TOwn w1 (m + 1) (.slice (some ⟨g, 0, none⟩) ((t k).length + 1) cap) (t k ++ [x])) (hgrow : (W.alloc ob).grownBy w1 (Value.slice (a k) (t k).length (c k)).ownBlock) (hat : (Value.slice (a k) (t k).length (c k)).ownBlock = some g ∨ W.heap.size ≤ g) :
    w1.frozen? ⟨m, 3 + k, none⟩ = false ∧ w1.cell? ⟨m, 3 + k, none⟩ = some (.slice (a k) (t k).length (c k)) ∧ m < w1.heap.size ∧
    OutW w2 m ⟨nx, sq, lg, Pl.snocT t k x⟩ (fun j => if j = k then some ⟨g, 0, none⟩ else a j) (fun j => if j = k then cap else c j) (w1.setCell ⟨m, 3 + k, none⟩ (.slice (some ⟨g, 0, none⟩) ((t k).length + 1) cap)) := by
  have hk1 : Keep (fun q => (Value.slice (a k) (t k).length (c k)).ownBlock ≠ some q) W w1 := ((Keep.refl _ W).alloc ob).trans (fp' := fun q => (Value.slice (a k) (t k).length (c k)).ownBlock ≠ some q) (Keep.of_grownBy hgrow (fun k e _ hf => hf e)) (fun _ h _ => h)
  have hlow : ∀ q, q ≤ m → (Value.slice (a k) (t k).length (c k)).ownBlock ≠ some q := fun q hq e => by have := (World.ownsRow.lt (h.own k hk) q e).1; omega
  have hbox := h.ob.keep hk1 (hlow m (Nat.le_refl _))
  have hs : Keep (fun q => q ≠ m) w1 (w1.setCell ⟨m, 3 + k, none⟩ (.slice (some ⟨g, 0, none⟩) ((t k).length + 1) cap)) := (Keep.refl _ _).setCell _ _ _ (fun h _ => h rfl)
  have hln : (Pl.snocT t k x k).length = (t k).length + 1 := by simp [Pl.snocT]
  refine ⟨hbox.frz _, hbox.k k hk, hbox.lt, ?_, ?_, ?_, ?_⟩
  · have := lvBox_set hbox k hk (Pl.snocT t k x) (fun j hj => by simp [Pl.snocT, hj]) (some ⟨g, 0, none⟩) cap
    rw [hln] at this
    exact this
  · intro j hj
    show TOwn _ _ (.slice (if j = k then some ⟨g, 0, none⟩ else a j) (Pl.snocT t k x j).length (if j = k then cap else c j)) (Pl.snocT t k x j)
    by_cases hjk : j = k
    · subst hjk
      rw [if_pos rfl, if_pos rfl, hln]
      have e : Pl.snocT t j x j = t j ++ [x] := by simp [Pl.snocT]
      rw [e]
      exact hs.ownsRow hown (fun q e => by have := (World.ownsRow.lt hown q e).1; show q ≠ m; omega)
    · have e : Pl.snocT t k x j = t j := by simp [Pl.snocT, hjk]
      rw [if_neg hjk, if_neg hjk, e]
      have h1 : TOwn w1 (m + 1) (.slice (a j) (t j).length (c j)) (t j) := hk1.ownsRow (h.own j hj) (fun q e => h.apart j k hj hk hjk q e)
      exact hs.ownsRow h1 (fun q e => by have := (World.ownsRow.lt h1 q e).1; show q ≠ m; omega)
  · intro i j hi hj hij q e
    replace e : (Value.slice (if i = k then some ⟨g, 0, none⟩ else a i) (Pl.snocT t k x i).length (if i = k then cap else c i)).ownBlock = some q := e
    show (Value.slice (if j = k then some ⟨g, 0, none⟩ else a j) (Pl.snocT t k x j).length (if j = k then cap else c j)).ownBlock ≠ some q
    have key : ∀ i, i < 4 → i ≠ k → (Value.slice (a i) (t i).length (c i)).ownBlock ≠ some g := fun i hi hik e => by
      rcases hat with hat | hat
      · exact h.apart i k hi hk hik g e hat
      · have := (World.ownsRow.lt (h.own i hi) g e).2; omega
    have ob1 : ∀ (p : Option Addr) n n' c c', (Value.slice p n c).ownBlock = (Value.slice p n' c').ownBlock := fun p _ _ _ _ => by cases p <;> rfl
    by_cases hik : i = k
    · rw [if_pos hik] at e
      rw [if_neg (by omega)]
      have hq : g = q := by simpa [Value.ownBlock] using e
      subst hq
      rw [ob1 _ _ (t j).length _ (c j)]
      exact key j hj (by omega)
    · rw [if_neg hik, ob1 _ _ (t i).length _ (c i)] at e
      by_cases hjk : j = k
      · rw [if_pos hjk]
        intro e2
        have hq : g = q := by simpa [Value.ownBlock] using e2
        subst hq
        exact key i hi hik e
      · rw [if_neg hjk, ob1 _ _ (t j).length _ (c j)]
        exact h.apart i j hi hj hij q e
  · exact (h.old.trans hk1 (fun q hq _ => hlow q (by omega))).trans hs (fun q hq _ => by omega)
/-- four rows of the call's own, without a word on who shares a block -/
structure OutA (w2 : World) (m : Nat) (o : Pl.Lv) (a : Nat → Option Addr) (c : Nat → Nat) (W : World) : Prop where
  ob : LvBox W m o a c
  own : ∀ j, j < 4 → TOwn W (m + 1) (.slice (a j) (o.t j).length (c j)) (o.t j)
  old : Keep (fun q => q < m) w2 W
theorem OutW.a {w2 : World} {m : Nat} {o : Pl.Lv} {a : Nat → Option Addr} {c : Nat → Nat} {W : World} (h : OutW w2 m o a c W) : OutA w2 m o a c W := ⟨h.ob, h.own, h.old⟩
theorem OutA.at {w2 : World} {m : Nat} {o : Pl.Lv} {a : Nat → Option Addr} {c : Nat → Nat} {W : World} (h : OutA w2 m o a c W) : LvAt W o a c := fun k hk => (h.own k hk).at
theorem OutA.below {w2 : World} {m : Nat} {o : Pl.Lv} {a : Nat → Option Addr} {c : Nat → Nat} {W W' : World} (h : OutA w2 m o a c W) (hb : Below W.heap.size W W') : OutA w2 m o a c W' := by
  have hk : Keep (fun q => q < W.heap.size) W W' := Keep.of_below hb (fun _ h _ => h)
  exact ⟨h.ob.below hb, fun j hj => hk.ownsRow (h.own j hj) (fun q e => (World.ownsRow.lt (h.own j hj) q e).2), h.old.trans hk (fun q hq hl => Nat.lt_of_lt_of_le hl h.old.size)⟩
theorem OutA.put {w2 : World} {m : Nat} {nx sq lg : Nat} {t : Nat → List Pl.Tb} {a : Nat → Option Addr} {c : Nat → Nat} {W w1 : World} {k B : Nat} {x : Pl.Tb} {ao : Option Addr} {cap : Nat} (h : OutA w2 m ⟨nx, sq, lg, t⟩ a c W) (hk : k < 4) (hb : Below W.heap.size W w1)
    (hB : m + 1 ≤ B) (hown : TOwn w1 B (.slice ao (Pl.put (t k) x).length cap) (Pl.put (t k) x)) :
    w1.frozen? ⟨m, 3 + k, none⟩ = false ∧ w1.cell? ⟨m, 3 + k, none⟩ = some (.slice (a k) (t k).length (c k)) ∧ m < w1.heap.size ∧
    OutA w2 m ⟨nx, sq, lg, fun j => if j = k then Pl.put (t j) x else t j⟩ (fun j => if j = k then ao else a j) (fun j => if j = k then cap else c j) (w1.setCell ⟨m, 3 + k, none⟩ (.slice ao (Pl.put (t k) x).length cap)) := by
  have h1 := h.below hb
  have hs : Keep (fun q => q ≠ m) w1 (w1.setCell ⟨m, 3 + k, none⟩ (.slice ao (Pl.put (t k) x).length cap)) := (Keep.refl _ _).setCell _ _ _ (fun h _ => h rfl)
  refine ⟨h1.ob.frz _, h1.ob.k k hk, h1.ob.lt, ?_, ?_, ?_⟩
  · have := lvBox_set h1.ob k hk (fun j => if j = k then Pl.put (t j) x else t j) (fun j hj => if_neg hj) ao cap
    simp only [if_true] at this
    exact this
  · intro j hj
    show TOwn _ _ (.slice (if j = k then ao else a j) (if j = k then Pl.put (t j) x else t j).length (if j = k then cap else c j)) (if j = k then Pl.put (t j) x else t j)
    by_cases hjk : j = k
    · subst hjk
      simp only [if_true]
      exact hs.ownsRow (row_base hown hB) (fun q e => by have := (World.ownsRow.lt hown q e).1; show q ≠ m; omega)
    · simp only [if_neg hjk]
      exact hs.ownsRow (h1.own j hj) (fun q e => by have := (World.ownsRow.lt (h1.own j hj) q e).1; show q ≠ m; omega)
  · exact h1.old.trans hs (fun q hq _ => by omega)
end Go.Proofs.Ytekfaodjadinnaa
