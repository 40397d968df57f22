
/- A slice in a variable, which collects what an iterator tells. Condition: none. -/
import Derived.Test.YtogblcdefbnbeaaGreatQGu
import Derived.Maps.OwnIn
set_option maxRecDepth 100000
namespace Go.Proofs.YtogblcdefbnbeaaGreat
section
open Go.RowKit Go.Shelf
def Coll {α : Type} (w : World) (T : Nat → Prop) (mb lb : Nat) (tI tS tE : TypeId) (sz : Nat) (cells : List α → List Value) (most : Int) (pre : List α) (fp : Nat → Prop) (W : World) : Prop :=
 (∃ v, Boxed W mb tI (.int .i64 most) ∧ Boxed W lb tS v ∧ W.ownsRow w.heap.size tE sz v pre.length (cells pre) ∧ fp mb ∧ fp lb ∧ (∀ k, v.ownBlock = some k → fp k)) ∧ (∀ k, k < w.heap.size → ¬ T k → fp k) ∧ Keep (fun k => k < w.heap.size ∧ ¬ T k) w W
theorem Coll.abide {α : Type} (w : World) (T : Nat → Prop) (mb lb : Nat) (tI tS tE : TypeId) (sz : Nat) (cells : List α → List Value) (most : Int) : Abide (Coll w T mb lb tI tS tE sz cells most) := by
 rintro pre fp W W' ⟨⟨v, bM, bL, hr, fM, fL, fR⟩, hT, hk⟩ hkp
 exact ⟨⟨v, hkp.boxed fM bM, hkp.boxed fL bL, hkp.ownsRow hr fR, fM, fL, fR⟩, hT, hk.trans hkp (fun i hi _ => hT i hi.1 hi.2)⟩
theorem Coll.more {α : Type} {w : World} {T : Nat → Prop} {mb lb : Nat} {tI tS tE : TypeId} {sz : Nat} {cells : List α → List Value} {most : Int} {pre : List α} {fp fp' : Nat → Prop} {W : World}
  (h : Coll w T mb lb tI tS tE sz cells most pre fp W) (hs : ∀ k, fp k → fp' k) : Coll w T mb lb tI tS tE sz cells most pre fp' W := by
 obtain ⟨⟨v, bM, bL, hr, fM, fL, fR⟩, hT, hk⟩ := h
 exact ⟨⟨v, bM, bL, hr, hs _ fM, hs _ fL, fun k e => hs _ (fR k e)⟩, fun k h1 h2 => hs _ (hT k h1 h2), hk⟩
theorem Step.alloc {fp : Nat → Prop} {W : World} (h : ∀ k, fp k → k < W.heap.size) (o : Obj) : Step fp (fun k => fp k ∨ k = W.heap.size) W (W.alloc o) :=
 ⟨(Keep.refl _ W).alloc o, fun k hk => hk.imp id (fun e => by omega), fun k hk => by
  rw [World.size_alloc]
  rcases hk with h1 | h1
  ·have := h k h1; omega
  ·omega⟩
theorem wpListIn_app1 {F : Fence} {n : Nat} {P : Program} {ops : Array Oper} {rest : List Oper} {o : Oper} {a : Act} {Q : Exit → Act → World → Prop} (hgd : o.guard = none) (s x : Operand) (t : TypeId)
  (ho : o.op = .call { callee := .builtin .append, args := #[s, x], argTypes := #[t, t] })
  (B : Nat) (e : TypeId) (z : Value) (size bytes : Nat) (ht : P.underlying t = some (.slice e)) (hi : (P.info? e).map (fun i => (i.zero, i.size, i.bytes)) = some (some z, size, bytes)) (hzs : z.cells.size = size) (hsz : 0 < size)
  (v : Value) (k : Nat) (xs : List Value) (w0 : World) (hr : w0.ownsRow B e size v k xs) (hB : B ≤ w0.heap.size) (hs : a.eval s = v) (cs : Array Value) (et : TypeId)
  (hx : a.eval x = .slice (some ⟨w0.heap.size, 0, none⟩) 1 1) (hl : cs.size = size) (h1 : ∀ u ∈ cs.toList, u.oneCell' = true) (h63 : (k + 1) * bytes ≤ 140737488355328) (hb0 : 0 < bytes)
  (h : ∀ g cap w', w'.ownsRow B e size (.slice (some ⟨g, 0, none⟩) (k + 1) cap) (k + 1) (xs ++ cs.toList) → (w0.alloc (.cells cs et)).grownBy w' v.ownBlock → (v.ownBlock = some g ∨ w0.heap.size ≤ g) → g < w'.heap.size →
   wpListIn F n P ops Q rest (a.put o.dst (.slice (some ⟨g, 0, none⟩) (k + 1) cap)) w') : wpListIn F n P ops Q (o :: rest) a (w0.alloc (.cells cs et)) := by
 obtain ⟨i, hi', hz0, hz1, hz2⟩ := info_parts hi
 have hk : k + 1 ≤ 140737488355328 := Nat.le_trans (Nat.le_mul_of_pos_right (k + 1) hb0) h63
 refine wpListIn_append_own_at (w0.alloc (.cells cs et)) hgd s x t ho B e i z size bytes ht hi' hz0 hz1 hz2 hzs hsz v k xs hs (hr.alloc _) ⟨w0.heap.size, 0, none⟩ 1 1 cs.toList hx (by simpa using hl) ?_ h1 (by unfold maxLen; omega) h63 (by simp; omega) ?_
 ·intro j u hj
  have hw : (w0.alloc (.cells cs et)).cell? ⟨w0.heap.size, j, none⟩ = cs[j]? := World.cell?_alloc_mark w0 cs et (0, 0) j
  have ha : (⟨w0.heap.size, 0, none⟩ : Addr).add j = ⟨w0.heap.size, j, none⟩ := by rw [Addr.add_lit]; simp
  rw [ha, hw, ← Array.getElem?_toList]; exact hj
 ·intro v' w' hown' hgrow _ hat
  obtain ⟨g, cap, rfl⟩ := ownsRow_succ hown'
  refine h g cap w' hown' hgrow ?_ (hown'.lt g rfl).2
  rcases hat with hat | hat
  ·exact .inl hat.symm
  ·right
   have : g = (w0.alloc (.cells cs et)).heap.size := by simpa [Value.ownBlock] using hat
   rw [World.size_alloc] at this
   omega
theorem Coll.append {α : Type} {w : World} {T : Nat → Prop} {mb lb : Nat} {tI tS tE : TypeId} {sz : Nat} {cells : List α → List Value} {most : Int} {pre : List α} {fp : Nat → Prop} {W w1 : World} {v : Value} {tmp : Obj} {x : α} {news : List Value} {g cap : Nat}
  (hC : (∀ k, k < w.heap.size → ¬ T k → fp k) ∧ Keep (fun k => k < w.heap.size ∧ ¬ T k) w W)
  (bM : Boxed W mb tI (.int .i64 most)) (bL : Boxed W lb tS v) (hr : W.ownsRow w.heap.size tE sz v pre.length (cells pre)) (fM : fp mb) (fL : fp lb) (fR : ∀ k, v.ownBlock = some k → fp k)
  (hlt : ∀ k, fp k → k < W.heap.size) (hml : mb ≠ lb) (hlw : w.heap.size ≤ lb) (htS : tS ≠ tE) (htI : tI ≠ tE)
  (hown' : w1.ownsRow w.heap.size tE sz (.slice (some ⟨g, 0, none⟩) (pre.length + 1) cap) (pre.length + 1) (cells pre ++ news)) (hgrow : (W.alloc tmp).grownBy w1 v.ownBlock) (hat : v.ownBlock = some g ∨ W.heap.size ≤ g) (hg : g < w1.heap.size) (hc : cells (pre ++ [x]) = cells pre ++ news) :
  Boxed w1 lb tS v ∧ Boxed w1 mb tI (.int .i64 most) ∧ ∀ W2, W2 = w1.setCell ⟨lb, 0, none⟩ (.slice (some ⟨g, 0, none⟩) (pre.length + 1) cap) →
   Boxed W2 mb tI (.int .i64 most) ∧ Boxed W2 lb tS (.slice (some ⟨g, 0, none⟩) (pre.length + 1) cap) ∧ Step fp (fun k => fp k ∨ k = g) W W2 ∧ Coll w T mb lb tI tS tE sz cells most (pre ++ [x]) (fun k => fp k ∨ k = g) W2 := by
 obtain ⟨hT, hk⟩ := hC
 have bL1 : Boxed w1 lb tS v := (bL.alloc tmp).kept hgrow (bL.not_row htS hr)
 have bM1 : Boxed w1 mb tI (.int .i64 most) := (bM.alloc tmp).kept hgrow (bM.not_row htI hr)
 refine ⟨bL1, bM1, ?_⟩
 rintro W2 rfl
 have bM2 : Boxed (w1.setCell ⟨lb, 0, none⟩ (.slice (some ⟨g, 0, none⟩) (pre.length + 1) cap)) mb tI (.int .i64 most) := bM1.other hml _
 have bL2 := bL1.set (.slice (some ⟨g, 0, none⟩) (pre.length + 1) cap)
 have hr2 := hown'.kept (grownBy_setCell' w1 lb (.slice (some ⟨g, 0, none⟩) (pre.length + 1) cap)) (.inr (bL1.not_row htS hown').symm)
 have hsz : W.heap.size ≤ w1.heap.size := by have := hgrow.size; simp at this; omega
 have hstep : Keep (fun k => ¬ fp k) W (w1.setCell ⟨lb, 0, none⟩ (.slice (some ⟨g, 0, none⟩) (pre.length + 1) cap)) :=
  (((Keep.refl _ W).alloc tmp).grown hgrow (fun k e h _ => h (fR k e))).setCell _ _ _ (fun h _ => h fL)
 refine ⟨bM2, bL2, ⟨hstep, ?_, ?_⟩, ⟨_, bM2, bL2, ?_, .inl fM, .inl fL, fun k e => ?_⟩, fun k h1 h2 => .inl (hT k h1 h2), ?_⟩
 ·intro k hk
  rcases hk with h | rfl
  ·exact .inl h
  ·rcases hat with h | h
   ·exact .inl (fR _ h)
   ·exact .inr h
 ·intro k hk
  show k < (w1.setCell _ _).heap.size
  rw [show (w1.setCell ⟨lb, 0, none⟩ (.slice (some ⟨g, 0, none⟩) (pre.length + 1) cap)).heap.size = w1.heap.size from by simp [World.setCell]]
  rcases hk with h | rfl
  ·have := hlt k h; omega
  ·exact hg
 ·rw [hc, List.length_append, List.length_singleton]
  exact hr2
 ·right
  have h2 : g = k := by simpa [Value.ownBlock] using e
  exact h2.symm
 ·exact ((hk.alloc tmp).grown hgrow (fun k e h _ => by have := (hr.lt k e).1; omega)).setCell _ _ _ (fun h _ => by omega)
end
section
open Go.RowKit Go.Shelf
def Col {α : Type} (w : World) (T : Nat → Prop) (lb : Nat) (tS tE : TypeId) (sz : Nat) (cells : List α → List Value) (pre : List α) (fp : Nat → Prop) (W : World) : Prop :=
 (∃ v, Boxed W lb tS v ∧ W.ownsRow w.heap.size tE sz v pre.length (cells pre) ∧ fp lb ∧ (∀ k, v.ownBlock = some k → fp k)) ∧ (∀ k, k < w.heap.size → ¬ T k → fp k) ∧ Keep (fun k => k < w.heap.size ∧ ¬ T k) w W
theorem Col.abide {α : Type} (w : World) (T : Nat → Prop) (lb : Nat) (tS tE : TypeId) (sz : Nat) (cells : List α → List Value) : Abide (Col w T lb tS tE sz cells) := by
 rintro pre fp W W' ⟨⟨v, bL, hr, fL, fR⟩, hT, hk⟩ hkp
 exact ⟨⟨v, hkp.boxed fL bL, hkp.ownsRow hr fR, fL, fR⟩, hT, hk.trans hkp (fun i hi _ => hT i hi.1 hi.2)⟩
theorem Col.more {α : Type} {w : World} {T : Nat → Prop} {lb : Nat} {tS tE : TypeId} {sz : Nat} {cells : List α → List Value} {pre : List α} {fp fp' : Nat → Prop} {W : World}
  (h : Col w T lb tS tE sz cells pre fp W) (hs : ∀ k, fp k → fp' k) : Col w T lb tS tE sz cells pre fp' W := by
 obtain ⟨⟨v, bL, hr, fL, fR⟩, hT, hk⟩ := h
 exact ⟨⟨v, bL, hr, hs _ fL, fun k e => hs _ (fR k e)⟩, fun k h1 h2 => hs _ (hT k h1 h2), hk⟩
theorem Col.append {α : Type} {w : World} {T : Nat → Prop} {lb : Nat} {tS tE : TypeId} {sz : Nat} {cells : List α → List Value} {pre : List α} {fp : Nat → Prop} {W w1 : World} {v : Value} {tmp : Obj} {x : α} {news : List Value} {g cap : Nat}
  (hC : (∀ k, k < w.heap.size → ¬ T k → fp k) ∧ Keep (fun k => k < w.heap.size ∧ ¬ T k) w W)
  (bL : Boxed W lb tS v) (hr : W.ownsRow w.heap.size tE sz v pre.length (cells pre)) (fL : fp lb) (fR : ∀ k, v.ownBlock = some k → fp k)
  (hlt : ∀ k, fp k → k < W.heap.size) (hlw : w.heap.size ≤ lb) (htS : tS ≠ tE)
  (hown' : w1.ownsRow w.heap.size tE sz (.slice (some ⟨g, 0, none⟩) (pre.length + 1) cap) (pre.length + 1) (cells pre ++ news)) (hgrow : (W.alloc tmp).grownBy w1 v.ownBlock) (hat : v.ownBlock = some g ∨ W.heap.size ≤ g) (hg : g < w1.heap.size) (hc : cells (pre ++ [x]) = cells pre ++ news) :
  Boxed w1 lb tS v ∧ ∀ W2, W2 = w1.setCell ⟨lb, 0, none⟩ (.slice (some ⟨g, 0, none⟩) (pre.length + 1) cap) →
   Boxed W2 lb tS (.slice (some ⟨g, 0, none⟩) (pre.length + 1) cap) ∧ Step fp (fun k => fp k ∨ k = g) W W2 ∧ Col w T lb tS tE sz cells (pre ++ [x]) (fun k => fp k ∨ k = g) W2 := by
 obtain ⟨hT, hk⟩ := hC
 have bL1 : Boxed w1 lb tS v := (bL.alloc tmp).kept hgrow (bL.not_row htS hr)
 refine ⟨bL1, ?_⟩
 rintro W2 rfl
 have bL2 := bL1.set (.slice (some ⟨g, 0, none⟩) (pre.length + 1) cap)
 have hr2 := hown'.kept (grownBy_setCell' w1 lb (.slice (some ⟨g, 0, none⟩) (pre.length + 1) cap)) (.inr (bL1.not_row htS hown').symm)
 have hsz : W.heap.size ≤ w1.heap.size := by have := hgrow.size; simp at this; omega
 have hstep : Keep (fun k => ¬ fp k) W (w1.setCell ⟨lb, 0, none⟩ (.slice (some ⟨g, 0, none⟩) (pre.length + 1) cap)) :=
  (((Keep.refl _ W).alloc tmp).grown hgrow (fun k e h _ => h (fR k e))).setCell _ _ _ (fun h _ => h fL)
 refine ⟨bL2, ⟨hstep, ?_, ?_⟩, ⟨_, bL2, ?_, .inl fL, fun k e => ?_⟩, fun k h1 h2 => .inl (hT k h1 h2), ?_⟩
 ·intro k hk
  rcases hk with h | rfl
  ·exact .inl h
  ·rcases hat with h | h
   ·exact .inl (fR _ h)
   ·exact .inr h
 ·intro k hk
  show k < (w1.setCell _ _).heap.size
  rw [show (w1.setCell ⟨lb, 0, none⟩ (.slice (some ⟨g, 0, none⟩) (pre.length + 1) cap)).heap.size = w1.heap.size from by simp [World.setCell]]
  rcases hk with h | rfl
  ·have := hlt k h; omega
  ·exact hg
 ·rw [hc, List.length_append, List.length_singleton]
  exact hr2
 ·right
  have h2 : g = k := by simpa [Value.ownBlock] using e
  exact h2.symm
 ·exact ((hk.alloc tmp).grown hgrow (fun k e h _ => by have := (hr.lt k e).1; omega)).setCell _ _ _ (fun h _ => by omega)
theorem SeqG.later {α : Type} {F : Fence} {n : Nat} {P : Program} {g : Nat} {lb : Array Value} {encs : α → Array Value} {mfp kfp : Nat → Prop} {S Sp : List α → Prop} {w w' : World} (h : SeqG F n P g lb encs mfp kfp S Sp w) (hk : Keep mfp w w') : SeqG F n P g lb encs mfp kfp S Sp w' :=
 fun l J Jx W fp hkm h1 h2 h3 h4 h5 h6 => h l J Jx W fp (hk.trans hkm (fun _ h _ => h)) h1 h2 h3 h4 h5 h6
end
end Go.Proofs.YtogblcdefbnbeaaGreat
