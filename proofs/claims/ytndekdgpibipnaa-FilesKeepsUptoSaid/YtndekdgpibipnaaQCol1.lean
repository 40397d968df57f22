
/- A slice in a variable, which collects what an iterator tells (no bound beside it). Condition: none. -/
import Derived.Test.YtndekdgpibipnaaQColl
import Derived.Test.YtndekdgpibipnaaQFq

namespace Go.Proofs.Ytndekdgpibipnaa
open Go.RowKit Go.Shelf

/-- in W, pre has been collected in the variable lb (a slice of the call's own); of what lay in w nothing has turned but what belongs to the iterator (T) -/
def Col {α : Type} (w : World) (T : Nat → Prop) (lb : Nat) (tS tE : TypeId) (sz : Nat) (cells : List α → List Value) (pre : List α) (fp : Nat → Prop) (W : World) : Prop :=
  (∃ v, Boxed W lb tS v ∧ W.ownsRow w.heap.size tE sz v pre.length (cells pre) ∧ fp lb ∧ (∀ k, v.ownBlock = some k → fp k)) ∧ (∀ k, k < w.heap.size → ¬ T k → fp k) ∧ Keep (fun k => k < w.heap.size ∧ ¬ T k) w W
theorem Col.abide {α : Type} (w : World) (T : Nat → Prop) (lb : Nat) (tS tE : TypeId) (sz : Nat) (cells : List α → List Value) : Abide (Col w T lb tS tE sz cells) := by
  rintro pre fp W W' ⟨⟨v, bL, hr, fL, fR⟩, hT, hk⟩ hkp
  exact ⟨⟨v, hkp.boxed fL bL, hkp.ownsRow hr fR, fL, fR⟩, hT, hk.trans hkp (fun i hi _ => hT i hi.1 hi.2)⟩
theorem Col.more {α : Type} {w : World} {T : Nat → Prop} {lb : Nat} {tS tE : TypeId} {sz : Nat} {cells : List α → List Value} {pre : List α} {fp fp' : Nat → Prop} {W : World}
    (h : Col w T lb tS tE sz cells pre fp W) (hs : ∀ k, fp k → fp' k) : Col w T lb tS tE sz cells pre fp' W := by
  obtain ⟨⟨v, bL, hr, fL, fR⟩, hT, hk⟩ := h
  exact ⟨⟨v, bL, hr, hs _ fL, fun k e => hs _ (fR k e)⟩, fun k h1 h2 => hs _ (hT k h1 h2), hk⟩
/-- one more is appended, and the slice stored back -/
theorem Col.append {α : Type} {w : World} {T : Nat → Prop} {lb : Nat} {tS tE : TypeId} {sz : Nat} {cells : List α → List Value} {pre : List α} {fp : Nat → Prop} {W w1 : World} {v : Value} {tmp : Obj} {x : α} {news : List Value} {g cap : Nat}
    (hC : (∀ k, k < w.heap.size → ¬ T k → fp k) ∧ Keep (fun k => k < w.heap.size ∧ ¬ T k) w W)
    (bL : Boxed W lb tS v) (hr : W.ownsRow w.heap.size tE sz v pre.length (cells pre)) (fL : fp lb) (fR : ∀ k, v.ownBlock = some k → fp k)
    (hlt : ∀ k, fp k → k < W.heap.size) (hlw : w.heap.size ≤ lb) (htS : tS ≠ tE)
    (hown' : w1.ownsRow w.heap.size tE sz (.slice (some ⟨g, 0, none⟩) (pre.length + 1) cap) (pre.length + 1) (cells pre ++ news)) (hgrow : (W.alloc tmp).grownBy w1 v.ownBlock) (hat : v.ownBlock = some g ∨ W.heap.size ≤ g) (hg : g < w1.heap.size) (hc : cells (pre ++ [x]) = cells pre ++ news) :
    Boxed w1 lb tS v ∧ ∀ W2, W2 = w1.setCell ⟨lb, 0, none⟩ (.slice (some ⟨g, 0, none⟩) (pre.length + 1) cap) →
      Boxed W2 lb tS (.slice (some ⟨g, 0, none⟩) (pre.length + 1) cap) ∧ Step fp (fun k => fp k ∨ k = g) W W2 ∧ Col w T lb tS tE sz cells (pre ++ [x]) (fun k => fp k ∨ k = g) W2 := by
  obtain ⟨hT, hk⟩ := hC
  have bL1 : Boxed w1 lb tS v := (bL.alloc tmp).kept hgrow (bL.not_row htS hr)
  refine ⟨bL1, ?_⟩
  rintro W2 rfl
  have bL2 := bL1.set (.slice (some ⟨g, 0, none⟩) (pre.length + 1) cap)
  have hr2 := hown'.kept (grownBy_setCell' w1 lb (.slice (some ⟨g, 0, none⟩) (pre.length + 1) cap)) (.inr (bL1.not_row htS hown').symm)
  have hsz : W.heap.size ≤ w1.heap.size := by have := hgrow.size; simp at this; omega
  have hstep : Keep (fun k => ¬ fp k) W (w1.setCell ⟨lb, 0, none⟩ (.slice (some ⟨g, 0, none⟩) (pre.length + 1) cap)) :=
    (((Keep.refl _ W).alloc tmp).grown hgrow (fun k e h _ => h (fR k e))).setCell _ _ _ (fun h _ => h fL)
  refine ⟨bL2, ⟨hstep, ?_, ?_⟩, ⟨_, bL2, ?_, .inl fL, fun k e => ?_⟩, fun k h1 h2 => .inl (hT k h1 h2), ?_⟩
  · intro k hk
    rcases hk with h | rfl
    · exact .inl h
    · rcases hat with h | h
      · exact .inl (fR _ h)
      · exact .inr h
  · intro k hk
    show k < (w1.setCell _ _).heap.size
    rw [show (w1.setCell ⟨lb, 0, none⟩ (.slice (some ⟨g, 0, none⟩) (pre.length + 1) cap)).heap.size = w1.heap.size from by simp [World.setCell]]
    rcases hk with h | rfl
    · have := hlt k h; omega
    · exact hg
  · rw [hc, List.length_append, List.length_singleton]
    exact hr2
  · right
    have h2 : g = k := by simpa [Value.ownBlock] using e
    exact h2.symm
  · exact ((hk.alloc tmp).grown hgrow (fun k e h _ => by have := (hr.lt k e).1; omega)).setCell _ _ _ (fun h _ => by omega)
theorem SeqG.later {α : Type} {F : Fence} {n : Nat} {P : Program} {g : Nat} {lb : Array Value} {encs : α → Array Value} {mfp kfp : Nat → Prop} {S Sp : List α → Prop} {w w' : World} (h : SeqG F n P g lb encs mfp kfp S Sp w) (hk : Keep mfp w w') : SeqG F n P g lb encs mfp kfp S Sp w' :=
  fun l J Jx W fp hkm h1 h2 h3 h4 h5 h6 => h l J Jx W fp (hk.trans hkm (fun _ h _ => h)) h1 h2 h3 h4 h5 h6
end Go.Proofs.Ytndekdgpibipnaa
