
/- A function that ranges over functions again and again: the marks that it leaves with. Condition: none. -/
import Derived.Test.YtndekdgpibipnaaQFp

namespace Go.Proofs.Ytndekdgpibipnaa
open Go.RowKit Go.Shelf

def mark (D : Nat) : Deferred := { target := .collected D, args := #[] }
/-- the marks' blocks: none is met twice, no call lies in any -/
def Marked (Ds : List Nat) (W : World) : Prop := Ds.Nodup ∧ ∀ D ∈ Ds, W.heap[D]? = some (.deferred (some []))
theorem Marked.nil (W : World) : Marked [] W := ⟨List.nodup_nil, fun _ h => by cases h⟩
theorem Marked.cons {Ds : List Nat} {W : World} {D : Nat} (h : Marked Ds W) (hD : W.heap[D]? = some (.deferred (some []))) (hn : D ∉ Ds) : Marked (D :: Ds) W :=
  ⟨List.nodup_cons.2 ⟨hn, h.1⟩, fun x hx => by rcases List.mem_cons.1 hx with rfl | hx; exact hD; exact h.2 x hx⟩
theorem Marked.lt {Ds : List Nat} {W : World} (h : Marked Ds W) : ∀ D ∈ Ds, D < W.heap.size := fun D hD => (Array.getElem?_eq_some_iff.1 (h.2 D hD)).1
theorem Marked.keep {Ds : List Nat} {W W' : World} {fp : Nat → Prop} (h : Marked Ds W) (hk : Keep fp W W') (hf : ∀ D ∈ Ds, fp D) : Marked Ds W' :=
  ⟨h.1, fun D hD => (hk.block D (hf D hD) (h.lt D hD)).trans (h.2 D hD)⟩
theorem Marked.below {Ds : List Nat} {W W' : World} (h : Marked Ds W) (hb : Below W.heap.size W W') : Marked Ds W' :=
  ⟨h.1, fun D hD => (hb.block D (h.lt D hD)).trans (h.2 D hD)⟩

theorem leaves_marks {F : Fence} {n : Nat} {P : Program} {fn : Func} {tmps : Array Value} {R : Ending → World → Prop} : ∀ (Ds : List Nat) (W : World), Marked Ds W →
    (∀ W', Keep (fun k => k ∉ Ds) W W' → ∃ v, (results fn tmps).run P W' = .ok v W' ∧ R (.returned v) W') → LeavesInM F n P fn tmps R (Ds.map mark) .returning W
  | [], W, _, hR => hR W (Keep.refl _ _)
  | D :: Ds, W, hM, hR => by
    have hD := hM.2 D (by simp)
    have hn := (List.nodup_cons.1 hM.1).1
    refine ⟨by simp, .inl ⟨D, _, rfl, run_takeDeferred hD, ?_⟩⟩
    have hk : Keep (fun k => k ≠ D) W (W.putObj D (.deferred none)) := (Keep.refl _ _).putObj _ _ (fun h _ => h rfl)
    refine leaves_marks Ds _ ⟨(List.nodup_cons.1 hM.1).2, fun x hx => ?_⟩ (fun W' hk' => hR W' (Keep.trans (fp' := fun k => k ∉ Ds) (hk.mono (fun i h _ e => h (by simp [e]))) hk' (fun i h _ hi => h (by simp [hi]))))
    exact (World.putObj_heap_other (fun e => hn (by subst e; exact hx))).trans (hM.2 x (by simp [hx]))
end Go.Proofs.Ytndekdgpibipnaa
