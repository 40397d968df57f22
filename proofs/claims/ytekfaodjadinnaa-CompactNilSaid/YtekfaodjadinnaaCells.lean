/- Cells that lie in a block from its head on. Condition: none. -/
import Derived.Test.YtekfaodjadinnaaBase
namespace Go.Proofs.Ytekfaodjadinnaa
open Go.RowKit

/-- in W, block B begins with these cells -/
def CellsAt (B : Nat) (l : List Value) (W : World) : Prop := B < W.heap.size ∧ ∀ j v, l[j]? = some v → W.cell? ⟨B, j, none⟩ = some v
theorem CellsAt.kept {B : Nat} {l : List Value} {W W' : World} (h : CellsAt B l W) (hb : Below W.heap.size W W') : CellsAt B l W' :=
  ⟨by have := h.1; have := hb.size; omega, fun j v hj => (hb.cell (p := ⟨B, j, none⟩) h.1).trans (h.2 j v hj)⟩
theorem CellsAt.new (w : World) (cs : Array Value) (t : TypeId) : CellsAt w.heap.size cs.toList (w.alloc (.cells cs t)) :=
  ⟨by simp, fun j v hj => by
    have h := World.cell?_alloc_mark w cs t (0, 0) j
    rw [Array.getElem?_toList] at hj
    rw [← hj]; exact h⟩
theorem CellsAt.alloc {B : Nat} {l : List Value} {W : World} (h : CellsAt B l W) (o : Obj) : CellsAt B l (W.alloc o) := h.kept ((Below.refl _ _).alloc (Nat.le_refl _) _)
theorem CellsAt.drew {B : Nat} {l : List Value} {W : World} (h : CellsAt B l W) : CellsAt B l W.drew := h
end Go.Proofs.Ytekfaodjadinnaa
