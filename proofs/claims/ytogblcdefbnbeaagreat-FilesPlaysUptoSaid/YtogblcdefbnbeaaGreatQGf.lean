
/- Walks: the sequence of a text's bytes, with what is put between them. Condition: lengths that are ints. -/
import Derived.Test.YtogblcdefbnbeaaGreatQGd
import Derived.Test.YtogblcdefbnbeaaGreatQGe
import Derived.Test.YtogblcdefbnbeaaGreatQGa
import Derived.RangeFuncNested
import Derived.RangeFuncBound
import Derived.RangeFuncCalls
import Derived.RangeFuncLeaves
import Derived.RangeFuncBox
import Derived.Shelf.Abstract
import Derived.OwnWalkIn
import Derived.TacticsInMore
import Derived.LoopNIn
import Derived.LoopIn
set_option maxRecDepth 100000
namespace Go.Proofs.YtogblcdefbnbeaaGreat
section
open Go.RowKit Go.Shelf
attribute [local go_sem] Oper.semAt_some
def KpB (b : Nat) (W W' : World) : Prop := W'.heap[b]? = W.heap[b]?
theorem KpB.cell {b : Nat} {W W' : World} (h : KpB b W W') {o : Nat} {v : Value} (hc : W.cell? ⟨b, o, none⟩ = some v) : W'.cell? ⟨b, o, none⟩ = some v :=
 (World.cell?_of_block (a := ⟨b, o, none⟩) h).trans hc
end
section
open Go.RowKit Go.Shelf
attribute [local go_sem] Oper.semAt_some
end
section
open Go.RowKit
def Th (B : Nat) (n m : Int) (s r : ByteArray) (W : World) : Prop :=
 W.cell? ⟨B, 0, none⟩ = some (.int .u64 n) ∧ W.cell? ⟨B, 1, none⟩ = some (.int .i64 m) ∧ W.cell? ⟨B, 2, none⟩ = some (.string s) ∧ W.cell? ⟨B, 3, none⟩ = some (.string r) ∧ B < W.heap.size
theorem Th.kept {B : Nat} {n m : Int} {s r : ByteArray} {W W' : World} (h : Th B n m s r W) (hb : Below W.heap.size W W') : Th B n m s r W' := by
 obtain ⟨h0, h1, h2, h3, hB⟩ := h
 have hs := hb.size
 exact ⟨(hb.cell (p := ⟨B, 0, none⟩) hB).trans h0, (hb.cell (p := ⟨B, 1, none⟩) hB).trans h1, (hb.cell (p := ⟨B, 2, none⟩) hB).trans h2, (hb.cell (p := ⟨B, 3, none⟩) hB).trans h3, by omega⟩
theorem Th.new (w : World) (n m : Int) (s r : ByteArray) (t : TypeId) : Th w.heap.size n m s r (w.alloc (.cells #[.int .u64 n, .int .i64 m, .string s, .string r] t)) :=
 ⟨World.cell?_alloc_mark w _ t (0, 0) 0, World.cell?_alloc_mark w _ t (0, 0) 1, World.cell?_alloc_mark w _ t (0, 0) 2, World.cell?_alloc_mark w _ t (0, 0) 3, by simp⟩
section
variable (r : ByteArray) (w : World)
end
end
end Go.Proofs.YtogblcdefbnbeaaGreat
