
/- Walks: the sequence of a text's bytes, with what is put between them. Condition: lengths that are ints. -/
import Derived.Test.YtndekdgpibipnaaWMisc
import Derived.Test.YtndekdgpibipnaaWTake
import Derived.Test.YtndekdgpibipnaaPlainH
import Derived.RangeFuncNested
import Derived.RangeFuncBound
import Derived.RangeFuncCalls
import Derived.RangeFuncLeaves
import Derived.RangeFuncBox
import Derived.Shelf.Abstract
import Derived.OwnWalkIn
import Derived.TacticsInMore
import Derived.LoopNIn
import Derived.LoopIn
namespace Go.Proofs.Ytndekdgpibipnaa
open Go.RowKit Go.Shelf

attribute [local go_sem] Oper.semAt_some

/-- a block is as it was -/
def KpB (b : Nat) (W W' : World) : Prop := W'.heap[b]? = W.heap[b]?
theorem kpB_t {b : Nat} {A B C : World} (h : KpB b A B) (k : KpB b B C) : KpB b A C := k.trans h
theorem kpB_b {b : Nat} {w : World} (hb : b < w.heap.size) (W : World) (l : Nat) (o o' : Obj) (hl : w.heap.size ≤ l) (h : W.heap[l]? = some o) (_ : o.isCells = false) (_ : o.isWalk = false) : KpB b W (W.putObj l o') :=
  (grownBy_putObj' W l o').block b (by have := (Array.getElem?_eq_some_iff.1 h).1; omega) (by intro e; cases e; omega)
theorem KpB.cell {b : Nat} {W W' : World} (h : KpB b W W') {o : Nat} {v : Value} (hc : W.cell? ⟨b, o, none⟩ = some v) : W'.cell? ⟨b, o, none⟩ = some v :=
  (World.cell?_of_block (a := ⟨b, o, none⟩) h).trans hc

theorem esc_take {l : List UInt8} {k : Nat} (h : k < l.length) : Pl.esc (l.take (k + 1)) = Pl.esc (l.take k) ++ (if l[k] = 0 then [0, 255] else [l[k]]) := by
  have happ : ∀ a b : List UInt8, Pl.esc (a ++ b) = Pl.esc a ++ Pl.esc b := by
    intro a b
    induction a with
    | nil => rfl
    | cons c a ih => simp only [List.cons_append, Pl.esc]; split <;> simp [ih]
  rw [List.take_succ_eq_append_getElem h, happ]
  by_cases e : l[k] = 0 <;> simp [Pl.esc, e]
theorem esc_le (l : List UInt8) (k : Nat) : (Pl.esc (l.take k)).length ≤ (Pl.esc l).length := by
  have happ : ∀ a b : List UInt8, Pl.esc (a ++ b) = Pl.esc a ++ Pl.esc b := by
    intro a b
    induction a with
    | nil => rfl
    | cons c a ih => simp only [List.cons_append, Pl.esc]; split <;> simp [ih]
  conv => rhs; rw [← List.take_append_drop k l, happ]
  simp

end Go.Proofs.Ytndekdgpibipnaa
