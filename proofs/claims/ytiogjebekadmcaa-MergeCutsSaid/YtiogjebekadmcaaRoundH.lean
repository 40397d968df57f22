
/- Regions that draw their order, in a round of a range over a function: all ways lead to one end. Condition: none. -/
import Derived.Test.YtiogjebekadmcaaRound
namespace Go.Proofs.Ytiogjebekadmcaa
open Go.RowKit Go.Shelf

/-- to one end, with no panic -/
def Fin (fin : Act → World → Prop) : Exit → Act → World → Prop
  | .normal, a, w => fin a w
  | _, _, _ => False

variable {P : Program} {l n : Nat}
theorem wpIn_round_fin {id : Nat} {ops : Array Oper} {Q : Exit → Act → World → Prop} {a : Act} {w : World} (fin : Act → World → Prop) (hm : P.follows .mixedOrders = true) (hnd : noDefer ops = true)
    (h : wpAny P .any ops (Fin fin) ops.size (Array.replicate ops.size false) a w.drew) (hk : ∀ a w, fin a w → Q .normal a w) : (Code.region id ops true).wpIn (Fence.wide.inRound l) n P Q a w := by
  refine wpIn_mono (Q := Fin fin) (wpIn_region_any hm (wpAnyIn_of_wpAny (by rintro ⟨a, w, h⟩; exact h) hnd _ _ _ _ h)) ?_
  intro e a w h
  cases e with
  | normal => exact hk a w h
  | _ => exact h.elim
end Go.Proofs.Ytiogjebekadmcaa
