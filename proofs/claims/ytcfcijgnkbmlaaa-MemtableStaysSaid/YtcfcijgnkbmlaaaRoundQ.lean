
/- Regions in a round of a range over a function whose operations only read. Condition: none. -/
import Derived.Test.YtcfcijgnkbmlaaaRound
import Derived.BigQuiet
namespace Go.Proofs.Ytcfcijgnkbmlaaa
open Go.RowKit Go.Shelf

variable {P : Program} {l n : Nat}

theorem wpIn_round_quiet {id : Nat} {Q : Exit → Act → World → Prop} {a : Act} {w : World} {ll : List Oper} (hm : P.follows .mixedOrders = true) (hB : Region.lexB .any ll.toArray = true) (hQ : ¬ LetsOut Q) (hnd : noDefer ll.toArray = true)
    (h : wpQuiet P ll.toArray (fun w' => ∃ n, w' = w.drewN n) (fun a' => ∀ w', (∃ n, w' = w.drewN n) → Q .normal a' w') ll a) : (Code.region id ll.toArray true).wpIn (Fence.wide.inRound l) n P Q a w := by
  simp only [Region.lexB, Bool.and_eq_true] at hB
  refine wpIn_region_any hm (wpAnyIn_of_wpAny hQ hnd _ _ _ _ (wpAny_of_quiet (C := fun w' => ∃ n, w' = w.drewN n) (Q := fun a' => ∀ w', (∃ n, w' = w.drewN n) → Q .normal a' w') (fun _ w' hw' h => h w' hw') _ _ _ _ ⟨1, rfl⟩ ?_))
  have := wpAnyQ_lex (C := fun w' => ∃ n, w' = w.drewN n) (md := .any) hB.1 ll.toArray.toList 0 (Array.replicate ll.toArray.size false) a (by simp) (by simpa using hB.2) h
  simpa using this
end Go.Proofs.Ytcfcijgnkbmlaaa
