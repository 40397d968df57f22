/- Walk: the law BlockNil returns true. Condition: none. -/
import Derived.Test.YtndekdgpibipnaaBase
namespace Go.Proofs.Ytndekdgpibipnaa
open Go.RowKit

set_option maxRecDepth 100000 in
set_option maxHeartbeats 1000000 in
theorem blockNil_any (i : Int) (s : ByteArray) (w : World) :
    Calls Try.prog 6 #[.int .i64 i, .string s] w fun e w' =>
      e = .returned (.bool true) ∧ Below w.heap.size w w' := by
  go_enter Try.func6, Try.ntmps6
  go_wp2
  go_end0
  go_wp2
  go_step3
  go_wp2
  rw [Exit.noGoto_ret]
  refine bodyPost_ret (results_none rfl _ _ _) rfl ?_
  go_wp2
  go_ret
  exact ⟨ret_bool (by rfl), Below.refl _ _⟩
end Go.Proofs.Ytndekdgpibipnaa
