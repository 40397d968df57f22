/- Walk: the law FilesNil returns true. Condition: none. -/
import Derived.Test.YtndekdgpibipnaaBase
namespace Go.Proofs.Ytndekdgpibipnaa
open Go.RowKit

set_option maxRecDepth 100000 in
set_option maxHeartbeats 1000000 in
theorem filesNil_any (s : ByteArray) (n : Int) (w : World) :
    Calls Try.prog 11 #[.string s, .int .i64 n] w fun e w' =>
      e = .returned (.bool true) ∧ Below w.heap.size w w' := by
  go_enter Try.func11, Try.ntmps11
  go_wp2
  refine bodyPost_ret (results_none rfl _ _ _) rfl ?_
  go_wp2
  refine bodyPost_ret (v := .agg #[.int .u64 0, .slice none 0 0]) (by simp [results, Try.results36, go_sem]) rfl ?_
  go_wp2
  go_step3
  go_wp2
  rw [Exit.noGoto_ret]
  go_ret2
  go_wp2
  go_ret
  exact ⟨ret_bool (by rfl), ((Below.refl _ w).alloc (Nat.le_refl _) _).alloc (by simp) _⟩
end Go.Proofs.Ytndekdgpibipnaa
