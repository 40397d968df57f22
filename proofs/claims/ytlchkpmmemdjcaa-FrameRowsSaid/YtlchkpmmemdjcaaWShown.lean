
/- Walk: a check sum that is shown. Condition: none. -/
import Derived.Test.YtlchkpmmemdjcaaWSum
namespace Go.Proofs.Ytlchkpmmemdjcaa
open Go.RowKit

theorem sum_a : Pl.sum (ByteArray.mk #[97]).data.toList = 3904355907 := by decide

set_option maxRecDepth 100000 in
set_option maxHeartbeats 2000000 in
theorem shown_any (w : World) : Calls Try.prog 47 #[] w fun e w' => e = .returned (.bool true) ∧ Below w.heap.size w w' := by
  have P1 := Lib.hid (fun w => sum_any ⟨#[97]⟩ w (by decide))
  have P2 := Lib.hid (fun w => refSum_any ⟨#[97]⟩ w (by decide))
  rw [sum_a] at P1 P2
  go_enter Try.func47, Try.ntmps47
  go_wp2_with fail
  refine (P1.out _).mono ?_
  rintro e1 w1 ⟨rfl, q1⟩
  go_wp2_with fail
  refine (P2.out _).mono ?_
  rintro e2 w2 ⟨rfl, q2⟩
  go_wp2_with fail
  go_ret
  exact ⟨ret_bool (by rfl), (q1.trans q2).below _⟩
end Go.Proofs.Ytlchkpmmemdjcaa
