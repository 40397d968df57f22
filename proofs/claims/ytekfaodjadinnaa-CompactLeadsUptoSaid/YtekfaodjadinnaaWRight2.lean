
/- Walk: the document's word on configurations. Condition: none. -/
import Derived.Test.YtekfaodjadinnaaWRight
namespace Go.Proofs.Ytekfaodjadinnaa
open Go.RowKit

theorem rightB_eq (c0 c1 c2 c3 c4 c5 c6 : Int) : rightB c0 c1 c2 c3 c4 c5 c6 = decide ((64 ≤ c0 ∧ c0 ≤ 65536) ∧ (64 ≤ c1 ∧ c1 ≤ 4096) ∧ (0 ≤ c2 ∧ c2 ≤ 20) ∧ (256 ≤ c3 ∧ c3 ≤ 65536) ∧ (1 ≤ c4 ∧ c4 ≤ 8) ∧ (256 ≤ c5 ∧ c5 ≤ 1048576) ∧ (1 ≤ c6 ∧ c6 ≤ 1000)) := by
  unfold rightB wB
  simp only [Bool.decide_and, Bool.and_assoc]
set_option maxRecDepth 100000 in
set_option maxHeartbeats 8000000 in
theorem refRight_any (c0 c1 c2 c3 c4 c5 c6 c7 : Int) (w : World) :
    Calls Try.prog 20 #[.agg #[.int .i64 c0, .int .i64 c1, .int .i64 c2, .int .i64 c3, .int .i64 c4, .int .i64 c5, .int .i64 c6, .int .u64 c7]] w fun e w' => e = .returned (.bool (rightB c0 c1 c2 c3 c4 c5 c6)) ∧ Below w.heap.size w w' := by
  rw [rightB_eq]
  obtain ⟨res, hres⟩ : ∃ res, res = decide ((64 ≤ c0 ∧ c0 ≤ 65536) ∧ (64 ≤ c1 ∧ c1 ≤ 4096) ∧ (0 ≤ c2 ∧ c2 ≤ 20) ∧ (256 ≤ c3 ∧ c3 ≤ 65536) ∧ (1 ≤ c4 ∧ c4 ≤ 8) ∧ (256 ≤ c5 ∧ c5 ≤ 1048576) ∧ (1 ≤ c6 ∧ c6 ≤ 1000)) := ⟨_, rfl⟩
  rw [← hres]
  replace hres := Lib.hid hres
  go_enter Try.func20, Try.ntmps20
  go_wp2
  all_goals
    go_ret
    refine ⟨ret_bool ?_, (Below.refl _ _).alloc (Nat.le_refl _) _⟩
    rw [hres.out]
    first
      | (symm; apply decide_eq_false; omega)
      | (apply decide_eq_decide.2; constructor <;> (intro hh; omega))
end Go.Proofs.Ytekfaodjadinnaa
