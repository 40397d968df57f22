
/- Walks: may a configuration be? Condition: none. -/
import Derived.Test.YtekfaodjadinnaaBase
namespace Go.Proofs.Ytekfaodjadinnaa
open Go.RowKit

/-- lies a number in bounds? -/
def wB (n lo hi : Int) : Bool := decide (lo ≤ n ∧ n ≤ hi)
/-- may a configuration be? -/
def rightB (c0 c1 c2 c3 c4 c5 c6 : Int) : Bool := wB c0 64 65536 && wB c1 64 4096 && wB c2 0 20 && wB c3 256 65536 && wB c4 1 8 && wB c5 256 1048576 && wB c6 1 1000

set_option maxRecDepth 100000 in
set_option maxHeartbeats 400000 in
theorem within_any (n lo hi : Int) (w : World) :
    Calls Try.prog 19 #[.int .i64 n, .int .i64 lo, .int .i64 hi] w fun e w' => e = .returned (.bool (wB n lo hi)) ∧ w = w' := by
  by_cases h : lo ≤ n
  · go_enter Try.func19, Try.ntmps19
    go_wp2
    go_ret
    exact ⟨ret_bool (by simp [wB, h]), rfl⟩
  · have hd : decide (lo ≤ n) = false := by simpa using h
    go_enter Try.func19, Try.ntmps19
    go_wp2
    go_ret
    exact ⟨ret_bool (by simp [wB]; omega), rfl⟩

set_option maxRecDepth 100000 in
set_option maxHeartbeats 4000000 in
theorem right_any (c0 c1 c2 c3 c4 c5 c6 c7 : Int) (w : World) :
    Calls Try.prog 18 #[.agg #[.int .i64 c0, .int .i64 c1, .int .i64 c2, .int .i64 c3, .int .i64 c4, .int .i64 c5, .int .i64 c6, .int .u64 c7]] w fun e w' => e = .returned (.bool (rightB c0 c1 c2 c3 c4 c5 c6)) ∧ Below w.heap.size w w' := by
  cases h0 : wB c0 64 65536
  · go_enter Try.func18, Try.ntmps18
    go_wp2_with (go_at_call 19; refine (within_any _ _ _ _).mono ?_; rintro e w' ⟨rfl, rfl⟩)
    go_ret
    exact ⟨ret_bool (by simp [rightB, h0]), (Below.refl _ _).alloc (Nat.le_refl _) _⟩
  · cases h1 : wB c1 64 4096
    · go_enter Try.func18, Try.ntmps18
      go_wp2_with (go_at_call 19; refine (within_any _ _ _ _).mono ?_; rintro e w' ⟨rfl, rfl⟩)
      go_ret
      exact ⟨ret_bool (by simp [rightB, h0, h1]), (Below.refl _ _).alloc (Nat.le_refl _) _⟩
    · cases h2 : wB c2 0 20
      · go_enter Try.func18, Try.ntmps18
        go_wp2_with (go_at_call 19; refine (within_any _ _ _ _).mono ?_; rintro e w' ⟨rfl, rfl⟩)
        go_ret
        exact ⟨ret_bool (by simp [rightB, h0, h1, h2]), (Below.refl _ _).alloc (Nat.le_refl _) _⟩
      · cases h3 : wB c3 256 65536
        · go_enter Try.func18, Try.ntmps18
          go_wp2_with (go_at_call 19; refine (within_any _ _ _ _).mono ?_; rintro e w' ⟨rfl, rfl⟩)
          go_ret
          exact ⟨ret_bool (by simp [rightB, h0, h1, h2, h3]), (Below.refl _ _).alloc (Nat.le_refl _) _⟩
        · cases h4 : wB c4 1 8
          · go_enter Try.func18, Try.ntmps18
            go_wp2_with (go_at_call 19; refine (within_any _ _ _ _).mono ?_; rintro e w' ⟨rfl, rfl⟩)
            go_ret
            exact ⟨ret_bool (by simp [rightB, h0, h1, h2, h3, h4]), (Below.refl _ _).alloc (Nat.le_refl _) _⟩
          · cases h5 : wB c5 256 1048576
            · go_enter Try.func18, Try.ntmps18
              go_wp2_with (go_at_call 19; refine (within_any _ _ _ _).mono ?_; rintro e w' ⟨rfl, rfl⟩)
              go_ret
              exact ⟨ret_bool (by simp [rightB, h0, h1, h2, h3, h4, h5]), (Below.refl _ _).alloc (Nat.le_refl _) _⟩
            · cases h6 : wB c6 1 1000
              · go_enter Try.func18, Try.ntmps18
                go_wp2_with (go_at_call 19; refine (within_any _ _ _ _).mono ?_; rintro e w' ⟨rfl, rfl⟩)
                go_ret
                exact ⟨ret_bool (by simp [rightB, h0, h1, h2, h3, h4, h5, h6]), (Below.refl _ _).alloc (Nat.le_refl _) _⟩
              · go_enter Try.func18, Try.ntmps18
                go_wp2_with (go_at_call 19; refine (within_any _ _ _ _).mono ?_; rintro e w' ⟨rfl, rfl⟩)
                go_ret
                exact ⟨ret_bool (by simp [rightB, h0, h1, h2, h3, h4, h5, h6]), (Below.refl _ _).alloc (Nat.le_refl _) _⟩
end Go.Proofs.Ytekfaodjadinnaa
