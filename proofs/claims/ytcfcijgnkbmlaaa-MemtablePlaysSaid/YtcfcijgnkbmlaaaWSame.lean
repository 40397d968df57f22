
/- Walks: whether two lists of versions are alike. Condition: rows whose lengths are ints. -/
import Derived.Test.YtcfcijgnkbmlaaaVers
import Derived.BigQuiet
namespace Go.Proofs.Ytcfcijgnkbmlaaa
open Go.RowKit

theorem VersAt.quiet {W W' : World} {v : Value} {l : List Ver} (h : VersAt W v l) (hq : Q W W') : VersAt W' v l := h.below (hq.below _)

set_option maxRecDepth 100000 in
set_option maxHeartbeats 2000000 in
theorem same_same (u v : Value) (l : List Ver) (w : World) (hu : VersAt w u l) (hv : VersAt w v l) :
    Calls Try.prog 35 #[u, v] w fun e w' => e = .returned (.bool true) ∧ Q w w' := by
  obtain ⟨a1, c1, rfl, d1, d2, hu⟩ := hu
  obtain ⟨a2, c2, rfl, _, _, hv⟩ := hv
  have hl : l.length ≤ 9223372036854775807 := by omega
  go_enter Try.func35, Try.ntmps35
  go_wp2
  go_loopw [5] (fun i wr => ∃ k n : Nat, k ≤ l.length ∧ i = .int .i64 k ∧ wr = w.drewN n) (fun i _ => l.length - (intOf i).toNat)
  case atStart => exact ⟨0, 0, by omega, rfl, rfl⟩
  case round =>
    obtain ⟨k, n, hk, rfl, rfl⟩ := hrel
    by_cases h1 : k < l.length
    · obtain ⟨b1, o1, rfl, hc1⟩ := hu (by omega)
      obtain ⟨b2, o2, rfl, hc2⟩ := hv (by omega)
      obtain ⟨x0, x1, x2, x3⟩ := hc1.2 k h1
      obtain ⟨y0, y1, y2, y3⟩ := hc2.2 k h1
      clear hc1 hc2 hu hv
      go_wp2
      go_quiet (fail)
      go_wp2
      go_roundw
      case rel => exact ⟨k + 1, _, by omega, by go_num, rfl⟩
      case measure => simp [intOf]; omega
    · go_wp2
      go_ret
      exact ⟨rfl, (Q.refl w).drewN n⟩
end Go.Proofs.Ytcfcijgnkbmlaaa
