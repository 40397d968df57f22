/- Walks: mixing. Condition: none. -/
import Derived.Test.YtcfcijgnkbmlaaaBase
import Derived.Test.YtcfcijgnkbmlaaaPlainC
namespace Go.Proofs.Ytcfcijgnkbmlaaa
open Go.RowKit

set_option maxRecDepth 100000 in
set_option maxHeartbeats 400000 in
theorem mix_any (n : Nat) (w : World) :
    Calls Try.prog 39 #[.int .u64 n] w fun e w' => e = .returned (.int .u64 (Pl.mix n : Nat)) ∧ w = w' := by
  go_enter Try.func39, Try.ntmps39
  go_wp2
  go_ret
  exact ⟨ret_int (by rw [Pl.mixA_eq, Pl.mixB_eq _ (Pl.mixA_lt _), Pl.mixC_eq _ (Pl.mixB_lt _), Pl.mixD_eq _ (Pl.mixC_lt _)]; rfl), rfl⟩

set_option maxRecDepth 100000 in
set_option maxHeartbeats 400000 in
theorem refMix_any (n : Nat) (w : World) :
    Calls Try.prog 40 #[.int .u64 n] w fun e w' => e = .returned (.int .u64 (Pl.mix n : Nat)) ∧ w = w' := by
  go_enter Try.func40, Try.ntmps40
  go_wp2
  go_ret
  exact ⟨ret_int (by rw [Pl.mixA_eq, Pl.mixB_eq _ (Pl.mixA_lt _), Pl.mixC_eq _ (Pl.mixB_lt _), Pl.mixD_eq _ (Pl.mixC_lt _)]; rfl), rfl⟩
end Go.Proofs.Ytcfcijgnkbmlaaa
