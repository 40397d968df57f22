
/- Walks: taking words. Condition: lengths that are ints. -/
import Derived.Test.YtiogjebekadmcaaWTake
import Derived.Test.YtiogjebekadmcaaPlainG
namespace Go.Proofs.Ytiogjebekadmcaa
open Go.RowKit

/-- what taking a word answers -/
def keyInt (l : List UInt8) : Value := if l.length < 8 then .tuple #[.int .i64 0, .int .i64 0, .int .i64 2] else .tuple #[.int .i64 (Pl.down (Pl.word (l.take 8))), .int .i64 8, .int .i64 0]

set_option maxRecDepth 100000 in
set_option maxHeartbeats 400000 in
theorem word_any (s : ByteArray) (w : World) (h8 : 8 ≤ s.size) :
    Calls Try.prog 54 #[.string s] w fun e w' => e = .returned (.int .u64 (Pl.word (s.data.toList.take 8) : Nat)) ∧ w = w' := by
  go_enter Try.func54, Try.ntmps54
  go_wp2
  go_loop [4, 3] (fun i x => ∃ k n : Nat, k ≤ 8 ∧ i = .int .i64 k ∧ x = .int .u64 n ∧ Hid (n = Pl.word (s.data.toList.take k)))
    (fun i _ => 8 - (intOf i).toNat)
  case atStart => exact ⟨0, 0, by omega, rfl, rfl, by show _ = _; simp [Pl.word]⟩
  case round =>
    obtain ⟨k, n, hk, rfl, rfl, H⟩ := hrel
    by_cases hlt : k < 8
    · have hks : k < s.size := by omega
      have hw : IntKind.u64.wrap ((s[k].toNat : Nat) : Int) = ((s[k].toNat : Nat) : Int) := by have := byte_lt s[k]; exact IntWalk.u64_in _ (by omega)
      have hbl := byte_lt s[k]
      have hnl : n < 72057594037927936 := by
        have h1 := Pl.word_lt 7 (s.data.toList.take k) (by simp; omega)
        rw [← H.out] at h1; exact h1
      go_wp2
      go_round
      case rel => exact ⟨k + 1, n * 256 + s[k].toNat, by omega, by go_num, by go_num, by show _ = _; rw [Pl.word_take (by rw [Pl.size_data]; exact hks), ← H.out]; rfl⟩
      case measure => simp [intOf]; omega
    · obtain rfl : k = 8 := by omega
      go_wp2
      go_ret
      exact ⟨ret_val (by rw [← H.out]; rfl), rfl⟩

end Go.Proofs.Ytiogjebekadmcaa
