
/- Walks: check sums. Condition: none. -/
import Derived.Test.YtndekdgpibipnaaPlainJ
import Derived.Test.YtndekdgpibipnaaBase
namespace Go.Proofs.Ytndekdgpibipnaa
open Go.RowKit

set_option maxRecDepth 100000 in
set_option maxHeartbeats 400000 in
theorem sum_any (s : ByteArray) (w : World) (hs : s.size ≤ 9223372036854775807) :
    Calls Try.prog 92 #[.string s] w fun e w' => e = .returned (.int .u32 (Pl.sum s.data.toList : Nat)) ∧ Q w w' := by
  go_enter Try.func92, Try.ntmps92
  go_wp2
  go_loopw [3, 7] (fun a i wr => ∃ k n : Nat, k ≤ s.size ∧ n < 4294967296 ∧ a = .int .u32 n ∧ i = .int .i64 k ∧ Q w wr ∧ Hid (Pl.crcL n (s.data.toList.drop k) = Pl.crcL 4294967295 s.data.toList))
    (fun _ i _ => s.size - (intOf i).toNat)
  case atStart => exact ⟨0, 4294967295, by omega, by omega, rfl, rfl, Q.refl _, by show _ = _; simp⟩
  case round =>
    obtain ⟨k, n, hk, hn, rfl, rfl, q, H⟩ := hrel
    by_cases h1 : k < s.size
    · go_wp2
      rw [Pl.byte_xor' n s[k] hn]
      have hx := Pl.xor_byte_lt s[k] hn
      go_loopw [3, 16] (fun a i wx => ∃ j m : Nat, j ≤ 8 ∧ m < 4294967296 ∧ a = .int .u32 m ∧ i = .int .i64 j ∧ Q wr wx ∧ Hid (Pl.crcs (8 - j) m = Pl.crcB n s[k]))
        (fun _ i _ => 8 - (intOf i).toNat)
      case atStart => exact ⟨0, _, by omega, hx, rfl, rfl, Q.refl _, by show _ = _; rfl⟩
      case round =>
        obtain ⟨j, m, hj, hm, rfl, rfl, q2, H2⟩ := hrel
        by_cases h2 : j < 8
        · go_wp2
          go_roundw
          case rel => exact ⟨j + 1, Pl.crc1 m, by omega, Pl.crc1_lt hm, by rw [Pl.crc1_eq m hm], by go_num, q2, by
            have H2 := H2.out
            rw [show 8 - j = (8 - (j + 1)) + 1 from by omega] at H2
            exact H2⟩
          case measure => simp [intOf]; omega
        · have hd : decide ((j : Int) < 8) = false := by simp; omega
          have hd' : decide (j < 8) = false := by simp; omega
          obtain rfl : j = 8 := by omega
          have H2 : m = Pl.crcB n s[k] := H2.out
          go_wp2
          go_roundw
          case rel => exact ⟨k + 1, m, by omega, hm, rfl, by go_num, q.trans q2, by
            have H := H.out
            rw [Pl.crcL_next (by rw [Pl.size_data]; exact h1)] at H
            rw [H2]
            exact H⟩
          case measure => simp [intOf]; omega
    · have hd : decide ((k : Int) < (s.size : Int)) = false := by simp; omega
      have hd' : decide (k < s.size) = false := by simp; omega
      go_wp2
      go_ret
      refine ⟨ret_int (Pl.sum_end hn ?_), q⟩
      have H := H.out
      rwa [List.drop_eq_nil_of_le (by rw [Pl.size_data]; omega)] at H

set_option maxRecDepth 100000 in
set_option maxHeartbeats 400000 in
theorem refSum_any (s : ByteArray) (w : World) (hs : s.size ≤ 9223372036854775807) :
    Calls Try.prog 96 #[.string s] w fun e w' => e = .returned (.int .u32 (Pl.sum s.data.toList : Nat)) ∧ Q w w' := by
  go_enter Try.func96, Try.ntmps96
  go_wp2
  go_loopw [3, 4] (fun a i wr => ∃ k n : Nat, k ≤ s.size ∧ n < 4294967296 ∧ a = .int .u32 n ∧ i = .int .i64 k ∧ Q w wr ∧ Hid (Pl.crcL n (s.data.toList.drop k) = Pl.crcL 4294967295 s.data.toList))
    (fun _ i _ => s.size - (intOf i).toNat)
  case atStart => exact ⟨0, 4294967295, by omega, by omega, rfl, rfl, Q.refl _, by show _ = _; simp⟩
  case round =>
    obtain ⟨k, n, hk, hn, rfl, rfl, q, H⟩ := hrel
    by_cases h1 : k < s.size
    · go_wp2
      rw [Pl.byte_xor' n s[k] hn]
      have hx := Pl.xor_byte_lt s[k] hn
      go_loopw [3, 5] (fun a i wx => ∃ j m : Nat, j ≤ 8 ∧ m < 4294967296 ∧ a = .int .u32 m ∧ i = .int .i64 j ∧ Q wr wx ∧ Hid (Pl.crcs (8 - j) m = Pl.crcB n s[k]))
        (fun _ i _ => 8 - (intOf i).toNat)
      case atStart => exact ⟨0, _, by omega, hx, rfl, rfl, Q.refl _, by show _ = _; rfl⟩
      case round =>
        obtain ⟨j, m, hj, hm, rfl, rfl, q2, H2⟩ := hrel
        by_cases h2 : j < 8
        · have H3 : Hid (Pl.crcs (8 - (j + 1)) (Pl.crc1 m) = Pl.crcB n s[k]) := by
            have H2 := H2.out
            rw [show 8 - j = (8 - (j + 1)) + 1 from by omega] at H2
            exact H2
          go_wp2
          · have ho : (m : Int) % 2 = 1 := eq_of_beq (by assumption)
            go_roundw
            case rel => exact ⟨j + 1, Pl.crc1 m, by omega, Pl.crc1_lt hm, by rw [Pl.crc1_odd m hm ho], by go_num, q2, H3⟩
            case measure => simp [intOf]; omega
          · have ho : ¬ (m : Int) % 2 = 1 := fun e => absurd (by assumption : ((m : Int) % 2 == 1) = false) (by simp [e])
            go_roundw
            case rel => exact ⟨j + 1, Pl.crc1 m, by omega, Pl.crc1_lt hm, by rw [Pl.crc1_even m ho], by go_num, q2, H3⟩
            case measure => simp [intOf]; omega
        · have hd : decide ((j : Int) < 8) = false := by simp; omega
          have hd' : decide (j < 8) = false := by simp; omega
          obtain rfl : j = 8 := by omega
          have H2 : m = Pl.crcB n s[k] := H2.out
          go_wp2
          go_roundw
          case rel => exact ⟨k + 1, m, by omega, hm, rfl, by go_num, q.trans q2, by
            have H := H.out
            rw [Pl.crcL_next (by rw [Pl.size_data]; exact h1)] at H
            rw [H2]
            exact H⟩
          case measure => simp [intOf]; omega
    · have hd : decide ((k : Int) < (s.size : Int)) = false := by simp; omega
      have hd' : decide (k < s.size) = false := by simp; omega
      go_wp2
      go_ret
      refine ⟨ret_int (Pl.sum_end hn ?_), q⟩
      have H := H.out
      rwa [List.drop_eq_nil_of_le (by rw [Pl.size_data]; omega)] at H
end Go.Proofs.Ytndekdgpibipnaa
