/- Walks: hashes of keys. Condition: lengths that are ints. -/
import Derived.Test.YtcfcijgnkbmlaaaWMix
import Derived.Test.YtcfcijgnkbmlaaaPlainBl
namespace Go.Proofs.Ytcfcijgnkbmlaaa
open Go.RowKit

theorem hash_rel {s : ByteArray} {k n : Nat} (h : k < s.size) (hh : n = Pl.hash0 (s.data.toList.take k)) : Pl.hashStep n s[k] = Pl.hash0 (s.data.toList.take (k + 1)) := by
  rw [Pl.hash0_take (by rw [Pl.size_data]; exact h), hh]; rfl
theorem hash_end {s : ByteArray} {k n : Nat} (h : s.size ≤ k) (hh : n = Pl.hash0 (s.data.toList.take k)) : Pl.mix n = Pl.hash s.data.toList := by
  rw [hh, List.take_of_length_le (by rw [Pl.size_data]; exact h)]; rfl
theorem hashStep_eq' (h : Nat) (c : UInt8) (hh : h < 18446744073709551616) : IntKind.u64.wrap (bits .xor .u64 (h : Int) (IntKind.u64.wrap ((c.toNat : Nat) : Int)) * 1099511628211) = ((Pl.hashStep h c : Nat) : Int) := by
  have hc := c.toNat_lt
  rw [show IntKind.u64.wrap ((c.toNat : Nat) : Int) = ((c.toNat : Nat) : Int) from by rw [IntKind.wrap_u64]; omega, Pl.hashStep_eq h c hh]

set_option maxRecDepth 100000 in
set_option maxHeartbeats 1000000 in
theorem hash_any (s : ByteArray) (w : World) (hs : s.size ≤ 9223372036854775807) :
    Calls Try.prog 18 #[.string s] w fun e w' => e = .returned (.int .u64 (Pl.hash s.data.toList : Nat)) ∧ w = w' := by
  have hst := Pl.hashStart_lt
  have hx : (14695981039346656037 : Int) = ((Pl.hashStart : Nat) : Int) := rfl
  have hx := Lib.hid hx
  go_enter Try.func18, Try.ntmps18
  go_wp2
  rw [hx.out]
  go_loop [3, 7, 4] (fun h i _ => ∃ k n : Nat, k ≤ s.size ∧ U64 n ∧ i = .int .i64 k ∧ h = .int .u64 n ∧ Hid (n = Pl.hash0 (s.data.toList.take k))) (fun _ i _ => s.size - (intOf i).toNat)
  case atStart => exact ⟨0, Pl.hashStart, by omega, .mk' (by omega), rfl, rfl, by show _ = _; simp [Pl.hash0, Pl.hashFrom]⟩
  case round =>
    obtain ⟨k, n, hk, hn, rfl, rfl, H⟩ := hrel
    by_cases h1 : k < s.size
    · go_wp2
      go_round
      case rel => exact ⟨k + 1, Pl.hashStep n s[k], by omega, .mk' (by have := Pl.hashStep_lt n s[k]; omega), by go_num, by
        have hb : n < 18446744073709551616 := by have := hn.le; omega
        rw [hashStep_eq' n s[k] hb], hash_rel h1 H.out⟩
      case measure => simp [intOf]; omega
    · have hd : decide ((k : Int) < (s.size : Int)) = false := by simp; omega
      have hd' : decide (k < s.size) = false := by simp; omega
      go_wp2_with fail
      refine (mix_any _ _).mono ?_
      rintro e w1 ⟨rfl, rfl⟩
      go_wp2
      go_ret
      exact ⟨ret_int (by rw [hash_end (by omega) H.out]), rfl⟩

set_option maxRecDepth 100000 in
set_option maxHeartbeats 1000000 in
theorem refHash_any (s : ByteArray) (w : World) (hs : s.size ≤ 9223372036854775807) :
    Calls Try.prog 20 #[.string s] w fun e w' => e = .returned (.int .u64 (Pl.hash s.data.toList : Nat)) ∧ w = w' := by
  have hst := Pl.hashStart_lt
  have hx : (14695981039346656037 : Int) = ((Pl.hashStart : Nat) : Int) := rfl
  have hx := Lib.hid hx
  go_enter Try.func20, Try.ntmps20
  go_wp2
  rw [hx.out]
  go_loop [3, 4] (fun h i => ∃ k n : Nat, k ≤ s.size ∧ U64 n ∧ i = .int .i64 k ∧ h = .int .u64 n ∧ Hid (n = Pl.hash0 (s.data.toList.take k))) (fun _ i => s.size - (intOf i).toNat)
  case atStart => exact ⟨0, Pl.hashStart, by omega, .mk' (by omega), rfl, rfl, by show _ = _; simp [Pl.hash0, Pl.hashFrom]⟩
  case round =>
    obtain ⟨k, n, hk, hn, rfl, rfl, H⟩ := hrel
    by_cases h1 : k < s.size
    · go_wp2
      go_round
      case rel => exact ⟨k + 1, Pl.hashStep n s[k], by omega, .mk' (by have := Pl.hashStep_lt n s[k]; omega), by go_num, by
        have hb : n < 18446744073709551616 := by have := hn.le; omega
        rw [hashStep_eq' n s[k] hb], hash_rel h1 H.out⟩
      case measure => simp [intOf]; omega
    · have hd : decide ((k : Int) < (s.size : Int)) = false := by simp; omega
      have hd' : decide (k < s.size) = false := by simp; omega
      go_wp2_with fail
      refine (refMix_any _ _).mono ?_
      rintro e w1 ⟨rfl, rfl⟩
      go_wp2
      go_ret
      exact ⟨ret_int (by rw [hash_end (by omega) H.out]), rfl⟩
end Go.Proofs.Ytcfcijgnkbmlaaa
