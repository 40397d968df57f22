
/- Walks: codec.Common and the reference's. Condition: lengths that are ints. -/
import Derived.Test.YtiogjebekadmcaaPlainA
import Derived.Test.YtiogjebekadmcaaBase
namespace Go.Proofs.Ytiogjebekadmcaa
open Go.RowKit

theorem common_rel_next {a b : ByteArray} {k : Nat} (ha : k < a.size) (hb : k < b.size) (h : a[k] = b[k])
    (hk : Pl.common a.data.toList b.data.toList = k + Pl.common (a.data.toList.drop k) (b.data.toList.drop k)) :
    Pl.common a.data.toList b.data.toList = (k + 1) + Pl.common (a.data.toList.drop (k + 1)) (b.data.toList.drop (k + 1)) := by
  rw [hk, Pl.common_drop_eq (by rw [Pl.size_data]; exact ha) (by rw [Pl.size_data]; exact hb) h]; omega

theorem common_rel_stop {a b : ByteArray} {k : Nat} (ha : k < a.size) (hb : k < b.size) (h : a[k] ≠ b[k])
    (hk : Pl.common a.data.toList b.data.toList = k + Pl.common (a.data.toList.drop k) (b.data.toList.drop k)) :
    Pl.common a.data.toList b.data.toList = k := by
  rw [hk, Pl.common_drop_ne (by rw [Pl.size_data]; exact ha) (by rw [Pl.size_data]; exact hb) h]; omega

theorem common_rel_end {a b : ByteArray} {k : Nat} (h : a.size ≤ k ∨ b.size ≤ k)
    (hk : Pl.common a.data.toList b.data.toList = k + Pl.common (a.data.toList.drop k) (b.data.toList.drop k)) :
    Pl.common a.data.toList b.data.toList = k := by
  rw [hk, Pl.common_drop_end (by rw [Pl.size_data, Pl.size_data]; exact h)]; omega

set_option maxHeartbeats 400000 in
theorem common_any (a b : ByteArray) (w : World) (ha : a.size ≤ 9223372036854775807) (hb : b.size ≤ 9223372036854775807) :
    Calls Try.prog 70 #[.string a, .string b] w fun e w' => e = .returned (.int .i64 (Pl.common a.data.toList b.data.toList)) ∧ Q w w' := by
  go_enter Try.func70, Try.ntmps70
  go_wp2
  all_goals
    go_loopw [13, 6, 4] (fun i _ _ wr => ∃ k n : Nat, k ≤ a.size ∧ k ≤ b.size ∧ i = .int .i64 k ∧ wr = w.drewN n ∧ Hid (Pl.common a.data.toList b.data.toList = k + Pl.common (a.data.toList.drop k) (b.data.toList.drop k)))
      (fun i _ _ _ => a.size - (intOf i).toNat)
    case atStart => exact ⟨0, 0, by omega, by omega, rfl, rfl, by show _ = _; simp⟩
    case round =>
      obtain ⟨k, n, hka, hkb, rfl, rfl, H⟩ := hrel
      go_wp2
      · have h1 : k < a.size := by omega
        have h2 : k < b.size := by omega
        go_quiet (fail)
        go_wp2
        · have hne : (((a[k].toNat : Nat) : Int) != ((b[k].toNat : Nat) : Int)) = true := by assumption
          go_ret
          exact ⟨ret_int (by rw [common_rel_stop h1 h2 (byte_ne hne) H.out]), ((Q.refl w).drewN n).drewN nq⟩
        · have heq : (((a[k].toNat : Nat) : Int) != ((b[k].toNat : Nat) : Int)) = false := by assumption
          go_roundw
          case rel => exact ⟨k + 1, _, by omega, by omega, by go_num, rfl, common_rel_next h1 h2 (byte_eq heq) H.out⟩
          case measure => simp [intOf]; omega
      · go_ret
        exact ⟨ret_int (by rw [common_rel_end (by omega) H.out]; try omega), (Q.refl w).drewN n⟩

set_option maxRecDepth 100000 in
set_option maxHeartbeats 400000 in
theorem refCommon_any (a b : ByteArray) (w : World) (ha : a.size ≤ 9223372036854775807) (hb : b.size ≤ 9223372036854775807) :
    Calls Try.prog 78 #[.string a, .string b] w fun e w' => e = .returned (.int .i64 (Pl.common a.data.toList b.data.toList)) ∧ Q w w' := by
  go_enter Try.func78, Try.ntmps78
  go_wp2
  go_loopw [5] (fun i wr => ∃ k n : Nat, k ≤ a.size ∧ k ≤ b.size ∧ i = .int .i64 k ∧ wr = w.drewN n ∧ Hid (Pl.common a.data.toList b.data.toList = k + Pl.common (a.data.toList.drop k) (b.data.toList.drop k)))
    (fun i _ => a.size - (intOf i).toNat)
  case atStart => exact ⟨0, 0, by omega, by omega, rfl, rfl, by show _ = _; simp⟩
  case round =>
    obtain ⟨k, n, hka, hkb, rfl, rfl, H⟩ := hrel
    by_cases h1 : k < a.size
    · by_cases h2 : k < b.size
      · go_wp2
        go_quiet (fail)
        go_wp2
        · have heq : (((a[k].toNat : Nat) : Int) == ((b[k].toNat : Nat) : Int)) = true := by assumption
          go_roundw
          case rel => exact ⟨k + 1, _, by omega, by omega, by go_num, rfl, common_rel_next h1 h2 (byte_eq' heq) H.out⟩
          case measure => simp [intOf]; omega
        · have hne : (((a[k].toNat : Nat) : Int) == ((b[k].toNat : Nat) : Int)) = false := by assumption
          go_ret
          exact ⟨ret_int (by rw [common_rel_stop h1 h2 (byte_ne' hne) H.out]), ((Q.refl w).drewN n).drewN nq⟩
      · have hd : decide ((k : Int) < (b.size : Int)) = false := by simp; omega
        have hd' : decide (k < b.size) = false := by simp; omega
        go_wp2
        go_quiet (fail)
        go_wp2
        go_ret
        exact ⟨ret_int (by rw [common_rel_end (by omega) H.out]), ((Q.refl w).drewN n).drewN nq⟩
    · have hd : decide ((k : Int) < (a.size : Int)) = false := by simp; omega
      have hd' : decide (k < a.size) = false := by simp; omega
      go_wp2
      go_quiet (fail)
      go_wp2
      go_ret
      exact ⟨ret_int (by rw [common_rel_end (by omega) H.out]), ((Q.refl w).drewN n).drewN nq⟩
end Go.Proofs.Ytiogjebekadmcaa
