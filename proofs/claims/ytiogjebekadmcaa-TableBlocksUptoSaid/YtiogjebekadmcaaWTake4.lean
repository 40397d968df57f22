
/- Walks: reading texts that are keys. Condition: a length that a text may have. -/
import Derived.Test.YtiogjebekadmcaaWTake2
import Derived.Test.YtiogjebekadmcaaPlainH
namespace Go.Proofs.Ytiogjebekadmcaa
open Go.RowKit

set_option maxRecDepth 100000 in
set_option maxHeartbeats 1000000 in
theorem takeKeyText_any (s : ByteArray) (w : World) (hs : s.size ≤ 140737488351232) :
    Calls Try.prog 52 #[.string s] w fun e w' => e = .returned (tupS (Pl.takeKey s.data.toList)) ∧ Below w.heap.size w w' := by
  go_enter Try.func52, Try.ntmps52
  go_wp2
  go_loopw [6, 5] (fun i v wr => ∃ (k : Nat) (l : List UInt8), k ≤ s.size ∧ i = .int .i64 k ∧ Own w.heap.size 5 1 v l.length (bcells l) w wr ∧ l.length ≤ k ∧ Hid (Pl.takeKey s.data.toList = Pl.tkey l k (s.data.toList.drop k)))
    (fun i _ _ => s.size - (intOf i).toNat)
  case atStart => exact ⟨0, [], by omega, rfl, Own.nil (Below.refl _ _) (Nat.le_refl _), by simp, by show _ = _; simp [Pl.takeKey]⟩
  case round =>
    obtain ⟨k, l, hk, rfl, hown, hl, H⟩ := hrel
    have hb255 : (0 : Int) ≤ 255 := by omega
    by_cases h1 : k < s.size
    · have hbl := byte_lt s[k]
      have hkl : k < s.data.toList.length := by rw [Pl.size_data]; exact h1
      have HL := Lib.hid (show s.data.toList[k] = s[k] from rfl)
      go_wp2_with (first
        | (at_builtin; go_must (refine wpList_appb (by rfl) _ _ 90 (by rfl) w.heap.size 5 Try.underlying90 info_u8 _ l.length l _ w _ hown (by rfl) (by rfl) (by omega) (by omega) ?_; intro v' w1 hown1))
        | (refine wpList_str (by rfl) _ 90 9 5 (by rfl) Try.underlying90 Try.underlying5 Try.underlying9 (by rfl) (by assumption) ?_))
      · have h : (((s[k].toNat : Nat) : Int) != 0) = true := by assumption
        go_roundw
        case rel => exact ⟨k + 1, _, by omega, by go_num, by assumption, by simp; omega, by show _ = _; rw [H.out, ofNat_cast, Pl.tkey_plain hkl (by rw [HL.out]; exact byte_const_ne 0 rfl h), HL.out]⟩
        case measure => simp [intOf]; omega
      · have h : (((s[k].toNat : Nat) : Int) != 0) = false := by assumption
        have h2 : ((k : Int) + 1 == (s.size : Int)) = true := by assumption
        have h2' : (k : Int) + 1 = (s.size : Int) := by simpa using h2
        go_ret3
        exact ⟨ret_val (by rw [H.out, Pl.tkey_last hkl (by rw [HL.out]; exact byte_const 0 rfl h) (by rw [Pl.size_data]; omega)]; rfl), hown.below⟩
      · have h : (((s[k].toNat : Nat) : Int) != 0) = false := by assumption
        have h2 : 0 ≤ (k : Int) + 1 ∧ (k : Int) + 1 < (s.size : Int) := by assumption
        have h3 : (((s[k + 1].toNat : Nat) : Int) == 1) = true := by assumption
        go_ret3
        exact ⟨ret_val (by rw [H.out, Pl.tkey_done hkl (by rw [HL.out]; exact byte_const 0 rfl h) (by rw [Pl.size_data]; omega) (byte_const' 1 rfl h3)]; rfl), hown.below⟩
      · have h : (((s[k].toNat : Nat) : Int) != 0) = false := by assumption
        have h2 : 0 ≤ (k : Int) + 1 ∧ (k : Int) + 1 < (s.size : Int) := by assumption
        have h4 : (((s[k + 1].toNat : Nat) : Int) == 255) = true := by assumption
        go_roundw
        case rel => exact ⟨k + 2, _, by omega, by go_num, by assumption, by simp; omega, by show _ = _; rw [H.out, Pl.tkey_zero hkl (by rw [HL.out]; exact byte_const 0 rfl h) (by rw [Pl.size_data]; omega) (byte_const' 255 rfl h4)]; rfl⟩
        case measure => simp [intOf]; omega
      · have h : (((s[k].toNat : Nat) : Int) != 0) = false := by assumption
        have h2 : 0 ≤ (k : Int) + 1 ∧ (k : Int) + 1 < (s.size : Int) := by assumption
        have h3 : (((s[k + 1].toNat : Nat) : Int) == 1) = false := by assumption
        have h4 : (((s[k + 1].toNat : Nat) : Int) == 255) = false := by assumption
        go_ret3
        exact ⟨ret_val (by rw [H.out, Pl.tkey_bad hkl (by rw [HL.out]; exact byte_const 0 rfl h) (by rw [Pl.size_data]; omega) (byte_const_ne' 1 rfl h3) (byte_const_ne' 255 rfl h4)]; rfl), hown.below⟩
      · have h2 : ((k : Int) + 1 == (s.size : Int)) = false := by assumption
        have h3 : ¬ (0 ≤ (k : Int) + 1 ∧ (k : Int) + 1 < (s.size : Int)) := by assumption
        have h2' : ¬ (k : Int) + 1 = (s.size : Int) := by simpa using h2
        exfalso
        omega
    · go_wp2
      go_ret3
      exact ⟨ret_val (by rw [H.out, Pl.tkey_end (by rw [Pl.size_data]; omega)]; rfl), hown.below⟩

set_option maxRecDepth 100000 in
set_option maxHeartbeats 1000000 in
theorem refTakeKeyText_any (s : ByteArray) (w : World) (hs : s.size ≤ 140737488351232) :
    Calls Try.prog 53 #[.string s] w fun e w' => e = .returned (tupS (Pl.takeKey s.data.toList)) ∧ Below w.heap.size w w' := by
  go_enter Try.func53, Try.ntmps53
  go_wp2
  go_loopw [6, 5] (fun i v wr => ∃ (k : Nat) (l : List UInt8), k ≤ s.size ∧ i = .int .i64 k ∧ Own w.heap.size 5 1 v l.length (bcells l) w wr ∧ l.length ≤ k ∧ Hid (Pl.takeKey s.data.toList = Pl.tkey l k (s.data.toList.drop k)))
    (fun i _ _ => s.size - (intOf i).toNat)
  case atStart => exact ⟨0, [], by omega, rfl, Own.nil (Below.refl _ _) (Nat.le_refl _), by simp, by show _ = _; simp [Pl.takeKey]⟩
  case round =>
    obtain ⟨k, l, hk, rfl, hown, hl, H⟩ := hrel
    have hb255 : (0 : Int) ≤ 255 := by omega
    by_cases h1 : k < s.size
    · have hbl := byte_lt s[k]
      have hkl : k < s.data.toList.length := by rw [Pl.size_data]; exact h1
      have HL := Lib.hid (show s.data.toList[k] = s[k] from rfl)
      go_wp2_with (first
        | (at_builtin; go_must (refine wpList_appb (by rfl) _ _ 90 (by rfl) w.heap.size 5 Try.underlying90 info_u8 _ l.length l _ w _ hown (by rfl) (by rfl) (by omega) (by omega) ?_; intro v' w1 hown1))
        | (refine wpList_str (by rfl) _ 90 9 5 (by rfl) Try.underlying90 Try.underlying5 Try.underlying9 (by rfl) (by assumption) ?_))
      · have h : (((s[k].toNat : Nat) : Int) != 0) = true := by assumption
        go_roundw
        case rel => exact ⟨k + 1, _, by omega, by go_num, by assumption, by simp; omega, by show _ = _; rw [H.out, ofNat_cast, Pl.tkey_plain hkl (by rw [HL.out]; exact byte_const_ne 0 rfl h), HL.out]⟩
        case measure => simp [intOf]; omega
      · have h : (((s[k].toNat : Nat) : Int) != 0) = false := by assumption
        have h2 : ((k : Int) + 1 == (s.size : Int)) = true := by assumption
        have h2' : (k : Int) + 1 = (s.size : Int) := by simpa using h2
        go_ret3
        exact ⟨ret_val (by rw [H.out, Pl.tkey_last hkl (by rw [HL.out]; exact byte_const 0 rfl h) (by rw [Pl.size_data]; omega)]; rfl), hown.below⟩
      · have h : (((s[k].toNat : Nat) : Int) != 0) = false := by assumption
        have h2 : 0 ≤ (k : Int) + 1 ∧ (k : Int) + 1 < (s.size : Int) := by assumption
        have h3 : (((s[k + 1].toNat : Nat) : Int) == 1) = true := by assumption
        go_ret3
        exact ⟨ret_val (by rw [H.out, Pl.tkey_done hkl (by rw [HL.out]; exact byte_const 0 rfl h) (by rw [Pl.size_data]; omega) (byte_const' 1 rfl h3)]; rfl), hown.below⟩
      · have h : (((s[k].toNat : Nat) : Int) != 0) = false := by assumption
        have h2 : 0 ≤ (k : Int) + 1 ∧ (k : Int) + 1 < (s.size : Int) := by assumption
        have h3 : (((s[k + 1].toNat : Nat) : Int) == 1) = false := by assumption
        have h4 : (((s[k + 1].toNat : Nat) : Int) != 255) = true := by assumption
        go_ret3
        exact ⟨ret_val (by rw [H.out, Pl.tkey_bad hkl (by rw [HL.out]; exact byte_const 0 rfl h) (by rw [Pl.size_data]; omega) (byte_const_ne' 1 rfl h3) (byte_const_ne 255 rfl h4)]; rfl), hown.below⟩
      · have h : (((s[k].toNat : Nat) : Int) != 0) = false := by assumption
        have h2 : 0 ≤ (k : Int) + 1 ∧ (k : Int) + 1 < (s.size : Int) := by assumption
        have h4 : (((s[k + 1].toNat : Nat) : Int) != 255) = false := by assumption
        go_roundw
        case rel => exact ⟨k + 2, _, by omega, by go_num, by assumption, by simp; omega, by show _ = _; rw [H.out, Pl.tkey_zero hkl (by rw [HL.out]; exact byte_const 0 rfl h) (by rw [Pl.size_data]; omega) (byte_const 255 rfl h4)]; rfl⟩
        case measure => simp [intOf]; omega
      · have h2 : ((k : Int) + 1 == (s.size : Int)) = false := by assumption
        have h3 : ¬ (0 ≤ (k : Int) + 1 ∧ (k : Int) + 1 < (s.size : Int)) := by assumption
        have h2' : ¬ (k : Int) + 1 = (s.size : Int) := by simpa using h2
        exfalso
        omega
    · go_wp2
      go_ret3
      exact ⟨ret_val (by rw [H.out, Pl.tkey_end (by rw [Pl.size_data]; omega)]; rfl), hown.below⟩
end Go.Proofs.Ytiogjebekadmcaa
