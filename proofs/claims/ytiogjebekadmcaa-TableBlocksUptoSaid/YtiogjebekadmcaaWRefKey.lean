
/- Walks: the reference's texts as keys. Condition: a length that a text may have. -/
import Derived.Test.YtiogjebekadmcaaWTake
import Derived.Test.YtiogjebekadmcaaPlainH
namespace Go.Proofs.Ytiogjebekadmcaa
open Go.RowKit

theorem key_zero {l : List UInt8} {k : Nat} (hk : k < l.length) (h : l[k] = 0) : Pl.esc (l.drop k) = 0 :: 255 :: Pl.esc (l.drop (k + 1)) := by
  rw [List.drop_eq_getElem_cons hk, h]; simp [Pl.esc]
theorem key_plain {l : List UInt8} {k : Nat} (hk : k < l.length) (h : l[k] ≠ 0) : Pl.esc (l.drop k) = l[k] :: Pl.esc (l.drop (k + 1)) := by
  rw [List.drop_eq_getElem_cons hk]; simp [Pl.esc, h]

set_option maxRecDepth 100000 in
set_option maxHeartbeats 1000000 in
theorem refKeyText_any (s : ByteArray) (w : World) (hs : s.size ≤ 35184372088832) :
    Calls Try.prog 56 #[.string s] w fun e w' => e = .returned (.string ⟨(Pl.keyText s.data.toList).toArray⟩) ∧ Below w.heap.size w w' := by
  go_enter Try.func56, Try.ntmps56
  go_wp2
  go_loopw [4, 3] (fun i v wr => ∃ (k : Nat) (l : List UInt8), k ≤ s.size ∧ i = .int .i64 k ∧ Own w.heap.size 5 1 v l.length (bcells l) w wr ∧ l.length ≤ 2 * k ∧ Hid (Pl.esc s.data.toList = l ++ Pl.esc (s.data.toList.drop k)))
    (fun i _ _ => s.size - (intOf i).toNat)
  case atStart => exact ⟨0, [], by omega, rfl, Own.nil (Below.refl _ _) (Nat.le_refl _), by simp, by show _ = _; simp⟩
  case round =>
    obtain ⟨k, l, hk, rfl, hown, hl, H⟩ := hrel
    by_cases h1 : k < s.size
    · have hbl := byte_lt s[k]
      have hkl : k < s.data.toList.length := by rw [Pl.size_data]; exact h1
      have HL := Lib.hid (show s.data.toList[k] = s[k] from rfl)
      go_wp2_with (first
        | (at_builtin; refine wpList_appb (by rfl) (.tmp 11) _ 90 (by rfl) w.heap.size 5 Try.underlying90 info_u8 _ l.length l _ w _ hown (by rfl) (by rfl) (by omega) (by omega) ?_; intro v' w1 hown1; clear hown)
        | (at_builtin; refine wpList_appb (by rfl) (.tmp 21) _ 90 (by rfl) w.heap.size 5 Try.underlying90 info_u8 _ _ _ _ w _ hown1 (by rfl) (by rfl) (by omega) (by simp; omega) ?_; intro v2 w2 hown2; clear hown1))
      · have h : (((s[k].toNat : Nat) : Int) == 0) = true := by assumption
        have hz := byte_const' 0 rfl h
        go_roundw
        case rel => exact ⟨k + 1, _, by omega, by go_num, by assumption, by simp; omega, by show _ = _; rw [H.out, ofNat_cast, hz, key_zero hkl (by rw [HL.out]; exact hz)]; simp⟩
        case measure => simp [intOf]; omega
      · have h : (((s[k].toNat : Nat) : Int) == 0) = false := by assumption
        have hz := byte_const_ne' 0 rfl h
        go_roundw
        case rel => exact ⟨k + 1, _, by omega, by go_num, by assumption, by simp; omega, by show _ = _; rw [H.out, ofNat_cast, key_plain hkl (by rw [HL.out]; exact hz), HL.out]; simp⟩
        case measure => simp [intOf]; omega
    · go_wp2_with (first
        | (at_builtin; refine wpList_appb2 (by rfl) (.tmp 24) _ 90 (by rfl) w.heap.size 5 Try.underlying90 info_u8 _ l.length l _ _ w _ hown (by rfl) (by rfl) (by omega) (by omega) (by omega) ?_; intro v' w1 hown1; clear hown)
        | (refine wpList_str (by rfl) _ 90 9 5 (by rfl) Try.underlying90 Try.underlying5 Try.underlying9 (by rfl) (by assumption) ?_))
      go_ret
      refine ⟨ret_str ?_, Own.below (by assumption)⟩
      have h2 := H.out
      rw [List.drop_eq_nil_of_le (by rw [Pl.size_data]; omega)] at h2
      rw [Pl.keyText, h2]
      simp [Pl.esc]
end Go.Proofs.Ytiogjebekadmcaa
