/- Walks: what is asked of a filter. Condition: lengths that the form's reach lets. -/
import Derived.Test.YtcfcijgnkbmlaaaWRefPlaces
import Derived.Test.YtcfcijgnkbmlaaaPlainBl2
import Derived.Lib.Strings
import Derived.Lib.Slices
import Derived.Lib.Small
import Derived.Lib.Walk
import Derived.Lib.BitFns
import Derived.BigQuiet
namespace Go.Proofs.Ytcfcijgnkbmlaaa
open Go.RowKit

set_option maxRecDepth 100000 in
set_option maxHeartbeats 2000000 in
theorem ones_main (y c : Int) (w : World) (h0 : 0 ≤ y) (h1 : y ≤ 255) (hc : (Lib.pop8 y + 9223372036854775808) % 18446744073709551616 - 9223372036854775808 = c) :
    Calls Try.prog 43 #[.int .u8 y] w fun e w' => e = .returned (.int .i64 c) ∧ w = w' := by
  rw [← hc]
  clear hc
  go_enter Try.func43, Try.ntmps43
  go_wp2
  go_ret
  refine ⟨?_, rfl⟩
  show Ending.returned (.int .i64 (wrap64 (Lib.pop8 y))) = _
  unfold wrap64
  rfl
theorem ones_any (x : UInt8) (w : World) : Calls Try.prog 43 #[.int .u8 (x.toNat : Int)] w fun e w' => e = .returned (.int .i64 (Lib.onesCount x.toNat : Nat)) ∧ w = w' := by
  have h0 : (0 : Int) ≤ (x.toNat : Int) := by omega
  have h1 : (x.toNat : Int) ≤ 255 := by have := x.toNat_lt; omega
  have e := Lib.pop8_int (x.toNat : Int) h0 h1
  rw [Int.toNat_natCast] at e
  exact ones_main _ _ w h0 h1 e

theorem nil_of_size {s : ByteArray} (h : s.size = 0) : s.data.toList = [] := by
  rw [← List.length_eq_zero_iff, Pl.size_data]; exact h
theorem valid_nil {s : ByteArray} (h : s.size = 0) : Pl.valid s.data.toList = true := by rw [nil_of_size h]; rfl
theorem ne_of_size {s : ByteArray} (h : s.size ≠ 0) : s.data.toList ≠ [] := fun e => h (by rw [← Pl.size_data, e]; rfl)
theorem valid_of {s : ByteArray} (h : 0 < s.size) : Pl.valid s.data.toList = (decide (9 ≤ s.size) && decide (1 ≤ s[0].toNat) && decide (s[0].toNat ≤ 30)) := by
  unfold Pl.valid
  have h0 : s.data.toList ≠ [] := ne_of_size (by omega)
  have e : s.data.toList[0]? = some s[0] := by rw [List.getElem?_eq_getElem (by rw [Pl.size_data]; exact h)]; rfl
  rw [e, Option.getD_some, Pl.size_data, List.isEmpty_eq_false_iff.2 h0, Bool.false_or]

set_option maxRecDepth 100000 in
set_option maxHeartbeats 2000000 in
theorem valid_any (s : ByteArray) (w : World) (hs : s.size ≤ 9223372036854775807) :
    Calls Try.prog 22 #[.string s] w fun e w' => e = .returned (.bool (Pl.valid s.data.toList)) ∧ w = w' := by
  by_cases h0 : s.size = 0
  · rw [valid_nil h0]
    obtain rfl : s = ⟨#[]⟩ := by
      rcases s with ⟨⟨l⟩⟩
      simp [ByteArray.size] at h0
      rw [h0]
    go_enter Try.func22, Try.ntmps22
    go_wp2
    go_ret
    exact ⟨ret_bool (by rfl), rfl⟩
  · have h1 : 0 < s.size := by omega
    rw [valid_of h1]
    have he : s.toList.isEmpty = false := by rw [ByteArray.toList_eq]; exact List.isEmpty_eq_false_iff.2 (ne_of_size h0)
    go_enter Try.func22, Try.ntmps22
    go_wp2
    all_goals go_ret
    all_goals refine ⟨ret_bool ?_, rfl⟩
    all_goals rw [Bool.eq_iff_iff]
    all_goals simp_all
    all_goals omega

set_option maxRecDepth 100000 in
set_option maxHeartbeats 2000000 in
theorem refValid_any (s : ByteArray) (w : World) (hs : s.size ≤ 9223372036854775807) :
    Calls Try.prog 26 #[.string s] w fun e w' => e = .returned (.bool (Pl.valid s.data.toList)) ∧ w = w' := by
  by_cases h0 : s.size = 0
  · rw [valid_nil h0]
    obtain rfl : s = ⟨#[]⟩ := by
      rcases s with ⟨⟨l⟩⟩
      simp [ByteArray.size] at h0
      rw [h0]
    go_enter Try.func26, Try.ntmps26
    go_wp2
    go_ret
    exact ⟨ret_bool (by rfl), rfl⟩
  · have h1 : 0 < s.size := by omega
    rw [valid_of h1]
    have he : s.toList.isEmpty = false := by rw [ByteArray.toList_eq]; exact List.isEmpty_eq_false_iff.2 (ne_of_size h0)
    go_enter Try.func26, Try.ntmps26
    go_wp2
    all_goals go_ret
    all_goals refine ⟨ret_bool ?_, rfl⟩
    all_goals rw [Bool.eq_iff_iff]
    all_goals simp_all
    all_goals omega

theorem bit_eq (x : Nat) (j : Nat) : (((x : Int) / 2 ^ j).tmod 2 == 1) = x.testBit j := by
  rw [Nat.testBit_eq_decide_div_mod_eq]
  have e : (x : Int) / 2 ^ j = ((x / 2 ^ j : Nat) : Int) := by rw [Int.natCast_ediv]; simp
  rw [e, Int.tmod_eq_emod_of_nonneg (Int.natCast_nonneg _), show (((x / 2 ^ j : Nat) : Int) % 2) = ((x / 2 ^ j % 2 : Nat) : Int) from by omega, Bool.eq_iff_iff]
  simp
  omega
theorem has_at (s : ByteArray) (i : Nat) (h : 1 + i / 8 < s.size) : Pl.hasBit s.data.toList i = (s[1 + i / 8].toNat).testBit (i % 8) := by
  unfold Pl.hasBit
  rw [List.getElem?_eq_getElem (by rw [Pl.size_data]; exact h)]; rfl

set_option maxRecDepth 100000 in
set_option maxHeartbeats 2000000 in
theorem bit_any (s : ByteArray) (i : Nat) (w : World) (hs : s.size ≤ 140737488355328) (hi : 1 + i / 8 < s.size) :
    Calls Try.prog 44 #[.string s, .int .i64 (i : Int)] w fun e w' => e = .returned (.bool (Pl.hasBit s.data.toList i)) ∧ w = w' := by
  have hw1 : IntKind.i64.wrap (1 + (i : Int) / 8) = 1 + (i : Int) / 8 := IntWalk.i64_in _ (by omega)
  have hw2 : (0 : Int) ≤ 1 + (i : Int) / 8 := by omega
  have hw3 : 1 + (i : Int) / 8 < (s.size : Int) := by omega
  have hw4 : (1 + (i : Int) / 8).toNat = 1 + i / 8 := by omega
  go_enter Try.func44, Try.ntmps44
  go_wp2
  go_ret
  exact ⟨ret_bool (by rw [has_at s i hi, ← bit_eq]), rfl⟩

theorem ret_two {a b c d : Int} (h : a = b) (g : c = d) : Ending.returned (.tuple #[.int .i64 a, .int .i64 c]) = .returned (.tuple #[.int .i64 b, .int .i64 d]) := by rw [h, g]
/-- a filter that is read: not empty, and valid -/
structure Good (s : ByteArray) : Prop where
  size : 9 ≤ s.size
  top : s.size ≤ 140737488355328
theorem good_of {s : ByteArray} (h : Pl.valid s.data.toList = true) (h0 : s.size ≠ 0) (hs : s.size ≤ 140737488355328) : Good s ∧ ∃ k : Nat, 1 ≤ k ∧ k ≤ 30 ∧ ∃ h : 0 < s.size, s[0].toNat = k := by
  rw [valid_of (show 0 < s.size by omega)] at h
  simp only [Bool.and_eq_true, decide_eq_true_eq] at h
  exact ⟨⟨h.1.1, hs⟩, _, h.1.2, h.2, by omega, rfl⟩
theorem load_good {s : ByteArray} (h : Pl.valid s.data.toList = true) (h0 : s.size ≠ 0) : Pl.load s.data.toList = (Pl.cnt s.data.toList (8 * (s.size - 1)), 8 * (s.size - 1)) := by
  unfold Pl.load
  rw [if_neg (by rintro (h' | h'); rw [h] at h'; cases h'; exact ne_of_size h0 h'), Pl.size_data]
theorem load_bad {s : ByteArray} (h : Pl.valid s.data.toList = false ∨ s.size = 0) : Pl.load s.data.toList = (0, 0) := by
  unfold Pl.load
  rw [if_pos (by rcases h with h | h; exact .inl h; exact .inr (nil_of_size h))]
theorem isEmpty_of {s : ByteArray} (h : s.size ≠ 0) : s.toList.isEmpty = false := by rw [ByteArray.toList_eq]; exact List.isEmpty_eq_false_iff.2 (ne_of_size h)
theorem isEmpty_of' {s : ByteArray} (h : s.size = 0) : s.toList.isEmpty = true := by rw [ByteArray.toList_eq, nil_of_size h]; rfl

set_option maxRecDepth 100000 in
set_option maxHeartbeats 2000000 in
theorem load_any (s : ByteArray) (w : World) (hs : s.size ≤ 140737488355328) :
    Calls Try.prog 23 #[.string s] w fun e w' => e = .returned (.tuple #[.int .i64 ((Pl.load s.data.toList).1 : Nat), .int .i64 ((Pl.load s.data.toList).2 : Nat)]) ∧ w = w' := by
  have P1 := Lib.hid (fun w => valid_any s w (by omega))
  by_cases h0 : s.size = 0
  · rw [load_bad (.inr h0)]
    have he := isEmpty_of' h0
    go_enter Try.func23, Try.ntmps23
    go_wp2_with fail
    go_ret2
    exact ⟨rfl, rfl⟩
  · have he := isEmpty_of h0
    cases hv : Pl.valid s.data.toList with
    | false =>
      rw [load_bad (.inl hv)]
      rw [hv] at P1
      go_enter Try.func23, Try.ntmps23
      go_wp2_with fail
      refine (P1.out _).mono ?_
      rintro e w1 ⟨rfl, rfl⟩
      go_wp2
      go_ret2
      exact ⟨rfl, rfl⟩
    | true =>
      rw [load_good hv h0]
      rw [hv] at P1
      obtain ⟨hg, k, hk1, hk2, hk0, hk3⟩ := good_of hv h0 hs
      have h9 := hg.size
      clear hg hk1 hk2 hk0 hk3 hv
      have P2 := Lib.hid (fun x w => ones_any x w)
      go_enter Try.func23, Try.ntmps23
      go_wp2_with fail
      refine (P1.out _).mono ?_
      rintro e w1 ⟨rfl, rfl⟩
      go_wp2
      go_loop [4, 5] (fun c i => ∃ j n : Nat, 1 ≤ j ∧ j ≤ s.size ∧ n ≤ 8 * (j - 1) ∧ i = .int .i64 j ∧ c = .int .i64 n ∧ Hid (n = Pl.cnt s.data.toList (8 * (j - 1)))) (fun _ i => s.size - (intOf i).toNat)
      case atStart => exact ⟨1, 0, by omega, by omega, by omega, rfl, rfl, rfl⟩
      case round =>
        obtain ⟨j, n, hj1, hj, hn, rfl, rfl, H⟩ := hrel
        by_cases hjk : j < s.size
        · have hc := Pl.cnt_byte s.data.toList (j - 1) (by rw [Pl.size_data]; omega)
          have hb : s.data.toList[1 + (j - 1)]'(by rw [Pl.size_data]; omega) = s[j] := by
            simp only [show 1 + (j - 1) = j from by omega]; rfl
          rw [hb, show 8 * (j - 1 + 1) = 8 * j from by omega, ← H.out] at hc
          have hle := Pl.cnt_le s.data.toList (8 * j)
          have ho : Lib.onesCount s[j].toNat ≤ 8 := Lib.onesCount_le8 ⟨s[j].toNat, s[j].toNat_lt⟩
          replace hc := Lib.hid hc
          go_wp2_with fail
          refine (P2.out _ _).mono ?_
          rintro e w1 ⟨rfl, rfl⟩
          generalize Lib.onesCount (s[j]'hjk).toNat = o at hc ho ⊢
          go_wp2
          go_round
          case rel => exact ⟨j + 1, n + o, by omega, by omega, by omega, by go_num, by go_num, by
            show n + o = _
            rw [show j + 1 - 1 = j from by omega, hc.out]⟩
          case measure => simp [intOf]; omega
        · obtain rfl : j = s.size := by omega
          go_wp2
          go_ret2
          exact ⟨ret_two (by rw [H.out]) (by omega), rfl⟩

set_option maxRecDepth 100000 in
set_option maxHeartbeats 2000000 in
theorem refLoad_any (s : ByteArray) (w : World) (hs : s.size ≤ 140737488355328) :
    Calls Try.prog 24 #[.string s] w fun e w' => e = .returned (.tuple #[.int .i64 ((Pl.load s.data.toList).1 : Nat), .int .i64 ((Pl.load s.data.toList).2 : Nat)]) ∧ w = w' := by
  have P1 := Lib.hid (fun w => refValid_any s w (by omega))
  cases hv : Pl.valid s.data.toList with
  | false =>
    rw [load_bad (.inl hv)]
    rw [hv] at P1
    go_enter Try.func24, Try.ntmps24
    go_wp2_with fail
    refine (P1.out _).mono ?_
    rintro e w1 ⟨rfl, rfl⟩
    go_wp2
    go_ret2
    exact ⟨rfl, rfl⟩
  | true =>
    by_cases h0 : s.size = 0
    · rw [load_bad (.inr h0)]
      have he := isEmpty_of' h0
      rw [hv] at P1
      go_enter Try.func24, Try.ntmps24
      go_wp2_with fail
      refine (P1.out _).mono ?_
      rintro e w1 ⟨rfl, rfl⟩
      go_wp2
      go_ret2
      exact ⟨rfl, rfl⟩
    · have he := isEmpty_of h0
      rw [load_good hv h0]
      rw [hv] at P1
      obtain ⟨hg, k, hk1, hk2, hk0, hk3⟩ := good_of hv h0 hs
      have h9 := hg.size
      clear hg hk1 hk2 hk0 hk3 hv
      obtain ⟨m, hm⟩ : ∃ m, m = s.size - 1 := ⟨_, rfl⟩
      have hm1 : (s.size : Int) - 1 = (m : Int) := by omega
      have P2 := Lib.hid (fun i w hi => bit_any s i w hs hi)
      rw [← hm]
      go_enter Try.func24, Try.ntmps24
      go_wp2_with fail
      refine (P1.out _).mono ?_
      rintro e w1 ⟨rfl, rfl⟩
      go_wp2
      go_loop [6, 7, 8] (fun c i _ => ∃ j n : Nat, j ≤ 8 * m ∧ n ≤ j ∧ i = .int .i64 j ∧ c = .int .i64 n ∧ Hid (n = Pl.cnt s.data.toList j)) (fun _ i _ => 8 * m - (intOf i).toNat)
      case atStart => exact ⟨0, 0, by omega, by omega, rfl, rfl, rfl⟩
      case round =>
        obtain ⟨j, n, hj, hn, rfl, rfl, H⟩ := hrel
        have hc : Hid (Pl.cnt s.data.toList (j + 1) = Pl.cnt s.data.toList j + (Pl.hasBit s.data.toList j).toNat) := by show _ = _; rfl
        have hle := Pl.cnt_le s.data.toList j
        rw [← H.out] at hle hc
        by_cases hjk : j < 8 * m
        · go_wp2_with fail
          refine (P2.out _ _ (by omega)).mono ?_
          rintro e w1 ⟨rfl, rfl⟩
          cases hb : Pl.hasBit s.data.toList j with
          | true =>
            rw [hb] at hc
            go_wp2
            go_round
            case rel => exact ⟨j + 1, n + 1, by omega, by omega, by go_num, by go_num, hc.out.symm⟩
            case measure => simp [intOf]; omega
          | false =>
            rw [hb] at hc
            go_wp2
            go_round
            case rel => exact ⟨j + 1, n, by omega, by omega, by go_num, rfl, hc.out.symm⟩
            case measure => simp [intOf]; omega
        · obtain rfl : j = 8 * m := by omega
          go_wp2
          go_ret2
          exact ⟨ret_two (by rw [H.out, hm]) (by omega), rfl⟩
end Go.Proofs.Ytcfcijgnkbmlaaa
