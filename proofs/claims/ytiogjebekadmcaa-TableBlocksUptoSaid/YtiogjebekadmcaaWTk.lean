
/- Walks: versions' places as bytes. Condition: lengths that the form's reach lets. -/
import Derived.Test.YtiogjebekadmcaaPlainTk
import Derived.Test.YtiogjebekadmcaaWLess
import Derived.Test.YtiogjebekadmcaaWKeyText
import Derived.Test.YtiogjebekadmcaaWRefKey
import Derived.Test.YtiogjebekadmcaaWTake4
import Derived.Test.YtiogjebekadmcaaWTake3
import Derived.Test.YtiogjebekadmcaaWBig
import Derived.Test.YtiogjebekadmcaaExt
namespace Go.Proofs.Ytiogjebekadmcaa
open Go.RowKit

theorem isEmpty_data (s : ByteArray) : s.toList.isEmpty = decide (s.data.toList = []) := by
  rw [ByteArray.toList_eq]
  cases h : s.data.toList <;> simp
theorem size_nil (s : ByteArray) : (s.data.toList = []) ↔ s.size = 0 := by
  rw [← Pl.size_data, List.length_eq_zero_iff]
theorem toList_nil (s : ByteArray) : s.toList = [] ↔ s = ByteArray.empty := by
  rw [ByteArray.toList_eq, size_nil]
  constructor
  · intro h
    rcases s with ⟨⟨l⟩⟩
    simp [ByteArray.size] at h
    rw [h]; rfl
  · rintro rfl; rfl
/-- a version as a value -/
def vv (k v : ByteArray) (s : Nat) (d : Bool) : Value := .agg #[.string k, .int .u64 (s : Int), .bool d, .string v]

set_option maxRecDepth 100000 in
set_option maxHeartbeats 4000000 in
theorem tmay_any (k v : ByteArray) (s : Nat) (d : Bool) (w : World) :
    Calls Try.prog 50 #[.agg #[.string k, .int .u64 (s : Int), .bool d, .string v]] w fun e w' => e = .returned (.bool (Pl.mayV k.data.toList v.data.toList s d)) ∧ Below w.heap.size w w' := by
  have ⟨f0, f1, f2, f3, fB⟩ := VrAt.new w k (s : Int) d v 44
  unfold Pl.mayV
  rw [Pl.size_data, Pl.size_data]
  simp only [ne_eq, size_nil]
  go_enter Try.func50, Try.ntmps50
  go_wp2
  all_goals go_ret
  all_goals refine ⟨ret_bool ?_, (Below.refl _ _).alloc (Nat.le_refl _) _⟩
  all_goals have g1 : (k.toList = []) ↔ (k = ByteArray.empty) := toList_nil k
  all_goals have g2 : (v.toList = []) ↔ (v = ByteArray.empty) := toList_nil v
  all_goals rw [Bool.eq_iff_iff]
  all_goals simp_all
  all_goals have g3 : (k.size = 0) ↔ (k = ByteArray.empty) := by rw [← size_nil, ← ByteArray.toList_eq]; exact toList_nil k
  all_goals grind

set_option maxRecDepth 100000 in
set_option maxHeartbeats 4000000 in
theorem refMay_any (k v : ByteArray) (s : Nat) (d : Bool) (w : World) :
    Calls Try.prog 55 #[.agg #[.string k, .int .u64 (s : Int), .bool d, .string v]] w fun e w' => e = .returned (.bool (Pl.mayV k.data.toList v.data.toList s d)) ∧ Below w.heap.size w w' := by
  have ⟨f0, f1, f2, f3, fB⟩ := VrAt.new w k (s : Int) d v 44
  unfold Pl.mayV
  rw [Pl.size_data, Pl.size_data]
  simp only [ne_eq, size_nil]
  go_enter Try.func55, Try.ntmps55
  go_wp2
  all_goals go_ret
  all_goals refine ⟨ret_bool ?_, (Below.refl _ _).alloc (Nat.le_refl _) _⟩
  all_goals have g1 : (k.toList = []) ↔ (k = ByteArray.empty) := toList_nil k
  all_goals have g2 : (v.toList = []) ↔ (v = ByteArray.empty) := toList_nil v
  all_goals rw [Bool.eq_iff_iff]
  all_goals simp_all
  all_goals have g3 : (k.size = 0) ↔ (k = ByteArray.empty) := by rw [← size_nil, ← ByteArray.toList_eq]; exact toList_nil k
  all_goals grind

theorem or1 (s : Nat) (h : s < 4611686018427387904) : bits .or .u64 ((s : Int) * 2) 1 = ((Pl.numV s true : Nat) : Int) := by
  have e := Nat.two_pow_add_eq_or_of_lt (i := 1) (b := 1) (by omega) s
  rw [show (s : Int) * 2 = ((2 * s : Nat) : Int) from by omega, show (1 : Int) = ((1 : Nat) : Int) from rfl, u64_or_nat _ _ (by omega) (by omega)]
  rw [Nat.pow_one] at e
  rw [← e]; rfl
theorem comp_eq (N : Nat) (h : N ≤ 18446744073709551615) : bits .xor .u64 (if IntKind.u64.signed = true then -1 else IntKind.u64.max) (N : Int) = ((18446744073709551615 - N : Nat) : Int) := by
  have e : (if IntKind.u64.signed = true then (-1 : Int) else IntKind.u64.max) = ((18446744073709551615 : Nat) : Int) := by decide
  rw [e, u64_xor_nat _ _ (by omega) (by omega)]
  have := Pl.xor_ones64 N (by omega)
  rw [Nat.xor_comm] at this
  exact congrArg Int.ofNat this
theorem comp_byte (N e : Nat) (h : N ≤ 18446744073709551615) : UInt8.ofNat (bits .xor .u64 (if IntKind.u64.signed = true then -1 else IntKind.u64.max) (N : Int) / 2 ^ e % 256).toNat = UInt8.ofNat ((18446744073709551615 - N) / 2 ^ e) := by
  rw [comp_eq N h]
  have h1 : ((18446744073709551615 - N : Nat) : Int) / 2 ^ e = (((18446744073709551615 - N) / 2 ^ e : Nat) : Int) := by rw [Int.natCast_ediv]; simp
  rw [h1]
  apply UInt8.toNat_inj.1
  rw [UInt8.toNat_ofNat', UInt8.toNat_ofNat']
  omega
theorem big_get (C j : Nat) (h : j < 8) : (Pl.big C)[j]'(by rw [Pl.big_length]; exact h) = UInt8.ofNat (C / 2 ^ (8 * (7 - j))) := by
  match j, h with
  | 0, _ => rfl
  | 1, _ => rfl
  | 2, _ => rfl
  | 3, _ => rfl
  | 4, _ => rfl
  | 5, _ => rfl
  | 6, _ => rfl
  | 7, _ => simp [Pl.big]

set_option maxRecDepth 100000 in
set_option maxHeartbeats 4000000 in
theorem encKey_any (k v : ByteArray) (s : Nat) (d : Bool) (w : World) :
    Calls Try.prog 25 #[.agg #[.string k, .int .u64 (s : Int), .bool d, .string v]] w fun e w' => e = .returned (.string ⟨(Pl.encKey k.data.toList v.data.toList s d).toArray⟩) ∧ Below w.heap.size w w' := by
  have v0 := VrAt.new w k (s : Int) d v 44
  have hb0 : Below w.heap.size w (w.alloc (.cells #[.string k, .int .u64 (s : Int), .bool d, .string v] 44)) := (Below.refl _ w).alloc (Nat.le_refl _) _
  have P1 := Lib.hid (fun w => tmay_any k v s d w)
  unfold Pl.encKey
  cases hm : Pl.mayV k.data.toList v.data.toList s d with
  | false =>
    rw [hm] at P1
    rw [if_neg (by simp)]
    clear hm
    have ⟨f0, f1, f2, f3, fB⟩ := v0
    go_enter Try.func25, Try.ntmps25
    go_wp2_with fail
    refine (P1.out _).mono ?_
    rintro e w1 ⟨rfl, b1⟩
    go_wp2
    go_ret
    exact ⟨rfl, hb0.trans (b1.mono hb0.size)⟩
  | true =>
    rw [hm] at P1
    rw [if_pos rfl]
    have hs := Pl.mayV_seq hm
    have hl := Pl.mayV_len hm
    rw [Pl.size_data] at hl
    have hd := Pl.bool_le d
    have P2 := Lib.hid (fun w => keyText_any k w (by omega))
    have hkl := Pl.esc_length k.data.toList
    have hkl2 : (Pl.keyText k.data.toList).length ≤ 194 := by rw [Pl.keyText, List.length_append]; rw [Pl.size_data] at hkl; simp; omega
    clear hm hkl
    generalize Pl.keyText k.data.toList = K at P2 hkl2 ⊢
    have hN : Pl.numV s d ≤ 2251799813685249 := by unfold Pl.numV; omega
    obtain ⟨N, hNe⟩ : ∃ N, N = Pl.numV s d := ⟨_, rfl⟩
    rw [← hNe] at hN ⊢
    have hN2 : d = false → (s : Int) * 2 = (N : Int) := by rintro rfl; rw [hNe]; unfold Pl.numV; simp; omega
    have hN3 : d = true → bits .or .u64 ((s : Int) * 2) 1 = (N : Int) := by rintro rfl; rw [hNe]; exact or1 s (by omega)
    replace hN2 := Lib.hid hN2
    replace hN3 := Lib.hid hN3
    clear hNe
    have ⟨f0, f1, f2, f3, fB⟩ := v0
    go_enter Try.func25, Try.ntmps25
    go_wp2_with fail
    refine (P1.out _).mono ?_
    rintro e w1 ⟨rfl, b1⟩
    have v1 := v0.kept b1
    clear f0 f1 f2 f3 fB
    have ⟨f0, f1, f2, f3, fB⟩ := v1
    cases d
    all_goals go_wp2_with fail
    all_goals first | rw [hN2.out (by trivial)] | rw [hN3.out (by trivial)]
    all_goals
      clear hN2 hN3
      refine (P2.out _).mono ?_
      rintro e w2 ⟨rfl, b2⟩
      have hb2 := hb0.trans ((b1.trans (b2.mono b1.size)).mono hb0.size)
      go_wp2_with (refine wpList_bytes_ext (by rfl) _ 9 90 5 (by rfl) Try.underlying9 Try.underlying90 Try.underlying5 K (by rfl) w.heap.size w hb2.size hb2 (by omega) ?_; intro v3 w3 hx3)
      go_loopw [4, 5] (fun v i wr => ∃ j : Nat, j ≤ 8 ∧ i = .int .i64 (7 - (j : Int)) ∧ Ext w.heap.size 5 w v (K ++ (Pl.big (18446744073709551615 - N)).take j) wr) (fun _ i _ => ((intOf i) + 1).toNat)
      case atStart => exact ⟨0, by omega, rfl, by simpa using hx3⟩
      case round =>
        obtain ⟨j, hj, rfl, hE⟩ := hrel
        by_cases hj8 : j < 8
        · go_wp2_with (at_builtin; go_must (refine wpList_app_ext (by rfl) _ _ 90 (by rfl) w.heap.size 5 Try.underlying90 info_u8 _ _ _ w _ hE (by rfl) (by rfl) (by omega) (by simp [Pl.big_length]; omega) ?_; intro v' w4 hx4))
          rw [comp_byte N (8 * (7 - j)) (by omega)] at hx4
          go_roundw
          case rel => exact ⟨j + 1, by omega, by go_num, by
            rw [List.take_succ_eq_append_getElem (by rw [Pl.big_length]; exact hj8), ← List.append_assoc, big_get _ _ hj8]
            exact hx4⟩
          case measure => simp [intOf]; omega
        · obtain rfl : j = 8 := by omega
          have h7 : (7 : Int) - ((8 : Nat) : Int) = -1 := by omega
          rw [h7]
          rw [List.take_of_length_le (by rw [Pl.big_length]; omega)] at hE
          go_wp2_with (refine wpList_str_ext (by rfl) _ 90 9 5 (by rfl) Try.underlying90 Try.underlying5 Try.underlying9 (by rfl) (by exact hE) ?_)
          go_ret
          exact ⟨rfl, hE.below⟩

set_option maxRecDepth 100000 in
set_option maxHeartbeats 4000000 in
theorem refEncKey_any (k v : ByteArray) (s : Nat) (d : Bool) (w : World) :
    Calls Try.prog 28 #[.agg #[.string k, .int .u64 (s : Int), .bool d, .string v]] w fun e w' => e = .returned (.string ⟨(Pl.encKey k.data.toList v.data.toList s d).toArray⟩) ∧ Below w.heap.size w w' := by
  have v0 := VrAt.new w k (s : Int) d v 44
  have hb0 : Below w.heap.size w (w.alloc (.cells #[.string k, .int .u64 (s : Int), .bool d, .string v] 44)) := (Below.refl _ w).alloc (Nat.le_refl _) _
  have P1 := Lib.hid (fun w => refMay_any k v s d w)
  unfold Pl.encKey
  cases hm : Pl.mayV k.data.toList v.data.toList s d with
  | false =>
    rw [hm] at P1
    rw [if_neg (by simp)]
    clear hm
    have ⟨f0, f1, f2, f3, fB⟩ := v0
    go_enter Try.func28, Try.ntmps28
    go_wp2_with fail
    refine (P1.out _).mono ?_
    rintro e w1 ⟨rfl, b1⟩
    go_wp2
    go_ret
    exact ⟨rfl, hb0.trans (b1.mono hb0.size)⟩
  | true =>
    rw [hm] at P1
    rw [if_pos rfl]
    have hs := Pl.mayV_seq hm
    have hl := Pl.mayV_len hm
    rw [Pl.size_data] at hl
    have hd := Pl.bool_le d
    have P2 := Lib.hid (fun w => refKeyText_any k w (by omega))
    have hkl := Pl.esc_length k.data.toList
    have hkl2 : (Pl.keyText k.data.toList).length ≤ 194 := by rw [Pl.keyText, List.length_append]; rw [Pl.size_data] at hkl; simp; omega
    clear hm hkl
    generalize Pl.keyText k.data.toList = K at P2 hkl2 ⊢
    have hN : Pl.numV s d ≤ 2251799813685249 := by unfold Pl.numV; omega
    obtain ⟨N, hNe⟩ : ∃ N, N = Pl.numV s d := ⟨_, rfl⟩
    rw [← hNe] at hN ⊢
    have hN2 : d = false → 2 * (s : Int) = (N : Int) := by rintro rfl; rw [hNe]; unfold Pl.numV; simp
    have hN3 : d = true → 2 * (s : Int) + 1 = (N : Int) := by rintro rfl; rw [hNe]; unfold Pl.numV; simp
    replace hN2 := Lib.hid hN2
    replace hN3 := Lib.hid hN3
    clear hNe
    have hl5 : (Pl.big (18446744073709551615 - N)).length ≤ 8 := Nat.le_refl _
    have P3 := Lib.hid (fun w => refBig_any (18446744073709551615 - N) w (.mk' (by omega)))
    have hC : Hid (bits .xor .u64 IntKind.u64.max (N : Int) = ((18446744073709551615 - N : Nat) : Int)) := comp_eq N (by omega)
    have ⟨f0, f1, f2, f3, fB⟩ := v0
    go_enter Try.func28, Try.ntmps28
    go_wp2_with fail
    refine (P1.out _).mono ?_
    rintro e w1 ⟨rfl, b1⟩
    have v1 := v0.kept b1
    clear f0 f1 f2 f3 fB
    have ⟨f0, f1, f2, f3, fB⟩ := v1
    cases d
    all_goals go_wp2_with fail
    all_goals first | rw [hN2.out (by trivial)] | rw [hN3.out (by trivial)]
    all_goals
      clear hN2 hN3
      refine (P2.out _).mono ?_
      rintro e w2 ⟨rfl, b2⟩
      have hb2 := hb0.trans ((b1.trans (b2.mono b1.size)).mono hb0.size)
      go_wp2_with fail
      rw [hC.out]
      refine (P3.out _).mono ?_
      rintro e w3 ⟨rfl, b3⟩
      go_wp2
      go_ret
      exact ⟨ret_str (by apply ByteArray.ext; simp), hb2.trans (b3.mono hb2.size)⟩
end Go.Proofs.Ytiogjebekadmcaa
