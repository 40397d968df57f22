/- Walk: the law CodecRises returns true. Condition: texts of at most 2 to the 44 bytes. -/
import Derived.Test.YtlchkpmmemdjcaaLBack
import Derived.Test.YtlchkpmmemdjcaaWCommon
namespace Go.Proofs.Ytlchkpmmemdjcaa
open Go.RowKit

set_option maxRecDepth 100000 in
set_option maxHeartbeats 2000000 in
theorem codecRises_any (n n' : Nat) (m m' : Int) (s r s' r' : ByteArray) (w : World) (hm0 : -9223372036854775808 ≤ m) (hm1 : m ≤ 9223372036854775807) (hm0' : -9223372036854775808 ≤ m') (hm1' : m' ≤ 9223372036854775807)
    (hs : s.size ≤ 17592186044416) (hr : r.size ≤ 17592186044416) (hs' : s'.size ≤ 17592186044416) (hr' : r'.size ≤ 17592186044416) :
    Calls Try.prog 4 #[.agg #[.int .u64 n, .int .i64 m, .string s, .string r], .agg #[.int .u64 n', .int .i64 m', .string s', .string r']] w fun e w' => e = .returned (.bool true) ∧ Below w.heap.size w w' := by
  have hl4 : (Pl.keyText s.data.toList).length ≤ 35184372088834 := by
    have := Pl.esc_length s.data.toList
    rw [Pl.size_data] at this
    rw [Pl.keyText, List.length_append]; simp; omega
  have hl4' : (Pl.keyText s'.data.toList).length ≤ 35184372088834 := by
    have := Pl.esc_length s'.data.toList
    rw [Pl.size_data] at this
    rw [Pl.keyText, List.length_append]; simp; omega
  have hl5 : (Pl.big (Pl.up m)).length ≤ 8 := Nat.le_refl _
  have hl5' : (Pl.big (Pl.up m')).length ≤ 8 := Nat.le_refl _
  have hb0 : Below w.heap.size w ((w.alloc (.cells #[.int .u64 n, .int .i64 m, .string s, .string r] 28)).alloc (.cells #[.int .u64 n', .int .i64 m', .string s', .string r'] 28)) := ((Below.refl _ w).alloc (Nat.le_refl _) _).alloc (by simp) _
  have th0 := (Th.new w n m s r 28).kept ((Below.refl _ _).alloc (Nat.le_refl _) (.cells #[.int .u64 n', .int .i64 m', .string s', .string r'] 28))
  have sh0 := Th.new (w.alloc (.cells #[.int .u64 n, .int .i64 m, .string s, .string r] 28)) n' m' s' r' 28
  rw [World.size_alloc] at sh0
  have P1 := Lib.hid (fun w => keyInt_any m w hm0 hm1)
  have P2 := Lib.hid (fun w => keyInt_any m' w hm0' hm1')
  have P3 := Lib.hid (fun w => keyText_any s w (by omega))
  have P4 := Lib.hid (fun w => keyText_any s' w (by omega))
  have HU := Lib.hid (Pl.up_le hm0 hm1)
  have HU' := Lib.hid (Pl.up_le hm0' hm1')
  have HM := Lib.hid (show -9223372036854775808 ≤ m from hm0)
  have HM' := Lib.hid (show -9223372036854775808 ≤ m' from hm0')
  have HB : ¬ m = m' → Op.bytesLess (({ data := (Pl.big (Pl.up m)).toArray } : ByteArray) ++ r).toList (({ data := (Pl.big (Pl.up m')).toArray } : ByteArray) ++ r').toList = decide (m < m') := by
    intro hne
    rw [ByteArray.toList_eq, ByteArray.toList_eq, data_mk_append, data_mk_append, Pl.big_less _ _ _ _ HU.out HU'.out (by unfold Pl.up; omega)]
    have h1 : Pl.up m < Pl.up m' ↔ m < m' := by unfold Pl.up; omega
    simp [h1]
  have HT : ¬ s.data.toList = s'.data.toList → Op.bytesLess (({ data := (Pl.keyText s.data.toList).toArray } : ByteArray) ++ r).toList (({ data := (Pl.keyText s'.data.toList).toArray } : ByteArray) ++ r').toList = Op.bytesLess s.toList s'.toList ∧
      Pl.common (Pl.keyText s.data.toList) (Pl.keyText s'.data.toList) < (Pl.keyText s.data.toList).length ∧ Pl.common (Pl.keyText s.data.toList) (Pl.keyText s'.data.toList) < (Pl.keyText s'.data.toList).length := by
    intro hne
    have h := Pl.esc_less r.data.toList r'.data.toList _ _ hne
    refine ⟨?_, h.2⟩
    rw [ByteArray.toList_eq, ByteArray.toList_eq, ByteArray.toList_eq s, ByteArray.toList_eq s', data_mk_append, data_mk_append, ← h.1, Pl.keyText, Pl.keyText]
    simp
  clear hm0 hm1 hm0' hm1'
  go_enter Try.func4, Try.ntmps4
  go_wp2_with fail
  refine (P1.out _).mono ?_
  rintro e w1 ⟨rfl, b1⟩
  have th1 := th0.kept b1
  have sh1 := sh0.kept b1
  have ⟨f0, f1, f2, f3, fB⟩ := th1
  have ⟨g0, g1, g2, g3, gB⟩ := sh1
  go_wp2_with fail
  refine (P2.out _).mono ?_
  rintro e w2 ⟨rfl, b2⟩
  have th2 := th1.kept b2
  have sh2 := sh1.kept b2
  clear f0 f1 f2 f3 fB g0 g1 g2 g3 gB
  have ⟨f0, f1, f2, f3, fB⟩ := th2
  have ⟨g0, g1, g2, g3, gB⟩ := sh2
  go_wp2_with fail
  all_goals
    refine (P3.out _).mono ?_
    rintro e w3 ⟨rfl, b3⟩
    have th3 := th2.kept b3
    have sh3 := sh2.kept b3
    clear f0 f1 f2 f3 fB g0 g1 g2 g3 gB
    have ⟨f0, f1, f2, f3, fB⟩ := th3
    have ⟨g0, g1, g2, g3, gB⟩ := sh3
    go_wp2_with fail
    refine (P4.out _).mono ?_
    rintro e w4 ⟨rfl, b4⟩
    have th4 := th3.kept b4
    have sh4 := sh3.kept b4
    clear f0 f1 f2 f3 fB g0 g1 g2 g3 gB
    have ⟨f0, f1, f2, f3, fB⟩ := th4
    have ⟨g0, g1, g2, g3, gB⟩ := sh4
    have hz := hb0.size
    have hB4 : Below w.heap.size w w4 := below_seq (below_seq (below_seq (below_seq hb0 b1) b2) b3) b4
    go_wp2_with (go_at_call 15; refine (refCommon_any _ _ _ (by show (Pl.keyText s.data.toList).toArray.size ≤ _; simp; omega) (by show (Pl.keyText s'.data.toList).toArray.size ≤ _; simp; omega)).mono ?_; rintro e w5 ⟨rfl, q5⟩; have th5 := th4.kept (q5.below _); have sh5 := sh4.kept (q5.below _); clear f0 f1 f2 f3 fB g0 g1 g2 g3 gB; have ⟨f0, f1, f2, f3, fB⟩ := th5; have ⟨g0, g1, g2, g3, gB⟩ := sh5)
    go_ways
    all_goals first
      | (have hq : (s.toList == s'.toList) = true := by assumption
         have hq2 : s.data.toList = s'.data.toList := by rw [ByteArray.toList_eq, ByteArray.toList_eq] at hq; simpa using hq
         first
           | (exfalso
              have hq3 : ¬ Pl.keyText s.data.toList = Pl.keyText s'.data.toList := by assumption
              exact hq3 (by rw [hq2]))
           | (go_ret
              exact ⟨ret_bool (by simp), hB4⟩))
      | (have hq : (s.toList == s'.toList) = false := by assumption
         have hq2 : ¬ s.data.toList = s'.data.toList := by rw [ByteArray.toList_eq, ByteArray.toList_eq] at hq; simpa using hq
         obtain ⟨e1, e2, e3⟩ := HT hq2
         first
           | (exfalso
              have hq3 : ¬ Pl.common (Pl.keyText s.data.toList) (Pl.keyText s'.data.toList) < (Pl.keyText s.data.toList).length := by assumption
              exact hq3 e2)
           | (exfalso
              have hq3 : ¬ Op.bytesLess s.toList s'.toList = Op.bytesLess (({ data := (Pl.keyText s.data.toList).toArray } : ByteArray) ++ r).toList (({ data := (Pl.keyText s'.data.toList).toArray } : ByteArray) ++ r').toList := by assumption
              exact hq3 e1.symm)
           | (go_ret
              exact ⟨ret_bool (by simp [e3]), below_seq hB4 ((by assumption : Q w4 _).below _)⟩))
end Go.Proofs.Ytlchkpmmemdjcaa
