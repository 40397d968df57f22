/- Walk: the law CodecBehind returns true for every two texts. Condition: lengths that are ints. -/
import Derived.Test.YtlchkpmmemdjcaaWBehind
import Derived.Test.YtlchkpmmemdjcaaWCommon
import Derived.Test.YtlchkpmmemdjcaaPlainE
namespace Go.Proofs.Ytlchkpmmemdjcaa
open Go.RowKit

set_option maxRecDepth 100000 in
set_option maxHeartbeats 400000 in
theorem codecBehind_any (s t : ByteArray) (w : World) (hs : s.size ≤ 9223372036854775800) (ht : t.size ≤ 9223372036854775800) :
    Calls Try.prog 3 #[.string s, .string t] w fun e w' => e = .returned (.bool true) ∧ Below w.heap.size w w' := by
  go_enter Try.func3, Try.ntmps3
  go_wp2_with fail
  refine (common_any s t _ (by omega) (by omega)).mono ?_
  rintro e w1 ⟨rfl, q1⟩
  go_wp2_with fail
  refine (refCommon_any s t _ (by omega) (by omega)).mono ?_
  rintro e w2 ⟨rfl, q2⟩
  go_wp2_with fail
  refine (behind_any s _ (by omega)).mono ?_
  rintro e w3 ⟨rfl, b3⟩
  go_wp2_with (go_at_call 17; refine (below_any s _ (by omega)).mono ?_; rintro e w4 ⟨rfl, rfl⟩)
  all_goals go_ret
  all_goals refine ⟨ret_bool ?_, ((q1.trans q2).below _).trans (b3.mono (by obtain ⟨n, rfl⟩ := q1; obtain ⟨m, rfl⟩ := q2; exact Nat.le_refl _))⟩
  all_goals try rfl
  · have h : (Pl.behind s.data.toList).isEmpty = true := by assumption
    have h' : Pl.low s.data.toList = false := by
      refine Pl.strip_zero_low _ (Decidable.byContradiction fun hc => ?_)
      have := Pl.behind_ne hc
      simp at h
      exact this h
    simp [h']
  · have h : (Pl.behind s.data.toList).isEmpty = false := by assumption
    have h0 : Pl.strip s.data.toList s.data.toList.length ≠ 0 := fun e => by rw [Pl.behind_nil e] at h; cases h
    have hc : (((Pl.common s.data.toList t.data.toList : Nat) : Int) == (s.size : Int)) = true := by assumption
    have hc' : Pl.common s.data.toList t.data.toList = s.data.toList.length := by rw [Pl.size_data]; have : ((Pl.common s.data.toList t.data.toList : Nat) : Int) = (s.size : Int) := by simpa using hc
                                                                                  omega
    rw [ByteArray.toList_eq]
    exact Pl.begins_below h0 hc'
  · have h : (Pl.behind s.data.toList).isEmpty = false := by assumption
    have h0 : Pl.strip s.data.toList s.data.toList.length ≠ 0 := fun e => by rw [Pl.behind_nil e] at h; cases h
    have hc : (((Pl.common s.data.toList t.data.toList : Nat) : Int) == (s.size : Int)) = false := by assumption
    have hc' : Pl.common s.data.toList t.data.toList ≠ s.data.toList.length := by rw [Pl.size_data]; intro e; rw [e] at hc; simp at hc
    have h1 : (!Op.bytesLess t.toList s.toList) = true ∧ (!t.toList == s.toList) = true := by assumption
    rw [ByteArray.toList_eq, ByteArray.toList_eq] at h1
    rw [ByteArray.toList_eq, Pl.above_not_below h0 hc' (by simpa using h1.1) (by simpa using h1.2)]
    rfl
  · have h : (Pl.behind s.data.toList).isEmpty = false := by assumption
    have h0 : Pl.strip s.data.toList s.data.toList.length ≠ 0 := fun e => by rw [Pl.behind_nil e] at h; cases h
    have hc : (((Pl.common s.data.toList t.data.toList : Nat) : Int) == (s.size : Int)) = false := by assumption
    have h1 : (!Op.bytesLess t.toList s.toList) = false ∨ (!t.toList == s.toList) = false := by assumption
    rw [ByteArray.toList_eq, ByteArray.toList_eq] at h1
    rw [ByteArray.toList_eq]
    rcases h1 with h1 | h1
    · exact Pl.below_below h0 (by simpa using h1)
    · have e : t.data.toList = s.data.toList := by simpa using h1
      rw [e, Pl.common_self] at hc
      rw [Pl.size_data] at hc
      simp at hc
end Go.Proofs.Ytlchkpmmemdjcaa
