
/- Walks: the document's frame with which bytes begin. Condition: bytes that fit the form's reach. -/
import Derived.Test.YtlchkpmmemdjcaaWTakeFrame
import Derived.IntWalk
namespace Go.Proofs.Ytlchkpmmemdjcaa
open Go.RowKit

theorem refTakeText_below (s : ByteArray) (most : Int) (w : World) (hs : s.size ≤ 281474976710656) (hm0 : -9223372036854775808 ≤ most) (hm1 : most ≤ 9223372036854775807) :
    Calls Try.prog 42 #[.string s, .int .i64 most] w fun e w' => e = .returned (tupS (Pl.takeText s.data.toList most.toNat)) ∧ Below w.heap.size w w' := by
  refine (refTakeText_any s most w hs hm0 hm1).mono ?_
  rintro e w' ⟨h, rfl⟩
  exact ⟨h, Below.refl _ _⟩

set_option maxRecDepth 100000 in
set_option maxHeartbeats 2000000 in
theorem refTakeFrame_any (s : ByteArray) (w : World) (hs : s.size ≤ 281474976710656) :
    Calls Try.prog 36 #[.string s] w fun e w' => e = .returned (tupF (Pl.takeFrame s.data.toList)) ∧ Below w.heap.size w w' := by
  have hsz := Pl.size_data s
  have hb0 : Below w.heap.size w (w.alloc (.cells #[.int .u8 0, .string .empty] 32)) := (Below.refl _ w).alloc (Nat.le_refl _) _
  have fr0 := Fr.new w 0 .empty 32
  by_cases h1 : s.size < 5
  · rw [Pl.takeFrame_short (by omega)]
    go_enter Try.func36, Try.ntmps36
    go_wp2_with fail
    exact bodyPost_ret (results_frame rfl rfl fr0) rfl ⟨rfl, hb0⟩
  by_cases h2 : s.data.toList.getD 4 0 = 0
  · rw [Pl.takeFrame_zero (by omega) h2]
    have h4 : (s[4]'(by omega)).toNat = 0 := by
      have : s[4]'(by omega) = s.data.toList.getD 4 0 := by simp [List.getD, List.getElem?_eq_getElem (show 4 < s.data.toList.length by omega)]; rfl
      rw [this, h2]; rfl
    go_enter Try.func36, Try.ntmps36
    go_wp2_with fail
    exact bodyPost_ret (results_frame rfl rfl fr0) rfl ⟨rfl, hb0⟩
  have h4 : (((s[4]'(by omega)).toNat : Nat) : Int) ≠ 0 := by
    intro e
    apply h2
    have : s[4]'(by omega) = s.data.toList.getD 4 0 := by simp [List.getD, List.getElem?_eq_getElem (show 4 < s.data.toList.length by omega)]; rfl
    rw [← this]
    exact UInt8.toNat_inj.mp (by simpa using e)
  have h5 : ((((s[4]'(by omega)).toNat : Nat) : Int) == 0) = false := by simpa using h4
  have h6 : ¬ (s[4]'(by omega)).toNat = 0 := by omega
  have P := Lib.hid (fun w => refTakeText_below (s.extract 5 s.size) 262144 w (by rw [ByteArray.size_extract]; omega) (by omega) (by omega))
  have he : (s.extract 5 s.size).data.toList = s.data.toList.drop 5 := by rw [Pl.extract_mk]; simp [List.take_of_length_le (Nat.le_of_eq hsz)]
  rw [he] at P
  have hfit := Pl.takeText_fits (s.data.toList.drop 5) 262144
  have hbad := Pl.takeFrame_bad (l := s.data.toList) (by omega) h2
  have hsum := Pl.takeFrame_sum (l := s.data.toList) (by omega) h2
  have hok := Pl.takeFrame_ok (l := s.data.toList) (by omega) h2
  rw [show Int.toNat 262144 = 262144 from rfl] at P
  generalize Pl.takeText (s.data.toList.drop 5) 262144 = t at P hfit hbad hsum hok
  obtain ⟨T, N, E⟩ := t
  rw [List.length_drop, hsz] at hfit
  have hbad := Lib.hid hbad
  have hsum := Lib.hid hsum
  have hok := Lib.hid hok
  have hfit : N ≤ s.size - 5 := hfit
  have fw0 := FrW.new w 0 .empty 32
  go_enter Try.func36, Try.ntmps36
  go_wp2_with fail
  refine (P.out _).mono ?_
  rintro e w1 ⟨rfl, b1⟩
  have hb1 := below_seq hb0 b1
  have fw1 := fw0.kept b1
  have ⟨⟨f0, f1, fB⟩, z0, z1⟩ := fw1
  unfold tupS
  by_cases hE : E = 0
  · subst hE
    have hx : (s.extract 4 (5 + N)).data.toList = (s.data.toList.take (5 + N)).drop 4 := by rw [Pl.extract_mk]
    have P2 := Lib.hid (fun w => refSum_any (s.extract 4 (5 + N)) w (by rw [ByteArray.size_extract]; omega))
    rw [hx] at P2
    have hok := Lib.hid (hok.out (by simp))
    have hsum := Lib.hid (hsum.out (by simp))
    have hM := Pl.sum_le ((s.data.toList.take (5 + N)).drop 4)
    generalize Pl.sum ((s.data.toList.take (5 + N)).drop 4) = M at P2 hok hsum hM
    clear hbad
    have hw0 : IntKind.i64.wrap (5 + (N : Int)) = 5 + (N : Int) := IntWalk.i64_in _ (by omega)
    have hw1 : (0 : Int) ≤ 5 + (N : Int) := by omega
    have hw2 : (4 : Int) ≤ 5 + (N : Int) := by omega
    have hw3 : 5 + (N : Int) ≤ (s.size : Int) := by omega
    have hw4 : (5 + (N : Int)).toNat = 5 + N := by omega
    have P3 := Lib.hid (fun w (h : M ≤ 4294967295) => refLittle_any M w h)
    go_wp2_with fail
    go_cut [35] (fun v wx => v = .bool (decide (Pl.little M ≠ s.data.toList.take 4)) ∧ Below w.heap.size w wx ∧ FrW w.heap.size 0 .empty wx)
    case first =>
      go_region_with (first | (go_at_call 23; refine (P2.out _).mono ?_; rintro e w2 ⟨rfl, q2⟩) | (go_at_call 54; refine (P3.out _ hM).mono ?_; rintro e w3 ⟨rfl, b3⟩))
      all_goals
        go_wp2_with fail
        go_meet
        have hb13 : Below w1.heap.size w1 w3 := below_seq (by first | exact q2.below _ | exact (((Q.refl w1).drew).trans q2).below _) b3
        exact ⟨congrArg Value.bool (neq_bool _ _), below_seq hb1 hb13, fw1.kept hb13⟩
    case rest =>
      obtain ⟨rfl, hb2, fw2⟩ := hcut
      clear f0 f1 fB z0 z1
      have ⟨⟨f0, f1, fB⟩, z0, z1⟩ := fw2
      have hb3 : ∀ u v, Below w.heap.size w ((wc.setCell ⟨w.heap.size, 0, none⟩ u).setCell ⟨w.heap.size, 1, none⟩ v) := fun u v => (hb2.setCell (Nat.le_refl _) u).setCell (Nat.le_refl _) v
      by_cases h7 : Pl.little M ≠ s.data.toList.take 4
      · have h8 := hsum.out h7
        have h9 : decide (Pl.little M ≠ s.data.toList.take 4) = true := by simp [h7]
        rw [h9]
        go_wp2_with fail
        rw [h8]
        exact bodyPost_ret (results_frame rfl rfl (FrW.set (k' := 0) (l' := .empty) fw2)) rfl ⟨rfl, hb3 _ _⟩
      · have h8 := hok.out h7
        have h9 : decide (Pl.little M ≠ s.data.toList.take 4) = false := by simp [h7]
        rw [h9]
        go_wp2_with fail
        have h4e : s[4]'(by omega) = s.data.toList.getD 4 0 := by simp [List.getD, List.getElem?_eq_getElem (show 4 < s.data.toList.length by omega)]; rfl
        rw [h8, ← h4e]
        exact bodyPost_ret (results_frame rfl rfl (FrW.set fw2)) rfl ⟨ret_val (tupF_eq (s[4]'(by omega)) T (a := 5 + (N : Int)) (N := N) (by omega)), hb3 _ _⟩
  · have hE2 : ¬ (E : Int) = 0 := by omega
    have hb3 : ∀ u v, Below w.heap.size w ((w1.setCell ⟨w.heap.size, 0, none⟩ u).setCell ⟨w.heap.size, 1, none⟩ v) := fun u v => (hb1.setCell (Nat.le_refl _) u).setCell (Nat.le_refl _) v
    have h8 := hbad.out hE
    go_wp2_with fail
    rw [h8]
    exact bodyPost_ret (results_frame rfl rfl (FrW.set (k' := 0) (l' := .empty) fw1)) rfl ⟨rfl, hb3 _ _⟩
end Go.Proofs.Ytlchkpmmemdjcaa
