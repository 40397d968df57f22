
/- Walks: the frame with which bytes begin. Condition: bytes that fit the form's reach. -/
import Derived.Test.YtogblcdefbnbeaaGreatQHa
import Derived.Test.YtogblcdefbnbeaaGreatQGa
import Derived.Test.YtogblcdefbnbeaaGreatQGe
import Derived.Test.YtogblcdefbnbeaaGreatQGf
import Derived.Deep.MidRow
import Derived.IntWalk
set_option maxRecDepth 100000
namespace Go.Proofs.YtogblcdefbnbeaaGreat
section
open Go.RowKit
def tupF (v : (UInt8 × List UInt8) × Nat × Nat) : Value := .tuple #[.agg #[.int .u8 (v.1.1.toNat : Int), .string ⟨v.1.2.toArray⟩], .int .i64 v.2.1, .int .i64 v.2.2]
theorem tupF_eq (k : UInt8) (T : List UInt8) {a : Int} {N : Nat} (h : a = ((5 + N : Nat) : Int)) : Value.tuple #[.agg #[.int .u8 (k.toNat : Int), .string ⟨T.toArray⟩], .int .i64 a, .int .i64 0] = tupF ((k, T), 5 + N, 0) := by
 subst h; rfl
def FrW (B : Nat) (k : Int) (l : ByteArray) (W : World) : Prop := Fr B k l W ∧ W.frozen? ⟨B, 0, none⟩ = false ∧ W.frozen? ⟨B, 1, none⟩ = false
theorem FrW.kept {B : Nat} {k : Int} {l : ByteArray} {W W' : World} (h : FrW B k l W) (hb : Below W.heap.size W W') : FrW B k l W' :=
 ⟨h.1.kept hb, (hb.frozen (p := ⟨B, 0, none⟩) h.1.2.2).trans h.2.1, (hb.frozen (p := ⟨B, 1, none⟩) h.1.2.2).trans h.2.2⟩
theorem FrW.new (w : World) (k : Int) (l : ByteArray) (t : TypeId) : FrW w.heap.size k l (w.alloc (.cells #[.int .u8 k, .string l] t)) :=
 ⟨Fr.new w k l t, by simp, by simp⟩
theorem FrW.set {B : Nat} {k k' : Int} {l l' : ByteArray} {W : World} (h : FrW B k l W) : Fr B k' l' ((W.setCell ⟨B, 0, none⟩ (.int .u8 k')).setCell ⟨B, 1, none⟩ (.string l')) := by
 obtain ⟨⟨h0, h1, hB⟩, _, _⟩ := h
 refine ⟨?_, ?_, by simpa using hB⟩
 ·rw [World.cell?_setCell_other _ _ _ _ (by simp)]
  exact World.cell?_setCell_same _ _ _ h0
 ·exact World.cell?_setCell_same _ _ _ ((World.cell?_setCell_other _ _ _ _ (by simp)).trans h1)
theorem neq_bool (l : List UInt8) (s : ByteArray) : (!l == (s.extract 0 4).toList) = decide (l ≠ s.data.toList.take 4) := by
 rw [ByteArray.toList_eq, Pl.extract_mk]
 by_cases h : l = s.data.toList.take 4
 ·simp [h]
 ·simp [h]
theorem fr_loadVar {B : Nat} {k : Int} {l : ByteArray} {W : World} (h : Fr B k l W) : (loadVar 128 ⟨B, 0, none⟩).run Tryz.prog W = .ok (.agg #[.int .u8 k, .string l]) W :=
 run_loadVar_mid (P := Tryz.prog) W B 0 128 [.int .u8 k, .string l] _ (fun j v hj => by
  rcases j with _ | _ | j
  ·obtain rfl : Value.int .u8 k = v := by simpa using hj
   exact h.1
  ·obtain rfl : Value.string l = v := by simpa using hj
   exact h.2.1
  ·simp at hj) Tryz.underlying128 rfl (by kernel_rfl)
theorem results_frame {fn : Func} {p u v : Tmp} (h : fn.results = #[.cell p 128, .tmp u, .tmp v]) {tmps : Array Value} {B : Nat} {k : Int} {l : ByteArray} {w : World} (hp : tmps.getD p undef = .pointer (some ⟨B, 0, none⟩)) (hf : Fr B k l w) :
  (results fn tmps).run Tryz.prog w = .ok (.tuple #[.agg #[.int .u8 k, .string l], tmps.getD u undef, tmps.getD v undef]) w := by
 have hp' : tmps[p]?.getD undef = .pointer (some ⟨B, 0, none⟩) := by simpa using hp
 simp [results, h, hp', asAddr, fr_loadVar hf, Result.andThen]
set_option maxHeartbeats 2000000 in
theorem takeFrame_big (s : ByteArray) (w : World) (hs : s.size ≤ 9223372036854775000) :
  Calls Tryz.prog 79 #[.string s] w fun e w' => e = .returned (tupF (Pl.takeFrame s.data.toList)) ∧ Below w.heap.size w w' := by
 have hsz := Pl.size_data s
 have hb0 : Below w.heap.size w (w.alloc (.cells #[.int .u8 0, .string .empty] 128)) := (Below.refl _ w).alloc (Nat.le_refl _) _
 have fr0 := Fr.new w 0 .empty 128
 by_cases h1 : s.size < 5
 ·rw [Pl.takeFrame_short (by omega)]
  go_enter Tryz.func79, Tryz.ntmps79
  go_wp2_with fail
  exact bodyPost_ret (results_frame rfl rfl fr0) rfl ⟨rfl, hb0⟩
 by_cases h2 : s.data.toList.getD 4 0 = 0
 ·rw [Pl.takeFrame_zero (by omega) h2]
  have h4 : (s[4]'(by omega)).toNat = 0 := by
   have : s[4]'(by omega) = s.data.toList.getD 4 0 := by simp [List.getD, List.getElem?_eq_getElem (show 4 < s.data.toList.length by omega)]; rfl
   rw [this, h2]; rfl
  go_enter Tryz.func79, Tryz.ntmps79
  go_wp2_with fail
  exact bodyPost_ret (results_frame rfl rfl fr0) rfl ⟨rfl, hb0⟩
 have h4 : (((s[4]'(by omega)).toNat : Nat) : Int) ≠ 0 := by
  intro e
  apply h2
  have : s[4]'(by omega) = s.data.toList.getD 4 0 := by simp [List.getD, List.getElem?_eq_getElem (show 4 < s.data.toList.length by omega)]; rfl
  rw [← this]
  exact UInt8.toNat_inj.mp (by simpa using e)
 have h5 : ((((s[4]'(by omega)).toNat : Nat) : Int) == 0) = false := by simpa using h4
 have h6 : ¬ (s[4]'(by omega)).toNat = 0 := by omega
 have P := Lib.hid (fun w => takeText_big (s.extract 5 s.size) 262144 w (by rw [ByteArray.size_extract]; omega) (.inr (by omega)) (by omega) (by omega))
 have he : (s.extract 5 s.size).data.toList = s.data.toList.drop 5 := by rw [Pl.extract_mk]; simp [List.take_of_length_le (Nat.le_of_eq hsz)]
 rw [he] at P
 have hfit := Pl.takeText_fits (s.data.toList.drop 5) 262144
 have hbad := Pl.takeFrame_bad (l := s.data.toList) (by omega) h2
 have hsum := Pl.takeFrame_sum (l := s.data.toList) (by omega) h2
 have hok := Pl.takeFrame_ok (l := s.data.toList) (by omega) h2
 rw [show Int.toNat 262144 = 262144 from rfl] at P
 generalize Pl.takeText (s.data.toList.drop 5) 262144 = t at P hfit hbad hsum hok
 obtain ⟨T, N, E⟩ := t
 rw [List.length_drop, hsz] at hfit
 have hbad := Lib.hid hbad
 have hsum := Lib.hid hsum
 have hok := Lib.hid hok
 have hfit : N ≤ s.size - 5 := hfit
 have fw0 := FrW.new w 0 .empty 128
 go_enter Tryz.func79, Tryz.ntmps79
 go_wp2_with fail
 refine (P.out _).mono ?_
 rintro e w1 ⟨rfl, b1⟩
 have hb1 := below_seq hb0 b1
 have fw1 := fw0.kept b1
 have ⟨⟨f0, f1, fB⟩, z0, z1⟩ := fw1
 unfold tupS
 by_cases hE : E = 0
 ·subst hE
  have hx : (s.extract 4 (N + 5)).data.toList = (s.data.toList.take (5 + N)).drop 4 := by rw [Pl.extract_mk, Nat.add_comm N 5]
  have P2 := Lib.hid (fun w => sum_any (s.extract 4 (N + 5)) w (by rw [ByteArray.size_extract]; omega))
  rw [hx] at P2
  have hok := Lib.hid (hok.out (by simp))
  have hsum := Lib.hid (hsum.out (by simp))
  have hM := Pl.sum_le ((s.data.toList.take (5 + N)).drop 4)
  generalize Pl.sum ((s.data.toList.take (5 + N)).drop 4) = M at P2 hok hsum hM
  clear hbad
  have P3 := Lib.hid (fun w (h : M ≤ 4294967295) => little_any M w h)
  go_wp2_with fail
  go_cut [38] (fun v wx => v = .bool (decide (Pl.little M ≠ s.data.toList.take 4)) ∧ Below w.heap.size w wx ∧ FrW w.heap.size 0 .empty wx)
  case first =>
   go_region_with (first | (go_at_call 107; refine (P2.out _).mono ?_; rintro e w2 ⟨rfl, q2⟩) | (go_at_call 106; refine (P3.out _ hM).mono ?_; rintro e w3 ⟨rfl, b3⟩))
   all_goals
    go_wp2_with fail
    go_meet
    have hb13 : Below w1.heap.size w1 w3 := below_seq (by first | exact q2.below _ | exact (((Q.refl w1).drew).trans q2).below _) b3
    exact ⟨congrArg Value.bool (neq_bool _ _), below_seq hb1 hb13, fw1.kept hb13⟩
  case rest =>
   obtain ⟨rfl, hb2, fw2⟩ := hcut
   clear f0 f1 fB z0 z1
   have ⟨⟨f0, f1, fB⟩, z0, z1⟩ := fw2
   have hb3 : ∀ u v, Below w.heap.size w ((wc.setCell ⟨w.heap.size, 0, none⟩ u).setCell ⟨w.heap.size, 1, none⟩ v) := fun u v => (hb2.setCell (Nat.le_refl _) u).setCell (Nat.le_refl _) v
   by_cases h7 : Pl.little M ≠ s.data.toList.take 4
   ·have h8 := hsum.out h7
    have h9 : decide (Pl.little M ≠ s.data.toList.take 4) = true := by simp [h7]
    rw [h9]
    go_wp2_with fail
    rw [h8]
    exact bodyPost_ret (results_frame rfl rfl (FrW.set (k' := 0) (l' := .empty) fw2)) rfl ⟨rfl, hb3 _ _⟩
   ·have h8 := hok.out h7
    have h9 : decide (Pl.little M ≠ s.data.toList.take 4) = false := by simp [h7]
    rw [h9]
    go_wp2_with fail
    have h4e : s[4]'(by omega) = s.data.toList.getD 4 0 := by simp [List.getD, List.getElem?_eq_getElem (show 4 < s.data.toList.length by omega)]; rfl
    rw [h8, ← h4e]
    exact bodyPost_ret (results_frame rfl rfl (FrW.set fw2)) rfl ⟨ret_val (tupF_eq (s[4]'(by omega)) T (a := (N : Int) + 5) (N := N) (by omega)), hb3 _ _⟩
 ·have hE2 : ¬ (E : Int) = 0 := by omega
  have hb3 : ∀ u v, Below w.heap.size w ((w1.setCell ⟨w.heap.size, 0, none⟩ u).setCell ⟨w.heap.size, 1, none⟩ v) := fun u v => (hb1.setCell (Nat.le_refl _) u).setCell (Nat.le_refl _) v
  have h8 := hbad.out hE
  go_wp2_with fail
  rw [h8]
  exact bodyPost_ret (results_frame rfl rfl (FrW.set (k' := 0) (l' := .empty) fw1)) rfl ⟨rfl, hb3 _ _⟩
end
section
open Go.RowKit
theorem refTakeText_below (s : ByteArray) (most : Int) (w : World) (hs : s.size ≤ 281474976710656) (hm0 : -9223372036854775808 ≤ most) (hm1 : most ≤ 9223372036854775807) :
  Calls Tryz.prog 119 #[.string s, .int .i64 most] w fun e w' => e = .returned (tupS (Pl.takeText s.data.toList most.toNat)) ∧ Below w.heap.size w w' := by
 refine (refTakeText_any s most w hs hm0 hm1).mono ?_
 rintro e w' ⟨h, rfl⟩
 exact ⟨h, Below.refl _ _⟩
set_option maxHeartbeats 2000000 in
theorem refTakeFrame_any (s : ByteArray) (w : World) (hs : s.size ≤ 281474976710656) :
  Calls Tryz.prog 87 #[.string s] w fun e w' => e = .returned (tupF (Pl.takeFrame s.data.toList)) ∧ Below w.heap.size w w' := by
 have hsz := Pl.size_data s
 have hb0 : Below w.heap.size w (w.alloc (.cells #[.int .u8 0, .string .empty] 128)) := (Below.refl _ w).alloc (Nat.le_refl _) _
 have fr0 := Fr.new w 0 .empty 128
 by_cases h1 : s.size < 5
 ·rw [Pl.takeFrame_short (by omega)]
  go_enter Tryz.func87, Tryz.ntmps87
  go_wp2_with fail
  exact bodyPost_ret (results_frame rfl rfl fr0) rfl ⟨rfl, hb0⟩
 by_cases h2 : s.data.toList.getD 4 0 = 0
 ·rw [Pl.takeFrame_zero (by omega) h2]
  have h4 : (s[4]'(by omega)).toNat = 0 := by
   have : s[4]'(by omega) = s.data.toList.getD 4 0 := by simp [List.getD, List.getElem?_eq_getElem (show 4 < s.data.toList.length by omega)]; rfl
   rw [this, h2]; rfl
  go_enter Tryz.func87, Tryz.ntmps87
  go_wp2_with fail
  exact bodyPost_ret (results_frame rfl rfl fr0) rfl ⟨rfl, hb0⟩
 have h4 : (((s[4]'(by omega)).toNat : Nat) : Int) ≠ 0 := by
  intro e
  apply h2
  have : s[4]'(by omega) = s.data.toList.getD 4 0 := by simp [List.getD, List.getElem?_eq_getElem (show 4 < s.data.toList.length by omega)]; rfl
  rw [← this]
  exact UInt8.toNat_inj.mp (by simpa using e)
 have h5 : ((((s[4]'(by omega)).toNat : Nat) : Int) == 0) = false := by simpa using h4
 have h6 : ¬ (s[4]'(by omega)).toNat = 0 := by omega
 have P := Lib.hid (fun w => refTakeText_below (s.extract 5 s.size) 262144 w (by rw [ByteArray.size_extract]; omega) (by omega) (by omega))
 have he : (s.extract 5 s.size).data.toList = s.data.toList.drop 5 := by rw [Pl.extract_mk]; simp [List.take_of_length_le (Nat.le_of_eq hsz)]
 rw [he] at P
 have hfit := Pl.takeText_fits (s.data.toList.drop 5) 262144
 have hbad := Pl.takeFrame_bad (l := s.data.toList) (by omega) h2
 have hsum := Pl.takeFrame_sum (l := s.data.toList) (by omega) h2
 have hok := Pl.takeFrame_ok (l := s.data.toList) (by omega) h2
 rw [show Int.toNat 262144 = 262144 from rfl] at P
 generalize Pl.takeText (s.data.toList.drop 5) 262144 = t at P hfit hbad hsum hok
 obtain ⟨T, N, E⟩ := t
 rw [List.length_drop, hsz] at hfit
 have hbad := Lib.hid hbad
 have hsum := Lib.hid hsum
 have hok := Lib.hid hok
 have hfit : N ≤ s.size - 5 := hfit
 have fw0 := FrW.new w 0 .empty 128
 go_enter Tryz.func87, Tryz.ntmps87
 go_wp2_with fail
 refine (P.out _).mono ?_
 rintro e w1 ⟨rfl, b1⟩
 have hb1 := below_seq hb0 b1
 have fw1 := fw0.kept b1
 have ⟨⟨f0, f1, fB⟩, z0, z1⟩ := fw1
 unfold tupS
 by_cases hE : E = 0
 ·subst hE
  have hx : (s.extract 4 (5 + N)).data.toList = (s.data.toList.take (5 + N)).drop 4 := by rw [Pl.extract_mk]
  have P2 := Lib.hid (fun w => refSum_any (s.extract 4 (5 + N)) w (by rw [ByteArray.size_extract]; omega))
  rw [hx] at P2
  have hok := Lib.hid (hok.out (by simp))
  have hsum := Lib.hid (hsum.out (by simp))
  have hM := Pl.sum_le ((s.data.toList.take (5 + N)).drop 4)
  generalize Pl.sum ((s.data.toList.take (5 + N)).drop 4) = M at P2 hok hsum hM
  clear hbad
  have hw0 : IntKind.i64.wrap (5 + (N : Int)) = 5 + (N : Int) := IntWalk.i64_in _ (by omega)
  have hw1 : (0 : Int) ≤ 5 + (N : Int) := by omega
  have hw2 : (4 : Int) ≤ 5 + (N : Int) := by omega
  have hw3 : 5 + (N : Int) ≤ (s.size : Int) := by omega
  have hw4 : (5 + (N : Int)).toNat = 5 + N := by omega
  have P3 := Lib.hid (fun w (h : M ≤ 4294967295) => refLittle_any M w h)
  go_wp2_with fail
  go_cut [35] (fun v wx => v = .bool (decide (Pl.little M ≠ s.data.toList.take 4)) ∧ Below w.heap.size w wx ∧ FrW w.heap.size 0 .empty wx)
  case first =>
   go_region_with (first | (go_at_call 121; refine (P2.out _).mono ?_; rintro e w2 ⟨rfl, q2⟩) | (go_at_call 120; refine (P3.out _ hM).mono ?_; rintro e w3 ⟨rfl, b3⟩))
   all_goals
    go_wp2_with fail
    go_meet
    have hb13 : Below w1.heap.size w1 w3 := below_seq (by first | exact q2.below _ | exact (((Q.refl w1).drew).trans q2).below _) b3
    exact ⟨congrArg Value.bool (neq_bool _ _), below_seq hb1 hb13, fw1.kept hb13⟩
  case rest =>
   obtain ⟨rfl, hb2, fw2⟩ := hcut
   clear f0 f1 fB z0 z1
   have ⟨⟨f0, f1, fB⟩, z0, z1⟩ := fw2
   have hb3 : ∀ u v, Below w.heap.size w ((wc.setCell ⟨w.heap.size, 0, none⟩ u).setCell ⟨w.heap.size, 1, none⟩ v) := fun u v => (hb2.setCell (Nat.le_refl _) u).setCell (Nat.le_refl _) v
   by_cases h7 : Pl.little M ≠ s.data.toList.take 4
   ·have h8 := hsum.out h7
    have h9 : decide (Pl.little M ≠ s.data.toList.take 4) = true := by simp [h7]
    rw [h9]
    go_wp2_with fail
    rw [h8]
    exact bodyPost_ret (results_frame rfl rfl (FrW.set (k' := 0) (l' := .empty) fw2)) rfl ⟨rfl, hb3 _ _⟩
   ·have h8 := hok.out h7
    have h9 : decide (Pl.little M ≠ s.data.toList.take 4) = false := by simp [h7]
    rw [h9]
    go_wp2_with fail
    have h4e : s[4]'(by omega) = s.data.toList.getD 4 0 := by simp [List.getD, List.getElem?_eq_getElem (show 4 < s.data.toList.length by omega)]; rfl
    rw [h8, ← h4e]
    exact bodyPost_ret (results_frame rfl rfl (FrW.set fw2)) rfl ⟨ret_val (tupF_eq (s[4]'(by omega)) T (a := 5 + (N : Int)) (N := N) (by omega)), hb3 _ _⟩
 ·have hE2 : ¬ (E : Int) = 0 := by omega
  have hb3 : ∀ u v, Below w.heap.size w ((w1.setCell ⟨w.heap.size, 0, none⟩ u).setCell ⟨w.heap.size, 1, none⟩ v) := fun u v => (hb1.setCell (Nat.le_refl _) u).setCell (Nat.le_refl _) v
  have h8 := hbad.out hE
  go_wp2_with fail
  rw [h8]
  exact bodyPost_ret (results_frame rfl rfl (FrW.set (k' := 0) (l' := .empty) fw1)) rfl ⟨rfl, hb3 _ _⟩
end
end Go.Proofs.YtogblcdefbnbeaaGreat
