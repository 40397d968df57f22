
/- Walk: a version joined to a block's writer. Condition: a version that may be; a row that is not long. -/
import Derived.Test.YtiogjebekadmcaaWBuilder3
import Derived.Test.YtiogjebekadmcaaWTk
import Derived.Test.YtiogjebekadmcaaWCommon
import Derived.Test.YtiogjebekadmcaaWMisc
import Derived.Deep.RegionWith
import Derived.Deep.DeepCutAuto
namespace Go.Proofs.Ytiogjebekadmcaa
open Go.RowKit

theorem WrBx.drew {b c : Nat} {x : Ver} {p : Value} {l : List UInt8} {cnt : Int} {ah : ByteArray} {w : World} (h : WrBx b c x p l cnt ah w) : WrBx b c x p l cnt ah w.drew := h
theorem WrBx.cells {b c : Nat} {x : Ver} {p : Value} {l : List UInt8} {cnt : Int} {ah : ByteArray} {w : World} (h : WrBx b c x p l cnt ah w) :
    w.cell? ⟨b, 2, none⟩ = some (.int .i64 cnt) ∧ w.cell? ⟨b, 3, none⟩ = some (.string ah) ∧ w.frozen? ⟨b, 2, none⟩ = false ∧ w.frozen? ⟨b, 3, none⟩ = false := by
  obtain ⟨v, hb, _⟩ := h
  exact ⟨by rw [Lib.cell_of_heap hb]; rfl, by rw [Lib.cell_of_heap hb]; rfl, Lib.frozen_of_heap hb 2, Lib.frozen_of_heap hb 3⟩
theorem WrAt.lt' {b : Nat} {p : Value} {l : List UInt8} {cnt : Int} {ah : ByteArray} {w : World} (h : WrAt b p l cnt ah w) : b ≤ w.heap.size := Nat.le_of_lt h.lt
theorem WrBx.lt' {b c : Nat} {x : Ver} {p : Value} {l : List UInt8} {cnt : Int} {ah : ByteArray} {w : World} (h : WrBx b c x p l cnt ah w) : b ≤ w.heap.size := h.at.lt'

set_option maxRecDepth 100000 in
set_option maxHeartbeats 800000 in
theorem add_any (b : Nat) (p : Value) (l ahead : List UInt8) (j : Nat) (x : Ver) (w : World) (h : WrAt b p l (j : Int) ⟨ahead.toArray⟩ w) (hp : Hd b p) (hm : Pl.mayB x = true) (ha : ahead.length ≤ 202) (hj : j < 1048576) (hl : l.length ≤ j * 16700) :
    Calls Try.prog 59 #[.pointer (some ⟨b, 0, none⟩), .agg #[.string x.key, .int .u64 (x.seq : Int), .bool x.del, .string x.val]] w fun e w' =>
      e = .returned (.tuple #[]) ∧ WrAt b (.pointer (some ⟨b, 0, none⟩)) (l ++ Pl.entryL x (if j % 16 = 0 then [] else ahead)) ((j + 1 : Nat) : Int) ⟨(Pl.encB x).toArray⟩ w' ∧ Below b w w' := by
  have hb0 : Below b w (w.alloc (.cells #[.string x.key, .int .u64 (x.seq : Int), .bool x.del, .string x.val] 44)) := (Below.refl _ _).alloc h.lt' _
  have r0 := h.box x
  obtain ⟨A, hA⟩ : ∃ A, A = (if j % 16 = 0 then [] else ahead) := ⟨_, rfl⟩
  have hAl : A.length ≤ 202 := by rw [hA]; split; simp; exact ha
  rw [← hA]
  replace hA := Lib.hid hA
  have P1 := Lib.hid (fun w => encKey_any x.key x.val x.seq x.del w)
  have hel := Pl.encB_length (x := x)
  have hvl := Pl.val_length hm
  have hE : Pl.encKey x.key.data.toList x.val.data.toList x.seq x.del = Pl.encB x := rfl
  rw [hE] at P1
  have hent : Hid (Pl.entryL x A = Pl.putUint (Pl.common A (Pl.encB x)) ++ Pl.putText ((Pl.encB x).drop (Pl.common A (Pl.encB x))) ++ (if x.del then [] else Pl.putText x.val.data.toList)) := by show _ = _; rfl
  have hcr := Pl.common_le_right A (Pl.encB x)
  generalize Pl.encB x = K at *
  have hKs : (ByteArray.mk K.toArray).size = K.length := by show K.toArray.size = _; simp
  have hAs : (ByteArray.mk A.toArray).size = A.length := by show A.toArray.size = _; simp
  have P2 := Lib.hid (fun w => common_any ⟨A.toArray⟩ ⟨K.toArray⟩ w (by omega) (by omega))
  simp only at P2
  generalize hn : Pl.common A K = n at *
  have hdl : (K.drop n).length ≤ 202 := by rw [List.length_drop]; omega
  have P3 := Lib.hid (fun w => putUint_any n w (.mk' (by omega)))
  have P4 := Lib.hid (fun w => putText_any ⟨(K.drop n).toArray⟩ w (by show (K.drop n).toArray.size ≤ _; simp; omega))
  have P5 := Lib.hid (fun w => putText_any x.val w (by rw [← Pl.size_data]; omega))
  simp only at P4
  have l3 : (ByteArray.mk (Pl.putUint n).toArray).size ≤ 10 := by show (Pl.putUint n).toArray.size ≤ _; simp; exact Pl.putUint_length64 n (by omega)
  have l4 : (ByteArray.mk (Pl.putText (K.drop n)).toArray).size ≤ 212 := by show (Pl.putText (K.drop n)).toArray.size ≤ _; have := Pl.putText_length (t := K.drop n) (by omega); simp; omega
  have l5 : (ByteArray.mk (Pl.putText x.val.data.toList).toArray).size ≤ 16400 := by show (Pl.putText x.val.data.toList).toArray.size ≤ _; have := Pl.putText_length (t := x.val.data.toList) (by omega); simp; omega
  rw [← drop_str] at P4
  have d3 : Hid ((ByteArray.mk (Pl.putUint n).toArray).data.toList = Pl.putUint n) := by show _ = _; simp
  have d4 : Hid ((ByteArray.mk (Pl.putText (K.drop n)).toArray).data.toList = Pl.putText (K.drop n)) := by show _ = _; simp
  have d5 : Hid ((ByteArray.mk (Pl.putText x.val.data.toList).toArray).data.toList = Pl.putText x.val.data.toList) := by show _ = _; simp
  generalize ByteArray.mk (Pl.putUint n).toArray = b3 at *
  generalize ByteArray.mk (Pl.putText (K.drop n)).toArray = b4 at *
  generalize ByteArray.mk (Pl.putText x.val.data.toList).toArray = b5 at *
  have hwn : IntKind.u64.wrap (n : Int) = (n : Int) := IntWalk.u64_in _ ⟨by omega, by omega⟩
  have hn0 : (0 : Int) ≤ (n : Int) := by omega
  have e3 : b3.data.toList.length = b3.size := by simp
  have e4 : b4.data.toList.length = b4.size := by simp
  generalize hkb : ByteArray.mk K.toArray = kb at *
  generalize hab : ByteArray.mk A.toArray = ab at *
  have hnk2 : (n : Int) ≤ (kb.size : Int) := by omega
  replace hkb := Lib.hid hkb
  replace hab := Lib.hid hab
  have hln := Lib.hid h.lt'
  clear hel hvl hcr hKs hAs hdl hE hm h
  go_enter Try.func59, Try.ntmps59
  have ⟨c2, c3, z2, z3⟩ := r0.cells
  go_upto_if 11 with (fail)
  go_cut [] (fun wx => WrBx b w.heap.size x p l (j : Int) ab wx ∧ Below b w wx)
  case first =>
    by_cases h16 : j % 16 = 0
    · have hA0 : A = [] := by rw [hA.out, if_pos h16]
      have hab0 : ab = ⟨#[]⟩ := by rw [← hab.out, hA0]
      have hrem : ((j : Int) % 16 == 0) = true := by simp; omega
      have hrem2 : (j : Int) % 16 = 0 := by omega
      subst hab0
      clear hA0 h16
      go_wp2_with fail
      go_meet
      exact ⟨r0.setAh _, hb0.setCell (p := ⟨b, 3, none⟩) (Nat.le_refl _) _⟩
    · have hA0 : A = ahead := by rw [hA.out, if_neg h16]
      have hab0 : ab = ⟨ahead.toArray⟩ := by rw [← hab.out, hA0]
      have hrem : ((j : Int) % 16 == 0) = false := by simp; omega
      have hrem2 : ¬ (j : Int) % 16 = 0 := by omega
      subst hab0
      clear hA0 h16
      go_wp2_with fail
      go_meet
      exact ⟨r0, hb0⟩
  case rest =>
  clear c2 c3 z2 z3 r0 hb0
  obtain ⟨r0, hb0⟩ := hcut
  have ⟨f0, f1, f2, f3, fB⟩ := r0.ver
  go_wp2_with fail
  clear f0 f1 f2 f3 fB
  refine (P1.out _).mono ?_
  rintro e1 w1 ⟨rfl, b1⟩
  replace hb0 := hb0.trans (b1.mono r0.lt')
  replace r0 := r0.kept b1
  clear b1 P1
  have ⟨c2, c3, z2, z3⟩ := r0.cells
  go_wp2_with fail
  clear c2 c3 z2 z3
  refine (P2.out _).mono ?_
  rintro e2 w2 ⟨rfl, q2⟩
  replace hb0 := hb0.trans (q2.below _)
  replace r0 := r0.kept (q2.below _)
  clear q2 P2
  go_wp2_with fail
  go_cut [] (fun wx => WrBx b w.heap.size x (.pointer (some ⟨b, 0, none⟩)) (l ++ b3.data.toList) (j : Int) ab wx ∧ Below b w wx)
  case first =>
    go_region_with (first
      | (go_at_call 72; refine (P3.out _).mono ?_; rintro e w3 ⟨rfl, b9⟩; have r1 := r0.drew.kept b9; have hb1 : Below b w w3 := hb0.drew.trans (b9.mono r0.drew.lt'))
      | (go_at_call 71; refine (writeString_any b w.heap.size x p l (j : Int) ab b3 _ (by first | exact r1 | exact r1.drew) hp (by omega)).mono ?_; rintro e w4 ⟨rfl, r2, b10⟩))
    all_goals
      go_wp2_with fail
      go_meet
      exact ⟨r2, hb1.trans b10⟩
  case rest =>
  clear r0 hb0 P3
  obtain ⟨r0, hb0⟩ := hcut
  have hp1 : Hd b (.pointer (some ⟨b, 0, none⟩)) := .inr rfl
  have hl2 : (l ++ b3.data.toList).length + b4.size ≤ 140737488355328 := by rw [List.length_append]; omega
  go_wp2_with fail
  go_cut [] (fun wx => WrBx b w.heap.size x (.pointer (some ⟨b, 0, none⟩)) (l ++ b3.data.toList ++ b4.data.toList) (j : Int) ab wx ∧ Below b w wx)
  case first =>
    go_region_with (first
      | (go_at_call 73; refine (P4.out _).mono ?_; rintro e w3 ⟨rfl, b9⟩; have r1 := r0.drew.kept b9; have hb1 : Below b w w3 := hb0.drew.trans (b9.mono r0.drew.lt'))
      | (go_at_call 71; refine (writeString_any b w.heap.size x _ _ (j : Int) ab b4 _ (by first | exact r1 | exact r1.drew) hp1 hl2).mono ?_; rintro e w4 ⟨rfl, r2, b10⟩))
    all_goals
      go_wp2_with fail
      go_meet
      exact ⟨r2, hb1.trans b10⟩
  case rest =>
  clear r0 hb0 P4 hl2
  obtain ⟨r0, hb0⟩ := hcut
  have hl2 : (l ++ b3.data.toList ++ b4.data.toList).length + b5.size ≤ 140737488355328 := by rw [List.length_append, List.length_append]; omega
  have ⟨f0, f1, f2, f3, fB⟩ := r0.ver
  generalize hL : l ++ b3.data.toList ++ b4.data.toList = L at *
  replace hL := Lib.hid hL
  clear hkb hab hn e3 e4 hAl ha hwn hn0 hnk2
  go_upto_if 40 with (fail)
  go_cut [] (fun wx => WrBx b w.heap.size x (.pointer (some ⟨b, 0, none⟩)) (L ++ (if x.del then [] else b5.data.toList)) (j : Int) ab wx ∧ Below b w wx)
  case first =>
    go_wp2_with fail
    · rename_i hd
      replace hd := Lib.hid (show x.del = false by simpa using hd)
      go_region_with (first
        | (go_at_call 73; refine (P5.out _).mono ?_; rintro e w3 ⟨rfl, b9⟩; have r1 := r0.drew.kept b9; have hb1 : Below b w w3 := hb0.drew.trans (b9.mono r0.drew.lt'))
        | (go_at_call 71; refine (writeString_any b w.heap.size x _ _ (j : Int) ab b5 _ (by first | exact r1 | exact r1.drew) hp1 hl2).mono ?_; rintro e w4 ⟨rfl, r2, b10⟩))
      all_goals
        go_wp2_with fail
        go_meet
        exact ⟨by rw [hd.out]; simpa using r2, hb1.trans b10⟩
    · rename_i hd
      have hd : x.del = true := by simpa using hd
      go_meet
      exact ⟨by rw [hd]; simpa using r0, hb0⟩
  case rest =>
  clear r0 hb0 P5 hl2 f0 f1 f2 f3 fB
  obtain ⟨r0, hb0⟩ := hcut
  have ⟨c2, c3, z2, z3⟩ := r0.cells
  have r1 := r0.setAh kb
  have ⟨k2, k3, y2, y3⟩ := r1.cells
  have hw1 : IntKind.i64.wrap ((j : Int) + 1) = ((j + 1 : Nat) : Int) := by rw [IntWalk.i64_in _ ⟨by omega, by omega⟩]; omega
  have r2 := r1.setCnt ((j + 1 : Nat) : Int)
  go_wp2_with fail
  go_end0
  refine ⟨rfl, ?_, (hb0.setCell (p := ⟨b, 3, none⟩) (Nat.le_refl _) _).setCell (p := ⟨b, 2, none⟩) (Nat.le_refl _) _⟩
  have e : l ++ Pl.entryL x A = L ++ (if x.del then [] else b5.data.toList) := by
    rw [hent.out, ← hL.out, d3.out, d4.out, d5.out]
    simp only [List.append_assoc]
  rw [e]
  exact r2.at
end Go.Proofs.Ytiogjebekadmcaa
