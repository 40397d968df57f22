
/- Walks: what the document's block bears. Condition: rows of versions that may be, not many. -/
import Derived.Test.YtiogjebekadmcaaWRise2
import Derived.Test.YtiogjebekadmcaaWCommon
import Derived.Test.YtiogjebekadmcaaWMisc
import Derived.Deep.RegionWith
import Derived.Deep.DeepCutAuto
namespace Go.Proofs.Ytiogjebekadmcaa
open Go.RowKit

/-- the version in its variable, and what lay there -/
def VW (w : World) (x : Ver) (W : World) : Prop := VrAt w.heap.size x.key (x.seq : Int) x.del x.val W ∧ Below w.heap.size w W
theorem VW.kept {w W W' : World} {x : Ver} (h : VW w x W) (hb : Below W.heap.size W W') : VW w x W' := ⟨h.1.kept hb, h.2.trans (hb.mono h.2.size)⟩
theorem VW.drewN {w W : World} {x : Ver} (h : VW w x W) (n : Nat) : VW w x (W.drewN n) := h.kept ((Q.refl W).drewN n |>.below _)
theorem VW.drew {w W : World} {x : Ver} (h : VW w x W) : VW w x W.drew := h.drewN 1

theorem drop_str (a : List UInt8) (n : Nat) : ((ByteArray.mk a.toArray).extract n (ByteArray.mk a.toArray).size) = ByteArray.mk (a.drop n).toArray := by
  apply ByteArray.ext
  apply Array.toList_inj.1
  simp [ByteArray.data_extract]
  rw [List.take_of_length_le]
  rw [List.length_drop]
  exact Nat.le_refl _

set_option maxRecDepth 100000 in
set_option maxHeartbeats 800000 in
theorem refEntry_any (x : Ver) (ahead : List UInt8) (w : World) (hm : Pl.mayB x = true) (ha : ahead.length ≤ 202) :
    Calls Try.prog 74 #[.agg #[.string x.key, .int .u64 (x.seq : Int), .bool x.del, .string x.val], .string ⟨ahead.toArray⟩] w fun e w' => e = .returned (.string ⟨(Pl.entryL x ahead).toArray⟩) ∧ Below w.heap.size w w' := by
  have v0 := VrAt.new w x.key (x.seq : Int) x.del x.val 44
  have r0 : VW w x (w.alloc (.cells #[.string x.key, .int .u64 (x.seq : Int), .bool x.del, .string x.val] 44)) := ⟨v0, (Below.refl _ _).alloc (Nat.le_refl _) _⟩
  have P1 := Lib.hid (fun w => refEncKey_any x.key x.val x.seq x.del w)
  have hel := Pl.encB_length (x := x)
  have hvl := Pl.val_length hm
  have hE : Pl.encKey x.key.data.toList x.val.data.toList x.seq x.del = Pl.encB x := rfl
  rw [hE] at P1
  have hent : Hid (Pl.entryL x ahead = Pl.putUint (Pl.common ahead (Pl.encB x)) ++ Pl.putText ((Pl.encB x).drop (Pl.common ahead (Pl.encB x))) ++ (if x.del then [] else Pl.putText x.val.data.toList)) := by show _ = _; rfl
  have hcr := Pl.common_le_right ahead (Pl.encB x)
  generalize Pl.encB x = K at *
  have hKs : (ByteArray.mk K.toArray).size = K.length := by show K.toArray.size = _; simp
  have hAs : (ByteArray.mk ahead.toArray).size = ahead.length := by show ahead.toArray.size = _; simp
  have P2 := Lib.hid (fun w => refCommon_any ⟨ahead.toArray⟩ ⟨K.toArray⟩ w (by omega) (by omega))
  simp only at P2
  generalize hn : Pl.common ahead K = n at *
  have hdl : (K.drop n).length ≤ 202 := by rw [List.length_drop]; omega
  have P3 := Lib.hid (fun w => refPutUint_any n w (.mk' (by omega)))
  have P4 := Lib.hid (fun w => refPutText_any ⟨(K.drop n).toArray⟩ w (by show (K.drop n).toArray.size ≤ _; simp; omega))
  have P5 := Lib.hid (fun w => refPutText_any x.val w (by rw [← Pl.size_data]; omega))
  simp only at P4
  have l3 : (ByteArray.mk (Pl.putUint n).toArray).size ≤ 10 := by show (Pl.putUint n).toArray.size ≤ _; simp; exact Pl.putUint_length64 n (by omega)
  have l4 : (ByteArray.mk (Pl.putText (K.drop n)).toArray).size ≤ 212 := by show (Pl.putText (K.drop n)).toArray.size ≤ _; have := Pl.putText_length (t := K.drop n) (by omega); simp; omega
  have l5 : (ByteArray.mk (Pl.putText x.val.data.toList).toArray).size ≤ 16400 := by show (Pl.putText x.val.data.toList).toArray.size ≤ _; have := Pl.putText_length (t := x.val.data.toList) (by omega); simp; omega
  rw [← drop_str] at P4
  generalize ByteArray.mk K.toArray = kb at *
  generalize ByteArray.mk ahead.toArray = ab at *
  have hnk : n ≤ kb.size := by omega
  have hsum : Hid ((ByteArray.mk (Pl.putUint n).toArray ++ ByteArray.mk (Pl.putText (K.drop n)).toArray) = ByteArray.mk (Pl.putUint n ++ Pl.putText (K.drop n)).toArray) := by show _ = _; rw [Pl.mk_append]
  have hsum2 : Hid ((ByteArray.mk (Pl.putUint n ++ Pl.putText (K.drop n)).toArray ++ ByteArray.mk (Pl.putText x.val.data.toList).toArray) = ByteArray.mk (Pl.putUint n ++ Pl.putText (K.drop n) ++ Pl.putText x.val.data.toList).toArray) := by show _ = _; rw [Pl.mk_append]
  have l34 : (ByteArray.mk (Pl.putUint n ++ Pl.putText (K.drop n)).toArray).size ≤ 222 := by rw [← hsum.out, ByteArray.size_append]; omega
  generalize ByteArray.mk (Pl.putUint n).toArray = b3 at *
  generalize ByteArray.mk (Pl.putText (K.drop n)).toArray = b4 at *
  generalize ByteArray.mk (Pl.putText x.val.data.toList).toArray = b5 at *
  generalize hb34 : ByteArray.mk (Pl.putUint n ++ Pl.putText (K.drop n)).toArray = b34 at *
  replace hb34 := Lib.hid hb34
  have hwn : IntKind.u64.wrap (n : Int) = (n : Int) := IntWalk.u64_in _ ⟨by omega, by omega⟩
  have hn0 : (0 : Int) ≤ (n : Int) := by omega
  have hnk2 : (n : Int) ≤ (kb.size : Int) := by omega
  clear hel hvl hcr hKs hAs hdl hE ha hm v0
  go_enter Try.func74, Try.ntmps74
  have ⟨f0, f1, f2, f3, fB⟩ := r0.1
  go_wp2_with fail
  clear f0 f1 f2 f3 fB
  refine (P1.out _).mono ?_
  rintro e1 w1 ⟨rfl, b1⟩
  replace r0 := r0.kept b1
  clear b1 P1
  go_wp2_with fail
  refine (P2.out _).mono ?_
  rintro e2 w2 ⟨rfl, q2⟩
  replace r0 := r0.kept (q2.below _)
  clear q2 P2
  go_wp2_with fail
  go_cut [7] (fun v wx => v = .string b34 ∧ VW w x wx)
  case first =>
    go_region_with (first
      | (go_at_call 79; refine (P3.out _).mono ?_; rintro e w3 ⟨rfl, b9⟩; have r1 : VW w x w3 := (by first | exact r1.kept b9 | exact r1.drew.kept b9 | exact r0.kept b9 | exact r0.drew.kept b9))
      | (go_at_call 80; refine (P4.out _).mono ?_; rintro e w3 ⟨rfl, b9⟩; have r1 : VW w x w3 := (by first | exact r1.kept b9 | exact r1.drew.kept b9 | exact r0.kept b9 | exact r0.drew.kept b9)))
    all_goals
      go_wp2_with fail
      go_meet
      refine ⟨?_, ?_⟩
      · rw [hsum.out]
      · first | exact r1 | exact r1.drew
  case rest =>
    obtain ⟨rfl, hb⟩ := hcut
    have ⟨f0, f1, f2, f3, fB⟩ := hb.1
    cases hd : x.del
    · rw [hd] at hent
      go_wp2_with fail
      refine (P5.out _).mono ?_
      rintro e5 w5 ⟨rfl, b5'⟩
      go_wp2_with fail
      go_ret
      exact ⟨ret_str (by rw [hent.out, hsum2.out]; rfl), hb.2.trans (b5'.mono hb.2.size)⟩
    · rw [hd] at hent
      go_wp2_with fail
      go_ret
      exact ⟨ret_str (by rw [hent.out, ← hb34.out]; simp), hb.2⟩
end Go.Proofs.Ytiogjebekadmcaa
