
/- Walks: the document's block. Condition: rows of versions that are not many. -/
import Derived.Test.YtiogjebekadmcaaWRefBlk
namespace Go.Proofs.Ytiogjebekadmcaa
open Go.RowKit

theorem mk_len (a : List UInt8) : (ByteArray.mk a.toArray).size = a.length := by show a.toArray.size = _; simp

set_option maxRecDepth 100000 in
set_option maxHeartbeats 800000 in
theorem refBytes_any (v : Value) (l : List Ver) (w : World) (hv : VersAt w v l) (hl : l.length ≤ 1048576) (hm : ∀ i (hi : i < l.length), Pl.mayB l[i] = true) :
    Calls Try.prog 62 #[v] w fun e w' => e = .returned (.string ⟨(Pl.blkN l l.length).toArray⟩) ∧ Below w.heap.size w w' := by
  obtain ⟨ao, cap, rfl, _, _, hv⟩ := hv
  have hz0 : Hid (Pl.aheadN l 0 = []) := Lib.hid (Pl.aheadN_zero l)
  go_enter Try.func62, Try.ntmps62
  go_wp2
  go_loopw [3, 4, 5] (fun s a i wr => ∃ j : Nat, j ≤ l.length ∧ i = .int .i64 (j : Int) ∧ s = .string ⟨(Pl.blkN l j).toArray⟩ ∧ a = .string ⟨(Pl.aheadN l j).toArray⟩ ∧ Below w.heap.size w wr) (fun _ _ i _ => l.length - (intOf i).toNat)
  case atStart => exact ⟨0, by omega, rfl, rfl, by rw [hz0.out], Below.refl _ _⟩
  case round =>
    obtain ⟨j, hj, rfl, rfl, rfl, hb⟩ := hrel
    by_cases h1 : j < l.length
    · obtain ⟨b, off, rfl, hrow⟩ := hv (by omega)
      obtain ⟨x0, x1, x2, x3⟩ := row_at hrow hb h1
      have hmj := hm j h1
      have hbl := Pl.blkN_length hm j (by omega)
      have hsucc := Lib.hid (Pl.blkN_succ h1)
      have hasucc := Lib.hid (Pl.aheadN_succ h1)
      have hel := Pl.entryL_length (ahead := Pl.aheadU l j) hmj
      have hal : (Pl.aheadN l j).length ≤ 202 := by
        unfold Pl.aheadN
        split
        · split
          · simp
          · exact Pl.encB_length
        · simp
      have P2 := Lib.hid (fun w => refEncKey_any l[j].key l[j].val l[j].seq l[j].del w)
      have hE : Pl.encKey l[j].key.data.toList l[j].val.data.toList l[j].seq l[j].del = Pl.encB l[j] := rfl
      rw [hE] at P2
      clear hrow hE
      by_cases h16 : j % 16 = 0
      · have hau : Pl.aheadU l j = [] := by unfold Pl.aheadU; rw [if_pos h16]
        rw [hau] at hel
        have P1 := Lib.hid (fun w => refEntry_any l[j] [] w hmj (by simp))
        have hau' := Lib.hid hau
        have hcat : Hid ((ByteArray.mk (Pl.blkN l j).toArray ++ ByteArray.mk (Pl.entryL l[j] []).toArray) = ByteArray.mk (Pl.blkN l (j + 1)).toArray) := by
          show _ = _
          rw [hsucc.out, hau'.out, Pl.mk_append]
        have s1 : (ByteArray.mk (Pl.blkN l j).toArray).size ≤ j * 16700 := by rw [mk_len]; exact hbl
        have s2 : (ByteArray.mk (Pl.entryL l[j] []).toArray).size ≤ 16700 := by rw [mk_len]; exact hel
        have hrem : ((j : Int) % 16 == 0) = true := by simp; omega
        generalize ByteArray.mk (Pl.entryL l[j] []).toArray = eb at *
        generalize ByteArray.mk (Pl.blkN l j).toArray = bb at *
        generalize ByteArray.mk (Pl.aheadN l j).toArray = ab at *
        clear hau hel hbl hal hmj
        go_wp2_with fail
        refine (P1.out _).mono ?_
        rintro e1 w1 ⟨rfl, b1⟩
        have hb1 := hb.trans (b1.mono hb.size)
        have hx := (⟨x0, x1, x2, x3⟩ : VerIn wr b (off + j * 4) l[j])
        have hblt : b < wr.heap.size := by
          obtain ⟨o, ho, _⟩ := not_walk_of_cell x0
          exact (Array.getElem?_eq_some_iff.1 ho).1
        obtain ⟨y0, y1, y2, y3⟩ := VerIn.kept (x := l[j]) hx (b1.block b hblt)
        clear x0 x1 x2 x3 hx b1
        go_wp2_with fail
        refine (P2.out _).mono ?_
        rintro e2 w2 ⟨rfl, b2⟩
        go_wp2_with fail
        go_roundw
        case rel => exact ⟨j + 1, by omega, by go_num, by rw [hcat.out], by rw [hasucc.out], hb1.trans (b2.mono hb1.size)⟩
        case measure => simp [intOf]; omega
      · have hau : Pl.aheadU l j = Pl.aheadN l j := by unfold Pl.aheadU; rw [if_neg h16]
        rw [hau] at hel
        have P1 := Lib.hid (fun w => refEntry_any l[j] (Pl.aheadN l j) w hmj hal)
        have hau' := Lib.hid hau
        have hcat : Hid ((ByteArray.mk (Pl.blkN l j).toArray ++ ByteArray.mk (Pl.entryL l[j] (Pl.aheadN l j)).toArray) = ByteArray.mk (Pl.blkN l (j + 1)).toArray) := by
          show _ = _
          rw [hsucc.out, hau'.out, Pl.mk_append]
        have s1 : (ByteArray.mk (Pl.blkN l j).toArray).size ≤ j * 16700 := by rw [mk_len]; exact hbl
        have s2 : (ByteArray.mk (Pl.entryL l[j] (Pl.aheadN l j)).toArray).size ≤ 16700 := by rw [mk_len]; exact hel
        have hrem : ((j : Int) % 16 == 0) = false := by simp; omega
        generalize ByteArray.mk (Pl.entryL l[j] (Pl.aheadN l j)).toArray = eb at *
        generalize ByteArray.mk (Pl.blkN l j).toArray = bb at *
        generalize ByteArray.mk (Pl.aheadN l j).toArray = ab at *
        clear hau hel hbl hal hmj
        go_wp2_with fail
        refine (P1.out _).mono ?_
        rintro e1 w1 ⟨rfl, b1⟩
        have hb1 := hb.trans (b1.mono hb.size)
        have hx := (⟨x0, x1, x2, x3⟩ : VerIn wr b (off + j * 4) l[j])
        have hblt : b < wr.heap.size := by
          obtain ⟨o, ho, _⟩ := not_walk_of_cell x0
          exact (Array.getElem?_eq_some_iff.1 ho).1
        obtain ⟨y0, y1, y2, y3⟩ := VerIn.kept (x := l[j]) hx (b1.block b hblt)
        clear x0 x1 x2 x3 hx b1
        go_wp2_with fail
        refine (P2.out _).mono ?_
        rintro e2 w2 ⟨rfl, b2⟩
        go_wp2_with fail
        go_roundw
        case rel => exact ⟨j + 1, by omega, by go_num, by rw [hcat.out], by rw [hasucc.out], hb1.trans (b2.mono hb1.size)⟩
        case measure => simp [intOf]; omega
    · obtain rfl : j = l.length := by omega
      go_wp2
      go_ret
      exact ⟨rfl, hb⟩

set_option maxRecDepth 100000 in
set_option maxHeartbeats 800000 in
theorem refEncBlock_any (v : Value) (l : List Ver) (w : World) (hv : VersAt w v l) (hl : l.length ≤ 1048576) :
    Calls Try.prog 31 #[v] w fun e w' => e = .returned (.tuple #[.string ⟨(if Pl.riseC l = 0 then Pl.blkN l l.length else []).toArray⟩, .int .i64 (Pl.riseC l : Nat)]) ∧ Below w.heap.size w w' := by
  have P1 := Lib.hid (refRising_any v l w hv (by omega))
  by_cases h0 : Pl.riseC l = 0
  · have hm : ∀ i (hi : i < l.length), Pl.mayB l[i] = true := by
      intro i hi
      apply Classical.byContradiction
      intro h
      rw [Pl.riseC_bad hi (by simpa using h)] at h0
      cases h0
    have P2 := Lib.hid (fun w' hb => refBytes_any v l w' (hv.below hb) hl hm)
    rw [if_pos h0, h0]
    rw [h0] at P1
    obtain ⟨ao, cap, rfl, _, _, _⟩ := hv
    clear h0 hm
    go_enter Try.func31, Try.ntmps31
    go_wp2_with fail
    refine P1.out.mono ?_
    rintro e1 w1 ⟨rfl, b1⟩
    go_wp2_with fail
    refine (P2.out _ b1).mono ?_
    rintro e2 w2 ⟨rfl, b2⟩
    go_wp2_with fail
    go_ret2
    exact ⟨rfl, b1.trans (b2.mono b1.size)⟩
  · rw [if_neg h0]
    generalize Pl.riseC l = c at *
    have hc : ((c : Int) != 0) = true := by simp; omega
    obtain ⟨ao, cap, rfl, _, _, _⟩ := hv
    go_enter Try.func31, Try.ntmps31
    go_wp2_with fail
    refine P1.out.mono ?_
    rintro e1 w1 ⟨rfl, b1⟩
    go_wp2_with fail
    go_ret2
    exact ⟨rfl, b1⟩
end Go.Proofs.Ytiogjebekadmcaa
