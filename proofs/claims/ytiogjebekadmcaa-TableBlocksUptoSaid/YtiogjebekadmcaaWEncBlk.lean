
/- Walk: the program's block. Condition: rows of versions that are not many. -/
import Derived.Test.YtiogjebekadmcaaWAdd
import Derived.Test.YtiogjebekadmcaaWRise2
namespace Go.Proofs.Ytiogjebekadmcaa
open Go.RowKit

theorem WrAt.new (w : World) : WrAt w.heap.size (.pointer none) [] 0 ⟨#[]⟩ (w.alloc (.cells #[.pointer none, .slice none 0 0, .int .i64 0, .string ⟨#[]⟩] 101)) :=
  ⟨.slice none 0 0, heap_alloc_new w _, World.ownsRow_nil _ _ _ _⟩
theorem WrAt.alloc {b : Nat} {p : Value} {l : List UInt8} {cnt : Int} {ah : ByteArray} {w : World} (h : WrAt b p l cnt ah w) (o : Obj) : WrAt b p l cnt ah (w.alloc o) := h.kept ((Below.refl _ _).alloc (Nat.le_refl _) _)

set_option maxRecDepth 100000 in
set_option maxHeartbeats 800000 in
theorem encBlock_any (v : Value) (l : List Ver) (w : World) (hv : VersAt w v l) (hl : l.length ≤ 1048576) :
    Calls Try.prog 30 #[v] w fun e w' => e = .returned (.tuple #[.string ⟨(if Pl.riseC l = 0 then Pl.blkN l l.length else []).toArray⟩, .int .i64 (Pl.riseC l : Nat)]) ∧ Below w.heap.size w w' := by
  have P1 := Lib.hid (rising_any v l w hv (by omega))
  by_cases h0 : Pl.riseC l = 0
  · have hm : ∀ i (hi : i < l.length), Pl.mayB l[i] = true := by
      intro i hi
      apply Classical.byContradiction
      intro h
      rw [Pl.riseC_bad hi (by simpa using h)] at h0
      cases h0
    rw [if_pos h0, h0]
    rw [h0] at P1
    obtain ⟨ao, cap, rfl, _, _, hv⟩ := hv
    have hz0 : Hid (Pl.aheadN l 0 = []) := Lib.hid (Pl.aheadN_zero l)
    have hm' := Lib.hid hm
    clear h0 hm
    go_enter Try.func30, Try.ntmps30
    go_wp2_with fail
    refine P1.out.mono ?_
    rintro e1 w1 ⟨rfl, b1⟩
    go_wp2_with fail
    have n0 := WrAt.new w1
    have hs1 := b1.size
    go_loopw [15] (fun i wr => ∃ (j : Nat) (p : Value), j ≤ l.length ∧ i = .int .i64 (j : Int) ∧ WrAt w1.heap.size p (Pl.blkN l j) (j : Int) ⟨(Pl.aheadN l j).toArray⟩ wr ∧ Hd w1.heap.size p ∧ Below w.heap.size w wr) (fun i _ => l.length - (intOf i).toNat)
    case atStart => exact ⟨0, _, by omega, rfl, by rw [hz0.out]; exact n0, .inl rfl, b1.alloc (by omega) _⟩
    case round =>
      obtain ⟨j, p, hj, rfl, hwr, hp, hb⟩ := hrel
      by_cases h1 : j < l.length
      · obtain ⟨b, off, rfl, hrow⟩ := hv (by omega)
        obtain ⟨x0, x1, x2, x3⟩ := row_at hrow hb h1
        have hmj := hm'.out j h1
        have hbl := Pl.blkN_length hm'.out j (by omega)
        have hsucc := Lib.hid (Pl.blkN_succ h1)
        have hasucc := Lib.hid (Pl.aheadN_succ h1)
        have hal : (Pl.aheadN l j).length ≤ 202 := by
          unfold Pl.aheadN
          split
          · split
            · simp
            · exact Pl.encB_length
          · simp
        have P2 := Lib.hid (fun w' (h : WrAt w1.heap.size p (Pl.blkN l j) (j : Int) ⟨(Pl.aheadN l j).toArray⟩ w') => add_any w1.heap.size p (Pl.blkN l j) (Pl.aheadN l j) j l[j] w' h hp hmj hal (by omega) hbl)
        clear hrow hal hbl hmj
        go_wp2_with fail
        refine (P2.out _ (hwr.alloc _)).mono ?_
        rintro e2 w2 ⟨rfl, hwr2, b2⟩
        go_wp2_with fail
        go_roundw
        case rel =>
          refine ⟨j + 1, _, by omega, by go_num, ?_, .inr rfl, (hb.alloc (by have := hb.size; omega) _).trans (b2.mono (by omega))⟩
          rw [hsucc.out, hasucc.out]
          exact hwr2
        case measure => simp [intOf]; omega
      · obtain rfl : j = l.length := by omega
        have P3 := Lib.hid (text_any w1.heap.size p (Pl.blkN l l.length) _ _ wr hwr)
        go_wp2_with fail
        refine P3.out.mono ?_
        rintro e3 w3 ⟨rfl, b3⟩
        go_wp2_with fail
        go_ret2
        exact ⟨rfl, hb.trans (b3.mono (by omega))⟩
  · rw [if_neg h0]
    generalize Pl.riseC l = c at *
    have hc : ((c : Int) != 0) = true := by simp; omega
    obtain ⟨ao, cap, rfl, _, _, _⟩ := hv
    go_enter Try.func30, Try.ntmps30
    go_wp2_with fail
    refine P1.out.mono ?_
    rintro e1 w1 ⟨rfl, b1⟩
    go_wp2_with fail
    go_ret2
    exact ⟨rfl, b1⟩
end Go.Proofs.Ytiogjebekadmcaa
