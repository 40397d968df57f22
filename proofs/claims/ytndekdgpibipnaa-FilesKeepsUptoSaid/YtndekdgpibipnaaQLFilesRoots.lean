
/- Walk: the law FilesRoots returns true. Condition: none. -/
import Derived.Test.YtndekdgpibipnaaQWEncRt
import Derived.Test.YtndekdgpibipnaaQWRefEncRt

namespace Go.Proofs.Ytndekdgpibipnaa
open Go.RowKit Go.Shelf

/-- a root's bytes, or none and why; where it may not be: refused -/
noncomputable def Pl.encRt (N : Int) (r : Pl.RootP) : List UInt8 × Int := if Pl.mayB N r then Pl.encOf r else ([], 1)
theorem encRt_any (r : Pl.RootP) (ao : Option Addr) (cap : Nat) (N0 : Int) (w : World) (hf : r.fine) (hu : FilesAt w (.slice ao r.files.length cap) r.files) (hN1 : -9223372036854775808 ≤ N0) (hN2 : N0 ≤ 9223372036854775807) :
    Calls Try.prog 26 #[.agg #[.int .u64 (r.gen : Int), .slice ao r.files.length cap], .int .i64 N0] w fun e w' => e = .returned (.tuple #[.string ⟨(Pl.encRt (min N0 16384) r).1.toArray⟩, .int .i64 (Pl.encRt (min N0 16384) r).2]) ∧ Below w.heap.size w w' := by
  unfold Pl.encRt
  by_cases hm : Pl.May (min N0 16384) r
  · rw [Pl.mayB_yes hm, if_pos rfl]
    exact callsIn_wide.1 (encRoot_ok 3 r ao cap N0 w hf hu hN1 hN2 hm)
  · rw [Pl.mayB_no hm, if_neg Bool.false_ne_true]
    exact callsIn_wide.1 (encRoot_bad 3 r ao cap N0 w hf hu hN1 hN2 hm)
theorem refEncRt_any (r : Pl.RootP) (ao : Option Addr) (cap : Nat) (N0 : Int) (w : World) (hf : r.fine) (hu : FilesAt w (.slice ao r.files.length cap) r.files) (hN1 : -9223372036854775808 ≤ N0) (hN2 : N0 ≤ 9223372036854775807) :
    Calls Try.prog 27 #[.agg #[.int .u64 (r.gen : Int), .slice ao r.files.length cap], .int .i64 N0] w fun e w' => e = .returned (.tuple #[.string ⟨(Pl.encRt (min N0 16384) r).1.toArray⟩, .int .i64 (Pl.encRt (min N0 16384) r).2]) ∧ Below w.heap.size w w' := by
  unfold Pl.encRt
  by_cases hm : Pl.May (min N0 16384) r
  · rw [Pl.mayB_yes hm, if_pos rfl]
    exact refEnc_ok r ao cap N0 w hf hu hN1 hN2 hm
  · rw [Pl.mayB_no hm, if_neg Bool.false_ne_true]
    exact refEnc_bad r ao cap N0 w hf hu hN1 hN2 hm

set_option maxRecDepth 100000 in
set_option maxHeartbeats 800000 in
theorem filesRoots_any (r : Pl.RootP) (u : Value) (N0 : Int) (w : World) (hf : r.fine) (hu : FilesAt w u r.files) (hN1 : -9223372036854775808 ≤ N0) (hN2 : N0 ≤ 9223372036854775807) :
    Calls Try.prog 7 #[.agg #[.int .u64 (r.gen : Int), u], .int .i64 N0] w fun e w' => e = .returned (.bool true) ∧ Below w.heap.size w w' := by
  obtain ⟨ao, cap, rfl, hu'⟩ := id hu
  obtain ⟨W0, hW0⟩ : ∃ W0, w.alloc (.cells #[.int .u64 (r.gen : Int), .slice ao r.files.length cap] 50) = W0 := ⟨_, rfl⟩
  have hb0 : Below w.heap.size w W0 := by rw [← hW0]; exact (Below.refl _ _).alloc (Nat.le_refl _) _
  have hR0 : W0.heap[w.heap.size]? = some (.cells #[.int .u64 (r.gen : Int), .slice ao r.files.length cap] 50 (0, 0)) := by rw [← hW0]; exact World.alloc_heap_new _ _
  have hz0 : w.heap.size < W0.heap.size := (Array.getElem?_eq_some_iff.1 hR0).1
  have r0 : W0.cell? ⟨w.heap.size, 0, none⟩ = some (.int .u64 (r.gen : Int)) := by simp [World.cell?, hR0]
  have r1 : W0.cell? ⟨w.heap.size, 1, none⟩ = some (.slice ao r.files.length cap) := by simp [World.cell?, hR0]
  have P1 := Lib.hid (encRt_any r ao cap N0 W0 hf (hu.below hb0) hN1 hN2)
  have P2 := Lib.hid (fun W (hb : Below w.heap.size w W) => refEncRt_any r ao cap N0 W hf (hu.below hb) hN1 hN2)
  generalize Pl.encRt (min N0 16384) r = E at P1 P2
  obtain ⟨es, ee⟩ := E
  simp only at P1 P2
  clear hR0 hu' hu
  go_enter Try.func7, Try.ntmps7
  go_wp2_with fail
  clear hW0
  refine P1.out.mono ?_
  rintro e w1 ⟨rfl, b1⟩
  have q0 := (b1.cell (p := ⟨w.heap.size, 0, none⟩) hz0).trans r0
  have q1 := (b1.cell (p := ⟨w.heap.size, 1, none⟩) hz0).trans r1
  have hb1 := hb0.trans (b1.mono hb0.size)
  clear r0 r1 P1
  go_wp2_with fail
  refine (P2.out w1 hb1).mono ?_
  rintro e w2 ⟨rfl, b2⟩
  clear P2
  go_wp2_with fail
  go_ret
  exact ⟨ret_bool4 (by first | rfl | simp), hb1.trans (b2.mono hb1.size)⟩
end Go.Proofs.Ytndekdgpibipnaa
