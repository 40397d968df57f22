
/- Walk: the law FilesRoots returns true. Condition: none.
   Walk: a root decoded; SameRoot; the law FilesBack returns true. Condition: none. -/
import Derived.Test.YtndekdgpibipnaaQWEncRt
import Derived.Test.YtndekdgpibipnaaQWRefEncRt
import Derived.Test.YtndekdgpibipnaaQGn
import Derived.Test.YtndekdgpibipnaaQGu
import Derived.BigQuiet
import Derived.Deep.QuietTactic
import Derived.IntWalk
import Derived.Lib.Hide
import Derived.Test.YtndekdgpibipnaaQGy
import Derived.Test.YtndekdgpibipnaaQWTakeFrame
import Derived.Test.YtndekdgpibipnaaQGa
import Derived.Defers
import Derived.Recover

namespace Go.Proofs.Ytndekdgpibipnaa
open Go.RowKit Go.Shelf

/-- a root's bytes, or none and why; where it may not be: refused -/
noncomputable def Pl.encRt (N : Int) (r : Pl.RootP) : List UInt8 × Int := if Pl.mayB N r then Pl.encOf r else ([], 1)
theorem encRt_any (r : Pl.RootP) (ao : Option Addr) (cap : Nat) (N0 : Int) (w : World) (hf : r.fine) (hu : FilesAt w (.slice ao r.files.length cap) r.files) (hN1 : -9223372036854775808 ≤ N0) (hN2 : N0 ≤ 9223372036854775807) :
    Calls Try.prog 26 #[.agg #[.int .u64 (r.gen : Int), .slice ao r.files.length cap], .int .i64 N0] w fun e w' => e = .returned (.tuple #[.string ⟨(Pl.encRt (min N0 16384) r).1.toArray⟩, .int .i64 (Pl.encRt (min N0 16384) r).2]) ∧ Below w.heap.size w w' := by
  unfold Pl.encRt
  by_cases hm : Pl.May (min N0 16384) r
  · rw [Pl.mayB_yes hm, if_pos rfl]
    exact callsIn_wide.1 (encRoot_ok 3 r ao cap N0 w hf hu hN1 hN2 hm)
  · rw [Pl.mayB_no hm, if_neg Bool.false_ne_true]
    exact callsIn_wide.1 (encRoot_bad 3 r ao cap N0 w hf hu hN1 hN2 hm)
theorem refEncRt_any (r : Pl.RootP) (ao : Option Addr) (cap : Nat) (N0 : Int) (w : World) (hf : r.fine) (hu : FilesAt w (.slice ao r.files.length cap) r.files) (hN1 : -9223372036854775808 ≤ N0) (hN2 : N0 ≤ 9223372036854775807) :
    Calls Try.prog 27 #[.agg #[.int .u64 (r.gen : Int), .slice ao r.files.length cap], .int .i64 N0] w fun e w' => e = .returned (.tuple #[.string ⟨(Pl.encRt (min N0 16384) r).1.toArray⟩, .int .i64 (Pl.encRt (min N0 16384) r).2]) ∧ Below w.heap.size w w' := by
  unfold Pl.encRt
  by_cases hm : Pl.May (min N0 16384) r
  · rw [Pl.mayB_yes hm, if_pos rfl]
    exact refEnc_ok r ao cap N0 w hf hu hN1 hN2 hm
  · rw [Pl.mayB_no hm, if_neg Bool.false_ne_true]
    exact refEnc_bad r ao cap N0 w hf hu hN1 hN2 hm

set_option maxRecDepth 100000 in
set_option maxHeartbeats 800000 in
theorem filesRoots_any (r : Pl.RootP) (u : Value) (N0 : Int) (w : World) (hf : r.fine) (hu : FilesAt w u r.files) (hN1 : -9223372036854775808 ≤ N0) (hN2 : N0 ≤ 9223372036854775807) :
    Calls Try.prog 7 #[.agg #[.int .u64 (r.gen : Int), u], .int .i64 N0] w fun e w' => e = .returned (.bool true) ∧ Below w.heap.size w w' := by
  obtain ⟨ao, cap, rfl, hu'⟩ := id hu
  obtain ⟨W0, hW0⟩ : ∃ W0, w.alloc (.cells #[.int .u64 (r.gen : Int), .slice ao r.files.length cap] 50) = W0 := ⟨_, rfl⟩
  have hb0 : Below w.heap.size w W0 := by rw [← hW0]; exact (Below.refl _ _).alloc (Nat.le_refl _) _
  have hR0 : W0.heap[w.heap.size]? = some (.cells #[.int .u64 (r.gen : Int), .slice ao r.files.length cap] 50 (0, 0)) := by rw [← hW0]; exact World.alloc_heap_new _ _
  have hz0 : w.heap.size < W0.heap.size := (Array.getElem?_eq_some_iff.1 hR0).1
  have r0 : W0.cell? ⟨w.heap.size, 0, none⟩ = some (.int .u64 (r.gen : Int)) := by simp [World.cell?, hR0]
  have r1 : W0.cell? ⟨w.heap.size, 1, none⟩ = some (.slice ao r.files.length cap) := by simp [World.cell?, hR0]
  have P1 := Lib.hid (encRt_any r ao cap N0 W0 hf (hu.below hb0) hN1 hN2)
  have P2 := Lib.hid (fun W (hb : Below w.heap.size w W) => refEncRt_any r ao cap N0 W hf (hu.below hb) hN1 hN2)
  generalize Pl.encRt (min N0 16384) r = E at P1 P2
  obtain ⟨es, ee⟩ := E
  simp only at P1 P2
  clear hR0 hu' hu
  go_enter Try.func7, Try.ntmps7
  go_wp2_with fail
  clear hW0
  refine P1.out.mono ?_
  rintro e w1 ⟨rfl, b1⟩
  have q0 := (b1.cell (p := ⟨w.heap.size, 0, none⟩) hz0).trans r0
  have q1 := (b1.cell (p := ⟨w.heap.size, 1, none⟩) hz0).trans r1
  have hb1 := hb0.trans (b1.mono hb0.size)
  clear r0 r1 P1
  go_wp2_with fail
  refine (P2.out w1 hb1).mono ?_
  rintro e w2 ⟨rfl, b2⟩
  clear P2
  go_wp2_with fail
  go_ret
  exact ⟨ret_bool4 (by first | rfl | simp), hb1.trans (b2.mono hb1.size)⟩
end Go.Proofs.Ytndekdgpibipnaa

namespace Go.Proofs.Ytndekdgpibipnaa
open Go.RowKit

set_option maxRecDepth 100000 in
set_option maxHeartbeats 2000000 in
theorem sameInts4 (u v : Value) (l : List Int) (w : World) (hu : IntsAt w u l) (hv : IntsAt w v l) :
    Calls Try.prog 70 #[u, v] w fun e w' => e = .returned (.bool true) ∧ ∃ n, w' = w.drewN n := by
  obtain ⟨a1, c1, rfl, d1, d2, hu⟩ := hu
  obtain ⟨a2, c2, rfl, _, _, hv⟩ := hv
  have hl : l.length ≤ 9223372036854775807 := by omega
  go_enter Try.func70, Try.ntmps70
  go_wp2
  go_loopw [5] (fun i wr => ∃ k n : Nat, k ≤ l.length ∧ i = .int .i64 k ∧ wr = w.drewN n) (fun i _ => l.length - (intOf i).toNat)
  case atStart => exact ⟨0, 0, by omega, rfl, rfl⟩
  case round =>
    obtain ⟨k, n, hk, rfl, rfl⟩ := hrel
    by_cases h1 : k < l.length
    · obtain ⟨b1, o1, rfl, _, hc1⟩ := hu (by omega)
      obtain ⟨b2, o2, rfl, _, hc2⟩ := hv (by omega)
      have x0 := hc1 k h1
      have y0 := hc2 k h1
      have hg : (0 : Int) ≤ (k : Int) := by omega
      have hg2 : (k : Int) < (l.length : Int) := by omega
      clear hc1 hc2 hu hv
      go_wp2
      go_quiet (fail)
      go_wp2
      go_roundw
      case rel => exact ⟨k + 1, _, by omega, by go_num, rfl⟩
      case measure => simp [intOf]; omega
    · go_wp2
      go_ret
      exact ⟨rfl, n, rfl⟩

set_option maxRecDepth 100000 in
set_option maxHeartbeats 2000000 in
theorem sameRoot4 (r : Pl.RootP) (u v : Value) (w : World) (hu : FilesAt w u r.files) (hv : FilesAt w v r.files) :
    Calls Try.prog 34 #[.agg #[.int .u64 (r.gen : Int), u], .agg #[.int .u64 (r.gen : Int), v]] w fun e w' => e = .returned (.bool true) ∧ Below w.heap.size w w' := by
  obtain ⟨a1, c1, rfl, d1, d2, hu⟩ := hu
  obtain ⟨a2, c2, rfl, _, _, hv⟩ := hv
  obtain ⟨gen, fs⟩ := r
  simp only at d1 hu hv ⊢
  have hl : fs.length ≤ 9223372036854775807 := by omega
  obtain ⟨W1, hW1⟩ : ∃ W1, (w.alloc (.cells #[.int .u64 (gen : Int), .slice a1 fs.length c1] 50)).alloc (.cells #[.int .u64 (gen : Int), .slice a2 fs.length c2] 50) = W1 := ⟨_, rfl⟩
  have hb1 : Below w.heap.size w W1 := by rw [← hW1]; exact ((Below.refl _ _).alloc (Nat.le_refl _) _).alloc (by simp) _
  have r0 : W1.cell? ⟨w.heap.size, 0, none⟩ = some (.int .u64 (gen : Int)) := by rw [← hW1]; simp
  have r1 : W1.cell? ⟨w.heap.size, 1, none⟩ = some (.slice a1 fs.length c1) := by rw [← hW1]; simp
  have s0 : W1.cell? ⟨w.heap.size + 1, 0, none⟩ = some (.int .u64 (gen : Int)) := by
    rw [← hW1]
    simp
  have s1 : W1.cell? ⟨w.heap.size + 1, 1, none⟩ = some (.slice a2 fs.length c2) := by
    rw [← hW1]
    simp
  go_enter Try.func34, Try.ntmps34
  go_wp2
  clear hW1
  have hz1 : w.heap.size + 1 < W1.heap.size := by
    obtain ⟨o, ho, _⟩ := not_walk_of_cell s0
    exact (Array.getElem?_eq_some_iff.1 ho).1
  go_loopw [5] (fun i wr => ∃ k : Nat, k ≤ fs.length ∧ i = .int .i64 k ∧ Below W1.heap.size W1 wr) (fun i _ => fs.length - (intOf i).toNat)
  case atStart => exact ⟨0, by omega, rfl, Below.refl _ _⟩
  case round =>
    obtain ⟨k, hk, rfl, hbr⟩ := hrel
    have q1 := (hbr.cell (p := ⟨w.heap.size, 1, none⟩) (show w.heap.size < W1.heap.size by omega)).trans r1
    have t1 := (hbr.cell (p := ⟨w.heap.size + 1, 1, none⟩) hz1).trans s1
    have hbw := hb1.trans (hbr.mono hb1.size)
    by_cases h1 : k < fs.length
    · obtain ⟨b1, o1, rfl, hl1, hc1⟩ := hu (by omega)
      obtain ⟨b2, o2, rfl, hl2, hc2⟩ := hv (by omega)
      obtain ⟨x0, x1, u1, x2, hi1⟩ := (hc1 k h1).below hl1 hbw
      obtain ⟨y0, y1, u2, y2, hi2⟩ := (hc2 k h1).below hl2 hbw
      have hg : (0 : Int) ≤ (k : Int) := by omega
      have hg2 : (k : Int) < (fs.length : Int) := by omega
      have P := Lib.hid (fun m => sameInts4 u1 u2 fs[k].blocks (wr.drewN m) hi1 hi2)
      generalize fs[k] = x at *
      clear hc1 hc2 hu hv hi1 hi2 r1 s1
      go_wp2
      go_quiet (((go_at_call 70; exact Calls.quiet_of (P.out _))))
      clear P
      go_wp2
      go_quiet (fail)
      go_wp2
      go_roundw
      case rel => exact ⟨k + 1, by omega, by go_num, below_drewN hbr _⟩
      case measure => simp [intOf]; omega
    · go_wp2
      go_ret
      exact ⟨rfl, hbw⟩
end Go.Proofs.Ytndekdgpibipnaa
namespace Go.Proofs.Ytndekdgpibipnaa
open Go.RowKit Go.Shelf

theorem errno_loadVar {W : World} {b : Nat} {n : Int} (hc : W.heap[b]? = some (.cells #[.int .i64 n] 24 (0, 0))) : (loadVar 24 ⟨b, 0, none⟩).run Try.prog W = .ok (.int .i64 n) W := by
  have c0 : W.cell? ⟨b, 0, none⟩ = some (.int .i64 n) := by simp [World.cell?, hc]
  simp [loadVar, go_sem, c0]
theorem results_dec {fn : Func} (h : fn.results = #[.cell 4 50, .cell 5 24]) {tmps : Array Value} {b c : Nat} {g n : Int} {v : Value} {w : World} (h4 : tmps.getD 4 undef = .pointer (some ⟨b, 0, none⟩)) (h5 : tmps.getD 5 undef = .pointer (some ⟨c, 0, none⟩))
    (hb : w.heap[b]? = some (.cells #[.int .u64 g, v] 50 (0, 0))) (hc : w.heap[c]? = some (.cells #[.int .i64 n] 24 (0, 0))) :
    (results fn tmps).run Try.prog w = .ok (.tuple #[.agg #[.int .u64 g, v], .int .i64 n]) w := by
  have h4' : tmps[4]?.getD undef = .pointer (some ⟨b, 0, none⟩) := by simpa using h4
  have h5' : tmps[5]?.getD undef = .pointer (some ⟨c, 0, none⟩) := by simpa using h5
  simp [results, h, h4', h5', asAddr, root_loadVar hb, errno_loadVar hc]
theorem dec_idle (p q : Addr) (w : World) :
    CallsD Try.prog 73 #[.pointer (some p), .pointer (some q)] .returning w fun e u' w' => e = .returned (.tuple #[]) ∧ u' = .returning ∧ w' = w := by
  refine callsD_of_wpS Try.func73 rfl fun c₀ cs hu => ?_
  apply wpS_seq
  apply wpS_region
  simp [wpOpsS, go_sem, recoverD, hu, Try.ntmps73, Exit.thenS]
  apply wpS_seq
  apply wpS_region
  simp [wpOpsS, go_sem, Exit.thenS]
  refine wpS_cond (t := false) (by simp [Act.eval, Array.replicate]) ?_
  simp only [Bool.false_eq_true, if_false]
  refine wpS_of_wp (wp_skip ?_)
  cases c₀
  simp_all [bodyPostS, results, Try.results73]

set_option maxRecDepth 100000 in
set_option maxHeartbeats 1600000 in
theorem decodeRoot_ok (S : ByteArray) (r : Pl.RootP) (n : Nat) (N0 : Int) (w : World) (hf : r.fine) (hN1 : -9223372036854775808 ≤ N0) (hN2 : N0 ≤ 9223372036854775807) (hm : Pl.May (min N0 16384) r) (hS : S.size ≤ 9223372036854775000)
    (ht : Pl.takeFrame S.data.toList = ((1, Pl.rootBytes r), n, 0)) (hn : n ≤ 3840) (hnS : n ≤ S.size) (he : Pl.encRt (min N0 16384) r = (S.data.toList.take n, 0)) :
    Calls Try.prog 33 #[.string S, .int .i64 N0] w fun e w' => ∃ u, e = .returned (.tuple #[.agg #[.int .u64 (r.gen : Int), u], .int .i64 0]) ∧ FilesAt w' u r.files ∧ Below w.heap.size w w' := by
  have P1 := Lib.hid (fun w => takeFrame_big S w hS)
  rw [ht] at P1
  unfold tupF at P1
  simp only at P1
  have hmf : ∀ (fn : Fn) (first cap : Array Value) (w : World), (Instr.makeFunc fn first cap).run Try.prog w = .ok (.func fn first cap) w := fun _ _ _ _ => rfl
  have hn1 : ¬ (3840 : Int) < (n : Int) := by omega
  have hb0 : Below w.heap.size w ((w.alloc (.cells #[.int .u64 0, .slice none 0 0] 50)).alloc (.cells #[.int .i64 0] 24)) := ((Below.refl _ _).alloc (Nat.le_refl _) _).alloc (by rw [World.size_alloc]; omega) _
  have hR0 : ((w.alloc (.cells #[.int .u64 0, .slice none 0 0] 50)).alloc (.cells #[.int .i64 0] 24)).heap[w.heap.size]? = some (.cells #[.int .u64 0, .slice none 0 0] 50 (0, 0)) := by
    exact (((Below.refl _ (w.alloc (.cells #[.int .u64 0, .slice none 0 0] 50))).alloc (Nat.le_refl _) _).block w.heap.size (by rw [World.size_alloc]; omega)).trans (World.alloc_heap_new _ _)
  have hE0 : ((w.alloc (.cells #[.int .u64 0, .slice none 0 0] 50)).alloc (.cells #[.int .i64 0] 24)).heap[w.heap.size + 1]? = some (.cells #[.int .i64 0] 24 (0, 0)) := by
    have := World.alloc_heap_new (w.alloc (.cells #[.int .u64 0, .slice none 0 0] 50)) (.cells #[.int .i64 0] 24)
    rwa [World.size_alloc] at this
  go_enter_defers Try.func33, Try.ntmps33
  go_wp2_with fail
  generalize ((w.alloc (.cells #[.int .u64 0, .slice none 0 0] 50)).alloc (.cells #[.int .i64 0] 24)) = W0 at *
  refine (P1.out W0).mono ?_
  rintro e w1 ⟨rfl, b1⟩
  have hz1 := (Array.getElem?_eq_some_iff.1 hE0).1
  have hR1 := (b1.block w.heap.size (by omega)).trans hR0
  have hE1 := (b1.block (w.heap.size + 1) (by omega)).trans hE0
  clear hR0 hE0
  generalize hL : Pl.rootBytes r = L at *
  go_wp2_with fail
  have hb2 : Below w1.heap.size w1 ((w1.alloc (.cells #[.int .u8 1, .string ⟨L.toArray⟩] 112)).alloc (.cells #[.string ⟨L.toArray⟩] 124)) := ((Below.refl _ _).alloc (Nat.le_refl _) _).alloc (by rw [World.size_alloc]; omega) _
  have hRd : RdAt ((w1.alloc (.cells #[.int .u8 1, .string ⟨L.toArray⟩] 112)).alloc (.cells #[.string ⟨L.toArray⟩] 124)) (w1.heap.size + 1) (Pl.rootBytes r) := by
    have := World.alloc_heap_new (w1.alloc (.cells #[.int .u8 1, .string ⟨L.toArray⟩] 112)) (.cells #[.string ⟨L.toArray⟩] 124)
    rw [World.size_alloc] at this
    rw [hL]; exact this
  generalize ((w1.alloc (.cells #[.int .u8 1, .string ⟨L.toArray⟩] 112)).alloc (.cells #[.string ⟨L.toArray⟩] 124)) = W2 at *
  refine (root_ok (w1.heap.size + 1) r (min N0 16384) W2 hm (by omega) hRd).mono ?_
  rintro e w2 ⟨u, rfl, hfl, hk2⟩
  have hz2 := b1.size
  have hz3 := hb2.size
  have hR2 := (hk2.block w.heap.size (show w.heap.size ≠ w1.heap.size + 1 by omega) (by omega)).trans ((hb2.block w.heap.size (by omega)).trans hR1)
  have hE2 := (hk2.block (w.heap.size + 1) (show w.heap.size + 1 ≠ w1.heap.size + 1 by omega) (by omega)).trans ((hb2.block (w.heap.size + 1) (by omega)).trans hE1)
  clear hR1 hE1 P1
  have c0 : w2.cell? ⟨w.heap.size, 0, none⟩ = some (.int .u64 0) := by simp [World.cell?, hR2]
  have c1 : w2.cell? ⟨w.heap.size, 1, none⟩ = some (.slice none 0 0) := by simp [World.cell?, hR2]
  have f0 : w2.frozen? ⟨w.heap.size, 0, none⟩ = false := by simp [World.frozen?, hR2]
  have f1 : w2.frozen? ⟨w.heap.size, 1, none⟩ = false := by simp [World.frozen?, hR2]
  obtain ⟨ao, cap, rfl, _⟩ := hfl _ (Keep.refl _ _)
  replace hfl := Lib.hid hfl
  go_wp2_with fail
  have hR3 := heap_two (u := .int .u64 (r.gen : Int)) (v := .slice ao r.files.length cap) hR2
  have hk3 : Keep (fun q => q ≠ w.heap.size) w2 ((w2.setCell ⟨w.heap.size, 0, none⟩ (.int .u64 (r.gen : Int))).setCell ⟨w.heap.size, 1, none⟩ (.slice ao r.files.length cap)) := ((Keep.refl _ _).setCell _ _ _ (fun h _ => h rfl)).setCell _ _ _ (fun h _ => h rfl)
  generalize (w2.setCell ⟨w.heap.size, 0, none⟩ (.int .u64 (r.gen : Int))).setCell ⟨w.heap.size, 1, none⟩ (.slice ao r.files.length cap) = w3 at *
  have hfl3 := hfl.out w3 (hk3.mono (fun q h _ => by omega))
  have hE3 := (hk3.block (w.heap.size + 1) (show w.heap.size + 1 ≠ w.heap.size by omega) (Array.getElem?_eq_some_iff.1 hE2).1).trans hE2
  have P3 := encRt_any r ao cap N0 w3 hf hfl3 hN1 hN2
  have hEq : S.extract 0 n = ⟨(S.data.toList.take n).toArray⟩ := by
    apply ByteArray.ext
    apply Array.ext'
    simp [ByteArray.data_extract, Array.toList_extract]
  rw [he] at P3
  simp only at P3
  rw [← hEq] at P3
  refine P3.mono ?_
  rintro e w4 ⟨rfl, b4⟩
  have hR4 := (b4.block w.heap.size (Array.getElem?_eq_some_iff.1 hR3).1).trans hR3
  have hE4 := (b4.block (w.heap.size + 1) (Array.getElem?_eq_some_iff.1 hE3).1).trans hE3
  clear P3 hEq he hR3 hE3 hR2 hE2 c0 c1 f0 f1
  have c0 : w4.cell? ⟨w.heap.size, 0, none⟩ = some (.int .u64 (r.gen : Int)) := by simp [World.cell?, hR4]
  have c1 : w4.cell? ⟨w.heap.size, 1, none⟩ = some (.slice ao r.files.length cap) := by simp [World.cell?, hR4]
  have f0 : w4.frozen? ⟨w.heap.size, 0, none⟩ = false := by simp [World.frozen?, hR4]
  have f1 : w4.frozen? ⟨w.heap.size, 1, none⟩ = false := by simp [World.frozen?, hR4]
  have d0 : w4.cell? ⟨w.heap.size + 1, 0, none⟩ = some (.int .i64 0) := by simp [World.cell?, hE4]
  have g0 : w4.frozen? ⟨w.heap.size + 1, 0, none⟩ = false := by simp [World.frozen?, hE4]
  go_wp2_with fail
  have hR5 := heap_two (u := .int .u64 (r.gen : Int)) (v := .slice ao r.files.length cap) hR4
  have hk5 : Keep (fun q => q ≠ w.heap.size) w4 ((w4.setCell ⟨w.heap.size, 0, none⟩ (.int .u64 (r.gen : Int))).setCell ⟨w.heap.size, 1, none⟩ (.slice ao r.files.length cap)) := ((Keep.refl _ _).setCell _ _ _ (fun h _ => h rfl)).setCell _ _ _ (fun h _ => h rfl)
  generalize (w4.setCell ⟨w.heap.size, 0, none⟩ (.int .u64 (r.gen : Int))).setCell ⟨w.heap.size, 1, none⟩ (.slice ao r.files.length cap) = w5 at *
  have hE5 := (hk5.block (w.heap.size + 1) (show w.heap.size + 1 ≠ w.heap.size by omega) (Array.getElem?_eq_some_iff.1 hE4).1).trans hE4
  have hk6 := keep_set w5 (w.heap.size + 1) 0 (.int .i64 0)
  have hE6 : (w5.setCell ⟨w.heap.size + 1, 0, none⟩ (.int .i64 0)).heap[w.heap.size + 1]? = some (.cells #[.int .i64 0] 24 (0, 0)) := by
    simp [World.setCell, Array.getElem?_modify, hE5]
  generalize w5.setCell ⟨w.heap.size + 1, 0, none⟩ (.int .i64 0) = w6 at *
  have hR6 := (hk6.block w.heap.size (show w.heap.size ≠ w.heap.size + 1 by omega) (Array.getElem?_eq_some_iff.1 hR5).1).trans hR5
  have hL1 := root_loadVar hR6
  have hL2 := errno_loadVar hE6
  refine leaves_cons (f := 73) (args := #[.pointer (some ⟨w.heap.size, 0, none⟩), .pointer (some ⟨w.heap.size + 1, 0, none⟩)]) (by simp) (by simp [go_sem]) ?_
  refine (dec_idle _ _ _).mono ?_
  rintro e u' w'' ⟨rfl, rfl, rfl⟩
  have hfl6 := hfl.out w'' ((((hk3.mono (fun q h _ => by omega)).trans (Keep.of_below (fp := fun q => W2.heap.size ≤ q ∧ q < w3.heap.size) b4 (fun k h _ => h.2)) (fun q h hq => ⟨h, Nat.lt_of_lt_of_le hq hk3.size⟩)).trans hk5 (fun q h _ => by omega)).trans hk6 (fun q h _ => by omega))
  have hb6 : Below w.heap.size w w'' := by
    have h1 : Below w.heap.size w W2 := (hb0.trans (b1.mono (by omega))).trans (hb2.mono (by omega))
    have h2 := hk2.below h1 (Nat.le_refl _) (fun k h => by omega)
    have h3 := (hk3.below h2 (Nat.le_refl _) (fun k h => by omega)).trans (b4.mono (by have := hk3.size; have := hk2.size; omega))
    exact hk6.below (hk5.below h3 (Nat.le_refl _) (fun k h => by omega)) (Nat.le_refl _) (fun k h => by omega)
  simp only [Leaves, settle]
  exact ⟨_, results_dec rfl rfl rfl hR6 hE6, _, rfl, hfl6, hb6⟩
end Go.Proofs.Ytndekdgpibipnaa
namespace Go.Proofs.Ytndekdgpibipnaa
open Go.RowKit Go.Shelf

theorem lt_of_cell4 {w : World} {b o : Nat} {v : Value} (h : w.cell? ⟨b, o, none⟩ = some v) : b < w.heap.size := by
  rcases Nat.lt_or_ge b w.heap.size with hb | hb
  · exact hb
  · simp [World.cell?, Array.getElem?_eq_none hb] at h
theorem encRt_no {N : Int} {r : Pl.RootP} (h : (Pl.encRt N r).2 ≠ 0) : (Pl.encRt N r).1 = [] := by
  unfold Pl.encRt Pl.encOf at *
  by_cases hm : Pl.mayB N r = true
  · rw [if_pos hm] at *
    by_cases hl : 262144 < (Pl.rootBytes r).length ∨ 3840 < (Pl.frame 1 (Pl.rootBytes r)).length
    · rw [if_pos hl]
    · rw [if_neg hl] at h
      exact absurd rfl h
  · rw [if_neg hm]
theorem encRt_yes {N : Int} {r : Pl.RootP} (h : (Pl.encRt N r).2 = 0) : Pl.May N r ∧ Pl.encRt N r = (Pl.frame 1 (Pl.rootBytes r), 0) ∧ (Pl.rootBytes r).length ≤ 262144 ∧ (Pl.frame 1 (Pl.rootBytes r)).length ≤ 3840 := by
  by_cases hm : Pl.May N r
  · have e : Pl.encRt N r = Pl.encOf r := by unfold Pl.encRt; rw [Pl.mayB_yes hm, if_pos rfl]
    rw [e] at h ⊢
    unfold Pl.encOf at *
    by_cases hl : 262144 < (Pl.rootBytes r).length ∨ 3840 < (Pl.frame 1 (Pl.rootBytes r)).length
    · rw [if_pos hl] at h
      exact absurd h (by decide)
    · rw [if_neg hl]
      exact ⟨hm, rfl, by omega, by omega⟩
  · have e : Pl.encRt N r = ([], 1) := by unfold Pl.encRt; rw [Pl.mayB_no hm, if_neg Bool.false_ne_true]
    rw [e] at h
    exact absurd h (by decide)

set_option maxRecDepth 100000 in
set_option maxHeartbeats 800000 in
theorem filesBack_any (r : Pl.RootP) (u : Value) (N0 : Int) (behind : ByteArray) (w : World) (hf : r.fine) (hu : FilesAt w u r.files) (hN1 : -9223372036854775808 ≤ N0) (hN2 : N0 ≤ 9223372036854775807) (hbs : behind.size ≤ 9223372036854770000) :
    Calls Try.prog 9 #[.agg #[.int .u64 (r.gen : Int), u], .int .i64 N0, .string behind] w fun e w' => e = .returned (.bool true) ∧ Below w.heap.size w w' := by
  obtain ⟨ao, cap, rfl, hu'⟩ := id hu
  obtain ⟨W0, hW0⟩ : ∃ W0, w.alloc (.cells #[.int .u64 (r.gen : Int), .slice ao r.files.length cap] 50) = W0 := ⟨_, rfl⟩
  have hb0 : Below w.heap.size w W0 := by rw [← hW0]; exact (Below.refl _ _).alloc (Nat.le_refl _) _
  have hR0 : W0.heap[w.heap.size]? = some (.cells #[.int .u64 (r.gen : Int), .slice ao r.files.length cap] 50 (0, 0)) := by rw [← hW0]; exact World.alloc_heap_new _ _
  have hz0 : w.heap.size < W0.heap.size := (Array.getElem?_eq_some_iff.1 hR0).1
  have r0 : W0.cell? ⟨w.heap.size, 0, none⟩ = some (.int .u64 (r.gen : Int)) := by simp [World.cell?, hR0]
  have r1 : W0.cell? ⟨w.heap.size, 1, none⟩ = some (.slice ao r.files.length cap) := by simp [World.cell?, hR0]
  have P1 := Lib.hid (encRt_any r ao cap N0 W0 hf (hu.below hb0) hN1 hN2)
  by_cases hE : (Pl.encRt (min N0 16384) r).2 = 0
  · obtain ⟨hm, he, hl1, hl2⟩ := encRt_yes hE
    have ht := Pl.takeFrame_back 1 (Pl.rootBytes r) behind.data.toList (by decide) hl1
    generalize hF : Pl.frame 1 (Pl.rootBytes r) = F at *
    have hFs : (ByteArray.mk F.toArray).size = F.length := rfl
    obtain ⟨S, hS⟩ : ∃ S, S = ByteArray.mk F.toArray ++ behind := ⟨_, rfl⟩
    have hSl : S.data.toList = F ++ behind.data.toList := by rw [hS]; simp [ByteArray.data_append]
    have hSs : S.size = F.length + behind.size := by rw [hS, ByteArray.size_append, hFs]
    have P2 := Lib.hid (fun W => decodeRoot_ok S r F.length N0 W hf hN1 hN2 hm (by omega) (by rw [hSl]; exact ht) hl2 (by omega) (by rw [hSl, List.take_left', he]; rfl))
    rw [he] at P1
    simp only at P1
    have hsum : F.length + behind.size ≤ 9223372036854775807 := by omega
    rw [hS] at P2
    clear hE hR0 hu' ht hF hm he hSl hSs hl1
    go_enter Try.func9, Try.ntmps9
    go_wp2_with fail
    clear hW0
    refine P1.out.mono ?_
    rintro e w1 ⟨rfl, b1⟩
    have q0 := (b1.cell (p := ⟨w.heap.size, 0, none⟩) hz0).trans r0
    have q1 := (b1.cell (p := ⟨w.heap.size, 1, none⟩) hz0).trans r1
    have hb1 := hb0.trans (b1.mono hb0.size)
    clear r0 r1 P1
    go_wp2_with fail
    refine (P2.out w1).mono ?_
    rintro e w2 ⟨v, rfl, hv, b2⟩
    have hb2 := hb1.trans (b2.mono hb1.size)
    have hz1 : w.heap.size < w1.heap.size := lt_of_cell4 q0
    have q0 := (b2.cell (p := ⟨w.heap.size, 0, none⟩) hz1).trans q0
    have q1 := (b2.cell (p := ⟨w.heap.size, 1, none⟩) hz1).trans q1
    have hz2 := lt_of_cell4 q0
    clear P2
    obtain ⟨va, vc, rfl, _⟩ := id hv
    have P3 := Lib.hid (fun W (hb : Below w2.heap.size w2 W) => sameRoot4 r (.slice va r.files.length vc) (.slice ao r.files.length cap) W (hv.below hb) ((hu.below hb2).below hb))
    have hb3 : Below w2.heap.size w2 (w2.alloc (.cells #[.int .u64 (r.gen : Int), .slice va r.files.length vc] 50)) := (Below.refl _ _).alloc (Nat.le_refl _) _
    go_wp2_with fail
    generalize w2.alloc (.cells #[.int .u64 (r.gen : Int), .slice va r.files.length vc] 50) = w3 at *
    refine (P3.out w3 hb3).mono ?_
    rintro e w4 ⟨rfl, b4⟩
    clear P3
    go_wp2_with fail
    go_ret
    have hb3' := hb2.trans (hb3.mono hb2.size)
    exact ⟨ret_bool4 (by first | rfl | simp), hb3'.trans (b4.mono hb3'.size)⟩
  · have hno := encRt_no hE
    have P2 := Lib.hid (fun W (hb : Below w.heap.size w W) => refEncRt_any r ao cap N0 W hf (hu.below hb) hN1 hN2)
    rw [hno] at P1 P2
    generalize (Pl.encRt (min N0 16384) r).2 = ee at *
    have hE2 : (ee != 0) = true := by simpa using hE
    clear hR0 hu'
    go_enter Try.func9, Try.ntmps9
    go_wp2_with fail
    clear hW0
    refine P1.out.mono ?_
    rintro e w1 ⟨rfl, b1⟩
    have q0 := (b1.cell (p := ⟨w.heap.size, 0, none⟩) hz0).trans r0
    have q1 := (b1.cell (p := ⟨w.heap.size, 1, none⟩) hz0).trans r1
    have hb1 := hb0.trans (b1.mono hb0.size)
    clear r0 r1 P1
    go_wp2_with fail
    refine (P2.out w1 hb1).mono ?_
    rintro e w2 ⟨rfl, b2⟩
    clear P2
    go_wp2_with fail
    go_ret
    exact ⟨ret_bool4 (by first | rfl | simp), hb1.trans (b2.mono hb1.size)⟩
end Go.Proofs.Ytndekdgpibipnaa
