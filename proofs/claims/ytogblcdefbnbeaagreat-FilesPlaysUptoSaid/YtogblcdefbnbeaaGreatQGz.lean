
/- Walk: the law FilesRoots returns true. Condition: none. -/
import Derived.Test.YtogblcdefbnbeaaGreatQWEncRt
import Derived.Test.YtogblcdefbnbeaaGreatQWRefEncRt
import Derived.Test.YtogblcdefbnbeaaGreatQGn
import Derived.Test.YtogblcdefbnbeaaGreatQGu
import Derived.BigQuiet
import Derived.Deep.QuietTactic
import Derived.IntWalk
import Derived.Lib.Hide
import Derived.Test.YtogblcdefbnbeaaGreatQGy
import Derived.Test.YtogblcdefbnbeaaGreatQPk
import Derived.Test.YtogblcdefbnbeaaGreatQGa
import Derived.Defers
import Derived.Recover
set_option maxRecDepth 100000
namespace Go.Proofs.YtogblcdefbnbeaaGreat
section
open Go.RowKit Go.Shelf
noncomputable def Pl.encRt (N : Int) (r : Pl.RootP) : List UInt8 × Int := if Pl.mayB N r then Pl.encOf r else ([], 1)
theorem encRt_any (r : Pl.RootP) (ao : Option Addr) (cap : Nat) (N0 : Int) (w : World) (hf : r.fine) (hu : FilesAt w (.slice ao r.files.length cap) r.files) (hN1 : -9223372036854775808 ≤ N0) (hN2 : N0 ≤ 9223372036854775807) :
  Calls Tryz.prog 82 #[.agg #[.int .u64 (r.gen : Int), .slice ao r.files.length cap], .int .i64 N0] w fun e w' => e = .returned (.tuple #[.string ⟨(Pl.encRt (min N0 16384) r).1.toArray⟩, .int .i64 (Pl.encRt (min N0 16384) r).2]) ∧ Below w.heap.size w w' := by
 unfold Pl.encRt
 by_cases hm : Pl.May (min N0 16384) r
 ·rw [Pl.mayB_yes hm, if_pos rfl]
  exact callsIn_wide.1 (encRoot_ok 3 r ao cap N0 w hf hu hN1 hN2 hm)
 ·rw [Pl.mayB_no hm, if_neg Bool.false_ne_true]
  exact callsIn_wide.1 (encRoot_bad 3 r ao cap N0 w hf hu hN1 hN2 hm)
theorem refEncRt_any (r : Pl.RootP) (ao : Option Addr) (cap : Nat) (N0 : Int) (w : World) (hf : r.fine) (hu : FilesAt w (.slice ao r.files.length cap) r.files) (hN1 : -9223372036854775808 ≤ N0) (hN2 : N0 ≤ 9223372036854775807) :
  Calls Tryz.prog 76 #[.agg #[.int .u64 (r.gen : Int), .slice ao r.files.length cap], .int .i64 N0] w fun e w' => e = .returned (.tuple #[.string ⟨(Pl.encRt (min N0 16384) r).1.toArray⟩, .int .i64 (Pl.encRt (min N0 16384) r).2]) ∧ Below w.heap.size w w' := by
 unfold Pl.encRt
 by_cases hm : Pl.May (min N0 16384) r
 ·rw [Pl.mayB_yes hm, if_pos rfl]
  exact refEnc_ok r ao cap N0 w hf hu hN1 hN2 hm
 ·rw [Pl.mayB_no hm, if_neg Bool.false_ne_true]
  exact refEnc_bad r ao cap N0 w hf hu hN1 hN2 hm
end
section
open Go.RowKit
set_option maxHeartbeats 2000000 in
theorem sameInts4 (u v : Value) (l : List Int) (w : World) (hu : IntsAt w u l) (hv : IntsAt w v l) :
  Calls Tryz.prog 45 #[u, v] w fun e w' => e = .returned (.bool true) ∧ ∃ n, w' = w.drewN n := by
 obtain ⟨a1, c1, rfl, d1, d2, hu⟩ := hu
 obtain ⟨a2, c2, rfl, _, _, hv⟩ := hv
 have hl : l.length ≤ 9223372036854775807 := by omega
 go_enter Tryz.func45, Tryz.ntmps45
 go_wp2
 go_loopw [5] (fun i wr => ∃ k n : Nat, k ≤ l.length ∧ i = .int .i64 k ∧ wr = w.drewN n) (fun i _ => l.length - (intOf i).toNat)
 case atStart => exact ⟨0, 0, by omega, rfl, rfl⟩
 case round =>
  obtain ⟨k, n, hk, rfl, rfl⟩ := hrel
  by_cases h1 : k < l.length
  ·obtain ⟨b1, o1, rfl, _, hc1⟩ := hu (by omega)
   obtain ⟨b2, o2, rfl, _, hc2⟩ := hv (by omega)
   have x0 := hc1 k h1
   have y0 := hc2 k h1
   have hg : (0 : Int) ≤ (k : Int) := by omega
   have hg2 : (k : Int) < (l.length : Int) := by omega
   clear hc1 hc2 hu hv
   go_wp2
   go_quiet (fail)
   go_wp2
   go_roundw
   case rel => exact ⟨k + 1, _, by omega, by go_num, rfl⟩
   case measure => simp [intOf]; omega
  ·go_wp2
   go_ret
   exact ⟨rfl, n, rfl⟩
set_option maxHeartbeats 2000000 in
theorem sameRoot4 (r : Pl.RootP) (u v : Value) (w : World) (hu : FilesAt w u r.files) (hv : FilesAt w v r.files) :
  Calls Tryz.prog 29 #[.agg #[.int .u64 (r.gen : Int), u], .agg #[.int .u64 (r.gen : Int), v]] w fun e w' => e = .returned (.bool true) ∧ Below w.heap.size w w' := by
 obtain ⟨a1, c1, rfl, d1, d2, hu⟩ := hu
 obtain ⟨a2, c2, rfl, _, _, hv⟩ := hv
 obtain ⟨gen, fs⟩ := r
 simp only at d1 hu hv ⊢
 have hl : fs.length ≤ 9223372036854775807 := by omega
 obtain ⟨W1, hW1⟩ : ∃ W1, (w.alloc (.cells #[.int .u64 (gen : Int), .slice a1 fs.length c1] 71)).alloc (.cells #[.int .u64 (gen : Int), .slice a2 fs.length c2] 71) = W1 := ⟨_, rfl⟩
 have hb1 : Below w.heap.size w W1 := by rw [← hW1]; exact ((Below.refl _ _).alloc (Nat.le_refl _) _).alloc (by simp) _
 have r0 : W1.cell? ⟨w.heap.size, 0, none⟩ = some (.int .u64 (gen : Int)) := by rw [← hW1]; simp
 have r1 : W1.cell? ⟨w.heap.size, 1, none⟩ = some (.slice a1 fs.length c1) := by rw [← hW1]; simp
 have s0 : W1.cell? ⟨w.heap.size + 1, 0, none⟩ = some (.int .u64 (gen : Int)) := by
  rw [← hW1]
  simp
 have s1 : W1.cell? ⟨w.heap.size + 1, 1, none⟩ = some (.slice a2 fs.length c2) := by
  rw [← hW1]
  simp
 go_enter Tryz.func29, Tryz.ntmps29
 go_wp2
 clear hW1
 have hz1 : w.heap.size + 1 < W1.heap.size := by
  obtain ⟨o, ho, _⟩ := not_walk_of_cell s0
  exact (Array.getElem?_eq_some_iff.1 ho).1
 go_loopw [5] (fun i wr => ∃ k : Nat, k ≤ fs.length ∧ i = .int .i64 k ∧ Below W1.heap.size W1 wr) (fun i _ => fs.length - (intOf i).toNat)
 case atStart => exact ⟨0, by omega, rfl, Below.refl _ _⟩
 case round =>
  obtain ⟨k, hk, rfl, hbr⟩ := hrel
  have q1 := (hbr.cell (p := ⟨w.heap.size, 1, none⟩) (show w.heap.size < W1.heap.size by omega)).trans r1
  have t1 := (hbr.cell (p := ⟨w.heap.size + 1, 1, none⟩) hz1).trans s1
  have hbw := hb1.trans (hbr.mono hb1.size)
  by_cases h1 : k < fs.length
  ·obtain ⟨b1, o1, rfl, hl1, hc1⟩ := hu (by omega)
   obtain ⟨b2, o2, rfl, hl2, hc2⟩ := hv (by omega)
   obtain ⟨x0, x1, u1, x2, hi1⟩ := (hc1 k h1).below hl1 hbw
   obtain ⟨y0, y1, u2, y2, hi2⟩ := (hc2 k h1).below hl2 hbw
   have hg : (0 : Int) ≤ (k : Int) := by omega
   have hg2 : (k : Int) < (fs.length : Int) := by omega
   have P := Lib.hid (fun m => sameInts4 u1 u2 fs[k].blocks (wr.drewN m) hi1 hi2)
   generalize fs[k] = x at *
   clear hc1 hc2 hu hv hi1 hi2 r1 s1
   go_wp2
   go_quiet (((go_at_call 45; exact Calls.quiet_of (P.out _))))
   clear P
   go_wp2
   go_quiet (fail)
   go_wp2
   go_roundw
   case rel => exact ⟨k + 1, by omega, by go_num, below_drewN hbr _⟩
   case measure => simp [intOf]; omega
  ·go_wp2
   go_ret
   exact ⟨rfl, hbw⟩
end
section
open Go.RowKit Go.Shelf
theorem errno_loadVar {W : World} {b : Nat} {n : Int} (hc : W.heap[b]? = some (.cells #[.int .i64 n] 25 (0, 0))) : (loadVar 25 ⟨b, 0, none⟩).run Tryz.prog W = .ok (.int .i64 n) W := by
 have c0 : W.cell? ⟨b, 0, none⟩ = some (.int .i64 n) := by simp [World.cell?, hc]
 simp [loadVar, go_sem, c0]
theorem results_dec {fn : Func} (h : fn.results = #[.cell 4 71, .cell 5 25]) {tmps : Array Value} {b c : Nat} {g n : Int} {v : Value} {w : World} (h4 : tmps.getD 4 undef = .pointer (some ⟨b, 0, none⟩)) (h5 : tmps.getD 5 undef = .pointer (some ⟨c, 0, none⟩))
  (hb : w.heap[b]? = some (.cells #[.int .u64 g, v] 71 (0, 0))) (hc : w.heap[c]? = some (.cells #[.int .i64 n] 25 (0, 0))) :
  (results fn tmps).run Tryz.prog w = .ok (.tuple #[.agg #[.int .u64 g, v], .int .i64 n]) w := by
 have h4' : tmps[4]?.getD undef = .pointer (some ⟨b, 0, none⟩) := by simpa using h4
 have h5' : tmps[5]?.getD undef = .pointer (some ⟨c, 0, none⟩) := by simpa using h5
 simp [results, h, h4', h5', asAddr, root_loadVar hb, errno_loadVar hc]
theorem dec_idle (p q : Addr) (w : World) :
  CallsD Tryz.prog 80 #[.pointer (some p), .pointer (some q)] .returning w fun e u' w' => e = .returned (.tuple #[]) ∧ u' = .returning ∧ w' = w := by
 refine callsD_of_wpS Tryz.func80 rfl fun c₀ cs hu => ?_
 apply wpS_seq
 apply wpS_region
 simp [wpOpsS, go_sem, recoverD, hu, Tryz.ntmps80, Exit.thenS]
 apply wpS_seq
 apply wpS_region
 simp [wpOpsS, go_sem, Exit.thenS]
 refine wpS_cond (t := false) (by simp [Act.eval, Array.replicate]) ?_
 simp only [Bool.false_eq_true, if_false]
 refine wpS_of_wp (wp_skip ?_)
 cases c₀
 simp_all [bodyPostS, results, Tryz.results80]
end
section
open Go.RowKit Go.Shelf
theorem encRt_yes {N : Int} {r : Pl.RootP} (h : (Pl.encRt N r).2 = 0) : Pl.May N r ∧ Pl.encRt N r = (Pl.frame 1 (Pl.rootBytes r), 0) ∧ (Pl.rootBytes r).length ≤ 262144 ∧ (Pl.frame 1 (Pl.rootBytes r)).length ≤ 3840 := by
 by_cases hm : Pl.May N r
 ·have e : Pl.encRt N r = Pl.encOf r := by unfold Pl.encRt; rw [Pl.mayB_yes hm, if_pos rfl]
  rw [e] at h ⊢
  unfold Pl.encOf at *
  by_cases hl : 262144 < (Pl.rootBytes r).length ∨ 3840 < (Pl.frame 1 (Pl.rootBytes r)).length
  ·rw [if_pos hl] at h
   exact absurd h (by decide)
  ·rw [if_neg hl]
   exact ⟨hm, rfl, by omega, by omega⟩
 ·have e : Pl.encRt N r = ([], 1) := by unfold Pl.encRt; rw [Pl.mayB_no hm, if_neg Bool.false_ne_true]
  rw [e] at h
  exact absurd h (by decide)
end
end Go.Proofs.YtogblcdefbnbeaaGreat
