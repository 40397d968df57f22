
/- Walks: one act, done by both disks. Condition: lengths that memory lets. -/
import Derived.Test.YtndekdgpibipnaaWBoth
import Derived.Test.YtndekdgpibipnaaPlainSf
import Derived.Deep.DeepCutAuto
namespace Go.Proofs.Ytndekdgpibipnaa
open Go.RowKit

set_option linter.unusedVariables false
variable {B d r n k : Nat} {s : Pl.Dv} {fd fr : Nat → Prop} {W : World}
set_option maxRecDepth 100000 in
set_option maxHeartbeats 1000000 in
theorem one_write (h : Two B d r s s fd fr W) (hF : Pl.Fine n k s) (hn1 : 40 ≤ n) (hn2 : n ≤ 16384) (hk : k ≤ 5864062014632) (c : AcT) (u : Value) (hB : B ≤ W.heap.size) :
    Calls Try.prog 30 #[.pointer (some ⟨d, 0, none⟩), .pointer (some ⟨r, 0, none⟩), .agg #[.int .i64 0, .int .i64 c.at', .int .i64 c.num, u]] W fun e w' => e = .returned (.bool true) ∧ ∃ s' fd' fr', Two B d r s' s' fd' fr' w' ∧ Pl.Fine n (k + 1) s' ∧ Below B W w' := by
  have hA0 : Below W.heap.size W (W.alloc (.cells #[.int .i64 0, .int .i64 c.at', .int .i64 c.num, u] 30)) := (Below.refl _ W).alloc (Nat.le_refl _) _
  have h0 := h.beyond hA0
  have hP := Blk.new W #[.int .i64 0, .int .i64 c.at', .int .i64 c.num, u] 30
  have nd : ¬ fd W.heap.size := fun e => by have := h.1.lt _ e; omega
  have nr : ¬ fr W.heap.size := fun e => by have := h.2.1.lt _ e; omega
  have hb0 : Below B W (W.alloc (.cells #[.int .i64 0, .int .i64 c.at', .int .i64 c.num, u] 30)) := hA0.mono hB
  go_enter Try.func30, Try.ntmps30
  go_wp2_with (first
    | (go_at_call 16; ((with_reducible refine (filled256_any _ _).mono ?_); rintro e w1 ⟨rfl, hb1⟩; have h1 := h0.beyond hb1; have P1 := hP.keep (f := fun _ => True) (Keep.of_below hb1 (fun _ _ h => h)) trivial; have q1 := P1.cell 1; simp at q1; have bb1 := hb0.trans (hb1.mono (Nat.le_trans hB hb0.size)); have hWd := Lib.hid (write_gen c.at' (Pl.filled c.num 256) h1.1 hF hn2 hk (Nat.le_trans hB bb1.size))))
    | (go_at_call 15; ((with_reducible refine hWd.out.mono ?_); rintro e w2 ⟨rfl, fd2, hD2, st2⟩; have h2 := h1.dev hD2 st2; have P2 := P1.keep st2.keep nd; have q2 := P2.cell 1; simp at q2; have bb2 := below_step bb1 hB h1.1 st2; have hWr := Lib.hid (refWrite_gen c.at' (Pl.filled c.num 256) h2.2.1 hF hk (Nat.le_trans hB bb2.size))))
    | (go_at_call 66; ((with_reducible refine hWr.out.mono ?_); rintro e w3 ⟨rfl, fr3, hR3, st3⟩; have h3 := h2.ref hR3 st3; have bb3 := ref_below_step bb2 hB h2.2.1 st3)))
  go_ret
  exact ⟨ret_bool (by simp), _, _, _, h3, hF.write _ _, bb3⟩
set_option maxRecDepth 100000 in
set_option maxHeartbeats 1000000 in
theorem one_read (h : Two B d r s s fd fr W) (hF : Pl.Fine n k s) (hn1 : 40 ≤ n) (hn2 : n ≤ 16384) (hk : k ≤ 5864062014632) (c : AcT) (u : Value) (hB : B ≤ W.heap.size) :
    Calls Try.prog 30 #[.pointer (some ⟨d, 0, none⟩), .pointer (some ⟨r, 0, none⟩), .agg #[.int .i64 1, .int .i64 c.at', .int .i64 c.num, u]] W fun e w' => e = .returned (.bool true) ∧ ∃ s' fd' fr', Two B d r s' s' fd' fr' w' ∧ Pl.Fine n (k + 1) s' ∧ Below B W w' := by
  have hA0 : Below W.heap.size W (W.alloc (.cells #[.int .i64 1, .int .i64 c.at', .int .i64 c.num, u] 30)) := (Below.refl _ W).alloc (Nat.le_refl _) _
  have h0 := h.beyond hA0
  have hP := Blk.new W #[.int .i64 1, .int .i64 c.at', .int .i64 c.num, u] 30
  have nd : ¬ fd W.heap.size := fun e => by have := h.1.lt _ e; omega
  have nr : ¬ fr W.heap.size := fun e => by have := h.2.1.lt _ e; omega
  have hb0 : Below B W (W.alloc (.cells #[.int .i64 1, .int .i64 c.at', .int .i64 c.num, u] 30)) := hA0.mono hB
  have q0 := hP.cell 1
  simp at q0
  have r1 := Lib.hid (read_gen c.at' h0.1 hF hn2)
  have r2 := Lib.hid (refRead_gen c.at' h0.2.1 hF hk)
  go_enter Try.func30, Try.ntmps30
  go_wp2_with (first
    | (go_at_call 21; ((with_reducible refine r1.out.mono ?_); rintro e w1 ⟨rfl, rfl⟩))
    | (go_at_call 67; ((with_reducible refine r2.out.mono ?_); rintro e w2 ⟨rfl, rfl⟩)))
  go_ret
  exact ⟨ret_bool (by simp), _, _, _, h0, hF.mono (by omega), hb0⟩
set_option maxRecDepth 100000 in
set_option maxHeartbeats 1000000 in
theorem one_sync (h : Two B d r s s fd fr W) (hF : Pl.Fine n k s) (hn1 : 40 ≤ n) (hn2 : n ≤ 16384) (hk : k ≤ 5864062014632) (c : AcT) (u : Value) (hB : B ≤ W.heap.size) :
    Calls Try.prog 30 #[.pointer (some ⟨d, 0, none⟩), .pointer (some ⟨r, 0, none⟩), .agg #[.int .i64 2, .int .i64 c.at', .int .i64 c.num, u]] W fun e w' => e = .returned (.bool true) ∧ ∃ s' fd' fr', Two B d r s' s' fd' fr' w' ∧ Pl.Fine n (k + 1) s' ∧ Below B W w' := by
  have hA0 : Below W.heap.size W (W.alloc (.cells #[.int .i64 2, .int .i64 c.at', .int .i64 c.num, u] 30)) := (Below.refl _ W).alloc (Nat.le_refl _) _
  have h0 := h.beyond hA0
  have hP := Blk.new W #[.int .i64 2, .int .i64 c.at', .int .i64 c.num, u] 30
  have nd : ¬ fd W.heap.size := fun e => by have := h.1.lt _ e; omega
  have nr : ¬ fr W.heap.size := fun e => by have := h.2.1.lt _ e; omega
  have hb0 : Below B W (W.alloc (.cells #[.int .i64 2, .int .i64 c.at', .int .i64 c.num, u] 30)) := hA0.mono hB
  have r1 := Lib.hid (sync_gen h0.1 hF hk)
  go_enter Try.func30, Try.ntmps30
  go_wp2_with (first
    | (go_at_call 17; ((with_reducible refine r1.out.mono ?_); rintro e w1 ⟨rfl, hD1, st1⟩; have h1 := h0.dev hD1 st1; have bb1 := below_step hb0 hB h0.1 st1; have r2 := Lib.hid (refSync_gen h1.2.1 hF hk)))
    | (go_at_call 68; ((with_reducible refine r2.out.mono ?_); rintro e w2 ⟨rfl, hR2, st2⟩; have h2 := h1.ref hR2 st2; have bb2 := ref_below_step bb1 hB h1.2.1 st2)))
  go_ret
  exact ⟨ret_bool (by simp), _, _, _, h2, hF.sync, bb2⟩
set_option maxRecDepth 100000 in
set_option maxHeartbeats 1000000 in
theorem one_arm (h : Two B d r s s fd fr W) (hF : Pl.Fine n k s) (hn1 : 40 ≤ n) (hn2 : n ≤ 16384) (hk : k ≤ 5864062014632) (c : AcT) (u : Value) (hB : B ≤ W.heap.size) (hc : c.num ≤ 9223372036854775807) :
    Calls Try.prog 30 #[.pointer (some ⟨d, 0, none⟩), .pointer (some ⟨r, 0, none⟩), .agg #[.int .i64 3, .int .i64 c.at', .int .i64 c.num, u]] W fun e w' => e = .returned (.bool true) ∧ ∃ s' fd' fr', Two B d r s' s' fd' fr' w' ∧ Pl.Fine n (k + 1) s' ∧ Below B W w' := by
  have hA0 : Below W.heap.size W (W.alloc (.cells #[.int .i64 3, .int .i64 c.at', .int .i64 c.num, u] 30)) := (Below.refl _ W).alloc (Nat.le_refl _) _
  have h0 := h.beyond hA0
  have hP := Blk.new W #[.int .i64 3, .int .i64 c.at', .int .i64 c.num, u] 30
  have nd : ¬ fd W.heap.size := fun e => by have := h.1.lt _ e; omega
  have nr : ¬ fr W.heap.size := fun e => by have := h.2.1.lt _ e; omega
  have hb0 : Below B W (W.alloc (.cells #[.int .i64 3, .int .i64 c.at', .int .i64 c.num, u] 30)) := hA0.mono hB
  have q0 := hP.cell 2
  simp at q0
  have r1 := Lib.hid (arm_any c.num h0.1)
  go_enter Try.func30, Try.ntmps30
  go_wp2_with (first
    | (go_at_call 14; ((with_reducible refine r1.out.mono ?_); rintro e w1 ⟨⟨_, rfl⟩, hD1, st1⟩; have h1 := h0.dev hD1 st1; have bb1 := below_step hb0 hB h0.1 st1; have P1 := hP.keep st1.keep nd; have q1 := P1.cell 2; simp at q1; have r2 := Lib.hid (refArm_any c.num h1.2.1)))
    | (go_at_call 69; ((with_reducible refine r2.out.mono ?_); rintro e w2 ⟨⟨_, rfl⟩, hR2, st2⟩; have h2 := h1.ref hR2 st2; have bb2 := ref_below_step bb1 hB h1.2.1 st2)))
  go_ret
  exact ⟨rfl, _, _, _, h2, hF.arm _ hc, bb2⟩
set_option maxRecDepth 100000 in
set_option maxHeartbeats 1000000 in
theorem one_alike (h : Two B d r s s fd fr W) (hF : Pl.Fine n k s) (hn1 : 40 ≤ n) (hn2 : n ≤ 16384) (hk : k ≤ 5864062014632) (c : AcT) (u : Value) (hB : B ≤ W.heap.size) :
    Calls Try.prog 30 #[.pointer (some ⟨d, 0, none⟩), .pointer (some ⟨r, 0, none⟩), .agg #[.int .i64 5, .int .i64 c.at', .int .i64 c.num, u]] W fun e w' => e = .returned (.bool true) ∧ ∃ s' fd' fr', Two B d r s' s' fd' fr' w' ∧ Pl.Fine n (k + 1) s' ∧ Below B W w' := by
  have hA0 : Below W.heap.size W (W.alloc (.cells #[.int .i64 5, .int .i64 c.at', .int .i64 c.num, u] 30)) := (Below.refl _ W).alloc (Nat.le_refl _) _
  have h0 := h.beyond hA0
  have hP := Blk.new W #[.int .i64 5, .int .i64 c.at', .int .i64 c.num, u] 30
  have nd : ¬ fd W.heap.size := fun e => by have := h.1.lt _ e; omega
  have nr : ¬ fr W.heap.size := fun e => by have := h.2.1.lt _ e; omega
  have hb0 : Below B W (W.alloc (.cells #[.int .i64 5, .int .i64 c.at', .int .i64 c.num, u] 30)) := hA0.mono hB
  have r1 := Lib.hid (alike_any h0 hF hn1 hk)
  go_enter Try.func30, Try.ntmps30
  go_wp2_with (go_at_call 32; ((with_reducible refine r1.out.mono ?_); rintro e w1 ⟨rfl, hb1⟩))
  go_ret
  exact ⟨rfl, _, _, _, h0.beyond hb1, hF.mono (by omega), hb0.trans (hb1.mono (Nat.le_trans hB hb0.size))⟩
set_option maxRecDepth 100000 in
set_option maxHeartbeats 1000000 in
theorem one_other (h : Two B d r s s fd fr W) (hF : Pl.Fine n k s) (hn1 : 40 ≤ n) (hn2 : n ≤ 16384) (hk : k ≤ 5864062014632) (c : AcT) (u : Value) (hB : B ≤ W.heap.size) (k0 : (c.kind == 0) = false) (k1 : (c.kind == 1) = false) (k2 : (c.kind == 2) = false) (k3 : (c.kind == 3) = false) (k4 : (c.kind == 4) = false) (k5 : (c.kind == 5) = false) :
    Calls Try.prog 30 #[.pointer (some ⟨d, 0, none⟩), .pointer (some ⟨r, 0, none⟩), .agg #[.int .i64 c.kind, .int .i64 c.at', .int .i64 c.num, u]] W fun e w' => e = .returned (.bool true) ∧ ∃ s' fd' fr', Two B d r s' s' fd' fr' w' ∧ Pl.Fine n (k + 1) s' ∧ Below B W w' := by
  have hA0 : Below W.heap.size W (W.alloc (.cells #[.int .i64 c.kind, .int .i64 c.at', .int .i64 c.num, u] 30)) := (Below.refl _ W).alloc (Nat.le_refl _) _
  have h0 := h.beyond hA0
  have hP := Blk.new W #[.int .i64 c.kind, .int .i64 c.at', .int .i64 c.num, u] 30
  have nd : ¬ fd W.heap.size := fun e => by have := h.1.lt _ e; omega
  have nr : ¬ fr W.heap.size := fun e => by have := h.2.1.lt _ e; omega
  have hb0 : Below B W (W.alloc (.cells #[.int .i64 c.kind, .int .i64 c.at', .int .i64 c.num, u] 30)) := hA0.mono hB
  have q0 := hP.cell 2
  simp at q0
  have qk := hP.cell 0
  simp at qk
  go_enter Try.func30, Try.ntmps30
  go_upto_region 32 with (fail)
  go_cut [18] (fun v wx => ∃ m : Nat, v = .string (Pl.filled c.num m) ∧ Below (W.alloc (.cells #[.int .i64 c.kind, .int .i64 c.at', .int .i64 c.num, u] 30)).heap.size (W.alloc (.cells #[.int .i64 c.kind, .int .i64 c.at', .int .i64 c.num, u] 30)) wx)
  case first =>
    by_cases n0 : c.num < 0
    · have f0 := fun w => Lib.hid (filled_any c.num 0 (by omega) w)
      replace f0 : ∀ w, Hid (Calls Try.prog 16 #[.int .i64 c.num, .int .i64 0] w fun e w' => e = .returned (.string (Pl.filled c.num 0)) ∧ Below w.heap.size w w') := f0
      go_wp2_with (go_at_call 16; ((with_reducible refine (f0 _).out.mono ?_); rintro e w1 ⟨rfl, hb1⟩))
      go_meet
      exact ⟨0, rfl, hb1⟩
    · obtain ⟨m, hm⟩ := Int.eq_ofNat_of_zero_le (show 0 ≤ c.num by omega)
      by_cases n1 : m ≤ 600
      · have f0 := fun w => Lib.hid (filled_any c.num m (by omega) w)
        rw [← hm] at f0
        have n2 : c.num ≤ 600 := by omega
        clear hm
        go_wp2_with (go_at_call 16; ((with_reducible refine (f0 _).out.mono ?_); rintro e w1 ⟨rfl, hb1⟩))
        go_meet
        exact ⟨m, rfl, hb1⟩
      · have f0 := fun w => Lib.hid (filled_any c.num 600 (by omega) w)
        replace f0 : ∀ w, Hid (Calls Try.prog 16 #[.int .i64 c.num, .int .i64 600] w fun e w' => e = .returned (.string (Pl.filled c.num 600)) ∧ Below w.heap.size w w') := f0
        have n2 : 600 < c.num := by omega
        clear hm
        go_wp2_with (go_at_call 16; ((with_reducible refine (f0 _).out.mono ?_); rintro e w1 ⟨rfl, hb1⟩))
        go_meet
        exact ⟨600, rfl, hb1⟩
  case rest =>
    obtain ⟨m, rfl, hb1⟩ := hcut
    have h1 := h0.beyond hb1
    have P1 := hP.keep (f := fun _ => True) (Keep.of_below hb1 (fun _ _ h => h)) trivial
    have q1 := P1.cell 1
    simp at q1
    have bb1 := hb0.trans (hb1.mono (Nat.le_trans hB hb0.size))
    have hWd := Lib.hid (write_gen c.at' (Pl.filled c.num m) h1.1 hF hn2 hk (Nat.le_trans hB bb1.size))
    go_wp2_with (first
      | (go_at_call 15; ((with_reducible refine hWd.out.mono ?_); rintro e w2 ⟨rfl, fd2, hD2, st2⟩; have h2 := h1.dev hD2 st2; have P2 := P1.keep st2.keep nd; have q2 := P2.cell 1; simp at q2; have bb2 := below_step bb1 hB h1.1 st2; have hWr := Lib.hid (refWrite_gen c.at' (Pl.filled c.num m) h2.2.1 hF hk (Nat.le_trans hB bb2.size))))
      | (go_at_call 66; ((with_reducible refine hWr.out.mono ?_); rintro e w3 ⟨rfl, fr3, hR3, st3⟩; have h3 := h2.ref hR3 st3; have bb3 := ref_below_step bb2 hB h2.2.1 st3)))
    go_ret
    exact ⟨ret_bool (by simp), _, _, _, h3, hF.write _ _, bb3⟩
end Go.Proofs.Ytndekdgpibipnaa
