
/- Walk: the law FilesPlays returns true. Condition: acts of few bytes. -/
import Derived.Test.YtogblcdefbnbeaaGreatQPg
import Derived.Test.YtogblcdefbnbeaaGreatQGb
set_option maxRecDepth 100000
namespace Go.Proofs.YtogblcdefbnbeaaGreat
section
open Go.RowKit Go.Maps
variable {f d q r N T k b : Nat} {x : Pl.Fs} {y : Pl.Rf} {s : Pl.Dv} {fp fd fq fr : Nat → Prop} {w W W' X : World} {cs : Array Value}
theorem oneD_disks (h : OneD w f d q r N T k X) (hk : k ≤ 1099511627776) : Calls Tryz.prog 14 #[.pointer (some ⟨d, 0, none⟩), .pointer (some ⟨r, 0, none⟩)] X fun e w' => e = .returned (.bool true) ∧ OneD w f d q r N T k w' := by
 obtain ⟨x, y, s, fp, fd, fq, fr, h1, h2, h3⟩ := id h
 exact (disks_any ⟨h1.dev, h1.ref, h1.d5⟩ (by have := h3.wait; omega)).mono (fun e w' ⟨he, hb⟩ => ⟨he, h.still hb⟩)
theorem arm_both (h1 : F4 w f d q r x y s s fp fd fq fr W) (h2 : Pl.RelF N T x y s) (h3 : Pl.Fine N k s) (num : Int) (hn : num ≤ 9223372036854775807) (hB : Blk W b cs 36) (hb : ¬ fd b) :
  ∃ M : World → Prop, Calls Tryz.prog 8 #[.pointer (some ⟨d, 0, none⟩), .int .i64 num] W (fun e w1 => (∃ v, e = .returned v) ∧ M w1 ∧ Blk w1 b cs 36) ∧
   ∀ X, M X → Calls Tryz.prog 9 #[.pointer (some ⟨r, 0, none⟩), .int .i64 num] X (fun e w2 => (∃ v, e = .returned v) ∧ OneD w f d q r N T (k + 1) w2) := by
 refine ⟨fun X => F4 w f d q r x y (s.arm num) s fp fd fq fr X, (arm_any num h1.dev).mono ?_, fun X hX => (refArm_any num hX.ref).mono ?_⟩
 ·rintro e w1 ⟨hv, hD, st⟩
  exact ⟨hv, h1.devS hD st, hB.keep st.keep hb⟩
 ·rintro e w2 ⟨hv, hE, st⟩
  exact ⟨hv, x, y, s.arm num, fp, fd, fq, fr, hX.refS hE st, h2.arm, h3.arm num hn⟩
def CrD (w : World) (f d q r N T k b : Nat) (cs : Array Value) (X : World) : Prop := ∃ (x : Pl.Fs) (y : Pl.Rf) (s : Pl.Dv) (fp fd fq fr : Nat → Prop), F4 w f d q r x y s s fp fd fq fr X ∧ Pl.RelF N T x y s ∧ Pl.Fine N k s ∧ Pl.Free s ∧ s.wait = [] ∧ Blk X b cs 36
theorem crash_both (h1 : F4 w f d q r x y s s fp fd fq fr W) (h2 : Pl.RelF N T x y s) (h3 : Pl.Fine N k s) (hk : k ≤ 1099511627776) (torn by' : Int) (u : Value) (kl : List Bool) (hu : BoolsAt W u kl) (hub : 0 < kl.length → ∀ z, u.ownBlock = some z → z < w.heap.size) (hB : Blk W b cs 36) (hb : ¬ fd b ∧ ¬ fr b) :
  ∃ M : World → Prop, Calls Tryz.prog 10 #[.pointer (some ⟨d, 0, none⟩), u, .int .i64 torn, .int .i64 by'] W (fun e w1 => (∃ v, e = .returned v) ∧ M w1 ∧ Blk w1 b cs 36) ∧
   ∀ X, M X → Calls Tryz.prog 11 #[.pointer (some ⟨r, 0, none⟩), u, .int .i64 torn, .int .i64 by'] X (fun e w2 => (∃ v, e = .returned v) ∧ CrD w f d q r N T (k + 1) b cs w2) := by
 have hw := h3.wait
 have he := h3.epoch
 obtain ⟨hb1, hb2⟩ := hb
 refine ⟨fun X => F4 w f d q r x y (s.crash kl torn (clamp by')) s fp fd fq fr X ∧ BoolsAt X u kl ∧ Blk X b cs 36, (crash_any h1.dev u kl hu (fun h0 z e hz => by have := hub h0 z e; have := h1.dev.fpB z hz; omega) torn by' (by omega) (by omega)).mono ?_, ?_⟩
 ·rintro e w1 ⟨hv, hD, st⟩
  have hB1 := hB.keep st.keep hb1
  exact ⟨hv, ⟨h1.devS hD st, hu.kept st.keep.size (fun h0 z hz e => st.keep.block z (fun hf => by have := hub h0 z e; have := h1.dev.fpB z hf; omega) hz), hB1⟩, hB1⟩
 ·rintro X ⟨hX, huX, hBX⟩
  refine (refCrash_any hX.ref u kl huX (fun h0 z e hz => by have := hub h0 z e; have := hX.ref.fpB z hz; omega) torn by' (by omega) (by omega)).mono ?_
  rintro e w2 ⟨hv, hE, st⟩
  exact ⟨hv, x, y, _, fp, fd, fq, fr, hX.refS hE st, h2.crash (clamp_le by'), h3.crash kl torn (clamp by'), ⟨rfl, rfl⟩, rfl, hBX.keep st.keep hb2⟩
theorem le_T4 (k d : Nat) (h : d ≤ 1048576) : k * 1048576 + d ≤ (k + 1) * 1048576 := by rw [Nat.succ_mul]; exact Nat.add_le_add_left h _
theorem le_K4 (k c : Nat) (h : c ≤ 16500) : k * 16500 + 18 + c ≤ (k + 1) * 16500 + 18 := by rw [Nat.succ_mul]; omega
theorem bools_nil4 (w : World) : BoolsAt w (.slice none 0 0) [] := ⟨none, 0, rfl, by simp, by omega, fun h => by simp at h⟩
theorem bools_own4 {W : World} {u : Value} {l : List Bool} (h : BoolsAt W u l) (h0 : 0 < l.length) (q : Nat) (e : u.ownBlock = some q) : q < W.heap.size := by
 obtain ⟨ao, cap, rfl, _, _, hh⟩ := h
 obtain ⟨b, off, rfl, hlt, _⟩ := hh h0
 have : b = q := by simpa [Value.ownBlock] using e
 omega
set_option maxHeartbeats 1000000 in
theorem plays4_bad (n : Int) (h : n < 40 ∨ 16384 < n) (v : Value) (w : World) :
  Calls Tryz.prog 3 #[.int .i64 n, v] w fun e w' => e = .returned (.bool true) ∧ Below w.heap.size w w' := by
 have r2 := Lib.hid (takes_no n h w)
 have r1 := Lib.hid (new_bad n h w)
 clear h
 go_enter Tryz.func3, Tryz.ntmps3
 go_wp2_with (first
  | (go_at_call 5; ((with_reducible refine r1.out.mono ?_); rintro e w1 ⟨rfl, rfl⟩))
  | (go_at_call 4; ((with_reducible refine r2.out.mono ?_); rintro e w1 ⟨rfl, rfl⟩)))
 go_ret
 exact ⟨rfl, Below.refl _ _⟩
set_option maxHeartbeats 4000000 in
theorem plays4_any (n : Nat) (hn1 : 40 ≤ n) (hn2 : n ≤ 16384) (v : Value) (l : List AcF) (w : World) (hv : AcFsAt w v l) (hl : l.length ≤ 1048576) (hsm : ∀ x ∈ l, x.name.size ≤ 1048576 ∧ x.dest.size ≤ 1048576 ∧ x.data.size ≤ 1048576) (hfi : ∀ x ∈ l, x.fine) :
  Calls Tryz.prog 3 #[.int .i64 (n : Int), v] w fun e w' => e = .returned (.bool true) ∧ Below w.heap.size w w' := by
 obtain ⟨ao, cap, rfl, c1, c2, hat⟩ := hv
 have r1 := Lib.hid (new_any n hn1 hn2 w)
 have r0 := Lib.hid (takes_yes (n : Int) (by omega) (by omega) w)
 have r3 := Lib.hid (fun w1 => refNew_any n hn2 w1)
 go_enter Tryz.func3, Tryz.ntmps3
 go_upto_region 6 with (first
  | (go_at_call 4; ((with_reducible refine r0.out.mono ?_); rintro e w0 ⟨rfl, rfl⟩))
  | (go_at_call 5; ((with_reducible refine r1.out.mono ?_); rintro e w1 ⟨d, fd1, rfl, hD1, hb1⟩))
  | (go_at_call 6; ((with_reducible refine (r3.out w1).mono ?_); rintro e w3 ⟨r, fr1, rfl, hR3, hb3⟩)))
 have hT : Two w.heap.size d r (Pl.Dv.new n) (Pl.Dv.new n) fd1 fr1 w3 := ⟨hD1.beyond hb3, refAt_base hR3 hb1.size, fun k h1 h2 => by
  have := hD1.lt k h1
  have := hR3.fpB k h2
  omega⟩
 have hb4 := hb1.trans (hb3.mono hb1.size)
 have PO := Lib.hid (opened_any hT hb4 (Pl.Fine.new n) (by omega) hn1 hn2 (Pl.new_free n) rfl)
 clear r1 r3 r0 hD1 hR3 hb1 hb3 hT hb4
 go_upto_region 7 with (go_at_call 7; refine PO.out.mono ?_; rintro e w4 ⟨f, q, x0, y0, s0, fp0, fd0, fq0, fr0, rfl, hF0, hR0, hN0⟩)
 have hI0 : OneD w f d q r n 0 18 w4 := ⟨x0, y0, s0, fp0, fd0, fq0, fr0, hF0, hR0, hN0⟩
 clear PO hF0 hR0 hN0
 go_wp2_with fail
 go_loopw [9, 10, 11, 12] (fun fv qv okv iv X => ∃ (k f q : Nat), k ≤ l.length ∧ fv = .pointer (some ⟨f, 0, none⟩) ∧ qv = .pointer (some ⟨q, 0, none⟩) ∧ okv = .bool true ∧ iv = .int .i64 (k : Int) ∧ OneD w f d q r n (k * 1048576) (k * 16500 + 18) X) (fun _ _ _ iv _ => l.length - (intOf iv).toNat)
 case atStart => exact ⟨0, f, q, Nat.zero_le _, rfl, rfl, rfl, rfl, by simpa using hI0⟩
 clear hI0
 case round =>
  obtain ⟨k, f, q, hk, rfl, rfl, rfl, rfl, hI⟩ := hrel
  by_cases hkl : k < l.length
  case neg =>
   have hkl2 : ¬ ((k : Int) < (l.length : Int)) := by omega
   clear hat
   obtain ⟨x, y, s, fp, fd, fq, fr, h1, h2, h3⟩ := hI
   have hwl := h3.wait
   have hel := h3.epoch
   have hT : Two w.heap.size d r s s fd fr wr := ⟨h1.dev, h1.ref, h1.d5⟩
   have hb := h1.low
   clear h1 h2
   have hC1 := Lib.hid (crash_any hT.1 _ [] (bools_nil4 wr) (fun h0 => by simp at h0) (-1) 0 (by omega) (by omega))
   go_upto_region 27 with (first
    | (go_at_call 10; ((with_reducible refine hC1.out.mono ?_); rintro e w2 ⟨⟨_, rfl⟩, hD2, st2⟩; have h2 := hT.dev hD2 st2; have bb2 := below_step hb (Nat.le_refl _) hT.1 st2; have hC2 := Lib.hid (refCrash_any h2.2.1 _ [] (bools_nil4 w2) (fun h0 => by simp at h0) (-1) 0 (by omega) (by omega))))
    | (go_at_call 11; ((with_reducible refine hC2.out.mono ?_); rintro e w3 ⟨⟨_, rfl⟩, hR3, st3⟩; have h3' := h2.ref hR3 st3; have bb3 := ref_below_step bb2 (Nat.le_refl _) h2.2.1 st3)))
   have hF4 := h3.crash [] (-1) (clamp 0)
   have hd4 : (s.crash [] (-1) (clamp 0)).down = false := rfl
   have hw4 : (s.crash [] (-1) (clamp 0)).wait = [] := rfl
   clear hC1 hC2 hT h3 hD2 st2 h2 bb2 hR3 st3 hwl hel
   generalize s.crash [] (-1) (clamp 0) = s4 at h3' hF4 hd4 hw4
   go_wp2_with fail
   go_loopw [11, 15] (fun okv iv X => ∃ i : Nat, i ≤ n ∧ okv = .bool true ∧ iv = .int .i64 i ∧ X = w3) (fun _ iv _ => n - (intOf iv).toNat)
   case atStart => exact ⟨0, by omega, rfl, rfl, rfl⟩
   case round =>
    obtain ⟨i, hi, rfl, rfl, hX⟩ := hrel
    subst hX
    by_cases h1 : i < n
    ·have hl4 := hF4.len
     have hR := read_ok i h3'.1 hd4 (by omega) (by omega)
     obtain ⟨sv, wv, hO⟩ := h3'.2.1
     obtain ⟨gs, cs, rfl⟩ := hO.safe_form (by omega)
     have c0 := hO.blk.cell 0
     simp at c0
     have cS := hO.safe.cellAt i (by omega)
     rw [scells_get s4.safe i (by omega)] at cS
     have e1 : s4.read i = s4.safe[i]'(by omega) := by unfold Pl.Dv.read; rw [hw4]; simp [Pl.lastW, List.getD_eq_getElem?_getD, show i < s4.safe.length by omega]
     rw [e1] at hR
     replace hR := Lib.hid hR
     rw [hl4] at c0
     have hi2 : (i : Int) < (n : Int) := by omega
     have hi3 : (0 : Int) ≤ (i : Int) := by omega
     clear e1 hO
     generalize s4.safe[i]'(by omega) = RB at *
     clear hl4
     go_wp2_with (go_at_call 15; ((with_reducible refine hR.out.mono ?_); rintro e w4 ⟨rfl, rfl⟩))
     go_roundw
     case rel => exact ⟨i + 1, by omega, by simp, by go_num, by first | rfl | trivial⟩
     case measure => simp [intOf]; omega
    ·have hi2 : ¬ (i : Int) < (n : Int) := by omega
     go_wp2_with fail
     go_ret
     exact ⟨rfl, bb3⟩
  case pos =>
   have hkk : (0 : Int) ≤ (k : Int) := by omega
   have hkl2 : (k : Int) < (l.length : Int) := by omega
   have hlow : Below w.heap.size w wr := by obtain ⟨_, _, _, _, _, _, _, h, _, _⟩ := hI; exact h.low
   obtain ⟨b, off, rfl, hlt, hc⟩ := hat (by omega)
   have hcI := (hc k hkl).below hlt hlow
   obtain ⟨-, -, -, -, -, -, u0, b6, hu0w⟩ := hc k hkl
   have hsmk := hsm _ (List.getElem_mem hkl)
   have hfik := hfi _ (List.getElem_mem hkl)
   clear hc
   generalize l[k] = yy at hcI hsmk hfik hu0w
   obtain ⟨kd, at', num, nm, ds, dt, kpl⟩ := yy
   obtain ⟨a0, a1, a2, a3, a4, a5, u, a6, hu⟩ := hcI
   have hu0e : u0 = u := Option.some.inj (((hlow.cell (p := ⟨b, off + k * 7 + 6, none⟩) hlt).trans b6).symm.trans a6)
   subst hu0e
   have hub : 0 < kpl.length → ∀ z, u0.ownBlock = some z → z < w.heap.size := fun h0 z e => bools_own4 hu0w h0 z e
   have hu0 := hu
   obtain ⟨ua, uc, rfl, _⟩ := hu0
   clear hu0w b6 hlow
   simp only at a0 a1 a2 a3 a4 a5 a6 hsmk
   have hk1 : k + 1 ≤ l.length := by omega
   have hT8 : k * 1048576 + 1048576 ≤ 140737488355328 := by omega
   have hk8 : k * 16500 + 18 ≤ 1099511627776 := by omega
   replace hub := Lib.hid hub
   replace hI := Lib.hid hI
   replace hu := Lib.hid hu
   go_upto_region 11 with (fail)
   have hA : Blk (wr.alloc (.cells #[.int .i64 kd, .int .i64 at', .int .i64 num, .string nm, .string ds, .string dt, .slice ua kpl.length uc] 36)) wr.heap.size #[.int .i64 kd, .int .i64 at', .int .i64 num, .string nm, .string ds, .string dt, .slice ua kpl.length uc] 36 := Blk.new _ _ _
   have hbA := (Below.refl wr.heap.size wr).alloc (Nat.le_refl _) (.cells #[.int .i64 kd, .int .i64 at', .int .i64 num, .string nm, .string ds, .string dt, .slice ua kpl.length uc] 36)
   obtain ⟨x, y, s, fp, fd, fq, fr, g1, g2, g3⟩ := hI.out
   have h1 := g1.beyond hbA
   have hu4 := hu.out.below hbA
   have nb1 : ¬ fp wr.heap.size := fun e => by have := g1.fs.lt _ e; omega
   have nb2 : ¬ fd wr.heap.size := fun e => by have := g1.dev.lt _ e; omega
   have nb3 : ¬ fr wr.heap.size := fun e => by have := g1.ref.lt _ e; omega
   have hsz : k * 1048576 + dt.size ≤ 140737488355328 := by omega
   clear g1 hI hu a0 a1 a2 a3 a4 a5 a6 hkk hkl2 hbA hat
   generalize wr.alloc (.cells #[.int .i64 kd, .int .i64 at', .int .i64 num, .string nm, .string ds, .string dt, .slice ua kpl.length uc] 36) = w4 at hA h1 hu4 ⊢
   generalize wr.heap.size = bA at *
   have l0 : w4.cell? ⟨bA, 0, none⟩ = some (.int .i64 kd) := by simp [hA.cell]
   have l1 : w4.cell? ⟨bA, 1, none⟩ = some (.int .i64 at') := by simp [hA.cell]
   have l2 : w4.cell? ⟨bA, 2, none⟩ = some (.int .i64 num) := by simp [hA.cell]
   have l3 : w4.cell? ⟨bA, 3, none⟩ = some (.string nm) := by simp [hA.cell]
   have l4 : w4.cell? ⟨bA, 4, none⟩ = some (.string ds) := by simp [hA.cell]
   have l5 : w4.cell? ⟨bA, 5, none⟩ = some (.string dt) := by simp [hA.cell]
   have l6 : w4.cell? ⟨bA, 6, none⟩ = some (.slice ua kpl.length uc) := by simp [hA.cell]
   by_cases k8 : kd = 8
   ·-- {2
    subst k8
    obtain ⟨M, P1, P2⟩ := arm_both h1 g2 g3 num hfik.2.2.1.2 hA nb2
    replace P1 := Lib.hid P1
    replace P2 := Lib.hid P2
    clear h1 g2 g3 hA nb1 nb2 nb3 hu4 hub
    go_wp2_with (first
     | (go_at_call 8; refine P1.out.mono ?_; rintro e w5 ⟨⟨v5, rfl⟩, hM, hB5⟩; have m2 : w5.cell? ⟨bA, 2, none⟩ = some (.int .i64 num) := (by simp [hB5.cell]); replace hM := Lib.hid hM)
     | (go_at_call 9; refine (P2.out w5 hM.out).mono ?_; rintro e w6 ⟨⟨v6, rfl⟩, hD⟩; have PDk := Lib.hid (oneD_disks hD (by omega)))
     | (go_at_call 14; refine PDk.out.mono ?_; rintro e w7 ⟨rfl, hD7⟩; replace hD7 := Lib.hid hD7))
    go_roundw
    case rel => exact ⟨k + 1, f, q, hk1, rfl, rfl, by first | rfl | trivial | simp, by go_num, hD7.out.mono (Nat.le_trans (Nat.le_add_right _ 0) (le_T4 k 0 (Nat.zero_le _))) (le_K4 k 1 (by decide))⟩
    case measure => simp [intOf]; omega
   have j8 : (kd == 8) = false := by simpa using k8
   by_cases k9 : kd = 9
   ·-- {3
    subst k9
    obtain ⟨M, P1, P2⟩ := crash_both h1 g2 g3 (by omega) at' num (.slice ua kpl.length uc) kpl hu4 hub.out hA ⟨nb2, nb3⟩
    replace P1 := Lib.hid P1
    replace P2 := Lib.hid P2
    clear h1 g2 g3 hA nb1 nb2 nb3 hu4 hub
    go_upto_region 17 with (first
     | (go_at_call 10; refine P1.out.mono ?_; rintro e w5 ⟨⟨v5, rfl⟩, hM, hB5⟩; have m1 : w5.cell? ⟨bA, 1, none⟩ = some (.int .i64 at') := (by simp [hB5.cell]); have m2 : w5.cell? ⟨bA, 2, none⟩ = some (.int .i64 num) := (by simp [hB5.cell]); have m6 : w5.cell? ⟨bA, 6, none⟩ = some (.slice ua kpl.length uc) := (by simp [hB5.cell]); replace hM := Lib.hid hM)
     | (go_at_call 11; refine (P2.out w5 hM.out).mono ?_; rintro e w6 ⟨⟨v6, rfl⟩, hCr⟩))
    obtain ⟨x6, y6, s6, fp6, fd6, fq6, fr6, h6, r6, n6, fr6', wt6, B6⟩ := hCr
    have PTd := Lib.hid (told_any h6 r6 hn1 hn2 (Nat.le_trans (Nat.le_add_right _ _) hsz) ⟨9, at', num, nm, ds, dt, kpl⟩ ua kpl.length uc hfik (by simp only; omega))
    have POo : Hid (∀ X, Below w6.heap.size w6 X → Calls Tryz.prog 7 #[.pointer (some ⟨d, 0, none⟩), .pointer (some ⟨r, 0, none⟩)] X (OpnEnds w d r n (k * 16500 + 18 + 1 + 18))) := Lib.hid (fun X hb => by
     have h7 := h6.beyond hb
     exact opened_any ⟨h7.dev, h7.ref, h7.d5⟩ h7.low n6 (by omega) hn1 hn2 fr6' wt6)
    have p0 : w6.cell? ⟨bA, 0, none⟩ = some (.int .i64 9) := by simp [B6.cell]
    have p1 : w6.cell? ⟨bA, 1, none⟩ = some (.int .i64 at') := by simp [B6.cell]
    have p2 : w6.cell? ⟨bA, 2, none⟩ = some (.int .i64 num) := by simp [B6.cell]
    have p3 : w6.cell? ⟨bA, 3, none⟩ = some (.string nm) := by simp [B6.cell]
    have p4 : w6.cell? ⟨bA, 4, none⟩ = some (.string ds) := by simp [B6.cell]
    have p5 : w6.cell? ⟨bA, 5, none⟩ = some (.string dt) := by simp [B6.cell]
    have p6 : w6.cell? ⟨bA, 6, none⟩ = some (.slice ua kpl.length uc) := by simp [B6.cell]
    clear h6 r6 n6 fr6' wt6 B6 P1 P2 hM hB5 l0 l1 l2 l3 l4 l5 l6 m1 m2 m6
    go_wp2_with (first
     | (go_at_call 12; refine PTd.out.mono ?_; rintro e w7 ⟨rfl, b7⟩)
     | (go_at_call 7; refine (POo.out w7 b7).mono ?_; rintro e w8 ⟨f8, q8, x8, y8, s8, fp8, fd8, fq8, fr8, rfl, hF8, hR8, hN8⟩; have hD8 : OneD w f8 d q8 r n 0 (k * 16500 + 18 + 1 + 18) w8 := ⟨x8, y8, s8, fp8, fd8, fq8, fr8, hF8, hR8, hN8⟩; have PDk := Lib.hid (oneD_disks hD8 (by omega)); clear hD8 hF8 hR8 hN8)
     | (go_at_call 14; refine PDk.out.mono ?_; rintro e w9 ⟨rfl, hD9⟩; replace hD9 := Lib.hid hD9))
    go_roundw
    case rel => exact ⟨k + 1, f8, q8, hk1, rfl, rfl, by first | rfl | trivial | simp, by go_num, hD9.out.mono (Nat.zero_le _) (le_K4 k 19 (by decide))⟩
    case measure => simp [intOf]; omega
   have j9 : (kd == 9) = false := by simpa using k9
   have P1 := Lib.hid (one_any4 h1 g2 g3 (by omega) hn1 hn2 ⟨kd, at', num, nm, ds, dt, kpl⟩ hsz ua kpl.length uc hfik (by simp only; omega) (by simp only; omega))
   clear h1 g2 g3 hA nb1 nb2 nb3 hu4 hub
   go_wp2_with (first
    | (go_at_call 13; refine P1.out.mono ?_; rintro e w5 ⟨rfl, hD⟩; have PDk := Lib.hid (oneD_disks hD (by omega)))
    | (go_at_call 14; refine PDk.out.mono ?_; rintro e w9 ⟨rfl, hD9⟩; replace hD9 := Lib.hid hD9))
   go_roundw
   case rel => exact ⟨k + 1, f, q, hk1, rfl, rfl, by first | rfl | trivial | simp, by go_num, hD9.out.mono (le_T4 k dt.size hsmk.2.2) (le_K4 k 16402 (by decide))⟩
   case measure => simp [intOf]; omega
theorem plays4_all (n : Int) (v : Value) (l : List AcF) (w : World) (hv : AcFsAt w v l) (hl : l.length ≤ 1048576) (hsm : ∀ x ∈ l, x.name.size ≤ 1048576 ∧ x.dest.size ≤ 1048576 ∧ x.data.size ≤ 1048576) (hfi : ∀ x ∈ l, x.fine) :
  Calls Tryz.prog 3 #[.int .i64 n, v] w fun e w' => e = .returned (.bool true) ∧ Below w.heap.size w w' := by
 by_cases h : n < 40 ∨ 16384 < n
 ·exact plays4_bad n h v w
 ·obtain ⟨m, rfl⟩ := Int.eq_ofNat_of_zero_le (show 0 ≤ n by omega)
  exact plays4_any m (by omega) (by omega) v l w hv hl hsm hfi
end
namespace lawFilesPlaysUpto
open Go.ChangeShapes Go.WideShapes Go.ChangeAt Go.RowKit
open Go.ChangeMaps (open_string shut_string)
set_option linter.unusedVariables false
theorem contract (H : Type) (enc : TypeId × Value → H) (W : World) (base : Nat) (args : Array Value) (ds gs : List (DataW H)) (before : List MemPlace)
  (hval0 : ∀ (j : Nat) t v, Tryz.f3.params[j]? = some t → args[j]? = some v → Value.okWide Tryz.prog W .any base t v)
  (hW : DataW.Whole enc Tryz.prog Tryz.f3.params.toList Rows.filesPlaysSpec.vars false W args.toList ds gs before) (hk : Rows.uptoSmall H (ds ++ gs) = true)
  (hsz0 : (DataW.weightsEach Tryz.prog (Tryz.f3.params.toList ++ Rows.filesPlaysSpec.plain.varTypes Tryz.prog) (ds ++ gs)).all (· ≤ reachBytes) = true) :
  Calls Tryz.prog 3 args W fun e W' => ∃ v, e = .returned v ∧ Rows.filesPlaysSpec.post enc Tryz.prog Tryz.f3 false true false false W args v W' := by
 have hW' := hW
 obtain ⟨p, q, hA0, hV, rfl, hfz, hnd⟩ := hW
 have hA : DataW.TrodAll enc Tryz.prog W 0 (fun _ => true) true Tryz.f3.params.toList args.toList ds p := hA0
 have hval : ∀ (j : Nat) t v, Tryz.f3.params[j]? = some t → args[j]? = some v → Value.okWide Tryz.prog W .any base t v := hval0
 have hsz : (DataW.weightsEach Tryz.prog (Tryz.f3.params.toList ++ Rows.filesPlaysSpec.plain.varTypes Tryz.prog) (ds ++ gs)).all (· ≤ reachBytes) = true := hsz0
 clear hsz0 hval0
 rw [Tryz.params3] at hA hval hsz
 obtain ⟨v0, vs0, d0, ds0, p0, q0, hargs, rfl, rfl, h0, r0⟩ := trodAll_cons hA
 obtain ⟨v1, vs1, d1, ds1, p1, q1, rfl, rfl, rfl, h1, r1⟩ := trodAll_cons r0
 obtain ⟨rfl, rfl, rfl⟩ := trodAll_nil r1
 obtain rfl : args = #[v0, v1] := by cases args; simp_all
 obtain ⟨rfl, rfl⟩ := trodVars_none hV
 clear hA0
 obtain ⟨a0, rfl, rfl, rfl, w0⟩ := open_int Tryz.underlying3 (hval 0 3 v0 rfl rfl) h0
 have b0 : -9223372036854775808 ≤ a0 ∧ a0 ≤ 9223372036854775807 := by simpa [Lit.wf, IntKind.min, IntKind.max, IntKind.signed, IntKind.bits] using w0
 obtain ⟨l, hl, hf, hs⟩ := open_acfs (hval 1 22 v1 rfl rfl) h1
 have hsm := acfs_small hk (by simp) hs
 refine (plays4_all a0 v1 l W hl hsm.1 hsm.2 hf).mono fun e W' ⟨he, hb⟩ => ?_
 subst he
 exact ⟨_, rfl, law_post hW' hb rfl rfl rfl rfl rfl rfl (by kernel_rfl)⟩
theorem lifted (os : Os) (started : os.Started) (H : Type) (enc : TypeId × Value → H) (F : Stop.Interp) :
  ReturnsInHanded {} Tryz.checked os 3 .any ((Rows.OpenSpec.upto Rows.filesPlaysSpec).pre6 enc Tryz.prog Tryz.f3 Rows.filesPlaysUptoRow.domain false) (((Rows.OpenSpec.upto Rows.filesPlaysSpec).at F).post enc Tryz.prog Tryz.f3 false true false false) := by
 refine returnsInHanded_of_cond_sized (C := Tryz.checked) (s := Rows.OpenSpec.upto Rows.filesPlaysSpec) (k := Rows.uptoSmall) rfl own_knob started (by kernel_rfl) Tryz.func3
  (OpenSpec.witness (enc := enc) (C := Tryz.checked) (s := Rows.OpenSpec.upto Rows.filesPlaysSpec) (k := Rows.uptoSmall) rfl false ⟨#[], #[.int .i64 0, .slice none 0 0], []⟩ 8 (by kernel_rfl) (by kernel_rfl) (by kernel_rfl)
   (x := ([.lit (.int .i64 0), .nil], [], [])) (by kernel_rfl) rfl (by kernel_rfl)) ?_
 intro W base args ds gs before hval hW _ hk hsz _
 exact contract H enc W base args ds gs before hval hW hk hsz
theorem proved : Rows.FilesPlaysUptoSaid :=
 OpenClaim.holds_of_cond 3 Tryz.f3 rfl rfl rfl rfl rfl rfl rfl ⟨rfl, rfl, rfl, rfl, rfl⟩ rfl rfl rfl rfl rfl (by kernel_rfl) Tryz.func3 (by kernel_rfl)
  (of_decide_eq_true (by kernel_rfl)) (by unfold Func.isWrapper; first | (rw [if_pos (by decide +kernel)]; kernel_rfl) | (rw [if_neg (by decide +kernel)]; exact ⟨rfl, rfl⟩))
  (fun os started H enc _ F => lifted os started H enc F)
end lawFilesPlaysUpto
end Go.Proofs.YtogblcdefbnbeaaGreat
