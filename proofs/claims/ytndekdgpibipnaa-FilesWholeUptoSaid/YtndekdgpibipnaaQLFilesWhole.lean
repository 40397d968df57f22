
/- Walk: the law FilesWhole returns true. Condition: acts of few bytes. -/
import Derived.Test.YtndekdgpibipnaaQGt
import Derived.Test.YtndekdgpibipnaaQGi
import Derived.Deep.CutBlock

namespace Go.Proofs.Ytndekdgpibipnaa
open Go.RowKit Go.Maps

attribute [local go_sem] Oper.semAt_some
-- [O
set_option maxRecDepth 100000 in
set_option maxHeartbeats 1000000 in
theorem open_nil (w : World) : Calls Try.prog 35 #[.pointer none] w fun e w' => e = .returned (.tuple #[.pointer none, .int .i64 1]) ∧ Below w.heap.size w w' := by
  go_enter Try.func35, Try.ntmps35
  go_wp2
  go_step3
  go_wp2
  rw [Exit.noGoto_ret]
  go_ret2
  exact ⟨rfl, Below.refl _ _⟩
set_option maxRecDepth 100000 in
set_option maxHeartbeats 1000000 in
theorem whole_bad (n : Int) (h : n < 40 ∨ 16384 < n) (v : Value) (w : World) :
    Calls Try.prog 12 #[.int .i64 n, v] w fun e w' => e = .returned (.bool true) ∧ Below w.heap.size w w' := by
  have r2 := Lib.hid (takes_no n h w)
  have r1 := Lib.hid (new_bad n h w)
  have r3 := Lib.hid (open_nil w)
  go_enter Try.func12, Try.ntmps12
  go_wp2_with (first
    | (go_at_call 13; ((with_reducible refine r1.out.mono ?_); rintro e w1 ⟨rfl, rfl⟩))
    | (go_at_call 28; ((with_reducible refine r2.out.mono ?_); rintro e w1 ⟨rfl, rfl⟩))
    | (go_at_call 35; ((with_reducible refine r3.out.mono ?_); rintro e w1 ⟨rfl, b1⟩)))
  go_ret
  exact ⟨rfl, b1⟩
-- O]
theorem whole_start {n : Nat} {w w2 W3 : World} {d f : Nat} {fp fpd : Nat → Prop} (hn1 : 40 ≤ n) (hn2 : n ≤ 16384) (hF : FsAt w.heap.size f d Pl.fs1 fp w2) (hD : DevAt w.heap.size d (Pl.dv1 n) fpd w2) (hdj : ∀ q, fp q → ¬ fpd q) (hb : Below w.heap.size w w2)
    (e : (w2.alloc (.cells #[.slice none 0 0, .slice none 0 0] 84)).alloc (.cells #[.slice none 0 0, .slice none 0 0] 84) = W3) :
    WhI w d w2.heap.size (w2.heap.size + 1) n 0 f false Pl.fs1 (Pl.dv1 n) fp fpd (.slice none 0 0) (.slice none 0 0) (.slice none 0 0) (.slice none 0 0) [] [] [] [] W3 := by
  have hb3 : Below w2.heap.size w2 W3 := by rw [← e]; exact ((Below.refl _ _).alloc (Nat.le_refl _) _).alloc (by simp) _
  have hB1 : Blk W3 w2.heap.size #[.slice none 0 0, .slice none 0 0] 84 := by rw [← e]; exact (Blk.new _ _ _).alloc _
  have hB2 : Blk W3 (w2.heap.size + 1) #[.slice none 0 0, .slice none 0 0] 84 := by
    have := Blk.new (w2.alloc (.cells #[.slice none 0 0, .slice none 0 0] 84)) #[.slice none 0 0, .slice none 0 0] 84
    rw [World.size_alloc] at this
    rw [← e]; exact this
  have hnil : ∀ q, ¬ pfFp (.slice none 0 0) (.slice none 0 0) q := fun q e => by rcases e with e | e <;> cases e
  have hA := Pl.al_new n hn1 hn2
  have hz := hb.size
  have hpb : Pl.Pb [] [] := hA.repS.pb (Pl.HK.revert (Pl.may1 _) hn2)
  have hOk := Pl.new_okk n
  refine ⟨⟨hF.beyond hb3, hD.beyond hb3, ⟨hB1, Pf.nil _ _, hz, fun q e => absurd e (hnil q)⟩, ⟨hB2, Pf.nil _ _, by omega, fun q e => absurd e (hnil q)⟩, hb.trans (hb3.mono hz), hdj, fun q e => ?_, fun q e => ?_⟩, (Pl.wrRoot_ok hOk [] ⟨1, []⟩).mono (by simp), (Pl.wrRoot_epoch _ _ _).trans rfl, Nat.le_of_eq ((Pl.wrRoot_epoch _ _ _).trans rfl), Pl.may1 _, hA.kp.hand.mono (Nat.zero_le _), hpb, hpb, hA.surv false, .inr (hA.mono (Nat.zero_le _))⟩
  · rcases e with rfl | e
    · exact ⟨fun e => Nat.lt_irrefl _ (hF.lt _ e), fun e => Nat.lt_irrefl _ (hD.lt _ e)⟩
    · exact absurd e (hnil q)
  · rcases e with rfl | e
    · refine ⟨fun e => by have := hF.lt _ e; omega, fun e => by have := hD.lt _ e; omega, fun e => ?_⟩
      rcases e with e | e
      · omega
      · exact hnil _ e
    · exact absurd e (hnil q)
-- [K
set_option maxRecDepth 100000 in
set_option maxHeartbeats 4000000 in
theorem whole_any (n : Nat) (hn1 : 40 ≤ n) (hn2 : n ≤ 16384) (v : Value) (l : List AcF) (w : World) (hv : AcFsAt w v l) (hl : l.length ≤ 1048576) (hsm : ∀ x ∈ l, x.name.size ≤ 1048576 ∧ x.dest.size ≤ 1048576 ∧ x.data.size ≤ 1048576) (hfi : ∀ x ∈ l, x.fine) :
    Calls Try.prog 12 #[.int .i64 (n : Int), v] w fun e w' => e = .returned (.bool true) ∧ Below w.heap.size w w' := by
  obtain ⟨ao, cap, rfl, c1, c2, hat⟩ := hv
  have PT := Lib.hid (takes_yes (n : Int) (by omega) (by omega) w)
  have PN := Lib.hid (new_any n hn1 hn2 w)
  go_enter Try.func12, Try.ntmps12
  go_upto_region 3 with (first
    | (go_at_call 28; ((with_reducible refine PT.out.mono ?_); rintro e w0 ⟨rfl, rfl⟩))
    | (go_at_call 13; ((with_reducible refine PN.out.mono ?_); rintro e w1 ⟨d, fpd, rfl, hD, hb1⟩)))
  have hdec : ∀ k, k < 2 → ∀ w, Calls Try.prog 33 #[.string (Pl.slotS (Pl.Dv.new n) k), .int .i64 ((n : Nat) : Int)] w (DecEnds w ((fun _ => none : Nat → Option Pl.RootP) k)) := fun k hk w => decode_refused _ _ _ (new_size n k hn1 hk) (new_none n k hn1 hk)
  have hOk : Pl.Ok n 0 (Pl.Dv.new n) := Pl.new_okk n
  have PO := Lib.hid (open_any hD rfl hb1.size hOk (by omega) hn1 hn2 (fun _ => none) hdec (fun k r h => by cases h))
  rw [open_new] at PO
  clear hdec PT PN
  go_upto_region 4 with (go_at_call 35; refine PO.out.mono ?_; rintro e w2 ⟨fpd2, hD2, hn2', hk2, f, fp2, rfl, hF2, hdj2⟩)
  have hz1 := hb1.size
  have hlow2 : Below w.heap.size w w2 := ⟨hk2.os.trans hb1.os, hk2.tape.trans hb1.tape, hk2.output.trans hb1.output, Nat.le_trans hb1.size hk2.size, fun q hq => (hk2.block q (fun h => by have := hD.fpB q h; omega) (by omega)).trans (hb1.block q hq)⟩
  have hF2' := Lib.hid (hF2.mono hz1)
  have hD2' := Lib.hid hD2
  have hdj2' := Lib.hid hdj2
  have hlow2' := Lib.hid hlow2
  clear hF2 hdj2 hn2' hk2 hD2 hD hb1 PO hlow2
  go_wp2_with fail
  obtain ⟨W3, hW3⟩ : ∃ W3, (w2.alloc (.cells #[.slice none 0 0, .slice none 0 0] 84)).alloc (.cells #[.slice none 0 0, .slice none 0 0] 84) = W3 := ⟨_, rfl⟩
  have hI0 : WhI w d w2.heap.size (w2.heap.size + 1) n 0 f false Pl.fs1 (Pl.dv1 n) fp2 fpd2 (.slice none 0 0) (.slice none 0 0) (.slice none 0 0) (.slice none 0 0) [] [] [] [] W3 := whole_start hn1 hn2 hF2'.out hD2'.out hdj2'.out hlow2'.out hW3
  rw [hW3]
  clear hW3 hF2' hD2' hdj2' hlow2' hOk
  generalize w2.heap.size + 1 = mH at *
  generalize w2.heap.size = mS at *
  go_loopw [8, 12, 13] (fun fv cv iv W' => ∃ (k f : Nat) (cut : Bool), k ≤ l.length ∧ fv = .pointer (some ⟨f, 0, none⟩) ∧ cv = .bool cut ∧ iv = .int .i64 (k : Int) ∧ WhAt w d mS mH n k f cut W') (fun _ _ iv _ => l.length - (intOf iv).toNat)
  case atStart => exact ⟨0, f, false, Nat.zero_le _, rfl, rfl, rfl, hI0.at'⟩
  clear hI0
  case round =>
    obtain ⟨k, f, cut, hk, rfl, rfl, rfl, x, s, fp, fpd, vS, vT, vH, vI, nsS, dsS, nsH, dsH, hI⟩ := hrel
    by_cases hkl : k < l.length
    case neg =>
      have hkl2 : ¬ ((k : Int) < (l.length : Int)) := by omega
      have hb := hI.m.low
      clear hI
      go_wp2
      go_ret
      exact ⟨rfl, hb⟩
    case pos =>
      have hkk : (0 : Int) ≤ (k : Int) := by omega
      have hkl2 : (k : Int) < (l.length : Int) := by omega
      obtain ⟨b, off, rfl, hlt, hc⟩ := hat (by omega)
      have hcI := (hc k hkl).below hlt hI.m.low
      obtain ⟨-, -, -, -, -, -, u0, b6, hu0w⟩ := hc k hkl
      have hsmk := hsm _ (List.getElem_mem hkl)
      have hfik := hfi _ (List.getElem_mem hkl)
      clear hc
      generalize l[k] = y at hcI hsmk hfik hu0w
      obtain ⟨kd, at', num, nm, ds, dt, kpl⟩ := y
      obtain ⟨a0, a1, a2, a3, a4, a5, u, a6, hu⟩ := hcI
      have hk1 : Hid (k + 1 ≤ l.length) := Lib.hid (by omega)
      have hnk : Hid ((k : Int) + 1 = ((k + 1 : Nat) : Int)) := Lib.hid (by omega)
      have hu0e : u0 = u := Option.some.inj (((hI.m.low.cell (p := ⟨b, off + k * 7 + 6, none⟩) hlt).trans b6).symm.trans a6)
      subst hu0e
      have hub : Hid (0 < kpl.length → ∀ q, u0.ownBlock = some q → q < w.heap.size) := Lib.hid (fun h0 q e => bools_own hu0w h0 q e)
      have hu0 := hu
      obtain ⟨ua, uc, rfl, _⟩ := hu0
      clear hu0w b6
      simp only at a0 a1 a2 a3 a4 a5 a6 hsmk
      replace hI := Lib.hid hI
      replace hu := Lib.hid hu
      go_upto_block 2 with (fail)
      have hI1 := hI.out
      have hA : Blk (wr.alloc (.cells #[.int .i64 kd, .int .i64 at', .int .i64 num, .string nm, .string ds, .string dt, .slice ua kpl.length uc] 71)) wr.heap.size #[.int .i64 kd, .int .i64 at', .int .i64 num, .string nm, .string ds, .string dt, .slice ua kpl.length uc] 71 := Blk.new _ _ _
      have hJ := hI1.still ((Below.refl wr.heap.size wr).alloc (Nat.le_refl _) (.cells #[.int .i64 kd, .int .i64 at', .int .i64 num, .string nm, .string ds, .string dt, .slice ua kpl.length uc] 71))
      have hu4 : BoolsAt (wr.alloc (.cells #[.int .i64 kd, .int .i64 at', .int .i64 num, .string nm, .string ds, .string dt, .slice ua kpl.length uc] 71)) (.slice ua kpl.length uc) kpl := hu.out.below ((Below.refl wr.heap.size wr).alloc (Nat.le_refl _) _)
      have hfa : ∀ q, fp q → q ≠ wr.heap.size := fun q hq e => by have := hI1.m.fs.lt q hq; omega
      have hda : ∀ q, fpd q → q ≠ wr.heap.size := fun q hq e => by have := hI1.m.dev.lt q hq; omega
      clear hI1 hI hu a0 a1 a2 a3 a4 a5 a6 hkk hkl2
      generalize wr.alloc (.cells #[.int .i64 kd, .int .i64 at', .int .i64 num, .string nm, .string ds, .string dt, .slice ua kpl.length uc] 71) = w4 at *
      generalize wr.heap.size = bA at *
      have l0 : w4.cell? ⟨bA, 0, none⟩ = some (.int .i64 kd) := by simp [hA.cell]
      have hA' := Lib.hid hA
      have hJ' := Lib.hid hJ
      have hu' := Lib.hid hu4
      clear hA hJ hu4
      go_cut [7, 8, 12, 15, 16, 17] (fun v7 v8 v12 v15 v16 v17 wx => ∃ (f' : Nat) (cut' : Bool), v8 = .pointer (some ⟨f', 0, none⟩) ∧ v12 = .bool cut' ∧ WhAt w d mS mH n (k + 1) f' cut' wx)
      case first =>
        go_upto_region 15 with (fail)
        go_cut [54] (fun v wx => ∃ bb : Bool, v = .bool bb ∧ (bb = true ↔ 0 ≤ kd ∧ kd ≤ 3) ∧ wx = w4)
        case first =>
          by_cases q0 : 0 ≤ kd
          · by_cases q3 : kd ≤ 3
            · go_wp2_with fail
              go_meet
              exact ⟨true, rfl, ⟨fun _ => ⟨q0, q3⟩, fun _ => rfl⟩, rfl⟩
            · go_wp2_with fail
              go_meet
              exact ⟨false, rfl, ⟨fun h => (by cases h), fun h => (by have := h.2; omega)⟩, rfl⟩
          · go_wp2_with fail
            go_meet
            exact ⟨false, rfl, ⟨fun h => (by cases h), fun h => (by have := h.1; omega)⟩, rfl⟩
        case rest =>
        obtain ⟨bb, rfl, hbb, hwc⟩ := hcut
        obtain rfl : w4 = wc := hwc.symm
        have hJ := hJ'.out
        have hA := hA'.out
        have hu := hu'.out
        obtain ⟨aS, kS, rfl⟩ := hJ.m.pS.pf.nm.slice
        obtain ⟨aT, kT, rfl⟩ := hJ.m.pS.pf.dt.slice
        obtain ⟨aH, kH, rfl⟩ := hJ.m.pH.pf.nm.slice
        obtain ⟨aI, kI, rfl⟩ := hJ.m.pH.pf.dt.slice
        have hlow := hJ.m.low.size
        have hkm : k ≤ 1048576 := by omega
        cases bb
        case true =>
          have k0 := hbb.1 rfl
          clear hJ' hA' hu' hbb
          -- [A
          have hhl : x.hand.length < maxLen := by have := hJ.hk.many; unfold maxLen; omega
          have hzz : ∀ q, Pl.hget x.hand nm = some q → q.added.size + dt.size ≤ 9223372036854775807 := fun q hq => by
            obtain ⟨p, hp, rfl, _⟩ := Pl.hget_some hq
            have := (hJ.hk.all p hp).added
            have := hsmk.2.2
            omega
          have PTr := Lib.hid (tries_any hJ.m.fs hJ.m.dev ⟨kd, at', num, nm, ds, dt, kpl⟩ (.slice ua kpl.length uc) rfl hsmk.1 hsmk.2.1 hzz hhl)
          have l1 : w4.cell? ⟨bA, 1, none⟩ = some (.int .i64 at') := by simp [hA.cell]
          have l2 : w4.cell? ⟨bA, 2, none⟩ = some (.int .i64 num) := by simp [hA.cell]
          have l3 : w4.cell? ⟨bA, 3, none⟩ = some (.string nm) := by simp [hA.cell]
          have l4 : w4.cell? ⟨bA, 4, none⟩ = some (.string ds) := by simp [hA.cell]
          have l5 : w4.cell? ⟨bA, 5, none⟩ = some (.string dt) := by simp [hA.cell]
          have l6 : w4.cell? ⟨bA, 6, none⟩ = some (.slice ua kpl.length uc) := by simp [hA.cell]
          clear hzz hhl hu
          by_cases h0 : (x.tryE s ⟨kd, at', num, nm, ds, dt, kpl⟩).2 = 0
          case neg =>
            have hres : Hid (∀ X : World, FsAt w.heap.size f d (x.tryE s ⟨kd, at', num, nm, ds, dt, kpl⟩).1 fp X → Step fp fp w4 X → WhAt w d mS mH n (k + 1) f cut X) := Lib.hid (fun X hF st => (hJ.refused h0 hF st).at')
            clear hJ hA
            generalize (x.tryE s ⟨kd, at', num, nm, ds, dt, kpl⟩).1 = x' at *
            generalize (x.tryE s ⟨kd, at', num, nm, ds, dt, kpl⟩).2 = e' at *
            have h0b : (e' == 0) = false := by simpa using h0
            go_wp2_with (go_at_call 37; refine PTr.out.mono ?_; rintro e w5 ⟨rfl, hF, st⟩)
            go_meet
            exact ⟨f, cut, rfl, rfl, hres.out _ hF st⟩
          case pos =>
            rw [h0] at PTr
            have hask := Lib.hid (hJ.asks hkm h0 hsmk.2.2)
            have hnext : Hid (∀ X : World, FsAt w.heap.size f d (x.tryE s ⟨kd, at', num, nm, ds, dt, kpl⟩).1 fp X → Step fp fp w4 X → WhM w d f mS mH (x.tryE s ⟨kd, at', num, nm, ds, dt, kpl⟩).1 s fp fpd (.slice aS nsS.length kS) (.slice aT dsS.length kT) (.slice aH nsH.length kH) (.slice aI dsH.length kI) nsS dsS nsH dsH X) := Lib.hid (fun X hF st => hJ.tried hF st)
            have hfin : Hid (∀ (ns' ds' : List ByteArray) (v1 v2 : Value) (X : World), DoesTo ⟨kd, at', num, nm, ds, dt, kpl⟩ nsH dsH ns' ds' → WhM w d f mS mH (x.tryE s ⟨kd, at', num, nm, ds, dt, kpl⟩).1 s fp fpd (.slice aS nsS.length kS) (.slice aT dsS.length kT) v1 v2 nsS dsS ns' ds' X → WhAt w d mS mH n (k + 1) f cut X) := Lib.hid (fun ns' ds' v1 v2 X hd hm => (hJ.done hn2 h0 hd hsmk.2.2 hm).at')
            have hel : Hid (dsH.length = nsH.length) := Lib.hid hJ.pbH.eqlen
            have hml : nsH.length ≤ 1073741824 := by have := hJ.pbH.many; omega
            have hA' := Lib.hid hA
            clear hJ hA h0
            generalize (x.tryE s ⟨kd, at', num, nm, ds, dt, kpl⟩).1 = x' at *
            go_upto_region 18 with (go_at_call 37; refine PTr.out.mono ?_; rintro e w5 ⟨rfl, hF, st⟩)
            have hM := hnext.out _ hF st
            have hA5 := hA'.out.keep st.keep (fun e => hfa _ e rfl)
            have PD := Lib.hid (does_any (.slice aH nsH.length kH) (.slice aI dsH.length kI) nsH dsH w.heap.size ⟨kd, at', num, nm, ds, dt, kpl⟩ (.slice ua kpl.length uc) rfl w5 hM.pH.pf hM.low.size hel.out hml hask.out.1 hask.out.2.1 hask.out.2.2)
            unfold actV at PD
            obtain ⟨m0, m1⟩ := hM.pH.cells
            have hML := Lib.hid hM
            clear l0 l1 l2 l3 l4 l5 l6 hA' PTr hM hnext st hF hask
            have l0 : w5.cell? ⟨bA, 0, none⟩ = some (.int .i64 kd) := by simp [hA5.cell]
            have l1 : w5.cell? ⟨bA, 1, none⟩ = some (.int .i64 at') := by simp [hA5.cell]
            have l2 : w5.cell? ⟨bA, 2, none⟩ = some (.int .i64 num) := by simp [hA5.cell]
            have l3 : w5.cell? ⟨bA, 3, none⟩ = some (.string nm) := by simp [hA5.cell]
            have l4 : w5.cell? ⟨bA, 4, none⟩ = some (.string ds) := by simp [hA5.cell]
            have l5 : w5.cell? ⟨bA, 5, none⟩ = some (.string dt) := by simp [hA5.cell]
            have l6 : w5.cell? ⟨bA, 6, none⟩ = some (.slice ua kpl.length uc) := by simp [hA5.cell]
            clear hA5
            go_wp2_with (go_at_call 48; refine PD.out.mono ?_; rintro e w6 ⟨v1, v2, ns', ds', rfl, hdo, hpf, hfp, hkp⟩; obtain ⟨a7, k7, rfl⟩ := hpf.nm.slice; obtain ⟨a8, k8, rfl⟩ := hpf.dt.slice; have ⟨hb6, hM6⟩ := hML.out.hand hkp hpf hfp; have ⟨c0, c1, z0, z1, zl⟩ := pl_cells hb6; replace hM6 := Lib.hid hM6; replace hdo := Lib.hid hdo; clear hb6 hpf hfp hkp l0 l1 l2 l3 l4 l5 l6 m0 m1 k0 hML PD)
            go_meet
            exact ⟨f, cut, rfl, rfl, hfin.out _ _ _ _ _ hdo.out hM6.out⟩
          -- A]
        case false =>
          have k0 : ¬ (0 ≤ kd ∧ kd ≤ 3) := fun h => by have := hbb.2 h; cases this
          clear hJ' hA' hu' hbb
          by_cases k4 : kd = 4
          · subst k4
            -- [C
            have hseen := hJ.may.seen x.safe.files.length (Nat.le_refl _)
            rw [List.take_length] at hseen
            have PC := Lib.hid (commit_any hJ.m.fs hJ.m.dev hJ.m.d1 hlow hlow hJ.ok (by omega) hn1 hn2 (hJ.hk.ok (by omega)) (by have := hseen.length (by omega); omega) (fun q hq => by have h1 := hseen.lo q hq; have h2 := hseen.hi q hq; omega) hJ.may.g2)
            have hcom : Hid (∀ (X : World) (fp5 fpd5 : Nat → Prop), FsAt w.heap.size f d (x.commitE s).1.1 fp5 X → DevAt w.heap.size d (x.commitE s).1.2 fpd5 X → (∀ q, fp5 q → ¬ fpd5 q) → (∀ q, fp5 q → fp q ∨ w4.heap.size ≤ q) → (∀ q, fpd5 q → fpd q ∨ w4.heap.size ≤ q) → Keep (fun q => ¬ fp q ∧ ¬ fpd q) w4 X → WhM w d f mS mH (x.commitE s).1.1 (x.commitE s).1.2 fp5 fpd5 (.slice aS nsS.length kS) (.slice aT dsS.length kT) (.slice aH nsH.length kH) (.slice aI dsH.length kI) nsS dsS nsH dsH X) := Lib.hid (fun X fp5 fpd5 h1 h2 h3 h4 h5 h6 => hJ.com h1 h2 h3 h4 h5 h6)
            have hel : Hid (dsH.length = nsH.length) := Lib.hid hJ.pbH.eqlen
            have hml : nsH.length ≤ 1073741824 := by have := hJ.pbH.many; omega
            have hlt5 : bA < w4.heap.size := hA.lt
            rcases hJ.commit hkm hn1 hn2 with ⟨e1, hfin⟩ | ⟨e1, hfin⟩ | ⟨e1, hfr, hle, hmy, hfin⟩
            · rw [e1] at PC
              replace hfin := Lib.hid hfin
              clear e1 hJ hA hu hseen
              generalize (x.commitE s).1.1 = x' at *
              generalize (x.commitE s).1.2 = s' at *
              go_upto_region 22 with (go_at_call 38; refine PC.out.mono ?_; rintro e w5 ⟨rfl, fp5, fpd5, hF5, hD5, hdj5, hn5, hnd5, hk5⟩)
              have hM := hcom.out w5 fp5 fpd5 hF5 hD5 hdj5 hn5 hnd5 hk5
              have PP := Lib.hid (copied_any (.slice aH nsH.length kH) (.slice aI dsH.length kI) nsH dsH w5 hM.pH.pf.nm.at hM.pH.pf.dt.at hel.out hml)
              obtain ⟨m0, m1⟩ := hM.pH.cells
              replace hM := Lib.hid hM
              clear PC hcom hF5 hD5 hdj5 hn5 hnd5 hk5 l0
              cases cut
              all_goals
                go_wp2_with (go_at_call 49; refine PP.out.mono ?_; rintro e w6 ⟨v1, v2, rfl, hpf, hb6⟩; obtain ⟨a7, k7, rfl⟩ := hpf.nm.slice; obtain ⟨a8, k8, rfl⟩ := hpf.dt.slice; have ⟨hB6, hM6⟩ := hM.out.safe' hb6 hpf; have ⟨c0, c1, z0, z1, zl⟩ := pl_cells hB6; replace hM6 := Lib.hid hM6; clear hB6 hpf hb6)
                go_meet
                exact ⟨f, _, rfl, rfl, (hfin.out _ _ _ _ _ hM6.out).at'⟩
            · rw [e1] at PC
              replace hfin := Lib.hid hfin
              clear e1 hJ hA hu hseen
              generalize (x.commitE s).1.1 = x' at *
              generalize (x.commitE s).1.2 = s' at *
              cases cut
              all_goals
                go_wp2_with (go_at_call 38; refine PC.out.mono ?_; rintro e w5 ⟨rfl, fp5, fpd5, hF5, hD5, hdj5, hn5, hnd5, hk5⟩)
                go_meet
                exact ⟨f, _, rfl, rfl, (hfin.out _ _ _ (hcom.out w5 fp5 fpd5 hF5 hD5 hdj5 hn5 hnd5 hk5)).at'⟩
            · rw [e1] at PC
              have hsn := hmy.seen (x.commitE s).1.1.safe.files.length (Nat.le_refl _)
              rw [List.take_length] at hsn
              have PF : Hid (∀ (X : World) (fp5 fpd5 : Nat → Prop), FsAt w.heap.size f d (x.commitE s).1.1 fp5 X → DevAt w.heap.size d (x.commitE s).1.2 fpd5 X → (∀ q, fp5 q → ¬ fpd5 q) → Calls Try.prog 47 #[.pointer (some ⟨f, 0, none⟩)] X fun e w' => e = .returned (.int .i64 0) ∧ Below X.heap.size X w') := Lib.hid (fun X fp5 fpd5 h1 h2 h3 => by
                have h := freeN_any h1 h2 h3 (by rw [hle]; omega) (by rw [hle]; omega) (by have := hsn.length (by omega); omega) (fun q hq => by have h1 := hsn.lo q hq; have h2 := hsn.hi q hq; omega)
                rw [hfr] at h
                exact h)
              replace hfin := Lib.hid hfin
              clear e1 hJ hA hu hseen hsn hle hmy hfr
              generalize (x.commitE s).1.1 = x' at *
              generalize (x.commitE s).1.2 = s' at *
              cases cut
              all_goals
                go_wp2_with (first
                  | (go_at_call 38; refine PC.out.mono ?_; rintro e w5 ⟨rfl, fp5, fpd5, hF5, hD5, hdj5, hn5, hnd5, hk5⟩; have hM := Lib.hid (hcom.out w5 fp5 fpd5 hF5 hD5 hdj5 hn5 hnd5 hk5))
                  | (go_at_call 47; refine (PF.out _ _ _ hM.out.fs hM.out.dev hM.out.d1).mono ?_; rintro e w6 ⟨rfl, hb6⟩; replace hM := Lib.hid (hM.out.still hb6)))
                go_meet
                exact ⟨f, true, rfl, rfl, (hfin.out _ _ _ hM.out).at'⟩
            -- C]
          by_cases k5 : kd = 5
          · subst k5
            -- [D
            have PR := Lib.hid (revert_any hJ.m.fs hJ.m.dev hlow (fun y hy => by have := hJ.may.blocks (by omega) hy; unfold maxLen; omega) (by have := hJ.may.many; omega))
            have hrv : Hid (∀ (X : World) (fp5 : Nat → Prop), FsAt w.heap.size f d (x.revertE s) fp5 X → Step fp fp5 w4 X → WhM w d f mS mH (x.revertE s) s fp5 fpd (.slice aS nsS.length kS) (.slice aT dsS.length kT) (.slice aH nsH.length kH) (.slice aI dsH.length kI) nsS dsS nsH dsH X) := Lib.hid (fun X fp5 h1 h2 => hJ.rev h1 h2)
            have hel : Hid (dsS.length = nsS.length) := Lib.hid hJ.pbS.eqlen
            have hml : nsS.length ≤ 1073741824 := by have := hJ.pbS.many; omega
            cases hdn : s.down with
            | true =>
              have hfin : Hid (∀ (X : World) (fp5 : Nat → Prop), WhM w d f mS mH (x.revertE s) s fp5 fpd (.slice aS nsS.length kS) (.slice aT dsS.length kT) (.slice aH nsH.length kH) (.slice aI dsH.length kI) nsS dsS nsH dsH X → WhAt w d mS mH n (k + 1) f cut X) := Lib.hid (fun X fp5 hm => (hJ.revDown hdn hm).at')
              clear hJ hA hu
              generalize x.revertE s = x' at *
              go_upto_region 26 with (go_at_call 45; refine PR.out.mono ?_; rintro e w5 ⟨⟨v5, rfl⟩, fp5, hF5, st5⟩)
              have hM := Lib.hid (hrv.out w5 fp5 hF5 st5)
              have PU := Lib.hid (up_any hM.out.dev)
              rw [hdn] at PU
              clear hF5 st5 hrv hdn
              go_wp2_with (go_at_call 19; refine PU.out.mono ?_; rintro e w6 ⟨rfl, rfl⟩)
              go_meet
              exact ⟨f, cut, rfl, rfl, hfin.out _ _ hM.out⟩
            | false =>
              have hfin : Hid (∀ (X : World) (fp5 : Nat → Prop) (v1 v2 : Value), WhM w d f mS mH (x.revertE s) s fp5 fpd (.slice aS nsS.length kS) (.slice aT dsS.length kT) v1 v2 nsS dsS nsS dsS X → WhAt w d mS mH n (k + 1) f cut X) := Lib.hid (fun X fp5 v1 v2 hm => (hJ.revUp hn2 hdn hm).at')
              clear hJ hA hu
              generalize x.revertE s = x' at *
              go_upto_region 26 with (go_at_call 45; refine PR.out.mono ?_; rintro e w5 ⟨⟨v5, rfl⟩, fp5, hF5, st5⟩)
              have hM := Lib.hid (hrv.out w5 fp5 hF5 st5)
              have PU := Lib.hid (up_any hM.out.dev)
              rw [hdn] at PU
              clear hF5 st5 hrv hdn
              have PP := Lib.hid (copied_any (.slice aS nsS.length kS) (.slice aT dsS.length kT) nsS dsS w5 hM.out.pS.pf.nm.at hM.out.pS.pf.dt.at hel.out hml)
              obtain ⟨m0, m1⟩ := hM.out.pS.cells
              clear l0
              go_wp2_with (first
                | (go_at_call 19; refine PU.out.mono ?_; rintro e w6 ⟨rfl, rfl⟩)
                | (go_at_call 49; refine PP.out.mono ?_; rintro e w6 ⟨v1, v2, rfl, hpf, hb6⟩; obtain ⟨a7, k7, rfl⟩ := hpf.nm.slice; obtain ⟨a8, k8, rfl⟩ := hpf.dt.slice; have ⟨hB6, hM6⟩ := hM.out.hand' hb6 hpf; have ⟨c0, c1, z0, z1, zl⟩ := pl_cells hB6; replace hM6 := Lib.hid hM6; clear hB6 hpf hb6))
              go_meet
              exact ⟨f, cut, rfl, rfl, hfin.out _ _ _ _ hM6.out⟩
            -- D]
          by_cases k8 : kd = 8
          · subst k8
            -- [E
            have PA := Lib.hid (arm_any num hJ.m.dev)
            have hfin : Hid (∀ X : World, DevAt w.heap.size d (s.arm num) fpd X → Step fpd fpd w4 X → WhAt w d mS mH n (k + 1) f cut X) := Lib.hid (fun X h1 h2 => (hJ.armed num (by have := hfik.2.2.1; dsimp only at this; omega) h1 h2).at')
            have l2 : w4.cell? ⟨bA, 2, none⟩ = some (.int .i64 num) := by simp [hA.cell]
            clear hJ hA hu
            go_wp2_with (go_at_call 14; refine PA.out.mono ?_; rintro e w5 ⟨⟨v5, rfl⟩, hD, st⟩)
            go_meet
            exact ⟨f, cut, rfl, rfl, hfin.out _ hD st⟩
            -- E]
          by_cases k9 : kd = 9
          · subst k9
            -- [F
            have PCr := Lib.hid (crash_any hJ.m.dev (.slice ua kpl.length uc) kpl hu (fun h0 q e e2 => by have := hub.out h0 q e; have := hJ.m.dev.fpB q e2; omega) at' num (by have := hJ.ok.wait; omega) (by have := hJ.epk; omega))
            have l1 : w4.cell? ⟨bA, 1, none⟩ = some (.int .i64 at') := by simp [hA.cell]
            have l2 : w4.cell? ⟨bA, 2, none⟩ = some (.int .i64 num) := by simp [hA.cell]
            have l6 : w4.cell? ⟨bA, 6, none⟩ = some (.slice ua kpl.length uc) := by simp [hA.cell]
            have hcr := Lib.hid (fun (X : World) (h1 : DevAt w.heap.size d (s.crash kpl at' (clamp num)) fpd X) (h2 : Step fpd fpd w4 X) => hJ.crash kpl at' (clamp num) (clamp_le num) h1 h2)
            have hdn5 : (s.crash kpl at' (clamp num)).down = false := rfl
            have hwt5 : (s.crash kpl at' (clamp num)).wait = [] := rfl
            have helS : Hid (dsS.length = nsS.length ∧ nsS.length ≤ 1073741824 ∧ (∀ t ∈ nsS, t.size ≤ maxLen) ∧ nsS.Nodup) := Lib.hid ⟨hJ.pbS.eqlen, by have := hJ.pbS.many; omega, fun t ht => by have := hJ.pbS.name t ht; unfold maxLen; omega, hJ.pbS.nodup⟩
            have helH : Hid (dsH.length = nsH.length ∧ nsH.length ≤ 1073741824 ∧ (∀ t ∈ nsH, t.size ≤ maxLen) ∧ nsH.Nodup) := Lib.hid ⟨hJ.pbH.eqlen, by have := hJ.pbH.many; omega, fun t ht => by have := hJ.pbH.name t ht; unfold maxLen; omega, hJ.pbH.nodup⟩
            clear hJ hA hu hub
            generalize s.crash kpl at' (clamp num) = s5 at *
            go_upto_region 33 with (go_at_call 20; refine PCr.out.mono ?_; rintro e w5 ⟨⟨v5, rfl⟩, hD, st⟩)
            obtain ⟨hM5, hok5, hep5, r, hg, hr⟩ := hcr.out w5 hD st
            have hdc := dec_any hM5.dev.wf hok5.len hn1 hn2
            have PO := Lib.hid (open_any hM5.dev hdn5 hM5.low.size hok5 (by omega) hn1 hn2 (fun k => Pl.decRt (n : Int) (Pl.slotS s5 k)) hdc.1 hdc.2)
            rw [hg.openE] at PO
            have hnx : Hid (∀ (X : World) (fpd6 fp6 : Nat → Prop) (f6 : Nat), DevAt w.heap.size d s5 fpd6 X → (∀ q, fpd6 q → fpd q ∨ w5.heap.size ≤ q) → Keep (fun q => ¬ fpd q) w5 X → FsAt w5.heap.size f6 d (Pl.Fs.revert ⟨s5.epoch, r, [], false⟩) fp6 X → (∀ q, fp6 q → ¬ fpd6 q) → WhM w d f6 mS mH (Pl.Fs.revert ⟨s5.epoch, r, [], false⟩) s5 fp6 fpd6 (.slice aS nsS.length kS) (.slice aT dsS.length kT) (.slice aH nsH.length kH) (.slice aI dsH.length kI) nsS dsS nsH dsH X) := Lib.hid (fun X fpd6 fp6 f6 h1 h2 h3 h4 h5 => hM5.turn (h3.mono (fun q hq _ => hq.2)) (h4.mono hM5.low.size) h1 h5 (fun q hq => .inr (h4.fpB q hq)) h2)
            have hlow5 := hM5.low.size
            have hHK := Pl.HK.revert (hg.mayN hn2) hn2
            have hdd : (Pl.Fs.revert ⟨s5.epoch, r, [], false⟩).dead s5 = false := by unfold Pl.Fs.dead Pl.Fs.revert; rw [hdn5]; simp
            have hlen5 := hok5.len
            replace hg := Lib.hid hg
            replace hr := Lib.hid hr
            replace hok5 := Lib.hid hok5
            clear hM5 hD st hcr PCr hdc l0 l1 l2 l6
            have hx6 : (Pl.Fs.revert ⟨s5.epoch, r, [], false⟩).hand = Pl.handOf r := rfl
            go_upto_region 36 with (go_at_call 35; refine PO.out.mono ?_; rintro e w6 ⟨fpd6, hD6, hnd6, hk6, f6, fp6, rfl, hF6, hdj6⟩)
            have hM6 := hnx.out w6 fpd6 fp6 f6 hD6 hnd6 hk6 hF6 hdj6
            have hHK6 : Pl.HK n 0 (Pl.Fs.revert ⟨s5.epoch, r, [], false⟩).hand := hHK
            have PI1 := Lib.hid (is_any hM6.fs hM6.dev hdd hHK6 (by omega) hn2 hlen5 (.slice aS nsS.length kS) (.slice aT dsS.length kT) nsS dsS hM6.pS.pf.nm.at hM6.pS.pf.dt.at helS.out.1 helS.out.2.1 helS.out.2.2.1)
            obtain ⟨m0, m1⟩ := hM6.pS.cells
            have hM6' := Lib.hid hM6
            clear hM6 hD6 hnd6 hk6 hF6 hdj6 hnx PO
            go_upto_region 37 with (go_at_call 50; refine PI1.out.mono ?_; rintro e w7 ⟨bo, rfl, hbo, hb7⟩)
            have hM7 := hM6'.out.still hb7
            have PI2 := Lib.hid (is_any hM7.fs hM7.dev hdd hHK6 (by omega) hn2 hlen5 (.slice aH nsH.length kH) (.slice aI dsH.length kI) nsH dsH hM7.pH.pf.nm.at hM7.pH.pf.dt.at helH.out.1 helH.out.2.1 helH.out.2.2.1)
            clear m0 m1 PI1
            obtain ⟨m0, m1⟩ := hM7.pH.cells
            have hM7' := Lib.hid hM7
            clear hM7 hM6' hb7
            replace hbo := Lib.hid hbo
            go_upto_region 38 with (go_at_call 50; refine PI2.out.mono ?_; rintro e w8 ⟨byo, rfl, hby, hb8⟩)
            have hM8 := hM7'.out.still hb8
            rw [Pl.isP_rep hHK6 helH.out.2.2.2 helH.out.1] at hby
            have hbo2 := hbo.out
            rw [Pl.isP_rep hHK6 helS.out.2.2.2 helS.out.1] at hbo2
            rw [hx6] at hby hbo2
            clear m0 m1 PI2 hM7' hb8 hbo hdd hHK hHK6 hx6 hlen5
            have hfin : Hid (∀ (ns ds : List ByteArray), Pl.Rep s5 (Pl.handOf r) ns ds → ∀ (v1 v2 v3 v4 : Value) (X : World), WhM w d f6 mS mH (Pl.Fs.revert ⟨s5.epoch, r, [], false⟩) s5 fp6 fpd6 v1 v2 v3 v4 ns ds ns ds X → WhAt w d mS mH n (k + 1) f6 false X) := Lib.hid (fun ns ds hR v1 v2 v3 v4 X hm => (WhI.anew hn2 hok5.out hep5 hwt5 hg.out hR hm).at')
            clear hok5 hg hep5 hwt5
            have hrest : (bo = true ∧ Pl.Rep s5 (Pl.handOf r) nsS dsS) ∨ (bo = false ∧ cut = true ∧ byo = true ∧ Pl.Rep s5 (Pl.handOf r) nsH dsH) := by
              cases hb : bo with
              | true => exact .inl ⟨rfl, hbo2.1 hb⟩
              | false =>
                rcases hr.out with h1 | ⟨h1, h2⟩
                · rw [hbo2.2 h1] at hb; cases hb
                · exact .inr ⟨rfl, h1, hby.2 h2, h2⟩
            clear hr hbo2 hby
            generalize Pl.Fs.revert ⟨s5.epoch, r, [], false⟩ = x6 at *
            rcases hrest with ⟨rfl, hR⟩ | ⟨rfl, rfl, rfl, hR⟩
            · have PP := Lib.hid (copied_any (.slice aS nsS.length kS) (.slice aT dsS.length kT) nsS dsS w8 hM8.pS.pf.nm.at hM8.pS.pf.dt.at helS.out.1 helS.out.2.1)
              obtain ⟨m0, m1⟩ := hM8.pS.cells
              have hM8' := Lib.hid hM8
              replace hR := Lib.hid hR
              clear hM8
              go_upto_region 43 with (go_at_call 49; refine PP.out.mono ?_; rintro e w9 ⟨v1, v2, rfl, hpf, hb9⟩; obtain ⟨a7, k7, rfl⟩ := hpf.nm.slice; obtain ⟨a8, k8, rfl⟩ := hpf.dt.slice; have ⟨bH4, bH5, bS5, pf5, hlast⟩ := hM8'.out.both (Keep.refl _ _) hM8'.out.pS.box hb9 hpf rfl; have ⟨c0, c1, z0, z1, zl⟩ := pl_cells bH4; replace bH5 := Lib.hid bH5; replace bS5 := Lib.hid bS5; replace pf5 := Lib.hid pf5; replace hlast := Lib.hid hlast; clear bH4 hpf hb9)
              clear c0 c1 z0 z1 zl m0 m1 PP
              generalize (w9.setCell ⟨mH, 0, none⟩ (.slice a7 nsS.length k7)).setCell ⟨mH, 1, none⟩ (.slice a8 dsS.length k8) = W5 at *
              have PP2 := Lib.hid (copied_any (.slice a7 nsS.length k7) (.slice a8 dsS.length k8) nsS dsS W5 pf5.out.nm.at pf5.out.dt.at helS.out.1 helS.out.2.1)
              have ⟨m0, m1, _, _, _⟩ := pl_cells bH5.out
              go_wp2_with (go_at_call 49; refine PP2.out.mono ?_; rintro e w10 ⟨v3, v4, rfl, hpf, hb10⟩; obtain ⟨a9, k9, rfl⟩ := hpf.nm.slice; obtain ⟨a10, k10, rfl⟩ := hpf.dt.slice; have ⟨bS6, hM10⟩ := hlast.out _ _ _ hb10 hpf; have ⟨c0, c1, z0, z1, zl⟩ := pl_cells bS6; replace hM10 := Lib.hid hM10; clear bS6 hpf hb10)
              go_meet
              exact ⟨f6, false, rfl, rfl, hfin.out _ _ hR.out _ _ _ _ _ hM10.out⟩
            · have ⟨m0, m1⟩ := hM8.pH.cells
              have ⟨s0, s1, z0, z1, zl⟩ := pl_cells hM8.pS.box
              have kS := keep_two w8 mS (.slice aH nsH.length kH) (.slice aI dsH.length kI)
              have hB3 := heap_two (u := .slice aH nsH.length kH) (v := .slice aI dsH.length kI) hM8.pS.box
              have hpf3 := hM8.pH.pf.keep kS (fun q e e2 => (hM8.d3 q (.inr e)).2.2 (.inl e2))
              have hM8' := Lib.hid hM8
              replace hR := Lib.hid hR
              clear hM8
              go_upto_region 42 with (fail)
              clear m0 m1 s0 s1 z0 z1 zl
              generalize (w8.setCell ⟨mS, 0, none⟩ (.slice aH nsH.length kH)).setCell ⟨mS, 1, none⟩ (.slice aI dsH.length kI) = W3 at *
              have PP := Lib.hid (copied_any (.slice aH nsH.length kH) (.slice aI dsH.length kI) nsH dsH W3 hpf3.nm.at hpf3.dt.at helH.out.1 helH.out.2.1)
              have hB3' : Blk W3 mS #[.slice aH nsH.length kH, .slice aI dsH.length kI] 84 := hB3
              have ⟨m0, m1, _, _, _⟩ := pl_cells hB3'
              replace hB3' := Lib.hid hB3'
              replace kS := Lib.hid kS
              clear hB3 hpf3
              go_upto_region 43 with (go_at_call 49; refine PP.out.mono ?_; rintro e w9 ⟨v1, v2, rfl, hpf, hb9⟩; obtain ⟨a7, k7, rfl⟩ := hpf.nm.slice; obtain ⟨a8, k8, rfl⟩ := hpf.dt.slice; have ⟨bH4, bH5, bS5, pf5, hlast⟩ := hM8'.out.both kS.out hB3'.out hb9 hpf rfl; have ⟨c0, c1, z0, z1, zl⟩ := pl_cells bH4; replace bH5 := Lib.hid bH5; replace bS5 := Lib.hid bS5; replace pf5 := Lib.hid pf5; replace hlast := Lib.hid hlast; clear bH4 hpf hb9)
              clear c0 c1 z0 z1 zl m0 m1 PP
              generalize (w9.setCell ⟨mH, 0, none⟩ (.slice a7 nsH.length k7)).setCell ⟨mH, 1, none⟩ (.slice a8 dsH.length k8) = W5 at *
              have PP2 := Lib.hid (copied_any (.slice a7 nsH.length k7) (.slice a8 dsH.length k8) nsH dsH W5 pf5.out.nm.at pf5.out.dt.at helH.out.1 helH.out.2.1)
              have ⟨m0, m1, _, _, _⟩ := pl_cells bH5.out
              go_wp2_with (go_at_call 49; refine PP2.out.mono ?_; rintro e w10 ⟨v3, v4, rfl, hpf, hb10⟩; obtain ⟨a9, k9, rfl⟩ := hpf.nm.slice; obtain ⟨a10, k10, rfl⟩ := hpf.dt.slice; have ⟨bS6, hM10⟩ := hlast.out _ _ _ hb10 hpf; have ⟨c0, c1, z0, z1, zl⟩ := pl_cells bS6; replace hM10 := Lib.hid hM10; clear bS6 hpf hb10)
              go_meet
              exact ⟨f6, false, rfl, rfl, hfin.out _ _ hR.out _ _ _ _ _ hM10.out⟩
            -- F]
          -- [G
          have hfin := Lib.hid hJ.next.at'
          have k4b : (kd == 4) = false := by simpa using k4
          have k5b : (kd == 5) = false := by simpa using k5
          have k8b : (kd == 8) = false := by simpa using k8
          have k9b : (kd == 9) = false := by simpa using k9
          clear hJ hA hu
          go_wp2_with fail
          go_meet
          exact ⟨f, cut, rfl, rfl, hfin.out⟩
          -- G]
      case rest =>
        -- [R
        obtain ⟨f', cut', rfl, rfl, x', s', fp', fpd', vS', vT', vH', vI', nsS', dsS', nsH', dsH', hI'⟩ := hcut
        clear hJ' hA' hu' l0
        have hres := Lib.hid hI'.at'
        have PU := Lib.hid (up_any hI'.m.dev)
        cases hdn : s'.down with
        | true =>
          rw [hdn] at PU
          clear hI' hdn
          go_wp2_with (go_at_call 19; refine PU.out.mono ?_; rintro e w5 ⟨rfl, rfl⟩)
          go_roundw
          case rel => exact ⟨k + 1, f', cut', hk1.out, rfl, rfl, by rw [hnk.out], hres.out⟩
          case measure => simp [intOf]; omega
        | false =>
          rw [hdn] at PU
          have hal := hI'.alive hdn
          obtain ⟨aH, kH, rfl⟩ := hI'.m.pH.pf.nm.slice
          obtain ⟨aI, kI, rfl⟩ := hI'.m.pH.pf.dt.slice
          have hisP := Lib.hid (hI'.is hdn)
          have PI := Lib.hid (is_any hI'.m.fs hI'.m.dev hal.1 hI'.hk (by omega) hn2 hI'.ok.len (.slice aH nsH'.length kH) (.slice aI dsH'.length kI) nsH' dsH' hI'.m.pH.pf.nm.at hI'.m.pH.pf.dt.at hI'.pbH.eqlen (by have := hI'.pbH.many; omega) (fun t ht => by have := hI'.pbH.name t ht; unfold maxLen; omega))
          obtain ⟨m0, m1⟩ := hI'.m.pH.cells
          replace hI' := Lib.hid hI'
          clear hdn hal
          go_upto_region 48 with (first
            | (go_at_call 19; refine PU.out.mono ?_; rintro e w5 ⟨rfl, rfl⟩)
            | (go_at_call 50; refine PI.out.mono ?_; rintro e w6 ⟨bi, rfl, hbi, hb6⟩; obtain rfl : bi = true := hbi.2 hisP.out))
          have hres6 := Lib.hid (hI'.out.still hb6).at'
          clear hb6 hbi hres
          go_wp2_with fail
          go_roundw
          case rel => exact ⟨k + 1, f', cut', hk1.out, rfl, rfl, by rw [hnk.out], hres6.out⟩
          case measure => simp [intOf]; omega
        -- R]
-- K]
theorem whole_all (n : Int) (v : Value) (l : List AcF) (w : World) (hv : AcFsAt w v l) (hl : l.length ≤ 1048576) (hsm : ∀ x ∈ l, x.name.size ≤ 1048576 ∧ x.dest.size ≤ 1048576 ∧ x.data.size ≤ 1048576) (hfi : ∀ x ∈ l, x.fine) :
    Calls Try.prog 12 #[.int .i64 n, v] w fun e w' => e = .returned (.bool true) ∧ Below w.heap.size w w' := by
  by_cases h : n < 40 ∨ 16384 < n
  · exact whole_bad n h v w
  · have e : n = ((n.toNat : Nat) : Int) := by omega
    rw [e]
    exact whole_any n.toNat (by omega) (by omega) v l w hv hl hsm hfi
end Go.Proofs.Ytndekdgpibipnaa
