
/- Walk: the law FilesKeeps returns true. Condition: acts of few bytes. -/
import Derived.Test.YtndekdgpibipnaaQGm
import Derived.Test.YtndekdgpibipnaaQGh

namespace Go.Proofs.Ytndekdgpibipnaa
open Go.RowKit Go.Maps

attribute [local go_sem] Oper.semAt_some
namespace Pl
variable {N T : Nat} {x : Fs} {s : Dv}
theorem tryE_safe (x : Fs) (s : Dv) (y : AcF) : (x.tryE s y).1.safe = x.safe ∧ (x.tryE s y).1.epoch = x.epoch := by
  unfold Fs.tryE Fs.createE Fs.appendE Fs.renameE Fs.deleteE Fs.create Fs.append Fs.rename Fs.delete
  repeat' split
  all_goals exact ⟨rfl, rfl⟩
theorem HK.tryE (h : HK N T x.hand) (y : AcF) : HK N (T + y.data.size) (x.tryE s y).1.hand := by
  have h0 := h.mono (Nat.le_add_right T y.data.size)
  unfold Fs.tryE Fs.createE Fs.appendE Fs.renameE Fs.deleteE
  split
  · split
    · exact h0
    · exact h0.create _
  · split
    · split
      · exact h0
      · exact h.append _ _
    · split
      · split
        · exact h0
        · exact h0.rename _ _
      · split
        · split
          · exact h0
          · exact h0.delete _
        · exact h0
theorem Kp.tryE (h : Kp N T x s) (y : AcF) : Kp N (T + y.data.size) (x.tryE s y).1 s := ⟨h.len, h.hand.tryE y, by rw [(tryE_safe x s y).1]; exact h.safe, h.wait⟩
theorem Kp.arm (h : Kp N T x s) (n : Int) : Kp N T x (s.arm n) := ⟨h.len, h.hand, h.safe, h.wait⟩
end Pl
theorem Pl.Kp.commitOk {N T k : Nat} {x : Pl.Fs} {s : Pl.Dv} (h : Pl.Kp N T x s) (hT : T ≤ 4611686018427387904) (hN : N ≤ 16384) (ho : Pl.Ok N k s) : Pl.Ok N (k + (N + 18)) (x.commitE s).1.2 := by
  unfold Pl.Fs.commitE
  split
  · exact ho.mono (by omega)
  · split
    · exact ho.mono (by omega)
    · cases hp : x.planE s with
      | none => exact ho.mono (by omega)
      | some lr =>
        obtain ⟨l, r⟩ := lr
        have po := Pl.planE_ok h.len (h.hand.ok hT) hp
        have h1 := (Pl.wrRoot_ok ho l r).mono (show k + (l.length + 18) ≤ k + (N + 18) by have := po.few; omega)
        simp only
        split
        · exact h1
        · exact h1
theorem drewN_two (w : World) (a b : Nat) : (w.drewN a).drewN b = w.drewN (a + b) := by simp [World.drewN, Nat.add_assoc]
/-- what stands ahead of each act -/
structure KeI (w : World) (d f i : Nat) (x : Pl.Fs) (s : Pl.Dv) (fp fpd : Nat → Prop) (X : World) : Prop where
  fs : FsAt w.heap.size f d x fp X
  dev : DevAt w.heap.size d s fpd X
  dj : ∀ q, fp q → ¬ fpd q
  low : Below w.heap.size w X
  ok : Pl.Ok 60 (i * 100 + 100) s
  ep : s.epoch = x.epoch
  may : Pl.May 60 x.safe
  kp : s.down = true ∨ Pl.Kp 60 (i * 1048576) x s
theorem KeI.still {w : World} {d f i : Nat} {x : Pl.Fs} {s : Pl.Dv} {fp fpd : Nat → Prop} {X X' : World} (h : KeI w d f i x s fp fpd X) (hb : Below X.heap.size X X') : KeI w d f i x s fp fpd X' :=
  ⟨h.fs.beyond hb, h.dev.beyond hb, h.dj, h.low.trans (hb.mono h.low.size), h.ok, h.ep, h.may, h.kp⟩
theorem FsO.mono {B B' f d m : Nat} {vf : Value} {rp : Nat → Prop} {x : Pl.Fs} {W : World} (h : FsO B f d m vf rp x W) (hB : B' ≤ B) : FsO B' f d m vf rp x W :=
  ⟨h.blk, h.files, h.hand, h.nf, h.nm, h.ne, h.lt, fun k hk => Nat.le_trans hB (h.low k hk), Nat.le_trans hB h.lf, Nat.le_trans hB h.lm⟩
theorem FsAt.mono {B B' f d : Nat} {x : Pl.Fs} {fp : Nat → Prop} {W : World} (h : FsAt B f d x fp W) (hB : B' ≤ B) : FsAt B' f d x fp W := by
  obtain ⟨m, vf, rp, h, rfl⟩ := h
  exact ⟨m, vf, rp, h.mono hB, rfl⟩
-- [K
set_option maxRecDepth 100000 in
set_option maxHeartbeats 4000000 in
theorem keeps_any (v : Value) (l : List AcF) (w : World) (hv : AcFsAt w v l) (hl : l.length ≤ 1048576) (hsm : ∀ x ∈ l, x.name.size ≤ 1048576 ∧ x.dest.size ≤ 1048576 ∧ x.data.size ≤ 1048576) (hfi : ∀ x ∈ l, x.fine) :
    Calls Try.prog 10 #[v] w fun e w' => e = .returned (.bool true) ∧ Below w.heap.size w w' := by
  have hv0 := hv
  obtain ⟨ao, cap, rfl, c1, c2, hat⟩ := hv
  have PN := Lib.hid (new_any 60 (by omega) (by omega) w)
  go_enter Try.func10, Try.ntmps10
  go_upto_region 2 with (go_at_call 13; refine PN.out.mono ?_; rintro e w1 ⟨d, fpd, rfl, hD, hb1⟩)
  have hdec : ∀ k, k < 2 → ∀ w, Calls Try.prog 33 #[.string (Pl.slotS (Pl.Dv.new 60) k), .int .i64 ((60 : Nat) : Int)] w (DecEnds w ((fun _ => none : Nat → Option Pl.RootP) k)) := fun k hk w => decode_refused _ _ _ (new_size 60 k (by omega) hk) (new_none 60 k (by omega) hk)
  have hOk : Pl.Ok 60 0 (Pl.Dv.new 60) := Pl.new_okk 60
  have PO := Lib.hid (open_any hD rfl hb1.size hOk (by omega) (by omega) (by omega) (fun _ => none) hdec (fun k r h => by cases h))
  rw [open_new] at PO
  clear hdec
  go_upto_region 3 with (go_at_call 35; refine PO.out.mono ?_; rintro e w2 ⟨fpd2, hD2, hn2, hk2, f, fp2, rfl, hF2, hdj2⟩)
  have hI0 : KeI w d f 0 Pl.fs1 (Pl.dv1 60) fp2 fpd2 w2 := ⟨hF2.mono hb1.size, hD2, hdj2, ⟨hk2.os.trans hb1.os, hk2.tape.trans hb1.tape, hk2.output.trans hb1.output, Nat.le_trans hb1.size hk2.size, fun q hq => (hk2.block q (fun h => by have := hD.fpB q h; omega) (by have := hb1.size; omega)).trans (hb1.block q hq)⟩, (Pl.wrRoot_ok hOk [] ⟨1, []⟩).mono (by simp), (Pl.wrRoot_epoch _ _ _).trans rfl, Pl.may1 _, .inr ((kp1 60 (by omega)).mono (Nat.zero_le _))⟩
  clear hF2 hdj2 hn2 hk2 hD2 hD hb1 PO PN hOk
  go_wp2_with fail
  go_loopw [7] (fun i W' => ∃ (k : Nat) (x : Pl.Fs) (s : Pl.Dv) (fp fpd : Nat → Prop), k ≤ l.length ∧ i = .int .i64 (k : Int) ∧ KeI w d f k x s fp fpd W') (fun i _ => l.length - (intOf i).toNat)
  case atStart => exact ⟨0, _, _, _, _, Nat.zero_le _, rfl, hI0⟩
  clear hI0
  case round =>
    obtain ⟨k, x, s, fp, fpd, hk, rfl, hI⟩ := hrel
    by_cases hkl : k < l.length
    case neg =>
      have hkl2 : ¬ ((k : Int) < (l.length : Int)) := by omega
      have hb := hI.low
      clear hI
      go_wp2
      go_ret
      exact ⟨rfl, hb⟩
    case pos =>
      have hkk : (0 : Int) ≤ (k : Int) := by omega
      have hkl2 : (k : Int) < (l.length : Int) := by omega
      obtain ⟨b, off, rfl, hlt, hc⟩ := hat (by omega)
      have hcI := hc k hkl
      have hsmk := hsm _ (List.getElem_mem hkl)
      have hfik := hfi _ (List.getElem_mem hkl)
      have PR := Lib.hid (root_any hI.fs hI.dev (by have := hI.may.many; omega) (fun y hy => by have := (hI.may.blocks (by omega) hy).1; omega))
      have hbwr := hI.low
      have hI4 := Lib.hid (fun (X : World) (hb : Below wr.heap.size wr X) => hI.still hb)
      cases hdn : s.down with
      | true =>
        have hr : x.rootE s = ⟨0, []⟩ := by unfold Pl.Fs.rootE Pl.Fs.dead; rw [hdn]; rfl
        rw [hr] at PR
        clear hr hcI hc hI hI4
        go_upto_region 8 with (fail)
        go_wp2_with (go_at_call 36; refine PR.out.mono ?_; rintro e w3 ⟨va, vn, vc, fl, rfl, hfo, hfl, hb3⟩)
        have hbw := (hbwr.trans (hb3.mono hbwr.size))
        have hbw4 := hbw.alloc hbw.size (.cells #[.int .u64 0, .slice va vn vc] 50)
        go_wp2
        go_ret
        exact ⟨rfl, hbw4⟩
      | false =>
        have hkp : Pl.Kp 60 (k * 1048576) x s := by rcases hI.kp with h | h; rw [hdn] at h; cases h; exact h
        have hdd : x.dead s = false := by unfold Pl.Fs.dead; rw [hdn, hI.ep]; simp
        have hr : x.rootE s = x.safe := by unfold Pl.Fs.rootE; rw [if_neg (by rw [hdd]; exact Bool.false_ne_true)]
        rw [hr] at PR
        have hg1 := hI.may.g1
        have hg2 := hI.may.g2
        have hgz : ¬ ((x.safe.gen : Int) = 0) := by omega
        have hgzb : ((x.safe.gen : Int) == 0) = false := by simpa using hgz
        clear hr hc
        go_upto_region 11 with (go_at_call 36; refine PR.out.mono ?_; rintro e w3 ⟨va, vn, vc, fl, rfl, hfo, hfl, hb3⟩)
        have hb4 : Below wr.heap.size wr (w3.alloc (.cells #[.int .u64 (x.safe.gen : Int), .slice va vn vc] 50)) := hb3.alloc hb3.size _
        have hR := Blk.new w3 #[.int .u64 (x.safe.gen : Int), .slice va vn vc] 50
        have hfo4 := hfo.keep (Keep.of_below (fp := fun q => q < w3.heap.size) ((Below.refl w3.heap.size w3).alloc (Nat.le_refl _) (.cells #[.int .u64 (x.safe.gen : Int), .slice va vn vc] 50)) (fun _ h _ => h)) (fun _ _ h => h)
        have hz34 : (w3.alloc (.cells #[.int .u64 (x.safe.gen : Int), .slice va vn vc] 50)).heap.size = w3.heap.size + 1 := by simp
        have hz3 := hb3.size
        generalize w3.alloc (.cells #[.int .u64 (x.safe.gen : Int), .slice va vn vc] 50) = w4 at hb4 hR hfo4 hz34 ⊢
        have hJ := hI4.out w4 hb4
        have hc4 := hcI.below hlt hJ.low
        generalize l[k] = y at hc4 hsmk hfik
        clear hcI hI4 PR hfo hb3
        obtain ⟨kd, at', num, nm, ds, dt, kpl⟩ := y
        obtain ⟨a0, a1, a2, a3, a4, a5, u, a6, hu⟩ := hc4
        obtain ⟨ua, uc, rfl, _⟩ := hu
        simp only at a0 a1 a2 a3 a4 a5 a6 hsmk
        have hk1 : Hid (k + 1 ≤ l.length) := Lib.hid (by omega)
        have hnk : Hid ((k : Int) + 1 = ((k + 1 : Nat) : Int)) := Lib.hid (by omega)
        have hT : k * 1048576 ≤ 4611686018427387904 := by omega
        have hhl : x.hand.length < maxLen := by have := hkp.hand.many; unfold maxLen; omega
        have hzz : ∀ q, Pl.hget x.hand nm = some q → q.added.size + dt.size ≤ 9223372036854775807 := fun q hq => by
          obtain ⟨p, hp, rfl, _⟩ := Pl.hget_some hq
          have := (hkp.hand.all p hp).added
          have := hsmk.2.2
          omega
        have hJlt := hJ.fs.lt
        have hJd := hJ.dev.lt
        have hJB := hJ.fs.fpB
        have hJdB := hJ.dev.fpB
        have hlow := hJ.low.size
        by_cases k0 : 0 ≤ kd ∧ kd ≤ 3
        case pos =>
          obtain ⟨k01, k02⟩ := k0
          have hTd : k * 1048576 + dt.size ≤ (k + 1) * 1048576 := by rw [Nat.add_mul, Nat.one_mul]; exact Nat.add_le_add_left hsmk.2.2 _
          have PT := Lib.hid (tries_any hJ.fs hJ.dev ⟨kd, at', num, nm, ds, dt, kpl⟩ (.slice ua kpl.length uc) rfl hsmk.1 hsmk.2.1 hzz hhl)
          have hnew : Hid (∀ X : World, FsAt w.heap.size f d (x.tryE s ⟨kd, at', num, nm, ds, dt, kpl⟩).1 fp X → Step fp fp w4 X → KeI w d f (k + 1) (x.tryE s ⟨kd, at', num, nm, ds, dt, kpl⟩).1 s fp fpd X) := Lib.hid (fun X hF st => by
            obtain ⟨e1, e2⟩ := Pl.tryE_safe x s ⟨kd, at', num, nm, ds, dt, kpl⟩
            exact ⟨hF, hJ.dev.keep (st.keep.mono (fun q hq _ h => hJ.dj q h hq)), hJ.dj, st.keep.below hJ.low (Nat.le_refl _) (fun q hq h => by have := hJB q h; omega), hJ.ok.mono (by omega), hJ.ep.trans e2.symm, by rw [e1]; exact hJ.may, .inr ((hkp.tryE ⟨kd, at', num, nm, ds, dt, kpl⟩).mono (T' := (k + 1) * 1048576) hTd)⟩)
          clear hJ hkp hfo4 hR hzz hhl hJB hJdB hJlt hJd hI
          generalize (x.tryE s ⟨kd, at', num, nm, ds, dt, kpl⟩).1 = x' at *
          generalize (x.tryE s ⟨kd, at', num, nm, ds, dt, kpl⟩).2 = e' at *
          go_wp2_with (go_at_call 37; refine PT.out.mono ?_; rintro e w5 ⟨rfl, hF, st⟩)
          exact ⟨⟨k + 1, _, _, _, _, hk1.out, by rw [hnk.out], hnew.out _ hF st⟩, by simp [intOf]; omega⟩
        case neg =>
          by_cases k8 : kd = 8
          · have PA := Lib.hid (arm_any num hJ.dev)
            have hok2 := hJ.ok.mono (show k * 100 + 100 ≤ (k + 1) * 100 + 100 by omega)
            have hnew : Hid (∀ X : World, DevAt w.heap.size d (s.arm num) fpd X → Step fpd fpd w4 X → KeI w d f (k + 1) x (s.arm num) fp fpd X) := Lib.hid (fun X hD st =>
              ⟨hJ.fs.keep (st.keep.mono (fun q hq _ h => hJ.dj q hq h)), hD, hJ.dj, st.keep.below hJ.low (Nat.le_refl _) (fun q hq h => by have := hJdB q h; omega), ⟨hok2.len, by show num.toNat ≤ _; have := hfik.2.2.1; dsimp only at this; omega, hok2.acts, hok2.wait⟩, hJ.ep, hJ.may, .inr ((hkp.arm num).mono (by omega))⟩)
            clear hJ hkp hfo4 hR hzz hhl hJB hJdB hJlt hJd hI hok2
            subst k8
            go_wp2_with (go_at_call 14; refine PA.out.mono ?_; rintro e w5 ⟨⟨v5, rfl⟩, hD, st⟩)
            exact ⟨⟨k + 1, _, _, _, _, hk1.out, by rw [hnk.out], hnew.out _ hD st⟩, by simp [intOf]; omega⟩
          by_cases k4 : kd = 4
          case neg =>
            have hnew : Hid (KeI w d f (k + 1) x s fp fpd w4) := Lib.hid ⟨hJ.fs, hJ.dev, hJ.dj, hJ.low, hJ.ok.mono (by omega), hJ.ep, hJ.may, .inr (hkp.mono (by omega))⟩
            clear hJ hkp hfo4 hR hzz hhl hJB hJdB hJlt hJd hI
            have k8b : (kd == 8) = false := by simpa using k8
            have k4b : (kd == 4) = false := by simpa using k4
            go_wp2
            all_goals first
            | exact ⟨⟨k + 1, _, _, _, _, hk1.out, by rw [hnk.out], hnew.out⟩, by simp [intOf]; omega⟩
            | (exfalso; omega)
          case pos =>
            subst k4
            have hseen := hJ.may.seen x.safe.files.length (Nat.le_refl _)
            rw [List.take_length] at hseen
            have PC := Lib.hid (commit_any hJ.fs hJ.dev hJ.dj hlow hlow hJ.ok (by omega) (by omega) (by omega) (hkp.hand.ok hT) (by have := hseen.length (by omega); omega) (fun q hq => by have h1 := hseen.lo q hq; have h2 := hseen.hi q hq; omega) hJ.may.g2)
            obtain ⟨hcw, hcm, hcl, hce, hcx, hcs⟩ := hkp.commit hdd hT (by omega) (by omega)
            have hco := (hkp.commitOk hT (by omega) hJ.ok).mono (show k * 100 + 100 + (60 + 18) ≤ (k + 1) * 100 + 100 by omega)
            have hIlt := hI.fs.lt
            have hIdlt := hI.dev.lt
            have hms := hJ.may.many
            have hfin : Hid (∀ (x' : Pl.Fs) (s' : Pl.Dv) (X X' : World) (fp5 fpd5 : Nat → Prop), x'.epoch = x.epoch → s'.epoch = s.epoch → Pl.May 60 x'.safe → (s'.down = true ∨ Pl.Kp 60 (k * 1048576) x' s') → Pl.Ok 60 ((k + 1) * 100 + 100) s' → FsAt w.heap.size f d x' fp5 X → DevAt w.heap.size d s' fpd5 X → (∀ q, fp5 q → ¬ fpd5 q) → Keep (fun q => ¬ fp q ∧ ¬ fpd q) w4 X → Below X.heap.size X X' → KeI w d f (k + 1) x' s' fp5 fpd5 X') := Lib.hid (fun x' s' X X' fp5 fpd5 e1 e2 e3 e4 e5 e6 e7 e8 e9 e10 =>
              KeI.still ⟨e6, e7, e8, e9.below hJ.low (Nat.le_refl _) (fun q hq => ⟨fun h => by have := hJB q h; omega, fun h => by have := hJdB q h; omega⟩), e5, by rw [e1, e2]; exact hJ.ep, e3, e4.imp id (fun h => h.mono (by omega))⟩ e10)
            replace hcs := Lib.hid hcs
            replace hcm := Lib.hid hcm
            replace hce := Lib.hid hce
            replace hcx := Lib.hid hcx
            replace hcl := Lib.hid hcl
            have hmy := Lib.hid hJ.may
            replace hfl := Lib.hid hfl
            clear hJ hkp hzz hhl hJB hJdB hJlt hJd hI hseen
            generalize (x.commitE s).1.1 = x' at *
            generalize (x.commitE s).1.2 = s' at *
            generalize (x.commitE s).2 = e' at *
            go_upto_region 17 with (go_at_call 38; refine PC.out.mono ?_; rintro e w5 ⟨rfl, fp5, fpd5, hF5, hD5, hdj5, hn5, hnd5, hk5⟩)
            have hwl := hco.wait
            have PP := Lib.hid (pending_any hD5 (by omega))
            have hk5z := hk5.size
            have hz4 := hb4.size
            have hkr : Keep (fun q => wr.heap.size ≤ q) w4 w5 := hk5.mono (fun q hq _ => ⟨fun h => by have := hIlt q h; omega, fun h => by have := hIdlt q h; omega⟩)
            have hfo5 := hfo4.keep hkr (fun q h _ => h)
            have hR5 := hR.keep hkr (by omega)
            have hR0 : w5.cell? ⟨w3.heap.size, 0, none⟩ = some (.int .u64 (x.safe.gen : Int)) := by simp [hR5.cell]
            have hfin2 := Lib.hid (fun X' hb => hfin.out x' s' w5 X' fp5 fpd5 hcx.out hce.out hcm.out hcs.out hco hF5 hD5 hdj5 hk5 hb)
            clear hfo4 hR hkr hF5 hD5 hdj5 hn5 hnd5 hfin hcm hce hcx hcs hb4 hIlt hIdlt
            go_upto_region 18 with (go_at_call 23; refine PP.out.mono ?_; rintro e w6 ⟨rfl, hB6, hb6⟩)
            obtain ⟨wl, hwlE⟩ : ∃ wl, wl = s'.wait := ⟨_, rfl⟩
            rw [← hwlE] at hB6 hcw ⊢
            have hq6 : Hid (∀ j (hj : j < wl.length), w6.cell? ⟨w5.heap.size, j, none⟩ = some (.int .i64 (wl[j].1 : Int))) := Lib.hid (fun j hj => by
              have := hB6.cell j
              rw [this]
              simp [icells, hj])
            have hR6 : w6.cell? ⟨w3.heap.size, 0, none⟩ = some (.int .u64 (x.safe.gen : Int)) := (hb6.cell (p := ⟨w3.heap.size, 0, none⟩) hR5.lt).trans hR0
            have hR61 : w6.cell? ⟨w3.heap.size, 1, none⟩ = some (.slice va vn vc) := (hb6.cell (p := ⟨w3.heap.size, 1, none⟩) hR5.lt).trans (by simp [hR5.cell])
            have hat6 := hfo5.at.below hb6
            rw [hfl.out] at hat6
            have hwn : wl.length ≤ 9223372036854775000 := by rw [hwlE]; omega
            have hfin3 := Lib.hid (fun n => hfin2.out (w6.drewN n) (below_drewN hb6 n))
            replace hwlE := Lib.hid hwlE
            replace hcw := Lib.hid hcw
            clear hfo5 hR5 hR0 hfin2 hB6 PP hwl hb6 hcl
            generalize s'.wait = wl0 at *
            obtain ⟨gm, hgm⟩ : ∃ gm, gm = x.safe.gen % 2 := ⟨_, rfl⟩
            have hgm2 : gm < 2 := by omega
            have htm : IntKind.i64.wrap ((x.safe.gen : Int).tmod 2) = (gm : Int) := by
              have hk01 : gm = 0 ∨ gm = 1 := by omega
              rw [Int.tmod_eq_emod_of_nonneg (by omega), show (x.safe.gen : Int) % 2 = (gm : Int) by omega]
              rcases hk01 with rfl | rfl <;> decide
            have hmE : (x.safe.gen : Int) % 2 = (gm : Int) := by omega
            have hw16 : IntKind.i64.wrap (16 * (gm : Int)) = 16 * (gm : Int) := IntWalk.i64_in _ (by omega)
            have hw17 : IntKind.i64.wrap (16 * (gm : Int) + 16) = 16 * (gm : Int) + 16 := IntWalk.i64_in _ (by omega)
            replace hgm := Lib.hid hgm
            obtain ⟨fao, fcap, hvE, hf1, hf2, hfc⟩ := id hat6
            injection hvE with hv1 hv2 hv3
            subst hv1 hv2 hv3
            generalize hFS : x.safe.files = FS at *
            replace hFS := Lib.hid hFS
            go_wp2_with fail
            go_loopw [10] (fun i W' => ∃ (j n : Nat), j ≤ wl.length ∧ i = .int .i64 (j : Int) ∧ W' = w6.drewN n) (fun i _ => wl.length - (intOf i).toNat)
            case atStart => exact ⟨0, 0, Nat.zero_le _, rfl, rfl⟩
            case round =>
              obtain ⟨j, n, hj, rfl, rfl⟩ := hrel
              by_cases hjl : j < wl.length
              case neg =>
                obtain rfl : j = wl.length := by omega
                have hres := Lib.hid (hfin3.out n)
                clear hfin3 hat6 hfc
                go_wp2
                exact ⟨⟨k + 1, _, _, _, _, hk1.out, by rw [hnk.out], hres.out⟩, by simp [intOf]; omega⟩
              case pos =>
                have hj0 : (0 : Int) ≤ (j : Int) := by omega
                have hj1 : (j : Int) < (wl.length : Int) := by omega
                have hwj : IntKind.i64.wrap ((j : Int) + 1) = (j : Int) + 1 := IntWalk.i64_in _ (by omega)
                have qc := hq6.out j hjl
                have hno := hcw.out _ (List.getElem_mem hjl)
                rw [← hgm.out] at hno
                generalize wl[j].1 = pv at qc hno
                obtain ⟨hno1, hno2⟩ := hno
                replace hno2 := Lib.hid hno2
                have hlo3 : (gm * 16 ≤ pv ∧ ¬ pv < gm * 16 + 16) ∨ ¬ gm * 16 ≤ pv := by omega
                replace hno1 := Lib.hid hno1
                rcases hlo3 with ⟨hlo, hhi⟩ | hlo
                · have hlo1 : 16 * (gm : Int) ≤ (pv : Int) := by omega
                  have hhi1 : ¬ ((pv : Int) < 16 * (gm : Int) + 16) := by omega
                  clear hlo hhi hat6
                  go_wp2_with fail
                  go_quiet (fail)
                  go_wp2_with fail
                  go_loopw [11] (fun i W' => ∃ (j2 n2 : Nat), j2 ≤ FS.length ∧ i = .int .i64 (j2 : Int) ∧ W' = w6.drewN n2) (fun i _ => FS.length - (intOf i).toNat)
                  case atStart => exact ⟨0, n + nq, Nat.zero_le _, rfl, drewN_two _ _ _⟩
                  case round =>
                    obtain ⟨j2, n2, hj2, rfl, rfl⟩ := hrel
                    by_cases hjl2 : j2 < FS.length
                    case neg =>
                      obtain rfl : j2 = FS.length := by omega
                      clear hfc
                      go_wp2
                      exact ⟨⟨j + 1, n2, by omega, by rw [Int.natCast_add]; rfl, rfl⟩, by simp [intOf]; omega⟩
                    case pos =>
                      have hj20 : (0 : Int) ≤ (j2 : Int) := by omega
                      have hj21 : (j2 : Int) < (FS.length : Int) := by omega
                      have hwj2 : IntKind.i64.wrap ((j2 : Int) + 1) = (j2 : Int) + 1 := IntWalk.i64_in _ (by omega)
                      obtain ⟨bF, oF, rfl, hbF, hFI⟩ := hfc (by omega)
                      obtain ⟨z0, z1, uu, z2, hui⟩ := hFI j2 hjl2
                      have hmem : ∀ m (hm : m < FS[j2].blocks.length), FS[j2].blocks[m] ∈ Pl.flatB FS := fun m hm => List.mem_flatMap.2 ⟨_, List.getElem_mem hjl2, List.getElem_mem hm⟩
                      generalize FS[j2] = y at z0 z1 z2 hui hmem
                      obtain ⟨ai, ci, rfl, i1, i2, hib⟩ := hui
                      clear hFI hfc
                      go_wp2_with fail
                      go_loopw [12] (fun i W' => ∃ (m n3 : Nat), m ≤ y.blocks.length ∧ i = .int .i64 (m : Int) ∧ W' = w6.drewN n3) (fun i _ => y.blocks.length - (intOf i).toNat)
                      case atStart => exact ⟨0, n2, Nat.zero_le _, rfl, rfl⟩
                      case round =>
                        obtain ⟨m, n3, hm, rfl, rfl⟩ := hrel
                        by_cases hml : m < y.blocks.length
                        case neg =>
                          obtain rfl : m = y.blocks.length := by omega
                          clear hib
                          go_wp2
                          exact ⟨⟨j2 + 1, n3, by omega, by rw [Int.natCast_add]; rfl, rfl⟩, by simp [intOf]; omega⟩
                        case pos =>
                          have hm0 : (0 : Int) ≤ (m : Int) := by omega
                          have hm1 : (m : Int) < (y.blocks.length : Int) := by omega
                          have hwm : IntKind.i64.wrap ((m : Int) + 1) = (m : Int) + 1 := IntWalk.i64_in _ (by omega)
                          obtain ⟨bI, oI, rfl, hbI, hxI⟩ := hib (by omega)
                          have cI := hxI m hml
                          have hmm := hmem m hml
                          generalize y.blocks[m] = bv at cI hmm
                          have hne : ¬ bv = (pv : Int) := fun e => hno2.out (e ▸ hmm)
                          have hneb : (bv == (pv : Int)) = false := by simpa using hne
                          clear hxI hib hmm
                          go_wp2_with fail
                          go_quiet (fail)
                          go_wp2_with fail
                          exact ⟨⟨m + 1, n3 + nq, by omega, by rw [Int.natCast_add]; rfl, by first | rfl | exact drewN_two _ _ _⟩, by simp [intOf]; omega⟩
                · have hlo1 : ¬ 16 * (gm : Int) ≤ (pv : Int) := by omega
                  have hlo2 : decide (16 * (gm : Int) ≤ (pv : Int)) = false := by simpa using hlo1
                  clear hlo hat6
                  go_wp2_with fail
                  go_quiet (fail)
                  go_wp2_with fail
                  go_loopw [11] (fun i W' => ∃ (j2 n2 : Nat), j2 ≤ FS.length ∧ i = .int .i64 (j2 : Int) ∧ W' = w6.drewN n2) (fun i _ => FS.length - (intOf i).toNat)
                  case atStart => exact ⟨0, n + nq, Nat.zero_le _, rfl, drewN_two _ _ _⟩
                  case round =>
                    obtain ⟨j2, n2, hj2, rfl, rfl⟩ := hrel
                    by_cases hjl2 : j2 < FS.length
                    case neg =>
                      obtain rfl : j2 = FS.length := by omega
                      clear hfc
                      go_wp2
                      exact ⟨⟨j + 1, n2, by omega, by rw [Int.natCast_add]; rfl, rfl⟩, by simp [intOf]; omega⟩
                    case pos =>
                      have hj20 : (0 : Int) ≤ (j2 : Int) := by omega
                      have hj21 : (j2 : Int) < (FS.length : Int) := by omega
                      have hwj2 : IntKind.i64.wrap ((j2 : Int) + 1) = (j2 : Int) + 1 := IntWalk.i64_in _ (by omega)
                      obtain ⟨bF, oF, rfl, hbF, hFI⟩ := hfc (by omega)
                      obtain ⟨z0, z1, uu, z2, hui⟩ := hFI j2 hjl2
                      have hmem : ∀ m (hm : m < FS[j2].blocks.length), FS[j2].blocks[m] ∈ Pl.flatB FS := fun m hm => List.mem_flatMap.2 ⟨_, List.getElem_mem hjl2, List.getElem_mem hm⟩
                      generalize FS[j2] = y at z0 z1 z2 hui hmem
                      obtain ⟨ai, ci, rfl, i1, i2, hib⟩ := hui
                      clear hFI hfc
                      go_wp2_with fail
                      go_loopw [12] (fun i W' => ∃ (m n3 : Nat), m ≤ y.blocks.length ∧ i = .int .i64 (m : Int) ∧ W' = w6.drewN n3) (fun i _ => y.blocks.length - (intOf i).toNat)
                      case atStart => exact ⟨0, n2, Nat.zero_le _, rfl, rfl⟩
                      case round =>
                        obtain ⟨m, n3, hm, rfl, rfl⟩ := hrel
                        by_cases hml : m < y.blocks.length
                        case neg =>
                          obtain rfl : m = y.blocks.length := by omega
                          clear hib
                          go_wp2
                          exact ⟨⟨j2 + 1, n3, by omega, by rw [Int.natCast_add]; rfl, rfl⟩, by simp [intOf]; omega⟩
                        case pos =>
                          have hm0 : (0 : Int) ≤ (m : Int) := by omega
                          have hm1 : (m : Int) < (y.blocks.length : Int) := by omega
                          have hwm : IntKind.i64.wrap ((m : Int) + 1) = (m : Int) + 1 := IntWalk.i64_in _ (by omega)
                          obtain ⟨bI, oI, rfl, hbI, hxI⟩ := hib (by omega)
                          have cI := hxI m hml
                          have hmm := hmem m hml
                          generalize y.blocks[m] = bv at cI hmm
                          have hne : ¬ bv = (pv : Int) := fun e => hno2.out (e ▸ hmm)
                          have hneb : (bv == (pv : Int)) = false := by simpa using hne
                          clear hxI hib hmm
                          go_wp2_with fail
                          go_quiet (fail)
                          go_wp2_with fail
                          exact ⟨⟨m + 1, n3 + nq, by omega, by rw [Int.natCast_add]; rfl, by first | rfl | exact drewN_two _ _ _⟩, by simp [intOf]; omega⟩
-- K]
end Go.Proofs.Ytndekdgpibipnaa
