
/- Walk: a commit. Condition: files that may be, on a disk that is one. -/
import Derived.Test.YtndekdgpibipnaaQWPlan
import Derived.Test.YtndekdgpibipnaaQWRev

namespace Go.Proofs.Ytndekdgpibipnaa
open Go.RowKit Go.Maps

variable {B Bd f d m : Nat} {vf : Value} {x : Pl.Fs} {s : Pl.Dv} {rp fp fpd : Nat → Prop} {W W' : World}
theorem Pl.planK_names {s : Pl.Dv} {fr : List Int} : ∀ (l : List (ByteArray × Pl.HF)) (st : Pl.PlSt), Pl.planK s fr l = some st → st.fs.map (·.name) = l.map (·.1) := by
  refine Pl.snoc_ind (P := fun l => ∀ st : Pl.PlSt, Pl.planK s fr l = some st → st.fs.map (·.name) = l.map (·.1)) ?_ ?_
  · rintro st h
    obtain rfl := Option.some.inj h
    rfl
  · intro l p ih st h
    have e : Pl.planK s fr (l ++ [p]) = Pl.planStep s (Pl.planK s fr l) p := by unfold Pl.planK; rw [List.foldl_append]; rfl
    rw [e] at h
    cases hp : Pl.planK s fr l with
    | none => rw [hp] at h; cases h
    | some st0 =>
      rw [hp] at h
      have i1 := ih st0 hp
      unfold Pl.planStep at h
      simp only [Option.bind_some] at h
      split at h
      · obtain rfl := Option.some.inj h
        simp [i1]
      · split at h
        · cases h
        · obtain rfl := Option.some.inj h
          simp [i1]
/-- what a plan is, where there is one -/
structure Pl.PlanOk (N : Nat) (x : Pl.Fs) (s : Pl.Dv) (l : List (Nat × ByteArray)) (r : Pl.RootP) : Prop where
  few : l.length ≤ N
  at' : ∀ p ∈ l, p.1 < N ∧ p.2.size = 256 ∧ ((p.1 : Nat) : Int) ∈ Pl.freeU x.safe N
  gen : r.gen = x.safe.gen + 1
  fits : (Pl.encRt (min (N : Int) 16384) r).2 = 0
  names : r.files.map (·.name) = x.hand.map (·.1)
  inner : ∀ y ∈ r.files, 0 ≤ y.size ∧ y.size ≤ 9223372036854775807 ∧ ∀ q ∈ y.blocks, 32 ≤ q ∧ q < (N : Int)
  laid : ∃ st, Pl.planK s (Pl.freeU x.safe N) x.hand = some st ∧ l = st.l ∧ r = ⟨x.safe.gen + 1, st.fs⟩
theorem Pl.planE_ok {N : Nat} (hN : s.safe.length = N) (hh : Pl.HandOk N x.hand) {l : List (Nat × ByteArray)} {r : Pl.RootP} (h : x.planE s = some (l, r)) : Pl.PlanOk N x s l r := by
  unfold Pl.Fs.planE at h
  rw [hN] at h
  cases hst : Pl.planK s (Pl.freeU x.safe N) x.hand with
  | none => rw [hst] at h; cases h
  | some st =>
    rw [hst, Option.bind_some] at h
    split at h
    · rename_i he
      injection h with h
      injection h with h1 h2
      subst h1
      subst h2
      have hfrp : ∀ q ∈ Pl.freeU x.safe N, 32 ≤ q ∧ q < (N : Int) := fun q hq => by
        have := Pl.freeU_pos hq
        exact ⟨this.1, this.2.1⟩
      obtain ⟨h1, h2⟩ := Pl.planK_inv hfrp _ _ hh hst
      refine ⟨?_, fun p hp => ?_, rfl, he, Pl.planK_names _ _ hst, h2, ⟨st, hst, rfl, rfl⟩⟩
      · have e1 := (Pl.planK_len _ _ hst).2
        have e2 := Pl.freeU_length x.safe N
        omega
      · have e1 := h1 p hp
        have e2 := hfrp _ e1.1
        exact ⟨by omega, e1.2, e1.1⟩
    · cases h
namespace Pl
/-- a commit: the file system, the disk, the answer -/
noncomputable def Fs.commitE (x : Fs) (s : Dv) : (Fs × Dv) × Int :=
  if x.dead s = true then ((x, s), 4) else if x.changed = false then ((x, s), 0) else
    match x.planE s with
    | none => ((x, s), 5)
    | some (l, r) => if (wrRoot s l r).2 ≠ 0 then ((x.writeE s l r, (wrRoot s l r).1), (wrRoot s l r).2) else (((x.writeE s l r).revertE (wrRoot s l r).1, (wrRoot s l r).1), 0)
end Pl
/-- a file system and its disk, behind a call that may turn both -/
def ComEnds (B Bd f d : Nat) (fp fpd : Nat → Prop) (x' : Pl.Fs) (s' : Pl.Dv) (W W' : World) : Prop :=
  ∃ fp' fpd' : Nat → Prop, FsAt B f d x' fp' W' ∧ DevAt Bd d s' fpd' W' ∧ (∀ q, fp' q → ¬ fpd' q) ∧ (∀ q, fp' q → fp q ∨ W.heap.size ≤ q) ∧ (∀ q, fpd' q → fpd q ∨ W.heap.size ≤ q) ∧ Keep (fun q => ¬ fp q ∧ ¬ fpd q) W W'
theorem ComEnds.still {fp fpd : Nat → Prop} (h : FsAt B f d x fp W) (hd : DevAt Bd d s fpd W) (hdj : ∀ q, fp q → ¬ fpd q) (hb : Below W.heap.size W W') : ComEnds B Bd f d fp fpd x s W W' :=
  ⟨fp, fpd, h.beyond hb, hd.beyond hb, hdj, fun _ h => .inl h, fun _ h => .inl h, ⟨hb.os, hb.tape, hb.output, hb.size, fun q _ hl => hb.block q hl⟩⟩
-- [C
set_option maxRecDepth 100000 in
set_option maxHeartbeats 1000000 in
theorem commit_any (h : FsAt B f d x fp W) (hd : DevAt Bd d s fpd W) (hdj : ∀ q, fp q → ¬ fpd q) (hB : B ≤ W.heap.size) (hBd : Bd ≤ W.heap.size) {N k : Nat} (hO : Pl.Ok N k s) (hk : k ≤ 1099511627776) (hN1 : 40 ≤ N) (hN2 : N ≤ 16384) (hh : Pl.HandOk N x.hand)
    (hfl : (Pl.flatB x.safe.files).length ≤ 1073741824) (hbf : ∀ q ∈ Pl.flatB x.safe.files, -9223372036854775808 ≤ q ∧ q ≤ 9223372036854775807) (hg : x.safe.gen ≤ 4611686018427387904) :
    Calls Try.prog 38 #[.pointer (some ⟨f, 0, none⟩)] W fun e w' => e = .returned (.int .i64 (x.commitE s).2) ∧ ComEnds B Bd f d fp fpd (x.commitE s).1.1 (x.commitE s).1.2 W w' := by
  obtain ⟨E, hE⟩ : ∃ E, E = x.commitE s := ⟨_, rfl⟩
  rw [← hE]
  have hlt := h.lt
  obtain ⟨m, vf, rp, ho, rfl⟩ := id h
  cases hdd : x.dead s with
  | true =>
    have PD := Lib.hid (dead_is hdd h hd)
    obtain rfl : E = ((x, s), 4) := by rw [hE]; unfold Pl.Fs.commitE; rw [if_pos hdd]
    clear hE hdd
    go_enter Try.func38, Try.ntmps38
    go_wp2_with fail
    refine PD.out.mono ?_
    rintro e w1 ⟨rfl, n, e1⟩
    have hb1 : Below W.heap.size W w1 := e1 ▸ below_drewN (Below.refl _ _) n
    clear e1
    go_wp2
    go_ret
    exact ⟨rfl, ComEnds.still h hd hdj hb1⟩
  | false =>
    have PD := Lib.hid (dead_is hdd h hd)
    have hE2 := hE
    unfold Pl.Fs.commitE at hE2
    rw [if_neg (by rw [hdd]; exact Bool.false_ne_true)] at hE2
    cases hc : x.changed with
    | false =>
      obtain rfl : E = ((x, s), 0) := by rw [hE2, if_pos hc]
      clear hE hE2 hdd
      go_enter Try.func38, Try.ntmps38
      go_wp2_with fail
      refine PD.out.mono ?_
      rintro e w1 ⟨rfl, n, e1⟩
      have hb1 : Below W.heap.size W w1 := e1 ▸ below_drewN (Below.refl _ _) n
      have ho1 := ho.beyond hb1
      obtain ⟨c0, c1, c2, c3, c4, c5⟩ := ho1.cells
      rw [hc] at c5
      clear e1
      go_wp2
      go_ret
      exact ⟨rfl, ComEnds.still h hd hdj hb1⟩
    | true =>
      have hup : s.down = false := by
        unfold Pl.Fs.dead at hdd
        simp only [Bool.or_eq_false_iff] at hdd
        exact hdd.1
      rw [if_neg (by rw [hc]; decide)] at hE2
      have hlen := hO.len
      have PP := Lib.hid (fun (w : World) (hb : Below W.heap.size W w) => plan_any (ho.beyond hb) (hd.beyond hb) hlen hN1 hN2 hdd hup hh hfl hbf hg)
      clear hE
      cases hpe : x.planE s with
      | none =>
        rw [hpe] at hE2 PP
        obtain rfl : E = ((x, s), 5) := hE2
        clear hpe
        go_enter Try.func38, Try.ntmps38
        go_wp2_with fail
        refine PD.out.mono ?_
        rintro e w1 ⟨rfl, n, e1⟩
        have hb1 : Below W.heap.size W w1 := e1 ▸ below_drewN (Below.refl _ _) n
        have ho1 := ho.beyond hb1
        obtain ⟨c0, c1, c2, c3, c4, c5⟩ := ho1.cells
        rw [hc] at c5
        clear e1
        have PP1 := Lib.hid (PP.out w1 hb1)
        go_wp2_with fail
        refine PP1.out.mono ?_
        rintro e w2 ⟨hb2, vl, va, vn, vc, gen, rfl, -⟩
        have hbw := (hb1.trans (hb2.mono hb1.size))
        have hb3 := hbw.alloc hbw.size (.cells #[.int .u64 gen, .slice va vn vc] 50)
        clear c0 c1 c2 c3 c4 c5
        go_wp2
        go_ret
        exact ⟨rfl, ComEnds.still h hd hdj hb3⟩
      | some lr =>
        obtain ⟨l, r⟩ := lr
        rw [hpe] at hE2 PP
        have hpo := Pl.planE_ok hlen hh hpe
        obtain ⟨EW, hEW⟩ : ∃ EW, EW = Pl.wrRoot s l r := ⟨_, rfl⟩
        have hE3 : E = if EW.2 ≠ 0 then ((x.writeE s l r, EW.1), EW.2) else (((x.writeE s l r).revertE EW.1, EW.1), 0) := by rw [hEW]; exact hE2
        clear hE2 hpe
        replace hE3 := Lib.hid hE3
        replace hEW := Lib.hid hEW
        go_enter Try.func38, Try.ntmps38
        go_wp2_with fail
        refine PD.out.mono ?_
        rintro e w1 ⟨rfl, n, e1⟩
        have hb1 : Below W.heap.size W w1 := e1 ▸ below_drewN (Below.refl _ _) n
        have ho1 := ho.beyond hb1
        obtain ⟨c0, c1, c2, c3, c4, c5⟩ := ho1.cells
        rw [hc] at c5
        clear e1
        have PP1 := Lib.hid (PP.out w1 hb1)
        go_wp2_with fail
        refine PP1.out.mono ?_
        rintro e w2 ⟨hb2, vl, va, vn, vc, gen, rfl, hsome⟩
        obtain ⟨rfl, hrow, rp2, hs2, hr2, hfr⟩ := hsome l r rfl
        have hbw := (hb1.trans (hb2.mono hb1.size))
        clear c0 c1 c2 c3 c4 c5 hsome PP1 PP ho1
        go_upto_region 10 with (fail)
        have hbz := hb1.size
        have hb3 : Below W.heap.size W (w2.alloc (.cells #[.int .u64 (r.gen : Int), .slice va vn vc] 50)) := hbw.alloc hbw.size _
        have hb23 : Below w2.heap.size w2 (w2.alloc (.cells #[.int .u64 (r.gen : Int), .slice va vn vc] 50)) := (Below.refl _ _).alloc (Nat.le_refl _) _
        have hR3 := Blk.new w2 #[.int .u64 (r.gen : Int), .slice va vn vc] 50
        have hrow3 := hrow.alloc (.cells #[.int .u64 (r.gen : Int), .slice va vn vc] 50)
        have hz2 := hbw.size
        have hz21 := hb2.size
        have hz3 : (w2.alloc (.cells #[.int .u64 (r.gen : Int), .slice va vn vc] 50)).heap.size = w2.heap.size + 1 := by simp
        have hfr3 := hfr.keep (Keep.of_below (fp := rp2) hb23 (fun q hq _ => (hr2 q hq).2.1)) (fun _ h => h)
        generalize w2.alloc (.cells #[.int .u64 (r.gen : Int), .slice va vn vc] 50) = w3 at hb3 hb23 hR3 hrow3 hz3 hfr3 ⊢
        have ho3 := ho.beyond hb3
        have hd3 := hd.beyond hb3
        have hfW := ho.blk.lt
        have hmW := hlt m (.inr (.inl rfl))
        have hdj2 : ∀ q, fsFp f m rp2 q → ¬ fpd q := by
          rintro q (rfl | rfl | hq) hqd
          · exact hdj _ (.inl rfl) hqd
          · exact hdj _ (.inr (.inl rfl)) hqd
          · rcases (hr2 q hq).1 with h1 | h1
            · exact hdj q (.inr (.inr h1)) hqd
            · have := hd.lt q hqd; omega
        have hr3 : ∀ q, rp2 q → q < w3.heap.size ∧ B ≤ q ∧ q ≠ f ∧ q ≠ m := fun q hq => by
          have h0 := (hr2 q hq).2.1
          rcases (hr2 q hq).1 with h1 | h1
          · exact ⟨by omega, ho.low q h1, fun e => ho.nf (e ▸ h1), fun e => ho.nm (e ▸ h1)⟩
          · exact ⟨by omega, by omega, by omega, by omega⟩
        have hlo : ∀ q, vl.ownBlock = some q → ¬ fsFp f m rp2 q ∧ ¬ fpd q := fun q hq => by
          have h1 := (hrow.lt q hq).1
          refine ⟨?_, fun h => by have := hd.lt q h; omega⟩
          rintro (rfl | rfl | h)
          · omega
          · omega
          · exact (hr2 q h).2.2 hq
        have hgr := hpo.gen
        have hfew := hpo.few
        have hfn : Hid (r.files.length = x.hand.length) := Lib.hid (by have := congrArg List.length hpo.names; simpa using this)
        have hmany := hh.many
        have PW := Lib.hid (write_root ho3 hd3 hO hk hN1 hN2 hdj2 (by omega) (by omega : w1.heap.size ≤ w3.heap.size) l hrow3 hlo (by omega) (fun p hp => ⟨(hpo.at' p hp).1, (hpo.at' p hp).2.1⟩) r ⟨by omega, fun y hy => ⟨⟨by have := (hpo.inner y hy).1; omega, (hpo.inner y hy).2.1⟩, fun q hq => by have := (hpo.inner y hy).2.2 q hq; omega⟩⟩ (by have := hfr3; exact this) hs2 hr3)
        rw [← hEW.out] at PW
        obtain ⟨_, _, hvr, _⟩ := id hfr
        injection hvr with e1 e2 e3
        have x0 : w3.cell? ⟨w2.heap.size, 0, none⟩ = some (.int .u64 (r.gen : Int)) := by simp [hR3.cell]
        have x1 : w3.cell? ⟨w2.heap.size, 1, none⟩ = some (.slice va vn vc) := by simp [hR3.cell]
        clear e1 e2 e3 hR3 hrow3 hfr3 hgr hfew
        go_wp2_with fail
        refine PW.out.mono ?_
        rintro e w4 ⟨rfl, fpd', vf', hoW, hdW, st, hnew⟩
        have hz4 := st.keep.size
        have hdj4 : ∀ q, fsFp f m rp2 q → ¬ fpd' q := fun q hq h => by
          rcases hnew q h with h1 | h1
          · exact hdj2 q hq h1
          · rcases hq with rfl | rfl | h2
            · omega
            · omega
            · have := (hr2 q h2).2.1; omega
        have hkW : Keep (fun q => ¬ fsFp f m rp q ∧ ¬ fpd q) W w4 := (Keep.of_below (fp := fun q => (¬ fsFp f m rp q ∧ ¬ fpd q) ∧ q < W.heap.size) hb3 (fun _ h _ => h.2)).trans st.keep (fun q hq hl h => by
          rcases h with h | h | h
          · exact hq.1.1 (.inl h)
          · exact hq.1.2 h
          · have := (hrow.lt q h).1; omega) |>.mono (fun q hq hl => ⟨hq, hl⟩)
        have hf4 : ∀ q, fsFp f m rp2 q → fsFp f m rp q ∨ W.heap.size ≤ q := fun q hq => by
          rcases hq with rfl | rfl | h2
          · exact .inl (.inl rfl)
          · exact .inl (.inr (.inl rfl))
          · rcases (hr2 q h2).1 with h3 | h3
            · exact .inl (.inr (.inr h3))
            · exact .inr (by omega)
        have hd4 : ∀ q, fpd' q → fpd q ∨ W.heap.size ≤ q := fun q hq => (hnew q hq).imp id (fun h => by omega)
        by_cases he : EW.2 = 0
        case neg =>
          have hne : (EW.2 != 0) = true := by simpa using he
          have hEE : Hid (E = ((x.writeE s l r, EW.1), EW.2)) := Lib.hid (by rw [hE3.out, if_pos he])
          have hend : Hid (ComEnds B Bd f d (fsFp f m rp) fpd (x.writeE s l r) EW.1 W w4) := Lib.hid ⟨fsFp f m rp2, fpd', FsAt.of hoW, hdW, hdj4, hf4, hd4, hkW⟩
          clear hkW hf4 hd4 hdj4 hoW hdW st hnew x0 x1
          go_wp2
          go_ret
          rw [hEE.out]
          exact ⟨rfl, hend.out⟩
        case pos =>
          have hX : x.writeE s l r = { x with safe := r } := by unfold Pl.Fs.writeE; rw [← hEW.out, if_pos he]
          have hEE : Hid (E = (((x.writeE s l r).revertE EW.1, EW.1), 0)) := Lib.hid (by rw [hE3.out, if_neg (by rw [he]; decide)])
          have PR := Lib.hid (revert_any (FsAt.of hoW) hdW (by omega) (by
            rw [hX]
            intro y hy
            refine ⟨?_, (hpo.inner y hy).1⟩
            have h1 : y.name ∈ x.hand.map (·.1) := by rw [← hpo.names]; exact List.mem_map_of_mem hy
            obtain ⟨p, hp, e⟩ := List.mem_map.1 h1
            have h2 := hh.name p hp
            rw [e] at h2
            unfold maxLen
            omega) (by rw [hX]; show r.files.length ≤ _; have := hfn.out; omega))
          rw [he]
          clear hX
          go_wp2_with fail
          refine PR.out.mono ?_
          rintro e w5 ⟨⟨v5, rfl⟩, fp5, hf5, st5⟩
          have hend : Hid (ComEnds B Bd f d (fsFp f m rp) fpd ((x.writeE s l r).revertE EW.1) EW.1 W w5) := Lib.hid ⟨fp5, fpd', hf5, hdW.keep (st5.keep.mono (fun q hq _ h => hdj4 q h hq)), fun q hq h => (by
            rcases st5.new q hq with h1 | h1
            · exact hdj4 q h1 h
            · have := hdW.lt q h; omega), fun q hq => (st5.new q hq).elim (hf4 q) (fun h => .inr (by omega)), hd4, hkW.trans st5.keep (fun q hq hl h => (hf4 q h).elim hq.1 (fun h => by omega))⟩
          clear hkW hf4 hd4 hdj4 hoW hdW st hnew x0 x1 st5 hf5 PR
          go_wp2
          go_ret
          rw [hEE.out]
          exact ⟨rfl, hend.out⟩
-- C]
end Go.Proofs.Ytndekdgpibipnaa
