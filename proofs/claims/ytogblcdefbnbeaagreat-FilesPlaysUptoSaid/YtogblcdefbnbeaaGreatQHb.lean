
/- Walk: a file system reverted. Condition: a root that may be. -/
import Derived.Test.YtogblcdefbnbeaaGreatQGk
import Derived.Test.YtogblcdefbnbeaaGreatQWPlan
set_option maxRecDepth 100000
namespace Go.Proofs.YtogblcdefbnbeaaGreat
section
open Go.RowKit Go.Maps
variable {B Bd f d m : Nat} {vf : Value} {x : Pl.Fs} {s : Pl.Dv} {rp fp fpd : Nat → Prop} {W W' : World}
def Pl.handK (l : List Pl.FileP) : List (ByteArray × Pl.HF) := l.foldl (fun l y => Pl.hput l y.name ⟨y.blocks, y.size.toNat, .empty⟩) []
theorem Pl.handK_succ {l : List Pl.FileP} {k : Nat} (h : k < l.length) : Pl.handK (l.take (k + 1)) = Pl.hput (Pl.handK (l.take k)) l[k].name ⟨l[k].blocks, l[k].size.toNat, .empty⟩ := by
 unfold Pl.handK
 rw [List.take_succ_eq_append_getElem h, List.foldl_append]
 rfl
theorem Pl.hins_length (p : ByteArray × Pl.HF) : ∀ l, (Pl.hins p l).length = l.length + 1
 | [] => rfl
 | y :: r => by
  unfold Pl.hins
  split
  ·rfl
  ·simp [Pl.hins_length p r]
theorem Pl.hput_length (l : List (ByteArray × Pl.HF)) (nm : ByteArray) (y : Pl.HF) : (Pl.hput l nm y).length ≤ l.length + 1 := by
 unfold Pl.hput Pl.hdel
 rw [Pl.hins_length]
 exact Nat.succ_le_succ (List.length_filter_le _ _)
theorem Pl.handK_length : ∀ (l : List Pl.FileP) (k : Nat), k ≤ l.length → (Pl.handK (l.take k)).length ≤ k
 | l, 0, _ => by simp [Pl.handK]
 | l, k + 1, h => by
  rw [Pl.handK_succ (by omega)]
  have := Pl.hput_length (Pl.handK (l.take k)) l[k].name ⟨l[k].blocks, l[k].size.toNat, .empty⟩
  have := Pl.handK_length l k (by omega)
  omega
def Pl.Fs.revertE (x : Pl.Fs) (s : Pl.Dv) : Pl.Fs := if x.dead s = true then x else x.revert
theorem FsO.fresh (h : FsO B f d m vf rp x W) (hB : B ≤ W.heap.size) :
  FsO B f d W.heap.size vf rp { x with hand := [] } ((W.alloc (.map #[] 0)).setCell ⟨f, 4, none⟩ (.map (some W.heap.size))) ∧ Step (fsFp f m rp) (fsFp f W.heap.size rp) W ((W.alloc (.map #[] 0)).setCell ⟨f, 4, none⟩ (.map (some W.heap.size))) := by
 have hf := h.blk.lt
 have hz : ((W.alloc (.map #[] 0)).setCell ⟨f, 4, none⟩ (.map (some W.heap.size))).heap.size = W.heap.size + 1 := by simp [World.setCell]
 have hk : Keep (fun k => k ≠ f) W ((W.alloc (.map #[] 0)).setCell ⟨f, 4, none⟩ (.map (some W.heap.size))) := ((Keep.refl _ W).alloc _).setCell _ _ _ (fun h _ => h rfl)
 have hr := hk.mono (fp' := rp) (fun k hr _ e => h.nf (e ▸ hr))
 have hm : HandAt rp (W.alloc (.map #[] 0)) W.heap.size [] := by
  exact HandAt.of (n := 0) (World.ownsMap_made W Tryz.prog 9 _)
 refine ⟨⟨?_, h.files.keep hr (fun _ h => h), hm.keep (Keep.refl rp _ |>.setCell _ _ _ (fun h' _ => h.nf h')) (fun _ h => h) ?_, h.nf, fun h' => by have := h.lt _ h'; omega, by omega, fun k hk' => by rw [hz]; have := h.lt k hk'; omega, h.low, h.lf, hB⟩, ⟨hk.mono (fun k hn _ e => hn (.inl e)), ?_, ?_⟩⟩
 ·have hb := (h.blk.alloc (.map #[] 0)).set 4 (.map (some W.heap.size))
  simpa using hb
 ·exact Below.heap_setCell _ _ _ _ (Nat.ne_of_gt hf)
 ·rintro k (rfl | rfl | hk)
  ·exact .inl (.inl rfl)
  ·exact .inr (Nat.le_refl _)
  ·exact .inl (.inr (.inr hk))
 ·rintro k (rfl | rfl | hk)
  ·rw [hz]; omega
  ·rw [hz]; omega
  ·rw [hz]; have := h.lt k hk; omega
set_option maxHeartbeats 1000000 in
theorem revert_any (h : FsAt B f d x fp W) (hd : DevAt Bd d s fpd W) (hB : B ≤ W.heap.size) (hnm : ∀ y ∈ x.safe.files, y.name.size ≤ maxLen ∧ 0 ≤ y.size) (hl : x.safe.files.length ≤ 1073741824) :
  Calls Tryz.prog 42 #[.pointer (some ⟨f, 0, none⟩)] W fun e w' => (∃ v, e = .returned v) ∧ ∃ fp', FsAt B f d (x.revertE s) fp' w' ∧ Step fp fp' W w' := by
 obtain ⟨E, hE⟩ : ∃ E, E = x.revertE s := ⟨_, rfl⟩
 rw [← hE]
 have hlt := h.lt
 obtain ⟨m, vf, rp, ho, rfl⟩ := id h
 cases hdd : x.dead s with
 | true =>
  have PD := Lib.hid (dead_is hdd h hd)
  obtain rfl : E = x := by rw [hE]; unfold Pl.Fs.revertE; rw [if_pos hdd]
  clear hE hdd
  go_enter Tryz.func42, Tryz.ntmps42
  go_wp2_with fail
  refine PD.out.mono ?_
  rintro e w1 ⟨rfl, n, e1⟩
  have hb1 : Below W.heap.size W w1 := e1 ▸ below_drewN (Below.refl _ _) n
  clear e1
  go_wp2
  refine bodyPost_ret (results_none rfl _ _ _) rfl ?_
  exact ⟨⟨_, rfl⟩, _, h.beyond hb1, (Step.refl hlt).beyond hb1⟩
 | false =>
  have PD := Lib.hid (dead_is hdd h hd)
  obtain rfl : E = x.revert := by rw [hE]; unfold Pl.Fs.revertE; rw [if_neg (by rw [hdd]; exact Bool.false_ne_true)]
  clear hE hdd
  have hmm := @run_makeMap Tryz.prog
  go_enter Tryz.func42, Tryz.ntmps42
  go_wp2_with fail
  refine PD.out.mono ?_
  rintro e w1 ⟨rfl, n, e1⟩
  have ho1 := ho.keep (keep_drewN e1 _)
  have hb1 : Below W.heap.size W w1 := e1 ▸ below_drewN (Below.refl _ _) n
  clear e1 PD
  obtain ⟨hoN, hsN⟩ := ho1.fresh (Nat.le_trans hB hb1.size)
  have hsW := Step.after hlt hb1 hsN
  have fz : (w1.alloc (.map #[] 0)).frozen? ⟨f, 4, none⟩ = false := (ho1.blk.alloc _).frozen 4
  have fc : (w1.alloc (.map #[] 0)).cell? ⟨f, 4, none⟩ = some (.map (some m)) := by simp [(ho1.blk.alloc (.map #[] 0)).cell]
  obtain ⟨c0, c1, c2, c3, c4, c5⟩ := ho1.cells
  go_upto_region 2 with (fail)
  have hmz : w1.heap.size < ((w1.alloc (.map #[] 0)).setCell ⟨f, 4, none⟩ (.map (some w1.heap.size))).heap.size := by simp [World.setCell]
  clear fz fc c0 c1 c2 c3 c4 c5 ho1 hsN hmm
  generalize (w1.alloc (.map #[] 0)).setCell ⟨f, 4, none⟩ (.map (some w1.heap.size)) = w2 at hoN hsW hmz ⊢
  generalize w1.heap.size = mm at hoN hsW hmz ⊢
  obtain ⟨ao, cap, rfl, hcl, hcm, hrow0⟩ := id hoN.files
  obtain ⟨d0, d1, d2, d3, d4, d5⟩ := hoN.cells
  have hsz := hsW.keep.size
  go_wp2_with fail
  clear d0 d1 d2 d3 d4 d5 hrow0 hb1
  go_loopw [20] (fun i W' => ∃ k : Nat, k ≤ x.safe.files.length ∧ i = .int .i64 (k : Int) ∧ FsO B f d mm (.slice ao x.safe.files.length cap) rp { x with hand := Pl.handK (x.safe.files.take k) } W' ∧ Step (fsFp f m rp) (fsFp f mm rp) W W') (fun i _ => x.safe.files.length - (intOf i).toNat)
  case atStart => exact ⟨0, Nat.zero_le _, rfl, hoN, hsW⟩
  clear hoN hsW hmz hsz
  case round =>
   obtain ⟨k, hk, rfl, hor, hsr⟩ := hrel
   obtain ⟨d0, d1, d2, d3, d4, d5⟩ := hor.cells
   by_cases hkl : k < x.safe.files.length
   case neg =>
    obtain rfl : k = x.safe.files.length := by omega
    rw [List.take_of_length_le (Nat.le_refl _)] at hor
    have fz := hor.blk.frozen 5
    have hk5 : Keep (fun q => q ≠ f ∧ q ≠ mm) wr (wr.setCell ⟨f, 5, none⟩ (.bool false)) := (Keep.refl _ wr).setCell _ _ _ (fun h _ => h.1 rfl)
    have hkr : Keep rp wr (wr.setCell ⟨f, 5, none⟩ (.bool false)) := (Keep.refl _ wr).setCell _ _ _ (fun h _ => hor.nf h)
    obtain ⟨hoF, hsF⟩ := hor.turn (l := Pl.handK x.safe.files) (c := false) hk5 (by have := hor.blk.set 5 (.bool false); simpa using this) (hor.hand.keep hkr (fun _ h => h) (Below.heap_setCell _ _ _ _ hor.ne))
    have hfin := Lib.hid (hsr.trans hsF)
    replace hoF := Lib.hid (FsAt.of hoF)
    clear hk5 hkr hsF hor
    go_wp2
    go_end0
    exact ⟨⟨_, rfl⟩, _, hoF.out, hfin.out⟩
   obtain ⟨ao', cap', e, _, _, hrow⟩ := id hor.files
   injection e with e e1 e2
   subst e
   subst e2
   clear e1
   obtain ⟨bR, oR, rfl, hbR, hrp, hx⟩ := hrow (by show 0 < x.safe.files.length; omega)
   obtain ⟨z0, z1, u, z2, hu⟩ := hx k hkl
   obtain ⟨ai, ci, rfl, i1, i2, hib⟩ := id hu.1
   have hnk := hnm x.safe.files[k] (List.getElem_mem hkl)
   have hhk := Lib.hid (Pl.handK_succ hkl)
   have hhl := Pl.handK_length x.safe.files k hk
   clear hx hrow
   generalize x.safe.files[k] = y at *
   generalize Pl.handK (x.safe.files.take k) = hk0 at *
   obtain ⟨ynm, ysz, ybl⟩ := y
   simp only at z0 z1 z2 i1 i2 hib hnk hhk hu
   obtain ⟨szn, rfl⟩ := Int.eq_ofNat_of_zero_le hnk.2
   replace hhk : Hid (Pl.handK (x.safe.files.take (k + 1)) = Pl.hput hk0 ynm ⟨ybl, szn, .empty⟩) := hhk
   go_upto_region 5 with (fail)
   have hB3 : Below wr.heap.size wr (wr.alloc (.cells #[.string ynm, .int .i64 (szn : Int), .slice ai ybl.length ci] 76)) := (Below.refl _ _).alloc (Nat.le_refl _) _
   have ho3 := hor.beyond hB3
   have hs3 := hsr.beyond hB3
   have hx3 : Blk (wr.alloc (.cells #[.string ynm, .int .i64 (szn : Int), .slice ai ybl.length ci] 76)) wr.heap.size _ _ := Blk.new _ _ _
   have hu3 := hu.keep (Keep.of_below (fp := rp) hB3 (fun k hk _ => hor.lt k hk)) (fun _ h => h)
   have hbx : f ≠ wr.heap.size := fun e => by have := hor.blk.lt; omega
   have hmx : mm ≠ wr.heap.size := fun e => by have := World.ownsMap.lt hor.hand; omega
   clear hB3 d0 d1 d2 d3 d4 d5 hor hsr hu hib z0 z1 z2 hbR
   generalize wr.alloc (.cells #[.string ynm, .int .i64 (szn : Int), .slice ai ybl.length ci] 76) = w3 at ho3 hs3 hx3 hu3 ⊢
   generalize wr.heap.size = bx at *
   obtain ⟨c0, c1, c2, c3, c4, c5⟩ := ho3.cells
   have x0 : w3.cell? ⟨bx, 0, none⟩ = some (.string ynm) := by simp [hx3.cell]
   have x1 : w3.cell? ⟨bx, 1, none⟩ = some (.int .i64 (szn : Int)) := by simp [hx3.cell]
   have x2 : w3.cell? ⟨bx, 2, none⟩ = some (.slice ai ybl.length ci) := by simp [hx3.cell]
   have hBd : Below w3.heap.size w3 w3.drew := (Below.refl _ _).drew
   have hod := ho3.beyond hBd
   obtain ⟨wU, hU1, hU2, hU3⟩ := hand_store hod.hand hnk.1 (show FileV rp w3.drew (.agg #[.slice ai ybl.length ci, .int .i64 (szn : Int), .string ⟨#[]⟩]) ⟨ybl, szn, .empty⟩ from ⟨_, rfl, hu3.keep (Keep.of_below hBd (fun k hk _ => ho3.lt k hk)) (fun _ h => h)⟩) (show hk0.length < maxLen by unfold maxLen; omega)
   have hfU := keep_turned hU3
   have u4 := hfU.cell (b := f) (o := 4) (fun e => ho3.ne e.symm) hod.cells.2.2.2.2.1
   have hxU := (hx3.keep (Keep.of_below (fp := fun k => k < w3.heap.size) hBd (fun _ h _ => h)) hx3.lt).keep hfU (fun e => hmx e.symm)
   have y0 : wU.cell? ⟨bx, 0, none⟩ = some (.string ynm) := by simp [hxU.cell]
   have y1 : wU.cell? ⟨bx, 1, none⟩ = some (.int .i64 (szn : Int)) := by simp [hxU.cell]
   have y2 : wU.cell? ⟨bx, 2, none⟩ = some (.slice ai ybl.length ci) := by simp [hxU.cell]
   have hsd := hs3.beyond hBd
   obtain ⟨hoU, hsU⟩ := hod.midTurn hU3 hU2
   have hfin := Lib.hid (hsd.trans hsU)
   replace hoU := Lib.hid hoU
   clear hx3 hu3 hxU hU2 hU3 hsU hsd hs3 ho3 hod hfU hBd
   go_region_held3 (fun W' => W'.cell? ⟨f, 4, none⟩ = some (.map (some mm)) ∧ W'.cell? ⟨bx, 0, none⟩ = some (.string ynm) ∧ W'.cell? ⟨bx, 1, none⟩ = some (.int .i64 (szn : Int)) ∧ W'.cell? ⟨bx, 2, none⟩ = some (.slice ai ybl.length ci)) (first | exact ⟨c4, x0, x1, x2⟩ | exact ⟨u4, y0, y1, y2⟩ | go_keep) (fail)
   clear c0 c1 c2 c3 c4 c5 x0 x1 x2 y0 y1 y2 hU1 u4
   go_wp2
   go_roundw
   case rel => exact ⟨k + 1, by omega, by go_num, by rw [hhk.out]; exact hoU.out, hfin.out⟩
   case measure => simp [intOf]; omega
end
section
open Go.RowKit Go.Maps
variable {B Bd f d m : Nat} {vf : Value} {x : Pl.Fs} {s : Pl.Dv} {rp fp fpd : Nat → Prop} {W W' : World}
theorem Pl.planK_names {s : Pl.Dv} {fr : List Int} : ∀ (l : List (ByteArray × Pl.HF)) (st : Pl.PlSt), Pl.planK s fr l = some st → st.fs.map (·.name) = l.map (·.1) := by
 refine Pl.snoc_ind (P := fun l => ∀ st : Pl.PlSt, Pl.planK s fr l = some st → st.fs.map (·.name) = l.map (·.1)) ?_ ?_
 ·rintro st h
  obtain rfl := Option.some.inj h
  rfl
 ·intro l p ih st h
  have e : Pl.planK s fr (l ++ [p]) = Pl.planStep s (Pl.planK s fr l) p := by unfold Pl.planK; rw [List.foldl_append]; rfl
  rw [e] at h
  cases hp : Pl.planK s fr l with
  | none => rw [hp] at h; cases h
  | some st0 =>
   rw [hp] at h
   have i1 := ih st0 hp
   unfold Pl.planStep at h
   simp only [Option.bind_some] at h
   split at h
   ·obtain rfl := Option.some.inj h
    simp [i1]
   ·split at h
    ·cases h
    ·obtain rfl := Option.some.inj h
     simp [i1]
structure Pl.PlanOk (N : Nat) (x : Pl.Fs) (s : Pl.Dv) (l : List (Nat × ByteArray)) (r : Pl.RootP) : Prop where
 few : l.length ≤ N
 at' : ∀ p ∈ l, p.1 < N ∧ p.2.size = 256 ∧ ((p.1 : Nat) : Int) ∈ Pl.freeU x.safe N
 gen : r.gen = x.safe.gen + 1
 fits : (Pl.encRt (min (N : Int) 16384) r).2 = 0
 names : r.files.map (·.name) = x.hand.map (·.1)
 inner : ∀ y ∈ r.files, 0 ≤ y.size ∧ y.size ≤ 9223372036854775807 ∧ ∀ q ∈ y.blocks, 32 ≤ q ∧ q < (N : Int)
 laid : ∃ st, Pl.planK s (Pl.freeU x.safe N) x.hand = some st ∧ l = st.l ∧ r = ⟨x.safe.gen + 1, st.fs⟩
theorem Pl.planE_ok {N : Nat} (hN : s.safe.length = N) (hh : Pl.HandOk N x.hand) {l : List (Nat × ByteArray)} {r : Pl.RootP} (h : x.planE s = some (l, r)) : Pl.PlanOk N x s l r := by
 unfold Pl.Fs.planE at h
 rw [hN] at h
 cases hst : Pl.planK s (Pl.freeU x.safe N) x.hand with
 | none => rw [hst] at h; cases h
 | some st =>
  rw [hst, Option.bind_some] at h
  split at h
  ·rename_i he
   injection h with h
   injection h with h1 h2
   subst h1
   subst h2
   have hfrp : ∀ q ∈ Pl.freeU x.safe N, 32 ≤ q ∧ q < (N : Int) := fun q hq => by
    have := Pl.freeU_pos hq
    exact ⟨this.1, this.2.1⟩
   obtain ⟨h1, h2⟩ := Pl.planK_inv hfrp _ _ hh hst
   refine ⟨?_, fun p hp => ?_, rfl, he, Pl.planK_names _ _ hst, h2, ⟨st, hst, rfl, rfl⟩⟩
   ·have e1 := (Pl.planK_len _ _ hst).2
    have e2 := Pl.freeU_length x.safe N
    omega
   ·have e1 := h1 p hp
    have e2 := hfrp _ e1.1
    exact ⟨by omega, e1.2, e1.1⟩
  ·cases h
namespace Pl
noncomputable def Fs.commitE (x : Fs) (s : Dv) : (Fs × Dv) × Int :=
 if x.dead s = true then ((x, s), 4) else if x.changed = false then ((x, s), 0) else
  match x.planE s with
  | none => ((x, s), 5)
  | some (l, r) => if (wrRoot s l r).2 ≠ 0 then ((x.writeE s l r, (wrRoot s l r).1), (wrRoot s l r).2) else (((x.writeE s l r).revertE (wrRoot s l r).1, (wrRoot s l r).1), 0)
end Pl
def ComEnds (B Bd f d : Nat) (fp fpd : Nat → Prop) (x' : Pl.Fs) (s' : Pl.Dv) (W W' : World) : Prop :=
 ∃ fp' fpd' : Nat → Prop, FsAt B f d x' fp' W' ∧ DevAt Bd d s' fpd' W' ∧ (∀ q, fp' q → ¬ fpd' q) ∧ (∀ q, fp' q → fp q ∨ W.heap.size ≤ q) ∧ (∀ q, fpd' q → fpd q ∨ W.heap.size ≤ q) ∧ Keep (fun q => ¬ fp q ∧ ¬ fpd q) W W'
theorem ComEnds.still {fp fpd : Nat → Prop} (h : FsAt B f d x fp W) (hd : DevAt Bd d s fpd W) (hdj : ∀ q, fp q → ¬ fpd q) (hb : Below W.heap.size W W') : ComEnds B Bd f d fp fpd x s W W' :=
 ⟨fp, fpd, h.beyond hb, hd.beyond hb, hdj, fun _ h => .inl h, fun _ h => .inl h, ⟨hb.os, hb.tape, hb.output, hb.size, fun q _ hl => hb.block q hl⟩⟩
set_option maxHeartbeats 1000000 in
theorem commit_any (h : FsAt B f d x fp W) (hd : DevAt Bd d s fpd W) (hdj : ∀ q, fp q → ¬ fpd q) (hB : B ≤ W.heap.size) (hBd : Bd ≤ W.heap.size) {N k : Nat} (hO : Pl.Ok N k s) (hk : k ≤ 1099511627776) (hN1 : 40 ≤ N) (hN2 : N ≤ 16384) (hh : Pl.HandOk N x.hand)
  (hfl : (Pl.flatB x.safe.files).length ≤ 1073741824) (hbf : ∀ q ∈ Pl.flatB x.safe.files, -9223372036854775808 ≤ q ∧ q ≤ 9223372036854775807) (hg : x.safe.gen ≤ 4611686018427387904) :
  Calls Tryz.prog 40 #[.pointer (some ⟨f, 0, none⟩)] W fun e w' => e = .returned (.int .i64 (x.commitE s).2) ∧ ComEnds B Bd f d fp fpd (x.commitE s).1.1 (x.commitE s).1.2 W w' := by
 obtain ⟨E, hE⟩ : ∃ E, E = x.commitE s := ⟨_, rfl⟩
 rw [← hE]
 have hlt := h.lt
 obtain ⟨m, vf, rp, ho, rfl⟩ := id h
 cases hdd : x.dead s with
 | true =>
  have PD := Lib.hid (dead_is hdd h hd)
  obtain rfl : E = ((x, s), 4) := by rw [hE]; unfold Pl.Fs.commitE; rw [if_pos hdd]
  clear hE hdd
  go_enter Tryz.func40, Tryz.ntmps40
  go_wp2_with fail
  refine PD.out.mono ?_
  rintro e w1 ⟨rfl, n, e1⟩
  have hb1 : Below W.heap.size W w1 := e1 ▸ below_drewN (Below.refl _ _) n
  clear e1
  go_wp2
  go_ret
  exact ⟨rfl, ComEnds.still h hd hdj hb1⟩
 | false =>
  have PD := Lib.hid (dead_is hdd h hd)
  have hE2 := hE
  unfold Pl.Fs.commitE at hE2
  rw [if_neg (by rw [hdd]; exact Bool.false_ne_true)] at hE2
  cases hc : x.changed with
  | false =>
   obtain rfl : E = ((x, s), 0) := by rw [hE2, if_pos hc]
   clear hE hE2 hdd
   go_enter Tryz.func40, Tryz.ntmps40
   go_wp2_with fail
   refine PD.out.mono ?_
   rintro e w1 ⟨rfl, n, e1⟩
   have hb1 : Below W.heap.size W w1 := e1 ▸ below_drewN (Below.refl _ _) n
   have ho1 := ho.beyond hb1
   obtain ⟨c0, c1, c2, c3, c4, c5⟩ := ho1.cells
   rw [hc] at c5
   clear e1
   go_wp2
   go_ret
   exact ⟨rfl, ComEnds.still h hd hdj hb1⟩
  | true =>
   have hup : s.down = false := by
    unfold Pl.Fs.dead at hdd
    simp only [Bool.or_eq_false_iff] at hdd
    exact hdd.1
   rw [if_neg (by rw [hc]; decide)] at hE2
   have hlen := hO.len
   have PP := Lib.hid (fun (w : World) (hb : Below W.heap.size W w) => plan_any (ho.beyond hb) (hd.beyond hb) hlen hN1 hN2 hdd hup hh hfl hbf hg)
   clear hE
   cases hpe : x.planE s with
   | none =>
    rw [hpe] at hE2 PP
    obtain rfl : E = ((x, s), 5) := hE2
    clear hpe
    go_enter Tryz.func40, Tryz.ntmps40
    go_wp2_with fail
    refine PD.out.mono ?_
    rintro e w1 ⟨rfl, n, e1⟩
    have hb1 : Below W.heap.size W w1 := e1 ▸ below_drewN (Below.refl _ _) n
    have ho1 := ho.beyond hb1
    obtain ⟨c0, c1, c2, c3, c4, c5⟩ := ho1.cells
    rw [hc] at c5
    clear e1
    have PP1 := Lib.hid (PP.out w1 hb1)
    go_wp2_with fail
    refine PP1.out.mono ?_
    rintro e w2 ⟨hb2, vl, va, vn, vc, gen, rfl, -⟩
    have hbw := (hb1.trans (hb2.mono hb1.size))
    have hb3 := hbw.alloc hbw.size (.cells #[.int .u64 gen, .slice va vn vc] 71)
    clear c0 c1 c2 c3 c4 c5
    go_wp2
    go_ret
    exact ⟨rfl, ComEnds.still h hd hdj hb3⟩
   | some lr =>
    obtain ⟨l, r⟩ := lr
    rw [hpe] at hE2 PP
    have hpo := Pl.planE_ok hlen hh hpe
    obtain ⟨EW, hEW⟩ : ∃ EW, EW = Pl.wrRoot s l r := ⟨_, rfl⟩
    have hE3 : E = if EW.2 ≠ 0 then ((x.writeE s l r, EW.1), EW.2) else (((x.writeE s l r).revertE EW.1, EW.1), 0) := by rw [hEW]; exact hE2
    clear hE2 hpe
    replace hE3 := Lib.hid hE3
    replace hEW := Lib.hid hEW
    go_enter Tryz.func40, Tryz.ntmps40
    go_wp2_with fail
    refine PD.out.mono ?_
    rintro e w1 ⟨rfl, n, e1⟩
    have hb1 : Below W.heap.size W w1 := e1 ▸ below_drewN (Below.refl _ _) n
    have ho1 := ho.beyond hb1
    obtain ⟨c0, c1, c2, c3, c4, c5⟩ := ho1.cells
    rw [hc] at c5
    clear e1
    have PP1 := Lib.hid (PP.out w1 hb1)
    go_wp2_with fail
    refine PP1.out.mono ?_
    rintro e w2 ⟨hb2, vl, va, vn, vc, gen, rfl, hsome⟩
    obtain ⟨rfl, hrow, rp2, hs2, hr2, hfr⟩ := hsome l r rfl
    have hbw := (hb1.trans (hb2.mono hb1.size))
    clear c0 c1 c2 c3 c4 c5 hsome PP1 PP ho1
    go_upto_region 10 with (fail)
    have hbz := hb1.size
    have hb3 : Below W.heap.size W (w2.alloc (.cells #[.int .u64 (r.gen : Int), .slice va vn vc] 71)) := hbw.alloc hbw.size _
    have hb23 : Below w2.heap.size w2 (w2.alloc (.cells #[.int .u64 (r.gen : Int), .slice va vn vc] 71)) := (Below.refl _ _).alloc (Nat.le_refl _) _
    have hR3 := Blk.new w2 #[.int .u64 (r.gen : Int), .slice va vn vc] 71
    have hrow3 := hrow.alloc (.cells #[.int .u64 (r.gen : Int), .slice va vn vc] 71)
    have hz2 := hbw.size
    have hz21 := hb2.size
    have hz3 : (w2.alloc (.cells #[.int .u64 (r.gen : Int), .slice va vn vc] 71)).heap.size = w2.heap.size + 1 := by simp
    have hfr3 := hfr.keep (Keep.of_below (fp := rp2) hb23 (fun q hq _ => (hr2 q hq).2.1)) (fun _ h => h)
    generalize w2.alloc (.cells #[.int .u64 (r.gen : Int), .slice va vn vc] 71) = w3 at hb3 hb23 hR3 hrow3 hz3 hfr3 ⊢
    have ho3 := ho.beyond hb3
    have hd3 := hd.beyond hb3
    have hfW := ho.blk.lt
    have hmW := hlt m (.inr (.inl rfl))
    have hdj2 : ∀ q, fsFp f m rp2 q → ¬ fpd q := by
     rintro q (rfl | rfl | hq) hqd
     ·exact hdj _ (.inl rfl) hqd
     ·exact hdj _ (.inr (.inl rfl)) hqd
     ·rcases (hr2 q hq).1 with h1 | h1
      ·exact hdj q (.inr (.inr h1)) hqd
      ·have := hd.lt q hqd; omega
    have hr3 : ∀ q, rp2 q → q < w3.heap.size ∧ B ≤ q ∧ q ≠ f ∧ q ≠ m := fun q hq => by
     have h0 := (hr2 q hq).2.1
     rcases (hr2 q hq).1 with h1 | h1
     ·exact ⟨by omega, ho.low q h1, fun e => ho.nf (e ▸ h1), fun e => ho.nm (e ▸ h1)⟩
     ·exact ⟨by omega, by omega, by omega, by omega⟩
    have hlo : ∀ q, vl.ownBlock = some q → ¬ fsFp f m rp2 q ∧ ¬ fpd q := fun q hq => by
     have h1 := (hrow.lt q hq).1
     refine ⟨?_, fun h => by have := hd.lt q h; omega⟩
     rintro (rfl | rfl | h)
     ·omega
     ·omega
     ·exact (hr2 q h).2.2 hq
    have hgr := hpo.gen
    have hfew := hpo.few
    have hfn : Hid (r.files.length = x.hand.length) := Lib.hid (by have := congrArg List.length hpo.names; simpa using this)
    have hmany := hh.many
    have PW := Lib.hid (write_root ho3 hd3 hO hk hN1 hN2 hdj2 (by omega) (by omega : w1.heap.size ≤ w3.heap.size) l hrow3 hlo (by omega) (fun p hp => ⟨(hpo.at' p hp).1, (hpo.at' p hp).2.1⟩) r ⟨by omega, fun y hy => ⟨⟨by have := (hpo.inner y hy).1; omega, (hpo.inner y hy).2.1⟩, fun q hq => by have := (hpo.inner y hy).2.2 q hq; omega⟩⟩ (by have := hfr3; exact this) hs2 hr3)
    rw [← hEW.out] at PW
    obtain ⟨_, _, hvr, _⟩ := id hfr
    injection hvr with e1 e2 e3
    have x0 : w3.cell? ⟨w2.heap.size, 0, none⟩ = some (.int .u64 (r.gen : Int)) := by simp [hR3.cell]
    have x1 : w3.cell? ⟨w2.heap.size, 1, none⟩ = some (.slice va vn vc) := by simp [hR3.cell]
    clear e1 e2 e3 hR3 hrow3 hfr3 hgr hfew
    go_wp2_with fail
    refine PW.out.mono ?_
    rintro e w4 ⟨rfl, fpd', vf', hoW, hdW, st, hnew⟩
    have hz4 := st.keep.size
    have hdj4 : ∀ q, fsFp f m rp2 q → ¬ fpd' q := fun q hq h => by
     rcases hnew q h with h1 | h1
     ·exact hdj2 q hq h1
     ·rcases hq with rfl | rfl | h2
      ·omega
      ·omega
      ·have := (hr2 q h2).2.1; omega
    have hkW : Keep (fun q => ¬ fsFp f m rp q ∧ ¬ fpd q) W w4 := (Keep.of_below (fp := fun q => (¬ fsFp f m rp q ∧ ¬ fpd q) ∧ q < W.heap.size) hb3 (fun _ h _ => h.2)).trans st.keep (fun q hq hl h => by
     rcases h with h | h | h
     ·exact hq.1.1 (.inl h)
     ·exact hq.1.2 h
     ·have := (hrow.lt q h).1; omega) |>.mono (fun q hq hl => ⟨hq, hl⟩)
    have hf4 : ∀ q, fsFp f m rp2 q → fsFp f m rp q ∨ W.heap.size ≤ q := fun q hq => by
     rcases hq with rfl | rfl | h2
     ·exact .inl (.inl rfl)
     ·exact .inl (.inr (.inl rfl))
     ·rcases (hr2 q h2).1 with h3 | h3
      ·exact .inl (.inr (.inr h3))
      ·exact .inr (by omega)
    have hd4 : ∀ q, fpd' q → fpd q ∨ W.heap.size ≤ q := fun q hq => (hnew q hq).imp id (fun h => by omega)
    by_cases he : EW.2 = 0
    case neg =>
     have hne : (EW.2 != 0) = true := by simpa using he
     have hEE : Hid (E = ((x.writeE s l r, EW.1), EW.2)) := Lib.hid (by rw [hE3.out, if_pos he])
     have hend : Hid (ComEnds B Bd f d (fsFp f m rp) fpd (x.writeE s l r) EW.1 W w4) := Lib.hid ⟨fsFp f m rp2, fpd', FsAt.of hoW, hdW, hdj4, hf4, hd4, hkW⟩
     clear hkW hf4 hd4 hdj4 hoW hdW st hnew x0 x1
     go_wp2
     go_ret
     rw [hEE.out]
     exact ⟨rfl, hend.out⟩
    case pos =>
     have hX : x.writeE s l r = { x with safe := r } := by unfold Pl.Fs.writeE; rw [← hEW.out, if_pos he]
     have hEE : Hid (E = (((x.writeE s l r).revertE EW.1, EW.1), 0)) := Lib.hid (by rw [hE3.out, if_neg (by rw [he]; decide)])
     have PR := Lib.hid (revert_any (FsAt.of hoW) hdW (by omega) (by
      rw [hX]
      intro y hy
      refine ⟨?_, (hpo.inner y hy).1⟩
      have h1 : y.name ∈ x.hand.map (·.1) := by rw [← hpo.names]; exact List.mem_map_of_mem hy
      obtain ⟨p, hp, e⟩ := List.mem_map.1 h1
      have h2 := hh.name p hp
      rw [e] at h2
      unfold maxLen
      omega) (by rw [hX]; show r.files.length ≤ _; have := hfn.out; omega))
     rw [he]
     clear hX
     go_wp2_with fail
     refine PR.out.mono ?_
     rintro e w5 ⟨⟨v5, rfl⟩, fp5, hf5, st5⟩
     have hend : Hid (ComEnds B Bd f d (fsFp f m rp) fpd ((x.writeE s l r).revertE EW.1) EW.1 W w5) := Lib.hid ⟨fp5, fpd', hf5, hdW.keep (st5.keep.mono (fun q hq _ h => hdj4 q h hq)), fun q hq h => (by
      rcases st5.new q hq with h1 | h1
      ·exact hdj4 q h1 h
      ·have := hdW.lt q h; omega), fun q hq => (st5.new q hq).elim (hf4 q) (fun h => .inr (by omega)), hd4, hkW.trans st5.keep (fun q hq hl h => (hf4 q h).elim hq.1 (fun h => by omega))⟩
     clear hkW hf4 hd4 hdj4 hoW hdW st hnew x0 x1 st5 hf5 PR
     go_wp2
     go_ret
     rw [hEE.out]
     exact ⟨rfl, hend.out⟩
end
section
open Go.RowKit Go.Maps
variable {B Bd f d m : Nat} {vf : Value} {x : Pl.Fs} {s : Pl.Dv} {rp fp fpd : Nat → Prop} {W W' : World}
def FilesOwn (W : World) (base : Nat) (v : Value) (fl : List (Pl.FileP × Value)) : Prop := W.ownsRow base 76 3 v fl.length (fcells4 fl) ∧ ∀ y ∈ fl, IOwn W base y.2 y.1.blocks
theorem FilesOwn.keep {base : Nat} {v : Value} {fl : List (Pl.FileP × Value)} {fp : Nat → Prop} (h : FilesOwn W base v fl) (hk : Keep fp W W') (hf : ∀ q, base ≤ q → q < W.heap.size → fp q) : FilesOwn W' base v fl :=
 ⟨hk.ownsRow h.1 (fun q e => hf q (h.1.lt q e).1 (h.1.lt q e).2), fun y hy => hk.ownsRow (h.2 y hy) (fun q e => hf q (World.ownsRow.lt (h.2 y hy) q e).1 (World.ownsRow.lt (h.2 y hy) q e).2)⟩
theorem FilesOwn.at {base : Nat} {v : Value} {fl : List (Pl.FileP × Value)} (h : FilesOwn W base v fl) : FilesAt W v (fl.map (·.1)) := files_of_rows h.1 h.2
structure RoI (W : World) (B0 B1 : Nat) (gen : Int) (v : Value) (fl : List (Pl.FileP × Value)) (X : World) : Prop where
 res : Blk X B0 #[.int .u64 0, .slice none 0 0] 71
 out : Blk X B1 #[.int .u64 gen, v] 71
 own : FilesOwn X (B1 + 1) v fl
 low : Below W.heap.size W X
theorem RoI.keepAll {B0 B1 : Nat} {gen : Int} {v : Value} {fl : List (Pl.FileP × Value)} {X X' : World} (h : RoI W B0 B1 gen v fl X) (hk : Keep (fun q => q < X.heap.size) X X') : RoI W B0 B1 gen v fl X' :=
 ⟨h.res.keep hk h.res.lt, h.out.keep hk h.out.lt, h.own.keep hk (fun _ _ h => h), ⟨hk.os.trans h.low.os, hk.tape.trans h.low.tape, hk.output.trans h.low.output, Nat.le_trans h.low.size hk.size, fun q hq => (hk.block q (Nat.lt_of_lt_of_le hq h.low.size) (Nat.lt_of_lt_of_le hq h.low.size)).trans (h.low.block q hq)⟩⟩
theorem RoI.app {B0 B1 : Nat} {gen : Int} {v : Value} {fl : List (Pl.FileP × Value)} {X w1 : World} (h : RoI W B0 B1 gen v fl X) (h0 : W.heap.size ≤ B0) (h01 : B0 < B1) (y : Pl.FileP) (vb : Value) (hy : IOwn X (B1 + 1) vb y.blocks) {tmp : Obj} {g cap : Nat}
  (hown : w1.ownsRow (B1 + 1) 76 3 (.slice (some ⟨g, 0, none⟩) (fl.length + 1) cap) (fl.length + 1) (fcells4 fl ++ (#[.string y.name, .int .i64 y.size, vb] : Array Value).toList)) (hgrow : (X.alloc tmp).grownBy w1 v.ownBlock) (hat : v.ownBlock = some g ∨ X.heap.size ≤ g) :
  Blk w1 B1 #[.int .u64 gen, v] 71 ∧ ∀ X2, X2 = w1.setCell ⟨B1, 1, none⟩ (.slice (some ⟨g, 0, none⟩) (fl.length + 1) cap) → RoI W B0 B1 gen (.slice (some ⟨g, 0, none⟩) (fl.length + 1) cap) (fl ++ [(y, vb)]) X2 := by
 have kg : Keep (fun q => v.ownBlock ≠ some q) X w1 := keep_app hgrow
 have hvl : ∀ q, v.ownBlock = some q → B1 + 1 ≤ q := fun q e => (h.own.1.lt q e).1
 have v1 : Blk w1 B1 #[.int .u64 gen, v] 71 := h.out.keep kg (fun e => by have := hvl B1 e; omega)
 refine ⟨v1, ?_⟩
 rintro X2 rfl
 have hg1 : B1 + 1 ≤ g := (hown.lt g rfl).1
 have k5 := keep_set w1 B1 1 (.slice (some ⟨g, 0, none⟩) (fl.length + 1) cap)
 have kX : Keep (fun z => z ≠ B1 ∧ v.ownBlock ≠ some z) X (w1.setCell ⟨B1, 1, none⟩ (.slice (some ⟨g, 0, none⟩) (fl.length + 1) cap)) := (kg.mono (fun z hz _ => hz.2)).trans k5 (fun z hz _ => hz.1)
 have hrow : ∀ (u : Value) (bl : List Int), IOwn X (B1 + 1) u bl → IOwn (w1.setCell ⟨B1, 1, none⟩ (.slice (some ⟨g, 0, none⟩) (fl.length + 1) cap)) (B1 + 1) u bl := fun u bl hu => kX.ownsRow hu (fun q e => ⟨by have := (World.ownsRow.lt hu q e).1; omega, fun e2 => rows_apart h.own.1 hu (by decide) e2 e⟩)
 refine ⟨h.res.keep kX ⟨by omega, fun e => by have := hvl B0 e; omega⟩, ?_, ⟨?_, ?_⟩, ?_⟩
 ·have := v1.set 1 (.slice (some ⟨g, 0, none⟩) (fl.length + 1) cap)
  exact this
 ·have := k5.ownsRow hown (fun q e => (show g = q by simpa [Value.ownBlock] using e) ▸ (by omega))
  rw [List.length_append, List.length_singleton, fcells4_append]
  exact this
 ·intro z hz
  rcases List.mem_append.1 hz with hz | hz
  ·exact hrow _ _ (h.own.2 z hz)
  ·obtain rfl := List.mem_singleton.1 hz
   exact hrow _ _ hy
 ·have hs := h.low.size
  exact ⟨kX.os.trans h.low.os, kX.tape.trans h.low.tape, kX.output.trans h.low.output, Nat.le_trans h.low.size kX.size, fun q hq => (kX.block q ⟨by omega, fun e => by have := hvl q e; omega⟩ (by omega)).trans (h.low.block q hq)⟩
def RootEnds (W : World) (r : Pl.RootP) (e : Ending) (w' : World) : Prop := ∃ (va : Option Addr) (vn vc : Nat) (fl : List (Pl.FileP × Value)), e = .returned (.agg #[.int .u64 (r.gen : Int), .slice va vn vc]) ∧ FilesOwn w' W.heap.size (.slice va vn vc) fl ∧ fl.map (·.1) = r.files ∧ Below W.heap.size W w'
def Pl.Fs.rootE (x : Pl.Fs) (s : Pl.Dv) : Pl.RootP := if x.dead s = true then ⟨0, []⟩ else x.safe
set_option maxHeartbeats 1000000 in
theorem root_any (h : FsAt B f d x fp W) (hd : DevAt Bd d s fpd W) (hl : x.safe.files.length ≤ 1048576) (hbl : ∀ y ∈ x.safe.files, y.blocks.length ≤ 1073741824) :
  Calls Tryz.prog 28 #[.pointer (some ⟨f, 0, none⟩)] W fun e w' => RootEnds W (x.rootE s) e w' := by
 obtain ⟨E, hE⟩ : ∃ E, E = x.rootE s := ⟨_, rfl⟩
 rw [← hE]
 have hlt := h.lt
 obtain ⟨m, vf, rp, ho, rfl⟩ := id h
 have PD := Lib.hid (fun (w : World) (b : Bool) (hb : Below W.heap.size W w) (hdd : x.dead s = b) => dead_is hdd (h.beyond hb) (hd.beyond hb))
 have b0 : Below W.heap.size W (W.alloc (.cells #[.int .u64 0, .slice none 0 0] 71)) := (Below.refl _ _).alloc (Nat.le_refl _) _
 have hB0 := Blk.new W #[.int .u64 0, .slice none 0 0] 71
 cases hdd : x.dead s with
 | true =>
  have PD1 := Lib.hid (PD.out _ true b0 hdd)
  obtain rfl : E = ⟨0, []⟩ := by rw [hE]; unfold Pl.Fs.rootE; rw [if_pos hdd]
  clear hE hdd PD
  go_enter Tryz.func28, Tryz.ntmps28
  go_wp2_with fail
  refine PD1.out.mono ?_
  rintro e w1 ⟨rfl, n, e1⟩
  have hb1 : Below W.heap.size W w1 := e1 ▸ below_drewN b0 n
  have hB1 : Blk w1 W.heap.size #[.int .u64 0, .slice none 0 0] 71 := e1 ▸ hB0
  clear e1
  have r0 : w1.cell? ⟨W.heap.size, 0, none⟩ = some (.int .u64 0) := by simp [hB1.cell]
  have r1 : w1.cell? ⟨W.heap.size, 1, none⟩ = some (.slice none 0 0) := by simp [hB1.cell]
  have f0 := hB1.frozen 0
  have f1 := hB1.frozen 1
  have hB2 := (hB1.set 0 (.int .u64 0)).set 1 (.slice none 0 0)
  have hb2 := (hb1.setCell (p := ⟨W.heap.size, 0, none⟩) (Nat.le_refl _) (.int .u64 0)).setCell (p := ⟨W.heap.size, 1, none⟩) (Nat.le_refl _) (.slice none 0 0)
  go_wp2
  refine bodyPost_ret (results_root rfl rfl hB2) rfl ?_
  exact ⟨none, 0, 0, [], rfl, ⟨World.ownsRow_nil _ _ _ _, fun _ h => by cases h⟩, rfl, hb2⟩
 | false =>
  have PD1 := Lib.hid (PD.out _ false b0 hdd)
  obtain rfl : E = x.safe := by rw [hE]; unfold Pl.Fs.rootE; rw [if_neg (by rw [hdd]; exact Bool.false_ne_true)]
  clear hE hdd PD
  go_enter Tryz.func28, Tryz.ntmps28
  go_wp2_with fail
  refine PD1.out.mono ?_
  rintro e w1 ⟨rfl, n, e1⟩
  have hb1 : Below W.heap.size W w1 := e1 ▸ below_drewN b0 n
  have hB1 : Blk w1 W.heap.size #[.int .u64 0, .slice none 0 0] 71 := e1 ▸ hB0
  have hz1 : w1.heap.size = W.heap.size + 1 := by rw [e1]; simp
  have ho1 := ho.beyond hb1
  clear e1
  obtain ⟨c0, c1, c2, c3, c4, c5⟩ := ho1.cells
  obtain ⟨ao, cap, rfl, hcl, hcm, hrow⟩ := id ho1.files
  have hR2 := Blk.new w1 #[.int .u64 (x.safe.gen : Int), .slice none 0 0] 71
  have hB2 := hB1.alloc (.cells #[.int .u64 (x.safe.gen : Int), .slice none 0 0] 71)
  have hb2 := hb1.alloc (by omega) (.cells #[.int .u64 (x.safe.gen : Int), .slice none 0 0] 71)
  have hz2 : (w1.alloc (.cells #[.int .u64 (x.safe.gen : Int), .slice none 0 0] 71)).heap.size = w1.heap.size + 1 := by simp
  go_upto_region 4 with (fail)
  clear c0 c1 c2 c3 c4 c5
  generalize w1.alloc (.cells #[.int .u64 (x.safe.gen : Int), .slice none 0 0] 71) = w2 at hR2 hB2 hb2 hz2 ⊢
  have ho2 := ho.beyond hb2
  obtain ⟨c0, c1, c2, c3, c4, c5⟩ := ho2.cells
  rw [hz1] at hR2
  have hI0 : RoI W W.heap.size (W.heap.size + 1) (x.safe.gen : Int) (.slice none 0 0) [] w2 := ⟨hB2, hR2, ⟨World.ownsRow_nil _ _ _ _, fun _ h => by cases h⟩, hb2⟩
  clear hrow hB1 hR2 hB2 hz2 ho1 hb2 hb1
  replace hz1 := Lib.hid hz1
  go_wp2_with fail
  clear c0 c1 c2 c3 c4 c5 ho2
  go_loopw [25] (fun i W' => ∃ (k : Nat) (vf2 : Value) (fl : List (Pl.FileP × Value)), k ≤ x.safe.files.length ∧ i = .int .i64 (k : Int) ∧ fl.map (·.1) = x.safe.files.take k ∧ RoI W W.heap.size (W.heap.size + 1) (x.safe.gen : Int) vf2 fl W') (fun i _ => x.safe.files.length - (intOf i).toNat)
  case atStart => exact ⟨0, _, [], Nat.zero_le _, rfl, by simp, hI0⟩
  clear hI0
  case round =>
   obtain ⟨k, vf2, fl, hk, rfl, hfl, hI⟩ := hrel
   obtain ⟨fa, fc, rfl⟩ := ownsRow_form hI.own.1
   have hor := ho.beyond hI.low
   have hfn : Hid (fl.length = k) := Lib.hid (by have := congrArg List.length hfl; simpa [Nat.min_eq_left hk] using this)
   by_cases hkl : k < x.safe.files.length
   case neg =>
    obtain rfl : k = x.safe.files.length := by omega
    rw [List.take_of_length_le (Nat.le_refl _)] at hfl
    replace hfl := Lib.hid hfl
    have r0 : wr.cell? ⟨W.heap.size, 0, none⟩ = some (.int .u64 0) := by simp [hI.res.cell]
    have r1 : wr.cell? ⟨W.heap.size, 1, none⟩ = some (.slice none 0 0) := by simp [hI.res.cell]
    have f0 := hI.res.frozen 0
    have f1 := hI.res.frozen 1
    have o0 : wr.cell? ⟨W.heap.size + 1, 0, none⟩ = some (.int .u64 (x.safe.gen : Int)) := by simp [hI.out.cell]
    have o1 : wr.cell? ⟨W.heap.size + 1, 1, none⟩ = some (.slice fa fl.length fc) := by simp [hI.out.cell]
    have hB2 := (hI.res.set 0 (.int .u64 (x.safe.gen : Int))).set 1 (.slice fa fl.length fc)
    have hb2 := (hI.low.setCell (p := ⟨W.heap.size, 0, none⟩) (Nat.le_refl _) (.int .u64 (x.safe.gen : Int))).setCell (p := ⟨W.heap.size, 1, none⟩) (Nat.le_refl _) (.slice fa fl.length fc)
    have ho2 := hI.own.keep (fp := fun q => q ≠ W.heap.size) (((Keep.refl _ wr).setCell _ 0 (.int .u64 (x.safe.gen : Int)) (fun h _ => h rfl)).setCell _ 1 (.slice fa fl.length fc) (fun h _ => h rfl)) (fun q h1 _ => by omega)
    have hend := Lib.hid (And.intro ho2 hb2)
    clear ho2 hb2
    go_wp2
    refine bodyPost_ret (results_root rfl rfl hB2) rfl ?_
    obtain ⟨⟨h1, h2⟩, h3⟩ := hend.out
    exact ⟨_, _, _, fl, rfl, ⟨row_base h1 (by omega), fun y hy => row_base (h2 y hy) (by omega)⟩, hfl.out, h3⟩
   obtain ⟨ao', cap', e, _, _, hrow⟩ := id hor.files
   injection e with e e1 e2
   subst e
   subst e2
   clear e1
   obtain ⟨bR, oR, rfl, hbR, hrp, hx⟩ := hrow (by omega)
   obtain ⟨z0, z1, u, z2, hu⟩ := hx k hkl
   obtain ⟨ai, ci, rfl, i1, i2, hib⟩ := id hu.1
   have hyb := hbl _ (List.getElem_mem hkl)
   have htk : Hid (x.safe.files.take (k + 1) = x.safe.files.take k ++ [x.safe.files[k]]) := Lib.hid (List.take_succ_eq_append_getElem hkl)
   clear hx hrow
   generalize x.safe.files[k] = y at *
   obtain ⟨ynm, ysz, ybl⟩ := y
   simp only at z0 z1 z2 i1 i2 hib hu hyb
   have hkk : (0 : Int) ≤ (k : Int) := by omega
   have hkk2 : (k : Int) < (x.safe.files.length : Int) := by omega
   have hk1 : Hid (k + 1 ≤ x.safe.files.length) := Lib.hid (by omega)
   replace hfl := Lib.hid hfl
   obtain ⟨XA, hXA⟩ : ∃ XA, XA = wr.alloc (.cells #[.string ynm, .int .i64 ysz, .slice ai ybl.length ci] 76) := ⟨_, rfl⟩
   have hbA : Below wr.heap.size wr XA := by rw [hXA]; exact (Below.refl _ _).alloc (Nat.le_refl _) _
   have hT := Blk.new wr #[.string ynm, .int .i64 ysz, .slice ai ybl.length ci] 76
   rw [← hXA] at hT
   have hzA : XA.heap.size = wr.heap.size + 1 := by rw [hXA]; simp
   have huA := hu.1.below hbA
   have PCl := Lib.hid (cloneI_any ybl (.slice ai ybl.length ci) XA huA hyb)
   rw [hzA] at PCl
   go_upto_region 7 with (fail)
   rw [← hXA]
   clear hXA z0 z1 z2 hib
   have t2 : XA.cell? ⟨wr.heap.size, 2, none⟩ = some (.slice ai ybl.length ci) := by simp [hT.cell]
   replace hzA := Lib.hid hzA
   go_upto_region 8 with (go_at_call 69; refine PCl.out.mono ?_; rintro e XC ⟨vb, rfl, hrb, hbC⟩; obtain ⟨ba, bc, rfl⟩ := ownsRow_form hrb; have hkC := Keep.of_below (fp := fun q => q < XA.heap.size) (hzA.out ▸ hbC) (fun _ h _ => h); have hTC := hT.keep hkC hT.lt; have zf2 := hTC.frozen 2; have zC2 : XC.cell? ⟨wr.heap.size, 2, none⟩ = some (.slice ai ybl.length ci) := (by simp [hTC.cell]))
   have hTD := hTC.set 2 (.slice ba ybl.length bc)
   have hkD : Keep (fun q => q < wr.heap.size) wr (XC.setCell ⟨wr.heap.size, 2, none⟩ (.slice ba ybl.length bc)) := (((Keep.of_below (fp := fun q => q < wr.heap.size) hbA (fun _ h _ => h)).trans hkC (fun q hq _ => by have := hzA.out; omega)).setCell _ _ _ (fun h _ => by omega))
   have hID := hI.keepAll hkD
   have hlw := hI.low.size
   have hlo := hI.out.lt
   have hvD : IOwn (XC.setCell ⟨wr.heap.size, 2, none⟩ (.slice ba ybl.length bc)) (W.heap.size + 1 + 1) (.slice ba ybl.length bc) ybl := by
    have hr2 := (keep_set XC wr.heap.size 2 (.slice ba ybl.length bc)).ownsRow hrb (fun q e => by have := (World.ownsRow.lt hrb q e).1; omega)
    exact row_base hr2 (by omega)
   have hzD := hkD.size
   generalize XC.setCell ⟨wr.heap.size, 2, none⟩ (.slice ba ybl.length bc) = XD at hTD hkD hID hvD hzD ⊢
   clear hkC hTC zf2 zC2 PCl hbC hrb hT hbA huA hzA t2 hI
   have hApp := Lib.hid (fun (w1 : World) (tmp : Obj) (g cap : Nat) => hID.app (w1 := w1) (tmp := tmp) (g := g) (cap := cap) (Nat.le_refl _) (Nat.lt_succ_self _) ⟨ynm, ysz, ybl⟩ (.slice ba ybl.length bc) hvD)
   have y1 : XD.cell? ⟨W.heap.size + 1, 1, none⟩ = some (.slice fa fl.length fc) := by simp [hID.out.cell]
   have t0 : XD.cell? ⟨wr.heap.size, 0, none⟩ = some (.string ynm) := by simp [hTD.cell]
   have t1 : XD.cell? ⟨wr.heap.size, 1, none⟩ = some (.int .i64 ysz) := by simp [hTD.cell]
   have t2 : XD.cell? ⟨wr.heap.size, 2, none⟩ = some (.slice ba ybl.length bc) := by simp [hTD.cell]
   have hnk : (fl.length + 1) * 48 ≤ 140737488355328 := by have := hfn.out; omega
   have hbase : W.heap.size + 1 + 1 ≤ XD.heap.size := by omega
   go_wp2_with (at_builtin; go_must (refine wpList_app1 (by rfl) _ _ 69 (by rfl) (W.heap.size + 1 + 1) 76 (.agg #[.string .empty, .int .i64 0, .slice none 0 0]) 3 48 Tryz.underlying69 info_file4 rfl (by decide) _ fl.length _ _ hID.own.1 hbase (by rfl) #[.string ynm, .int .i64 ysz, (.slice ba ybl.length bc)] 76 (by rfl) rfl (by simp [Value.oneCell']) hnk (by decide) ?_; intro g cap w1 hown' hgrow hat hg; have ⟨v1, hX2⟩ := hApp.out w1 _ g cap hown' hgrow hat; have cv1 : w1.cell? ⟨W.heap.size + 1, 1, none⟩ = some (.slice fa fl.length fc) := (by simp [v1.cell]); have fv1 := v1.frozen 1))
   refine ⟨⟨k + 1, _, _, hk1.out, by rw [Int.natCast_add]; rfl, ?_, hX2 _ rfl⟩, by simp [intOf]; omega⟩
   rw [List.map_append, hfl.out, htk.out]
   rfl
end
end Go.Proofs.YtogblcdefbnbeaaGreat
