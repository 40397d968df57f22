
/- Walk: a file system reverted. Condition: a root that may be. -/
import Derived.Test.YtndekdgpibipnaaQGk

namespace Go.Proofs.Ytndekdgpibipnaa
open Go.RowKit Go.Maps

variable {B Bd f d m : Nat} {vf : Value} {x : Pl.Fs} {s : Pl.Dv} {rp fp fpd : Nat → Prop} {W W' : World}
/-- the files of a root's beginning, at hand -/
def Pl.handK (l : List Pl.FileP) : List (ByteArray × Pl.HF) := l.foldl (fun l y => Pl.hput l y.name ⟨y.blocks, y.size.toNat, .empty⟩) []
theorem Pl.handK_succ {l : List Pl.FileP} {k : Nat} (h : k < l.length) : Pl.handK (l.take (k + 1)) = Pl.hput (Pl.handK (l.take k)) l[k].name ⟨l[k].blocks, l[k].size.toNat, .empty⟩ := by
  unfold Pl.handK
  rw [List.take_succ_eq_append_getElem h, List.foldl_append]
  rfl
theorem Pl.hins_length (p : ByteArray × Pl.HF) : ∀ l, (Pl.hins p l).length = l.length + 1
  | [] => rfl
  | y :: r => by
    unfold Pl.hins
    split
    · rfl
    · simp [Pl.hins_length p r]
theorem Pl.hput_length (l : List (ByteArray × Pl.HF)) (nm : ByteArray) (y : Pl.HF) : (Pl.hput l nm y).length ≤ l.length + 1 := by
  unfold Pl.hput Pl.hdel
  rw [Pl.hins_length]
  exact Nat.succ_le_succ (List.length_filter_le _ _)
theorem Pl.handK_length : ∀ (l : List Pl.FileP) (k : Nat), k ≤ l.length → (Pl.handK (l.take k)).length ≤ k
  | l, 0, _ => by simp [Pl.handK]
  | l, k + 1, h => by
    rw [Pl.handK_succ (by omega)]
    have := Pl.hput_length (Pl.handK (l.take k)) l[k].name ⟨l[k].blocks, l[k].size.toNat, .empty⟩
    have := Pl.handK_length l k (by omega)
    omega
def Pl.Fs.revertE (x : Pl.Fs) (s : Pl.Dv) : Pl.Fs := if x.dead s = true then x else x.revert
/-- a new map at hand, with nothing in it -/
theorem FsO.fresh (h : FsO B f d m vf rp x W) (hB : B ≤ W.heap.size) :
    FsO B f d W.heap.size vf rp { x with hand := [] } ((W.alloc (.map #[] 0)).setCell ⟨f, 4, none⟩ (.map (some W.heap.size))) ∧ Step (fsFp f m rp) (fsFp f W.heap.size rp) W ((W.alloc (.map #[] 0)).setCell ⟨f, 4, none⟩ (.map (some W.heap.size))) := by
  have hf := h.blk.lt
  have hz : ((W.alloc (.map #[] 0)).setCell ⟨f, 4, none⟩ (.map (some W.heap.size))).heap.size = W.heap.size + 1 := by simp [World.setCell]
  have hk : Keep (fun k => k ≠ f) W ((W.alloc (.map #[] 0)).setCell ⟨f, 4, none⟩ (.map (some W.heap.size))) := ((Keep.refl _ W).alloc _).setCell _ _ _ (fun h _ => h rfl)
  have hr := hk.mono (fp' := rp) (fun k hr _ e => h.nf (e ▸ hr))
  have hm : HandAt rp (W.alloc (.map #[] 0)) W.heap.size [] := by
    exact HandAt.of (n := 0) (World.ownsMap_made W Try.prog 9 _)
  refine ⟨⟨?_, h.files.keep hr (fun _ h => h), hm.keep (Keep.refl rp _ |>.setCell _ _ _ (fun h' _ => h.nf h')) (fun _ h => h) ?_, h.nf, fun h' => by have := h.lt _ h'; omega, by omega, fun k hk' => by rw [hz]; have := h.lt k hk'; omega, h.low, h.lf, hB⟩, ⟨hk.mono (fun k hn _ e => hn (.inl e)), ?_, ?_⟩⟩
  · have hb := (h.blk.alloc (.map #[] 0)).set 4 (.map (some W.heap.size))
    simpa using hb
  · exact Below.heap_setCell _ _ _ _ (Nat.ne_of_gt hf)
  · rintro k (rfl | rfl | hk)
    · exact .inl (.inl rfl)
    · exact .inr (Nat.le_refl _)
    · exact .inl (.inr (.inr hk))
  · rintro k (rfl | rfl | hk)
    · rw [hz]; omega
    · rw [hz]; omega
    · rw [hz]; have := h.lt k hk; omega
-- [R
set_option maxRecDepth 100000 in
set_option maxHeartbeats 1000000 in
theorem revert_any (h : FsAt B f d x fp W) (hd : DevAt Bd d s fpd W) (hB : B ≤ W.heap.size) (hnm : ∀ y ∈ x.safe.files, y.name.size ≤ maxLen ∧ 0 ≤ y.size) (hl : x.safe.files.length ≤ 1073741824) :
    Calls Try.prog 45 #[.pointer (some ⟨f, 0, none⟩)] W fun e w' => (∃ v, e = .returned v) ∧ ∃ fp', FsAt B f d (x.revertE s) fp' w' ∧ Step fp fp' W w' := by
  obtain ⟨E, hE⟩ : ∃ E, E = x.revertE s := ⟨_, rfl⟩
  rw [← hE]
  have hlt := h.lt
  obtain ⟨m, vf, rp, ho, rfl⟩ := id h
  cases hdd : x.dead s with
  | true =>
    have PD := Lib.hid (dead_is hdd h hd)
    obtain rfl : E = x := by rw [hE]; unfold Pl.Fs.revertE; rw [if_pos hdd]
    clear hE hdd
    go_enter Try.func45, Try.ntmps45
    go_wp2_with fail
    refine PD.out.mono ?_
    rintro e w1 ⟨rfl, n, e1⟩
    have hb1 : Below W.heap.size W w1 := e1 ▸ below_drewN (Below.refl _ _) n
    clear e1
    go_wp2
    refine bodyPost_ret (results_none rfl _ _ _) rfl ?_
    exact ⟨⟨_, rfl⟩, _, h.beyond hb1, (Step.refl hlt).beyond hb1⟩
  | false =>
    have PD := Lib.hid (dead_is hdd h hd)
    obtain rfl : E = x.revert := by rw [hE]; unfold Pl.Fs.revertE; rw [if_neg (by rw [hdd]; exact Bool.false_ne_true)]
    clear hE hdd
    have hmm := @run_makeMap Try.prog
    go_enter Try.func45, Try.ntmps45
    go_wp2_with fail
    refine PD.out.mono ?_
    rintro e w1 ⟨rfl, n, e1⟩
    have ho1 := ho.keep (keep_drewN e1 _)
    have hb1 : Below W.heap.size W w1 := e1 ▸ below_drewN (Below.refl _ _) n
    clear e1 PD
    obtain ⟨hoN, hsN⟩ := ho1.fresh (Nat.le_trans hB hb1.size)
    have hsW := Step.after hlt hb1 hsN
    have fz : (w1.alloc (.map #[] 0)).frozen? ⟨f, 4, none⟩ = false := (ho1.blk.alloc _).frozen 4
    have fc : (w1.alloc (.map #[] 0)).cell? ⟨f, 4, none⟩ = some (.map (some m)) := by simp [(ho1.blk.alloc (.map #[] 0)).cell]
    obtain ⟨c0, c1, c2, c3, c4, c5⟩ := ho1.cells
    go_upto_region 2 with (fail)
    have hmz : w1.heap.size < ((w1.alloc (.map #[] 0)).setCell ⟨f, 4, none⟩ (.map (some w1.heap.size))).heap.size := by simp [World.setCell]
    clear fz fc c0 c1 c2 c3 c4 c5 ho1 hsN hmm
    generalize (w1.alloc (.map #[] 0)).setCell ⟨f, 4, none⟩ (.map (some w1.heap.size)) = w2 at hoN hsW hmz ⊢
    generalize w1.heap.size = mm at hoN hsW hmz ⊢
    obtain ⟨ao, cap, rfl, hcl, hcm, hrow0⟩ := id hoN.files
    obtain ⟨d0, d1, d2, d3, d4, d5⟩ := hoN.cells
    have hsz := hsW.keep.size
    go_wp2_with fail
    clear d0 d1 d2 d3 d4 d5 hrow0 hb1
    go_loopw [20] (fun i W' => ∃ k : Nat, k ≤ x.safe.files.length ∧ i = .int .i64 (k : Int) ∧ FsO B f d mm (.slice ao x.safe.files.length cap) rp { x with hand := Pl.handK (x.safe.files.take k) } W' ∧ Step (fsFp f m rp) (fsFp f mm rp) W W') (fun i _ => x.safe.files.length - (intOf i).toNat)
    case atStart => exact ⟨0, Nat.zero_le _, rfl, hoN, hsW⟩
    clear hoN hsW hmz hsz
    case round =>
      obtain ⟨k, hk, rfl, hor, hsr⟩ := hrel
      obtain ⟨d0, d1, d2, d3, d4, d5⟩ := hor.cells
      by_cases hkl : k < x.safe.files.length
      case neg =>
        obtain rfl : k = x.safe.files.length := by omega
        rw [List.take_of_length_le (Nat.le_refl _)] at hor
        have fz := hor.blk.frozen 5
        have hk5 : Keep (fun q => q ≠ f ∧ q ≠ mm) wr (wr.setCell ⟨f, 5, none⟩ (.bool false)) := (Keep.refl _ wr).setCell _ _ _ (fun h _ => h.1 rfl)
        have hkr : Keep rp wr (wr.setCell ⟨f, 5, none⟩ (.bool false)) := (Keep.refl _ wr).setCell _ _ _ (fun h _ => hor.nf h)
        obtain ⟨hoF, hsF⟩ := hor.turn (l := Pl.handK x.safe.files) (c := false) hk5 (by have := hor.blk.set 5 (.bool false); simpa using this) (hor.hand.keep hkr (fun _ h => h) (Below.heap_setCell _ _ _ _ hor.ne))
        have hfin := Lib.hid (hsr.trans hsF)
        replace hoF := Lib.hid (FsAt.of hoF)
        clear hk5 hkr hsF hor
        go_wp2
        go_end0
        exact ⟨⟨_, rfl⟩, _, hoF.out, hfin.out⟩
      obtain ⟨ao', cap', e, _, _, hrow⟩ := id hor.files
      injection e with e e1 e2
      subst e
      subst e2
      clear e1
      obtain ⟨bR, oR, rfl, hbR, hrp, hx⟩ := hrow (by show 0 < x.safe.files.length; omega)
      obtain ⟨z0, z1, u, z2, hu⟩ := hx k hkl
      obtain ⟨ai, ci, rfl, i1, i2, hib⟩ := id hu.1
      have hnk := hnm x.safe.files[k] (List.getElem_mem hkl)
      have hhk := Lib.hid (Pl.handK_succ hkl)
      have hhl := Pl.handK_length x.safe.files k hk
      clear hx hrow
      generalize x.safe.files[k] = y at *
      generalize Pl.handK (x.safe.files.take k) = hk0 at *
      obtain ⟨ynm, ysz, ybl⟩ := y
      simp only at z0 z1 z2 i1 i2 hib hnk hhk hu
      obtain ⟨szn, rfl⟩ := Int.eq_ofNat_of_zero_le hnk.2
      replace hhk : Hid (Pl.handK (x.safe.files.take (k + 1)) = Pl.hput hk0 ynm ⟨ybl, szn, .empty⟩) := hhk
      go_upto_region 5 with (fail)
      have hB3 : Below wr.heap.size wr (wr.alloc (.cells #[.string ynm, .int .i64 (szn : Int), .slice ai ybl.length ci] 74)) := (Below.refl _ _).alloc (Nat.le_refl _) _
      have ho3 := hor.beyond hB3
      have hs3 := hsr.beyond hB3
      have hx3 : Blk (wr.alloc (.cells #[.string ynm, .int .i64 (szn : Int), .slice ai ybl.length ci] 74)) wr.heap.size _ _ := Blk.new _ _ _
      have hu3 := hu.keep (Keep.of_below (fp := rp) hB3 (fun k hk _ => hor.lt k hk)) (fun _ h => h)
      have hbx : f ≠ wr.heap.size := fun e => by have := hor.blk.lt; omega
      have hmx : mm ≠ wr.heap.size := fun e => by have := World.ownsMap.lt hor.hand; omega
      clear hB3 d0 d1 d2 d3 d4 d5 hor hsr hu hib z0 z1 z2 hbR
      generalize wr.alloc (.cells #[.string ynm, .int .i64 (szn : Int), .slice ai ybl.length ci] 74) = w3 at ho3 hs3 hx3 hu3 ⊢
      generalize wr.heap.size = bx at *
      obtain ⟨c0, c1, c2, c3, c4, c5⟩ := ho3.cells
      have x0 : w3.cell? ⟨bx, 0, none⟩ = some (.string ynm) := by simp [hx3.cell]
      have x1 : w3.cell? ⟨bx, 1, none⟩ = some (.int .i64 (szn : Int)) := by simp [hx3.cell]
      have x2 : w3.cell? ⟨bx, 2, none⟩ = some (.slice ai ybl.length ci) := by simp [hx3.cell]
      have hBd : Below w3.heap.size w3 w3.drew := (Below.refl _ _).drew
      have hod := ho3.beyond hBd
      obtain ⟨wU, hU1, hU2, hU3⟩ := hand_store hod.hand hnk.1 (show FileV rp w3.drew (.agg #[.slice ai ybl.length ci, .int .i64 (szn : Int), .string ⟨#[]⟩]) ⟨ybl, szn, .empty⟩ from ⟨_, rfl, hu3.keep (Keep.of_below hBd (fun k hk _ => ho3.lt k hk)) (fun _ h => h)⟩) (show hk0.length < maxLen by unfold maxLen; omega)
      have hfU := keep_turned hU3
      have u4 := hfU.cell (b := f) (o := 4) (fun e => ho3.ne e.symm) hod.cells.2.2.2.2.1
      have hxU := (hx3.keep (Keep.of_below (fp := fun k => k < w3.heap.size) hBd (fun _ h _ => h)) hx3.lt).keep hfU (fun e => hmx e.symm)
      have y0 : wU.cell? ⟨bx, 0, none⟩ = some (.string ynm) := by simp [hxU.cell]
      have y1 : wU.cell? ⟨bx, 1, none⟩ = some (.int .i64 (szn : Int)) := by simp [hxU.cell]
      have y2 : wU.cell? ⟨bx, 2, none⟩ = some (.slice ai ybl.length ci) := by simp [hxU.cell]
      have hsd := hs3.beyond hBd
      obtain ⟨hoU, hsU⟩ := hod.midTurn hU3 hU2
      have hfin := Lib.hid (hsd.trans hsU)
      replace hoU := Lib.hid hoU
      clear hx3 hu3 hxU hU2 hU3 hsU hsd hs3 ho3 hod hfU hBd
      go_region_held3 (fun W' => W'.cell? ⟨f, 4, none⟩ = some (.map (some mm)) ∧ W'.cell? ⟨bx, 0, none⟩ = some (.string ynm) ∧ W'.cell? ⟨bx, 1, none⟩ = some (.int .i64 (szn : Int)) ∧ W'.cell? ⟨bx, 2, none⟩ = some (.slice ai ybl.length ci)) (first | exact ⟨c4, x0, x1, x2⟩ | exact ⟨u4, y0, y1, y2⟩ | go_keep) (fail)
      clear c0 c1 c2 c3 c4 c5 x0 x1 x2 y0 y1 y2 hU1 u4
      go_wp2
      go_roundw
      case rel => exact ⟨k + 1, by omega, by go_num, by rw [hhk.out]; exact hoU.out, hfin.out⟩
      case measure => simp [intOf]; omega
-- R]
end Go.Proofs.Ytndekdgpibipnaa
