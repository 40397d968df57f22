
/- Walks: the document's file system: its root, the free blocks. Condition: few files. -/
import Derived.Test.YtogblcdefbnbeaaGreatQPb
import Derived.Test.YtogblcdefbnbeaaGreatQWRefMay4
import Derived.Test.YtogblcdefbnbeaaGreatQGj
set_option maxRecDepth 100000
namespace Go.Proofs.YtogblcdefbnbeaaGreat
section
open Go.RowKit
variable {B Br q r : Nat} {vf vh : Value} {rp fp fpr : Nat → Prop} {hl : List (Pl.RF1 × Value)} {x : Pl.Rf} {s : Pl.Dv} {W W' : World}
def Pl.Rf.rootR (x : Pl.Rf) (s : Pl.Dv) : Pl.RootP := if x.dead s = true then ⟨0, []⟩ else x.safe
set_option maxHeartbeats 1000000 in
theorem rroot_any (h : RfAt B q r x fp W) (hr : RefAt Br r s fpr W) : Calls Tryz.prog 30 #[.pointer (some ⟨q, 0, none⟩)] W fun e w' => ∃ v, e = .returned (.agg #[.int .u64 ((x.rootR s).gen : Int), v]) ∧ FilesAt w' v (x.rootR s).files ∧ Below W.heap.size W w' := by
 obtain ⟨E, hE⟩ : ∃ E, E = x.rootR s := ⟨_, rfl⟩
 rw [← hE]
 have b0 : Below W.heap.size W (W.alloc (.cells #[.int .u64 0, .slice none 0 0] 71)) := (Below.refl _ _).alloc (Nat.le_refl _) _
 have hB0 := Blk.new W #[.int .u64 0, .slice none 0 0] 71
 have hA := h.beyond b0
 have hrA := hr.keep (Keep.of_below b0 (fun k hk _ => hr.lt k hk))
 cases hdd : x.dead s with
 | true =>
  have PD := Lib.hid (rdead_is hdd hA hrA)
  obtain rfl : E = ⟨0, []⟩ := by rw [hE]; unfold Pl.Rf.rootR; rw [if_pos hdd]
  clear hE hdd h hr hA hrA
  go_enter Tryz.func30, Tryz.ntmps30
  go_upto_region 2 with (go_at_call 64; refine PD.out.mono ?_; rintro e w1 ⟨rfl, m, e1⟩; have hb1 : Below W.heap.size W w1 := (e1 ▸ below_drewN b0 m); have hB1 : Blk w1 W.heap.size #[.int .u64 0, .slice none 0 0] 71 := (e1 ▸ hB0); clear e1)
  have r0 : w1.cell? ⟨W.heap.size, 0, none⟩ = some (.int .u64 0) := by simp [hB1.cell]
  have r1 : w1.cell? ⟨W.heap.size, 1, none⟩ = some (.slice none 0 0) := by simp [hB1.cell]
  have f0 := hB1.frozen 0
  have f1 := hB1.frozen 1
  have hB2 := (hB1.set 0 (.int .u64 0)).set 1 (.slice none 0 0)
  have hb2 := (hb1.setCell (p := ⟨W.heap.size, 0, none⟩) (Nat.le_refl _) (.int .u64 0)).setCell (p := ⟨W.heap.size, 1, none⟩) (Nat.le_refl _) (.slice none 0 0)
  go_wp2
  exact bodyPost_ret (results_root rfl rfl hB2) rfl ⟨_, rfl, (FilesF.nil (fun _ => True) _).at, hb2⟩
 | false =>
  have PD := Lib.hid (rdead_is hdd hA hrA)
  obtain rfl : E = x.safe := by rw [hE]; unfold Pl.Rf.rootR; rw [if_neg (by rw [hdd]; exact Bool.false_ne_true)]
  obtain ⟨vf, vh, rp, hl, ho, rfl⟩ := h
  have hc := Lib.hid (fun X (hb : Below W.heap.size W X) => (ho.beyond hb).cells)
  have hfl := Lib.hid (fun X (hk : Keep rp W X) => (ho.files.keep hk (fun _ h => h)).at)
  have hrl := Lib.hid (fun k (hk : rp k) => ho.lt k hk)
  clear hE hdd hr hA hrA ho
  go_enter Tryz.func30, Tryz.ntmps30
  go_upto_region 2 with (go_at_call 64; refine PD.out.mono ?_; rintro e w1 ⟨rfl, m, e1⟩; have hb1 : Below W.heap.size W w1 := (e1 ▸ below_drewN b0 m); have hB1 : Blk w1 W.heap.size #[.int .u64 0, .slice none 0 0] 71 := (e1 ▸ hB0); clear e1)
  obtain ⟨c0, c1, c2, c3, c4, c5⟩ := hc.out w1 hb1
  have r0 : w1.cell? ⟨W.heap.size, 0, none⟩ = some (.int .u64 0) := by simp [hB1.cell]
  have r1 : w1.cell? ⟨W.heap.size, 1, none⟩ = some (.slice none 0 0) := by simp [hB1.cell]
  have f0 := hB1.frozen 0
  have f1 := hB1.frozen 1
  have hB2 := (hB1.set 0 (.int .u64 (x.safe.gen : Int))).set 1 vf
  have hb2 := (hb1.setCell (p := ⟨W.heap.size, 0, none⟩) (Nat.le_refl _) (.int .u64 (x.safe.gen : Int))).setCell (p := ⟨W.heap.size, 1, none⟩) (Nat.le_refl _) vf
  have hF := hfl.out _ (Keep.of_below (fp := rp) hb2 (fun k hk _ => hrl.out k hk))
  obtain ⟨ao, cap, rfl, _⟩ := id hF
  replace hF := Lib.hid hF
  clear hc hfl hrl
  go_wp2
  exact bodyPost_ret (results_root rfl rfl hB2) rfl ⟨_, rfl, hF.out, hb2⟩
set_option maxHeartbeats 2000000 in
theorem rfree_any (h : RfAt B q r x fp W) (hr : RefAt Br r s fpr W) (hN : s.safe.length ≤ 16384) (hmany : x.safe.files.length ≤ 1048576) (hbl : ∀ y ∈ x.safe.files, y.blocks.length ≤ 1048576) (hin : ∀ b ∈ Pl.flatB x.safe.files, 0 ≤ b ∧ b < (s.safe.length : Int)) :
  Calls Tryz.prog 70 #[.pointer (some ⟨q, 0, none⟩)] W fun e w' => ∃ v, e = .returned v ∧ IOwn w' W.heap.size v (Pl.freeU x.safe s.safe.length) ∧ Below W.heap.size W w' := by
 obtain ⟨vf, vh, rp, hl, ho, rfl⟩ := h
 obtain ⟨sv, wv, hr⟩ := hr
 obtain ⟨c0, c1, c2, c3, c4, c5⟩ := ho.cells
 have d0 : W.cell? ⟨r, 0, none⟩ = some sv := by simp [hr.blk.cell]
 obtain ⟨asv, csv, rfl⟩ := rf_own_slice hr.safe
 obtain ⟨ao, cap, rfl, fc1, fc2, hfx⟩ := id ho.files
 obtain ⟨N, hNe⟩ : ∃ N, N = s.safe.length := ⟨_, rfl⟩
 rw [← hNe] at hN d0 hin ⊢
 have hmk := make_bools4 N (by omega) W
 have hql := ho.blk.lt
 have hrp := ho.lt
 have hT0 := TakAt.new W N
 have hb0 : Below W.heap.size W (W.alloc (.cells (tcells4 (List.replicate N false)).toArray 4)) := (Below.refl _ _).alloc (Nat.le_refl _) _
 have hz0 : (W.alloc (.cells (tcells4 (List.replicate N false)).toArray 4)).heap.size = W.heap.size + 1 := by simp
 obtain ⟨W1, hW1⟩ : ∃ W1, W.alloc (.cells (tcells4 (List.replicate N false)).toArray 4) = W1 := ⟨_, rfl⟩
 rw [hW1] at hmk hT0 hb0 hz0
 obtain ⟨FS, hFS⟩ : ∃ FS, FS = x.safe.files := ⟨_, rfl⟩
 rw [← hFS] at hmany hbl hin hfx fc1 c3
 obtain ⟨fn, hfn⟩ : ∃ fn, fn = FS.length := ⟨_, rfl⟩
 have hfx' : 0 < fn → ∃ b off, ao = some ⟨b, off, none⟩ ∧ b < W.heap.size ∧ rp b ∧ ∀ i (hi : i < FS.length), FileF rp W b (off + i * 3) FS[i] := fun h => hfx (by rw [← hfn]; exact h)
 clear hfx
 have hfx := hfx'
 clear hfx'
 rw [← hfn] at hmany fc1 c3
 replace hfn := Lib.hid hfn
 have hok : Hid (∀ b, Pl.okF x.safe b = (decide (32 ≤ b) && !decide ((b : Int) ∈ Pl.flatB FS))) := Lib.hid (fun b => by rw [hFS]; rfl)
 have hcl : Hid (∀ X, Keep (fun z => z ≠ W.heap.size) W1 X → ∀ (b o : Nat) (v : Value), b < W.heap.size → W.cell? ⟨b, o, none⟩ = some v → X.cell? ⟨b, o, none⟩ = some v) := Lib.hid (fun X hk b o v hb hc => hk.cell (b := b) (o := o) (by omega) ((hb0.cell (p := ⟨b, o, none⟩) hb).trans hc))
 have hlow : Hid (∀ X, Keep (fun z => z ≠ W.heap.size) W1 X → Below W.heap.size W X) := Lib.hid (fun X hk => hk.below hb0 (Nat.le_refl _) (fun k hk => by omega))
 clear hW1 hr ho hFS hNe
 go_enter Tryz.func70, Tryz.ntmps70
 go_wp2_with fail
 clear hmk
 go_loopw [4] (fun iv X => ∃ k : Nat, k ≤ fn ∧ iv = .int .i64 (k : Int) ∧ Keep (fun z => z ≠ W.heap.size) W1 X ∧ TakAt X W.heap.size N (Pl.flatB (FS.take k))) (fun iv _ => fn - (intOf iv).toNat)
 case atStart => exact ⟨0, Nat.zero_le _, rfl, Keep.refl _ _, hT0⟩
 case round =>
  obtain ⟨k, hk, rfl, hkp, hT⟩ := hrel
  have e3 := hcl.out wr hkp q 3 _ hql c3
  have hk0 : (0 : Int) ≤ (k : Int) := by omega
  have hzr := hkp.size
  by_cases hkl : k < fn
  ·have hkl2 : (k : Int) < (fn : Int) := by omega
   obtain ⟨b, off, rfl, hbl2, hrb, hfi⟩ := hfx (by omega)
   have hkF : k < FS.length := by rw [← hfn.out]; exact hkl
   obtain ⟨z0, z1, u, z2, hui⟩ := hfi k hkF
   have hblk := hbl _ (List.getElem_mem hkF)
   have hmem : Hid (∀ b ∈ FS[k].blocks, 0 ≤ b ∧ b < (N : Int)) := Lib.hid (fun b hb => hin b (List.mem_flatMap.2 ⟨_, List.getElem_mem hkF, hb⟩))
   have hnext : Hid (Pl.flatB (FS.take k) ++ FS[k].blocks = Pl.flatB (FS.take (k + 1))) := Lib.hid (Pl.flatB_take hkF).symm
   have e2 := hcl.out wr hkp b (off + k * 3 + 2) _ hbl2 z2
   obtain ⟨⟨ai, ci, rfl, i1, i2, hia⟩, hib⟩ := hui
   generalize FS[k].blocks = bl at hmem hnext hblk e2 hia hib i1
   replace hkp := Lib.hid hkp
   replace hT := Lib.hid hT
   clear z0 z1 z2 hfi
   go_wp2_with fail
   go_loopw [6] (fun jv X => ∃ j : Nat, j ≤ bl.length ∧ jv = .int .i64 (j : Int) ∧ Keep (fun z => z ≠ W.heap.size) W1 X ∧ TakAt X W.heap.size N (Pl.flatB (FS.take k) ++ bl.take j)) (fun jv _ => bl.length - (intOf jv).toNat)
   case atStart => exact ⟨0, Nat.zero_le _, rfl, hkp.out, by rw [List.take_zero, List.append_nil]; exact hT.out⟩
   case round =>
    obtain ⟨j, hj, rfl, hkp2, hT2⟩ := hrel
    have hj0 : (0 : Int) ≤ (j : Int) := by omega
    by_cases hjl : j < bl.length
    ·have hjl2 : (j : Int) < (bl.length : Int) := by omega
     obtain ⟨bi, oi, rfl, hbi, hxi⟩ := hia (by omega)
     have y0 := hcl.out wr hkp2 bi (oi + j) _ hbi (hxi j hjl)
     obtain ⟨hm0, hm1⟩ := hmem.out _ (List.getElem_mem hjl)
     have hnx2 : Hid (Pl.flatB (FS.take k) ++ bl.take j ++ [bl[j]] = Pl.flatB (FS.take k) ++ bl.take (j + 1)) := Lib.hid (by rw [List.append_assoc, List.take_succ_eq_append_getElem hjl])
     generalize bl[j] = bv at y0 hm0 hm1 hnx2
     obtain ⟨bn, rfl⟩ := Int.eq_ofNat_of_zero_le hm0
     have hbn : bn < N := by omega
     have g0 := hT2.look hbn
     have g1 := hT2.frozen bn
     have hTl := hT2.lt
     have hT3 := Lib.hid (hT2.set bn)
     have hk3 : Hid (Keep (fun z => z ≠ W.heap.size) W1 (wr.setCell ⟨W.heap.size, bn, none⟩ (.bool true))) := Lib.hid (hkp2.trans (keep_set wr W.heap.size bn (.bool true)) (fun z hz _ => hz))
     clear hT2 hkp2 hxi hia hib
     go_wp2_with fail
     go_roundw
     case rel => exact ⟨j + 1, by omega, by go_num, hk3.out, by rw [← hnx2.out]; exact hT3.out⟩
     case measure => simp [intOf]; omega
    ·obtain rfl : j = bl.length := by omega
     have hjl2 : ¬ (bl.length : Int) < (bl.length : Int) := by omega
     rw [List.take_length, hnext.out] at hT2
     replace hT2 := Lib.hid hT2
     replace hkp2 := Lib.hid hkp2
     clear hia hib
     go_wp2_with fail
     go_roundw
     case rel => exact ⟨k + 1, by omega, by go_num, hkp2.out, hT2.out⟩
     case measure => simp [intOf]; omega
  ·obtain rfl : k = fn := by omega
   have hkl2 : ¬ (k : Int) < (k : Int) := by omega
   have hall : FS.take k = FS := by rw [hfn.out]; exact List.take_length
   rw [hall] at hT
   replace hall := Lib.hid hall
   have hbW := hlow.out wr hkp
   have hTl := hT.lt
   have hr8 : Hid (∀ X, Below (W.heap.size + 1) wr X → TakAt X W.heap.size N (Pl.flatB FS)) := Lib.hid (fun X hb => (hb.block _ (Nat.lt_succ_self _)).trans hT)
   clear hT hkp hfx hcl hlow c0 c1 c2 c3 c4 c5 d0
   go_wp2_with fail
   go_loopw [7, 8] (fun vo iv X => ∃ (b : Nat) (a1 : Option Addr) (n1 k1 : Nat), 32 ≤ b ∧ (b ≤ N ∨ b = 32) ∧ iv = .int .i64 (b : Int) ∧ vo = .slice a1 n1 k1 ∧ n1 = (Pl.freeU x.safe b).length ∧ n1 ≤ b ∧ X.ownsRow (W.heap.size + 1) 3 1 vo n1 (icells4 (Pl.freeU x.safe b)) ∧ Below (W.heap.size + 1) wr X) (fun _ iv _ => N - (intOf iv).toNat)
   case atStart => exact ⟨32, none, 0, 0, Nat.le_refl _, .inr rfl, rfl, rfl, by rw [Pl.freeU_low _ 32 (Nat.le_refl _)]; rfl, Nat.zero_le _, by rw [Pl.freeU_low _ 32 (Nat.le_refl _)]; exact World.ownsRow_nil _ _ _ _, Below.refl _ _⟩
   case round =>
    obtain ⟨b, a1, n1, k1, hb32, hbN, rfl, rfl, hn1, hn1b, hown, hbx⟩ := hrel
    have hT := hr8.out wr hbx
    have hzb := hbx.size
    have hb0' : (0 : Int) ≤ (b : Int) := by omega
    by_cases hbN2 : b < N
    ·have hbl3 : (b : Int) < (N : Int) := by omega
     have g0 := hT.look hbN2
     have hzz : W.heap.size + 1 ≤ wr.heap.size := by omega
     cases hmm : decide ((b : Int) ∈ Pl.flatB FS) with
     | true =>
      have hf : Hid (Pl.freeU x.safe (b + 1) = Pl.freeU x.safe b) := Lib.hid (by
       rw [Pl.freeU_succ, if_neg, List.append_nil]
       rw [hok.out, hmm]
       simp)
      rw [hmm] at g0
      replace hown := Lib.hid hown
      replace hbx := Lib.hid hbx
      clear hT hmm
      go_wp2_with fail
      go_roundw
      case rel => exact ⟨b + 1, a1, n1, k1, by omega, .inl (by omega), by go_num, rfl, by rw [hf.out]; exact hn1, by omega, by rw [hf.out]; exact hown.out, hbx.out⟩
      case measure => simp [intOf]; omega
     | false =>
      have hf : Hid (Pl.freeU x.safe (b + 1) = Pl.freeU x.safe b ++ [(b : Int)]) := Lib.hid (by
       rw [Pl.freeU_succ, if_pos]
       rw [hok.out, hmm, decide_eq_true hb32]
       rfl)
      rw [hmm] at g0
      replace hn1 := Lib.hid hn1
      replace hbx := Lib.hid hbx
      obtain ⟨xs, hxs⟩ : ∃ xs, xs = icells4 (Pl.freeU x.safe b) := ⟨_, rfl⟩
      rw [← hxs] at hown
      have hown' := hown
      replace hxs := Lib.hid hxs
      clear hT hmm
      go_wp2_with (at_builtin; go_must (refine wpList_app1 (by rfl) _ _ 74 (by rfl) (W.heap.size + 1) 3 (.int .i64 0) 1 8 Tryz.underlying74 info_int4 rfl (by decide) (.slice a1 n1 k1) n1 xs wr hown' hzz (by rfl) #[.int .i64 (b : Int)] 3 (by rfl) rfl (by simp [Value.oneCell']) (by omega) (by decide) ?_; intro g2 cap2 w2 hown2 hgrow hat2 hg2))
      have hb2 : Hid (Below (W.heap.size + 1) wr w2) := Lib.hid ((keep_app hgrow).below (Below.refl _ _) hzz (fun q hq e => by have := (hown'.lt q e).1; omega))
      go_roundw
      case rel => exact ⟨b + 1, some ⟨g2, 0, none⟩, n1 + 1, cap2, by omega, .inl (by omega), by go_num, rfl, by rw [hf.out, List.length_append, hn1.out]; rfl, by omega, by rw [hf.out, ← icells4_snoc, ← hxs.out]; exact hown2, hbx.out.trans hb2.out⟩
      case measure => simp [intOf]; omega
    ·have hbl3 : ¬ (b : Int) < (N : Int) := by omega
     have heq : Pl.freeU x.safe b = Pl.freeU x.safe N := by
      by_cases h1 : b ≤ N
      ·have : b = N := by omega
       rw [this]
      ·have hb : b = 32 := hbN.resolve_left h1
       rw [hb, Pl.freeU_low _ 32 (Nat.le_refl _), Pl.freeU_low _ N (by omega)]
     rw [heq, hn1, heq] at hown
     have hres := Lib.hid (row_base hown (Nat.le_succ _))
     have hbf := Lib.hid (hbW.trans (hbx.mono (by omega)))
     have hn2 : n1 = (Pl.freeU x.safe N).length := by rw [hn1, heq]
     replace hn2 := Lib.hid hn2
     clear hT hown hn1
     go_wp2
     go_ret
     refine ⟨_, rfl, ?_, hbf.out⟩
     unfold IOwn
     rw [hn2.out]
     exact hres.out
def Pl.Rf.freeN (x : Pl.Rf) (s : Pl.Dv) : Nat := if x.dead s = true then 0 else (Pl.freeU x.safe s.safe.length).length
set_option maxHeartbeats 1000000 in
theorem rFree_any (h : RfAt B q r x fp W) (hr : RefAt Br r s fpr W) (hN : s.safe.length ≤ 16384) (hmany : x.safe.files.length ≤ 1048576) (hbl : ∀ y ∈ x.safe.files, y.blocks.length ≤ 1048576) (hin : ∀ b ∈ Pl.flatB x.safe.files, 0 ≤ b ∧ b < (s.safe.length : Int)) :
  Calls Tryz.prog 31 #[.pointer (some ⟨q, 0, none⟩)] W fun e w' => e = .returned (.int .i64 (x.freeN s : Int)) ∧ Below W.heap.size W w' := by
 obtain ⟨E, hE⟩ : ∃ E, E = x.freeN s := ⟨_, rfl⟩
 rw [← hE]
 cases hdd : x.dead s with
 | true =>
  have PD := Lib.hid (rdead_is hdd h hr)
  obtain rfl : E = 0 := by rw [hE]; unfold Pl.Rf.freeN; rw [if_pos hdd]
  clear hE hdd h hr
  go_enter Tryz.func31, Tryz.ntmps31
  go_wp2_with (go_at_call 64; refine PD.out.mono ?_; rintro e w1 ⟨rfl, m, rfl⟩)
  go_ret
  exact ⟨rfl, below_drewN (Below.refl _ _) _⟩
 | false =>
  have PD := Lib.hid (rdead_is hdd h hr)
  have PF := Lib.hid (fun m => rfree_any (h.keep ((Keep.refl _ W).drewN m)) (hr.keep ((Keep.refl _ W).drewN m)) hN hmany hbl hin)
  have hEE : Hid (E = (Pl.freeU x.safe s.safe.length).length) := Lib.hid (by rw [hE]; unfold Pl.Rf.freeN; rw [if_neg (by rw [hdd]; exact Bool.false_ne_true)])
  clear hE hdd h hr
  go_enter Tryz.func31, Tryz.ntmps31
  go_upto_region 4 with (go_at_call 64; refine PD.out.mono ?_; rintro e w1 ⟨rfl, m, rfl⟩)
  have PF2 := Lib.hid (PF.out m)
  clear PF
  generalize Pl.freeU x.safe s.safe.length = FL at *
  go_wp2_with (go_at_call 70; refine PF2.out.mono ?_; rintro e w2 ⟨v, rfl, hown, hb2⟩; obtain ⟨a, c, rfl⟩ := rf_own_slice hown; replace hb2 := Lib.hid hb2; clear hown)
  go_ret
  exact ⟨by rw [hEE.out]; rfl, (below_drewN (Below.refl _ _) _).trans hb2.out⟩
end
end Go.Proofs.YtogblcdefbnbeaaGreat
