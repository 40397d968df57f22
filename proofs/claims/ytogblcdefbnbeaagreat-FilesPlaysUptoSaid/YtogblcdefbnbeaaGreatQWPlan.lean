
/- Walk: what a commit is to write. Condition: files that may be. -/
import Derived.Test.YtogblcdefbnbeaaGreatQGl
import Derived.Test.YtogblcdefbnbeaaGreatQRound
import Derived.Test.YtogblcdefbnbeaaGreatQGu
import Derived.Outline
import Derived.Deep.RegionHeld3
set_option maxRecDepth 100000
namespace Go.Proofs.YtogblcdefbnbeaaGreat
section
open Go.RowKit Go.Shelf
attribute [local go_sem] Oper.semAt_some
variable {B Bd Bl f d m : Nat} {vf vl vr : Value} {x : Pl.Fs} {s : Pl.Dv} {rp rp2 fp fpd : Nat → Prop} {W W' : World}
set_option maxHeartbeats 1000000 in
theorem plan_any (ho : FsO B f d m vf rp x W) (hd : DevAt Bd d s fpd W) {N : Nat} (hN : s.safe.length = N) (hN1 : 40 ≤ N) (hN2 : N ≤ 16384) (hdd : x.dead s = false) (hup : s.down = false) (hh : Pl.HandOk N x.hand)
  (hfl : (Pl.flatB x.safe.files).length ≤ 1073741824) (hbf : ∀ q ∈ Pl.flatB x.safe.files, -9223372036854775808 ≤ q ∧ q ≤ 9223372036854775807) (hg : x.safe.gen ≤ 4611686018427387904) :
  Calls Tryz.prog 75 #[.pointer (some ⟨f, 0, none⟩)] W fun e w' => PlanEnds W rp (x.planE s) e w' := by
 obtain ⟨OE, hOE⟩ : ∃ OE, OE = x.planE s := ⟨_, rfl⟩
 rw [← hOE]
 replace hOE := Lib.hid hOE
 refine (callsIn_wide (n := 8)).1 ?_
 refine callsIn_of_wp_marks Tryz.func75 rfl trivial (wpIn_wide.2 ?_) rfl
 simp only [Tryz.ntmps75, List.size_toArray, List.length_cons, List.length_nil, Nat.reduceAdd, Nat.reduceSub, Array.replicate_succ, Array.replicate_zero, List.push_toArray, List.append_toArray, List.nil_append, List.cons_append]
 obtain ⟨W1, hW1⟩ : ∃ W1, W1 = ((W.alloc (.cells #[.slice none 0 0] 122)).alloc (.cells #[.int .u64 0, .slice none 0 0] 71)).alloc (.cells #[.bool false] 4) := ⟨_, rfl⟩
 have hb1 : Below W.heap.size W W1 := by rw [hW1]; exact (((Below.refl _ _).alloc (Nat.le_refl _) _).alloc (by simp) _).alloc (by simp; omega) _
 have ho1 := ho.beyond hb1
 have hd1 := hd.beyond hb1
 obtain ⟨c0, c1, c2, _⟩ := ho1.cells
 replace hN := Lib.hid hN
 have r2 : Boxed W1 W.heap.size 122 (.slice none 0 0) := by
  rw [hW1]
  exact ((Boxed.new W _ _).alloc _).alloc _
 have r3 : Blk W1 (W.heap.size + 1) #[.int .u64 0, .slice none 0 0] 71 := by
  rw [hW1]
  have := (Blk.new (W.alloc (.cells #[.slice none 0 0] 122)) #[.int .u64 0, .slice none 0 0] 71).alloc (.cells #[.bool false] 4)
  simpa using this
 have r4 : Boxed W1 (W.heap.size + 1 + 1) 4 (.bool false) := by
  rw [hW1]
  have := Boxed.new ((W.alloc (.cells #[.slice none 0 0] 122)).alloc (.cells #[.int .u64 0, .slice none 0 0] 71)) 4 (.bool false)
  simpa using this
 have hz1 : W1.heap.size = W.heap.size + 3 := by rw [hW1]; simp
 go_upto_region 1 with (fail)
 rw [← hW1]
 clear hW1
 obtain ⟨W2, hW2⟩ : ∃ W2, W2 = W1.alloc (.cells #[.int .u64 ((x.safe.gen : Int) + 1), .slice none 0 0] 71) := ⟨_, rfl⟩
 have hb2 : Below W1.heap.size W1 W2 := by rw [hW2]; exact (Below.refl _ _).alloc (Nat.le_refl _) _
 have r5 : Blk W2 W1.heap.size #[.int .u64 ((x.safe.gen : Int) + 1), .slice none 0 0] 71 := by rw [hW2]; exact Blk.new _ _ _
 have hz2 : W2.heap.size = W1.heap.size + 1 := by rw [hW2]; simp
 have ho2 := ho1.beyond hb2
 have hd2 := hd1.beyond hb2
 have hl2 := ho2.fpLt
 have hl2d := hd2.lt
 have hfr : (Pl.freeU x.safe s.safe.length).length ≤ N := by have := Pl.freeU_length x.safe s.safe.length; rw [hN.out] at this ⊢; exact this
 have PC := Lib.hid (fun (w : World) (hw : w = W2.alloc (.cells #[.pointer (some ⟨f, 0, none⟩)] 30)) => callsIn_wide.1 (collectI_in 8 (by omega) (gf := 97) #[.pointer (some ⟨W2.heap.size, 0, none⟩)] (enters_of Tryz.func97 (by kernel_rfl) rfl) (fun k => k = W2.heap.size ∨ fsFp f m rp k ∨ fpd k) (Pl.freeU x.safe s.safe.length) (by omega) w
  (by
   rw [hw]
   rintro q (rfl | hq | hq)
   ·simp
   ·have := hl2 q hq; simp; omega
   ·have := hl2d q hq; simp; omega)
  (by
   rw [hw]
   exact free1_seq 6 W2.heap.size _ (Boxed.new _ _ _) (ho2.beyond ((Below.refl _ _).alloc (Nat.le_refl _) _)) (hd2.beyond ((Below.refl _ _).alloc (Nat.le_refl _) _)) (by rw [hN.out]; omega) (by rw [hN.out]; omega) hfl hbf)))
 go_upto_region 2 with (fail)
 rw [← hW2]
 have PC1 := Lib.hid (PC.out _ rfl)
 have hb2f : Below W2.heap.size W2 (W2.alloc (.cells #[.pointer (some ⟨f, 0, none⟩)] 30)) := (Below.refl _ _).alloc (Nat.le_refl _) _
 rw [hz2, hz1] at PC1
 rw [hz1] at r5 hz2
 clear hW2 PC
 generalize hFR : Pl.freeU x.safe s.safe.length = FR at *
 replace hFR := Lib.hid hFR
 clear c0 c1 c2
 go_upto_region 3 with (first
  | (go_at_call 68; refine (callsIn_wide.1 (free_in 5 _)).mono ?_; rintro e w' ⟨rfl, rfl⟩)
  | (go_at_call 98; refine PC1.out.mono ?_; rintro e w3 ⟨v3, rfl, hr3, hb3⟩; obtain ⟨va3, vc3, rfl⟩ := ownsRow_form hr3))
 rw [World.size_alloc, hz2] at hr3 hb3
 have hb23 : Below W2.heap.size W2 w3 := hb2f.trans (hb3.mono (by omega))
 have hbW3 : Below W.heap.size W w3 := (hb1.trans (hb2.mono (by omega))).trans (hb23.mono (by omega))
 have r2c := (hb23.block W.heap.size (by omega)).trans ((hb2.block W.heap.size (by omega)).trans r2)
 have r3c := (hb23.block (W.heap.size + 1) (by omega)).trans ((hb2.block (W.heap.size + 1) (by omega)).trans r3)
 have r4c := (hb23.block (W.heap.size + 1 + 1) (by omega)).trans ((hb2.block (W.heap.size + 1 + 1) (by omega)).trans r4)
 have r5c := (hb23.block (W.heap.size + 3) (by omega)).trans r5
 have hz3 := hb23.size
 clear PC1 hb2f hb3 r2 r3 r4 r5 hb1 hb2
 obtain ⟨W5, hW5⟩ : ∃ W5, W5 = (w3.alloc (.cells #[.slice va3 FR.length vc3] 74)).alloc (.cells #[.slice none 0 0] 122) := ⟨_, rfl⟩
 have hb5 : Below w3.heap.size w3 W5 := by rw [hW5]; exact ((Below.refl _ _).alloc (Nat.le_refl _) _).alloc (by simp) _
 have hz5 : W5.heap.size = w3.heap.size + 2 := by rw [hW5]; simp
 have r6 : Boxed W5 w3.heap.size 74 (.slice va3 FR.length vc3) := by rw [hW5]; exact (Boxed.new w3 _ _).alloc _
 have r7 : Boxed W5 (w3.heap.size + 1) 122 (.slice none 0 0) := by
  rw [hW5]
  have := Boxed.new (w3.alloc (.cells #[.slice va3 FR.length vc3] 74)) 122 (.slice none 0 0)
  simpa using this
 have ho5 := (ho2.beyond hb23).beyond hb5
 have hd5 := (hd2.beyond hb23).beyond hb5
 have PN := Lib.hid (names_any (.of ho5) hd5 (by have := hh.many; omega))
 have hnE : x.namesE s = Pl.namesOf x.hand := by unfold Pl.Fs.namesE; rw [if_neg (by rw [hdd]; exact Bool.false_ne_true)]
 rw [hnE] at PN
 have hnl : (Pl.namesOf x.hand).length = x.hand.length := by simp [Pl.namesOf]
 rw [hnl] at PN
 go_upto_region 4 with (fail)
 rw [← hW5]
 clear hW5 hnE hnl
 go_wp2_with (go_at_call 24; refine PN.out.mono ?_; rintro e w6 ⟨vn, rfl, hr6, hb6⟩; obtain ⟨va6, vc6, rfl⟩ := ownsRow_form hr6)
 have hz6 := hb6.size
 have hz5w : W.heap.size + 6 ≤ W5.heap.size := by omega
 have hb36 : Below w3.heap.size w3 w6 := hb5.trans (hb6.mono (by omega))
 have hbW6 : Below W.heap.size W w6 := hbW3.trans (hb36.mono (by omega))
 have q6 := (hb6.block w3.heap.size (by omega)).trans r6
 have q7 := (hb6.block (w3.heap.size + 1) (by omega)).trans r7
 have q2 := (hb36.block W.heap.size (by omega)).trans r2c
 have q3 := (hb36.block (W.heap.size + 1) (by omega)).trans r3c
 have q4 := (hb36.block (W.heap.size + 1 + 1) (by omega)).trans r4c
 have q5 : Blk w6 (W.heap.size + 3) #[.int .u64 ((x.safe.gen : Int) + 1), .slice none 0 0] 71 := (hb36.block (W.heap.size + 3) (by omega)).trans r5c
 have hr36 : w6.ownsRow (W.heap.size + 3 + 1 + 1) 3 1 (.slice va3 FR.length vc3) FR.length (icells4 FR) := (Keep.of_below (fp := fun q => q < w3.heap.size) hb36 (fun _ h _ => h)).ownsRow hr3 (fun q e => (hr3.lt q e).2)
 have hfree : IntsF (fun q => rp q ∨ (.slice va3 FR.length vc3 : Value).ownBlock = some q) w6 (.slice va3 FR.length vc3) FR := ⟨IOwn.at hr36, fun _ q e => .inr e⟩
 have hW0 : PlanW (W.heap.size + 3) w3.heap.size (w3.heap.size + 1) w6.heap.size ((x.safe.gen : Int) + 1) rp w6 ⟨FR, [], []⟩ (fun q => rp q ∨ (.slice va3 FR.length vc3 : Value).ownBlock = some q) (.slice va3 FR.length vc3) (.slice none 0 0) (.slice none 0 0) [] w6 :=
  ⟨q6, hfree, q7, World.ownsRow_nil _ _ _ _, q5, World.ownsRow_nil _ _ _ _, rfl, (fun _ h => by cases h), Keep.refl _ _, (fun q hq => by
   rcases hq with hq | hq
   ·have := ho.lt q hq
    exact ⟨by omega, by omega, by omega, by omega, by simp [Value.ownBlock], by simp [Value.ownBlock]⟩
   ·have h1 := (hr36.lt q hq).1
    have h2 := (hr3.lt q hq).2
    exact ⟨by omega, by omega, by omega, by omega, by simp [Value.ownBlock], by simp [Value.ownBlock]⟩), fun q hq => .inl hq, fun q hq => hq.elim .inl (fun h => .inr (by have h1 := (hr36.lt q h).1; omega))⟩
 have ho6 := ho5.beyond hb6
 have hd6 := hd5.beyond hb6
 have hrise := ho6.hand.rising
 clear PN hb5 hb6 hb36 hb23 r2c r3c r4c r5c r6 r7 ho1 ho2 hd1 hd2 hl2 hl2d ho5 hd5 hr3 hr36 hfree q5 q6 q7 hbW3
 refine wp_loop (fun a X => ∃ (k : Nat) (Ds : List Nat) (st : Pl.PlSt) (fz : Nat → Prop) (u6 ul ufs : Value) (fl : List (Pl.FileP × Value)), k ≤ x.hand.length ∧ Pl.planK s FR (x.hand.take k) = some st ∧ PlanW (W.heap.size + 3) w3.heap.size (w3.heap.size + 1) w6.heap.size ((x.safe.gen : Int) + 1) rp w6 st fz u6 ul ufs fl X ∧ Marked Ds X ∧ (∀ D ∈ Ds, w6.heap.size ≤ D ∧ ¬ fz D) ∧
   ∃ v9 v10 v11 v12 v30 v31 v32 v33 v34 v35 v36 v37 v38 v39 v40 v41 v42 v43 v44 v45 v46 v47 v48 v49 v50 v51 v52 v53 v54 v55 v56 v57 v58 v59 v60 v61 v62 v63 v64 v65 v66 v67 v68 v69 v70 v71 v95 v96 v97 v98 v99 v100 v101 : Value, a = ⟨#[.pointer (some ⟨f, 0, none⟩), undef, .pointer (some ⟨W.heap.size, 0, none⟩), .pointer (some ⟨W.heap.size + 1, 0, none⟩), .pointer (some ⟨W.heap.size + 1 + 1, 0, none⟩), .pointer (some ⟨W.heap.size + 3, 0, none⟩), .pointer (some ⟨w3.heap.size, 0, none⟩), .pointer (some ⟨w3.heap.size + 1, 0, none⟩), undef, v9, v10, v11, v12, undef, undef, undef, .pointer (some ⟨f, 0, none⟩), .pointer (some ⟨f, 0, none⟩), .pointer (some ⟨f, 2, none⟩), .pointer (some ⟨f, 2, none⟩), .int .u64 (x.safe.gen : Int), .int .u64 ((x.safe.gen : Int) + 1), .agg #[.int .u64 ((x.safe.gen : Int) + 1), .slice none 0 0], .pointer (some ⟨f, 0, none⟩), .func (.func 97) #[] #[.pointer (some ⟨W.heap.size + 3 + 1, 0, none⟩)], .slice va3 FR.length vc3, .pointer (some ⟨f, 0, none⟩), .slice va6 x.hand.length vc6, .int .i64 (x.hand.length : Int), .int .i64 (k : Int), v30, v31, v32, v33, v34, v35, v36, v37, v38, v39, v40, v41, v42, v43, v44, v45, v46, v47, v48, v49, v50, v51, v52, v53, v54, v55, v56, v57, v58, v59, v60, v61, v62, v63, v64, v65, v66, v67, v68, v69, v70, v71, undef, undef, undef, undef, undef, undef, undef, undef, undef, undef, undef, undef, undef, undef, undef, undef, undef, undef, undef, undef, undef, undef, undef, v95, v96, v97, v98, v99, v100, v101, undef, undef, undef, undef, undef, undef, undef, undef, undef, undef, undef, undef, undef, undef], Ds.map mark⟩) (fun a _ => x.hand.length - (intOf (a.tmps.getD 29 undef)).toNat) ?_ ?_
 ·exact ⟨0, [], _, _, _, _, _, _, Nat.zero_le _, rfl, hW0, Marked.nil _, (fun _ h => by cases h), _, _, _, _, _, _, _, _, _, _, _, _, _, _, _, _, _, _, _, _, _, _, _, _, _, _, _, _, _, _, _, _, _, _, _, _, _, _, _, _, _, _, _, _, _, _, _, _, _, _, _, _, _, rfl⟩
 rintro a X ⟨k, Ds, st, fz, u6, ul, ufs, fl, hk, hst, hPW, hM, hDs, v9, v10, v11, v12, v30, v31, v32, v33, v34, v35, v36, v37, v38, v39, v40, v41, v42, v43, v44, v45, v46, v47, v48, v49, v50, v51, v52, v53, v54, v55, v56, v57, v58, v59, v60, v61, v62, v63, v64, v65, v66, v67, v68, v69, v70, v71, v95, v96, v97, v98, v99, v100, v101, rfl⟩
 clear hW0
 obtain ⟨fa, fc, rfl⟩ := ownsRow_form hPW.frow
 obtain ⟨la, lc, rfl⟩ := ownsRow_form hPW.lrow
 have hstn := (Pl.planK_len _ _ hst).1
 rw [List.length_take, Nat.min_eq_left hk, ← hPW.files, List.length_map] at hstn
 have hXk := hPW.keep
 have hXz := hXk.size
 by_cases hkl : k < x.hand.length
 case neg =>
  have hkn : x.hand.take k = x.hand := List.take_of_length_le (by omega)
  rw [hkn] at hst
  have hkl2 : ¬ ((k : Int) < (x.hand.length : Int)) := by omega
  have hfrp : ∀ q ∈ FR, 32 ≤ q ∧ q < (N : Int) := fun q hq => by
   rw [← hFR.out, hN.out] at hq
   have := Pl.freeU_pos hq
   exact ⟨this.1, this.2.1⟩
  obtain ⟨hlP, hfP⟩ := Pl.planK_inv hfrp _ _ hh hst
  have hlw : ∀ q, fsFp f m rp q → q < W.heap.size := ho.fpLt
  have hoX := ho6.keep (hXk.mono (fun q hq _ => by have := hlw q hq; exact ⟨by omega, by omega, by omega, by omega⟩))
  have hdX := hd6.keep (hXk.mono (fun q hq _ => by have := hd.lt q hq; exact ⟨by omega, by omega, by omega, by omega⟩))
  have hrp2 := FilesF.of_row (rp2 := fun q => fz q ∨ (.slice fa fl.length fc : Value).ownBlock = some q) hPW.frow hPW.ints (fun q h => .inl h) (fun q h => .inr h)
  rw [hPW.files] at hrp2
  have hfsn : fl.length = st.fs.length := by rw [← hPW.files, List.length_map]
  have hrfine : (⟨x.safe.gen + 1, st.fs⟩ : Pl.RootP).fine := ⟨by show x.safe.gen + 1 ≤ _; omega, fun y hy => by
   have h1 := hfP y hy
   exact ⟨⟨by omega, h1.2.1⟩, fun q hq => by have := h1.2.2 q hq; omega⟩⟩
  obtain ⟨c0, _⟩ := hoX.cells
  have x0 : X.cell? ⟨W.heap.size + 3, 0, none⟩ = some (.int .u64 ((x.safe.gen : Int) + 1)) := by simp [hPW.root.cell]
  have x1 : X.cell? ⟨W.heap.size + 3, 1, none⟩ = some (.slice fa fl.length fc) := by simp [hPW.root.cell]
  have hbdr : Below X.heap.size X X.drew := (Below.refl _ _).drew
  have PB := Lib.hid (blocks_any (hdX.beyond hbdr))
  obtain ⟨ER, hER⟩ : ∃ ER, ER = Pl.encRt (min (s.safe.length : Int) 16384) ⟨x.safe.gen + 1, st.fs⟩ := ⟨_, rfl⟩
  have PE : Hid (∀ w, Below X.heap.size X w → Calls Tryz.prog 82 #[.agg #[.int .u64 ((x.safe.gen : Int) + 1), .slice fa fl.length fc], .int .i64 (s.safe.length : Int)] w fun e w' => e = .returned (.tuple #[.string ⟨ER.1.toArray⟩, .int .i64 ER.2]) ∧ Below w.heap.size w w') := Lib.hid (fun w hb => by
   have e1 : ((x.safe.gen + 1 : Nat) : Int) = (x.safe.gen : Int) + 1 := by omega
   have hat := hrp2.at.below hb
   rw [hfsn] at hat ⊢
   rw [← e1, hER]
   exact encRt_any ⟨x.safe.gen + 1, st.fs⟩ fa fc (s.safe.length : Int) w hrfine hat (by omega) (by rw [hN.out]; omega))
  have hrl := hPW.root.lt
  have hcl := Lib.hid (fun (w : World) (hb : Below X.heap.size X w) => (⟨(hoX.beyond hb).cells.1, (hb.cell (p := ⟨W.heap.size + 3, 0, none⟩) hrl).trans x0, (hb.cell (p := ⟨W.heap.size + 3, 1, none⟩) hrl).trans x1⟩ : w.cell? ⟨f, 0, none⟩ = some (.pointer (some ⟨d, 0, none⟩)) ∧ w.cell? ⟨W.heap.size + 3, 0, none⟩ = some (.int .u64 ((x.safe.gen : Int) + 1)) ∧ w.cell? ⟨W.heap.size + 3, 1, none⟩ = some (.slice fa fl.length fc)))
  have hOE2 : Hid (OE = if ER.2 = 0 then some (st.l, ⟨x.safe.gen + 1, st.fs⟩) else none) := Lib.hid (by rw [hOE.out]; unfold Pl.Fs.planE; rw [hFR.out, hst, Option.bind_some, hER])
  have hPWh := Lib.hid hPW
  replace hER := Lib.hid hER
  replace hst := Lib.hid hst
  replace hlP := Lib.hid hlP
  replace hfP := Lib.hid hfP
  replace hrp2 := Lib.hid hrp2
  replace hfsn := Lib.hid hfsn
  replace hkn := Lib.hid hkn
  clear hstn hkl
  go_upto_region 21 with (fail)
  go_region_held3 (fun W' => W'.cell? ⟨f, 0, none⟩ = some (.pointer (some ⟨d, 0, none⟩)) ∧ W'.cell? ⟨W.heap.size + 3, 0, none⟩ = some (.int .u64 ((x.safe.gen : Int) + 1)) ∧ W'.cell? ⟨W.heap.size + 3, 1, none⟩ = some (.slice fa fl.length fc)) (first | exact kA | exact ⟨c0, x0, x1⟩ | go_keep)
   (first
   | (go_at_call 53; refine PB.out.mono ?_; rintro e w' ⟨rfl, rfl⟩)
   | (go_at_call 82; refine (PE.out _ hbdr).mono ?_; rintro e w9 ⟨rfl, b9⟩; have bA := hbdr.trans (b9.mono hbdr.size); have kA := hcl.out w9 bA))
  have hMw := hM.below bA
  have hkA : Keep (fun q => q < X.heap.size) X w9 := Keep.of_below bA (fun _ h _ => h)
  have hPw := hPWh.out.keepAll hkA
  have hzw := bA.size
  have hw2 : Boxed w9 W.heap.size 122 (.slice none 0 0) := hPw.keep.boxed (fp := fun z => z < w6.heap.size ∧ z ≠ w3.heap.size ∧ z ≠ w3.heap.size + 1 ∧ z ≠ W.heap.size + 3) ⟨by omega, by omega, by omega, by omega⟩ q2
  have hw3 : Blk w9 (W.heap.size + 1) #[.int .u64 0, .slice none 0 0] 71 := (hPw.keep.block (W.heap.size + 1) ⟨by omega, by omega, by omega, by omega⟩ (by omega)).trans q3
  have hw4 : Boxed w9 (W.heap.size + 1 + 1) 4 (.bool false) := (hPw.keep.block (W.heap.size + 1 + 1) ⟨by omega, by omega, by omega, by omega⟩ (by omega)).trans q4
  clear PB PE hcl hbdr b9 bA kA c0 x0 x1
  have y7 := hPw.box7.cell
  have y50 : w9.cell? ⟨W.heap.size + 3, 0, none⟩ = some (.int .u64 ((x.safe.gen : Int) + 1)) := by simp [hPw.root.cell]
  have y51 : w9.cell? ⟨W.heap.size + 3, 1, none⟩ = some (.slice fa fl.length fc) := by simp [hPw.root.cell]
  have u2 := hw2.cell
  have u2f := hw2.frozen
  have u30 : w9.cell? ⟨W.heap.size + 1, 0, none⟩ = some (.int .u64 0) := by simp [hw3.cell]
  have u31 : w9.cell? ⟨W.heap.size + 1, 1, none⟩ = some (.slice none 0 0) := by simp [hw3.cell]
  have u30f := hw3.frozen 0
  have u31f := hw3.frozen 1
  have u4 := hw4.cell
  have u4f := hw4.frozen
  generalize hee : ER.2 = ee at *
  replace hee := Lib.hid hee
  go_upto_region 22 with (fail)
  go_region
  obtain ⟨F, hF⟩ : ∃ F, F = ((((w9.setCell ⟨W.heap.size, 0, none⟩ (.slice la st.l.length lc)).setCell ⟨W.heap.size + 1, 0, none⟩ (.int .u64 ((x.safe.gen : Int) + 1))).setCell ⟨W.heap.size + 1, 1, none⟩ (.slice fa fl.length fc)).setCell ⟨W.heap.size + 1 + 1, 0, none⟩ (.bool (ee == 0))).drew := ⟨_, rfl⟩
  have s4 : Boxed F W.heap.size 122 (.slice la st.l.length lc) := by
   rw [hF]
   exact (keep_set _ (W.heap.size + 1 + 1) 0 _).boxed (by omega) ((keep_set _ (W.heap.size + 1) 1 _).boxed (by omega) ((keep_set _ (W.heap.size + 1) 0 _).boxed (by omega) (hw2.set _)))
  have t4 : Blk F (W.heap.size + 1) #[.int .u64 ((x.safe.gen : Int) + 1), .slice fa fl.length fc] 71 := by
   rw [hF]
   have h1 := ((hw3.keep (keep_set w9 W.heap.size 0 (.slice la st.l.length lc)) (by omega)).set 0 (.int .u64 ((x.safe.gen : Int) + 1))).set 1 (.slice fa fl.length fc)
   have h2 := h1.keep (keep_set _ (W.heap.size + 1 + 1) 0 (.bool (ee == 0))) (by omega)
   exact h2
  have u5 : Boxed F (W.heap.size + 1 + 1) 4 (.bool (ee == 0)) := by
   rw [hF]
   exact ((keep_set _ (W.heap.size + 1) 1 _).boxed (by omega) ((keep_set _ (W.heap.size + 1) 0 _).boxed (by omega) ((keep_set _ W.heap.size 0 _).boxed (by omega) hw4))).set _
  have k4 : Keep (fun z => z ≠ W.heap.size ∧ z ≠ W.heap.size + 1 ∧ z ≠ W.heap.size + 1 + 1) w9 F := by
   rw [hF]
   exact (((((Keep.refl _ w9).setCell _ _ _ (fun h _ => h.1 rfl)).setCell _ _ _ (fun h _ => h.2.1 rfl)).setCell _ _ _ (fun h _ => h.2.1 rfl)).setCell _ _ _ (fun h _ => h.2.2 rfl)).drew
  rw [← hF]
  clear hF
  have hMF := hMw.keep k4 (fun D hD => by have := (hDs D hD).1; exact ⟨by omega, by omega, by omega⟩)
  have hnin : ∀ z, z < w6.heap.size → z ∉ Ds := fun z hz h => by have := (hDs z h).1; omega
  have hkk : Keep (fun q => q < W.heap.size) W F := ((Keep.of_below (fp := fun q => q < W.heap.size) hbW6 (fun _ h _ => h)).trans hPw.keep (fun q hq _ => ⟨by omega, by omega, by omega, by omega⟩)).trans k4 (fun q hq _ => ⟨by omega, by omega, by omega⟩)
  have hbe : (ee == 0) = OE.isSome := by
   rw [hOE2.out]
   by_cases he0 : ee = 0
   ·rw [if_pos he0, he0]; rfl
   ·rw [if_neg he0]; simpa using he0
  replace hbe := Lib.hid hbe
  clear y7 y50 y51 u2 u2f u30 u31 u30f u31f u4 u4f
  go_wp2
  refine leaves_marks Ds _ hMF (fun W' hk' => ⟨_, results_plan rfl rfl rfl rfl (hk'.boxed (hnin _ (by omega)) s4) (t4.keep hk' (hnin _ (by omega))) (hk'.boxed (hnin _ (by omega)) u5), ?_⟩)
  have hk2 := hkk.trans hk' (fun z hz _ => hnin z (by omega))
  have hlast : Keep (fun z => (fz z ∨ (.slice fa fl.length fc : Value).ownBlock = some z) ∨ (.slice la st.l.length lc : Value).ownBlock = some z) w9 W' := (k4.mono (fun z hz _ => by
   rcases hz with (h | h) | h
   ·rcases hPw.new z h with h1 | h1
    ·have := ho.lt z h1
     exact ⟨by omega, by omega, by omega⟩
    ·exact ⟨by omega, by omega, by omega⟩
   ·have := (hPw.frow.lt z h).1
    exact ⟨by omega, by omega, by omega⟩
   ·have := (hPw.lrow.lt z h).1
    exact ⟨by omega, by omega, by omega⟩)).trans hk' (fun z hz _ hD => by
   rcases hz with (h | h) | h
   ·exact (hDs z hD).2 h
   ·exact mark_not_row (hMw.2 z hD) hPw.frow h
   ·exact mark_not_row (hMw.2 z hD) hPw.lrow h)
  refine ⟨⟨hk2.os, hk2.tape, hk2.output, hk2.size, fun z hz => hk2.block z hz hz⟩, _, _, _, _, _, by rw [hbe.out], fun l r h => ?_⟩
  rw [hOE2.out] at h
  split at h
  ·injection h with h
   injection h with h1 h2
   subst h1
   subst h2
   refine ⟨by show _ = ((x.safe.gen + 1 : Nat) : Int); omega, row_base (hlast.ownsRow hPw.lrow (fun z e => .inr e)) (by omega), fun q => fz q ∨ (.slice fa fl.length fc : Value).ownBlock = some q, fun q h => .inl (hPw.sub q h), ?_, (hrp2.out.keep (hkA.mono (fun z hz _ => ?_)) (fun _ h => h)).keep (hlast.mono (fun z hz _ => .inl hz)) (fun _ h => h)⟩
   ·rintro q (h | h)
    ·have h1 := hPw.fzs q h
     exact ⟨(hPw.new q h).imp id (fun h => by omega), Nat.lt_of_lt_of_le h1.1 hlast.size, h1.2.2.2.2.1⟩
    ·have h1 := hPw.frow.lt q h
     exact ⟨.inr (by omega), Nat.lt_of_lt_of_le h1.2 hlast.size, fun e => rows_apart hPw.frow hPw.lrow (by decide) h e⟩
   ·rcases hz with h | h
    ·exact (hPWh.out.fzs z h).1
    ·exact (hPWh.out.frow.lt z h).2
  ·cases h
 have hlw : ∀ q, fsFp f m rp q → q < W.heap.size := ho.fpLt
 have hoX := ho6.keep (hXk.mono (fun q hq _ => by have := hlw q hq; exact ⟨by omega, by omega, by omega, by omega⟩))
 have hdX := hd6.keep (hXk.mono (fun q hq _ => by have := hd.lt q hq; exact ⟨by omega, by omega, by omega, by omega⟩))
 have hgetk := Pl.hget_rising hrise hkl
 have hsuc := Lib.hid (Pl.planK_succ (s := s) (fr := FR) hkl)
 have hkn := hh.name _ (List.getElem_mem hkl)
 have hkb := hh.blocks _ (List.getElem_mem hkl)
 have hko := hh.old _ (List.getElem_mem hkl)
 have hki := hh.inner _ (List.getElem_mem hkl)
 have hka := hh.added _ (List.getElem_mem hkl)
 obtain ⟨gN, rfl⟩ : ∃ gN, va6 = some ⟨gN, 0, none⟩ := by
  rcases hr6.2 with ⟨e, h0⟩ | ⟨g, cap, cur, e, _⟩
  ·omega
  ·injection e with e _ _
   exact ⟨g, e⟩
 have cN := hr6.cells (g := gN) rfl k (.string x.hand[k].1) (by simp [Pl.namesOf, hkl])
 rw [Addr.add_lit, Nat.zero_add] at cN
 replace cN := hXk.cell (b := gN) (by have := hr6.lt gN rfl; exact ⟨by omega, by omega, by omega, by omega⟩) cN
 rw [hst] at hsuc
 generalize x.hand[k] = pk at *
 obtain ⟨nm, yb, yo, ya⟩ := pk
 simp only at hgetk hkn hkb hko hki hka cN
 obtain ⟨ua, uc, hrun, hu⟩ := hand_at hoX.hand (show nm.size ≤ maxLen by unfold maxLen; omega) hgetk
 simp only at hrun hu
 obtain ⟨c0, c1, c2, c3, c4, c5⟩ := hoX.cells
 obtain ⟨XA, hXA⟩ : ∃ XA, XA = X.alloc (.cells #[.slice ua yb.length uc, .int .i64 (yo : Int), .string ya] 104) := ⟨_, rfl⟩
 have hbA : Below X.heap.size X XA := by rw [hXA]; exact (Below.refl _ _).alloc (Nat.le_refl _) _
 have hxA : Blk XA X.heap.size #[.slice ua yb.length uc, .int .i64 (yo : Int), .string ya] 104 := by rw [hXA]; exact Blk.new _ _ _
 have hzA : XA.heap.size = X.heap.size + 1 := by rw [hXA]; simp
 have hPA := hPW.keepAll (Keep.of_below (fp := fun q => q < X.heap.size) hbA (fun _ h _ => h))
 have hMA := hM.below hbA
 have hoA := hoX.beyond hbA
 have hdA := hdX.beyond hbA
 have huA := hu.keep (Keep.of_below (fp := rp) hbA (fun q hq _ => hoX.lt q hq)) (fun _ h => h)
 have hkk : (0 : Int) ≤ (k : Int) := by omega
 have hkk2 : (k : Int) < (x.hand.length : Int) := by omega
 have hk1 : Hid (k + 1 ≤ x.hand.length) := Lib.hid (by omega)
 have hwk : Hid (wrap64 ((k : Int) + 1) = ((k + 1 : Nat) : Int)) := Lib.hid (by have := hh.many; unfold wrap64; omega)
 have hms : Hid (x.hand.length - (intOf (Value.int IntKind.i64 ((k + 1 : Nat) : Int))).toNat < x.hand.length - (intOf (Value.int IntKind.i64 (k : Int))).toNat) := Lib.hid (by simp [intOf]; omega)
 replace hst := Lib.hid hst
 replace hh := Lib.hid hh
 replace hfl := Lib.hid hfl
 replace hbf := Lib.hid hbf
 replace hkb := Lib.hid hkb
 replace hzA := Lib.hid hzA
 replace hN := hN
 go_upto_region 8 with (fail)
 rw [← hXA]
 clear hXA c0 c1 c2 c3 c4 c5 hrun cN
 have x0 : XA.cell? ⟨X.heap.size, 0, none⟩ = some (.slice ua yb.length uc) := by simp [hxA.cell]
 have x1 : XA.cell? ⟨X.heap.size, 1, none⟩ = some (.int .i64 (yo : Int)) := by simp [hxA.cell]
 have x2 : XA.cell? ⟨X.heap.size, 2, none⟩ = some (.string ya) := by simp [hxA.cell]
 obtain ⟨XB, hXB⟩ : ∃ XB, XB = XA.alloc (.cells #[.string nm, .int .i64 ((yo : Int) + (ya.size : Int)), .slice ua yb.length uc] 76) := ⟨_, rfl⟩
 have hzB : Hid (XB.heap.size = XA.heap.size + 1) := Lib.hid (by rw [hXB]; simp)
 have hbB : Below XA.heap.size XA XB := by rw [hXB]; exact (Below.refl _ _).alloc (Nat.le_refl _) _
 have hxB : Blk XB XA.heap.size #[.string nm, .int .i64 ((yo : Int) + (ya.size : Int)), .slice ua yb.length uc] 76 := by rw [hXB]; exact Blk.new _ _ _
 have hxAB := hxA.keep (Keep.of_below (fp := fun q => q < XA.heap.size) hbB (fun _ h _ => h)) hxA.lt
 have hPB := hPA.keepAll (Keep.of_below (fp := fun q => q < XA.heap.size) hbB (fun _ h _ => h))
 have hMB := hMA.below hbB
 have hoB := hoA.beyond hbB
 have hdB := hdA.beyond hbB
 have huB := huA.keep (Keep.of_below (fp := rp) hbB (fun q hq _ => hoA.lt q hq)) (fun _ h => h)
 have hbXB : Below X.heap.size X XB := hbA.trans (hbB.mono (by have := hzA.out; omega))
 go_upto_region 9 with (fail)
 rw [← hXB]
 rw [hzA.out] at hxB ⊢
 clear hXB x0 x1 x2 hxA hPA hMA hoA hdA huA hbA hbB
 have x0 : XB.cell? ⟨X.heap.size, 0, none⟩ = some (.slice ua yb.length uc) := by simp [hxAB.cell]
 have x1 : XB.cell? ⟨X.heap.size, 1, none⟩ = some (.int .i64 (yo : Int)) := by simp [hxAB.cell]
 have x2 : XB.cell? ⟨X.heap.size, 2, none⟩ = some (.string ya) := by simp [hxAB.cell]
 by_cases ha0 : ya.size = 0
 case pos =>
  have he := list_of_size ha0
  have he2 : ya.toList.isEmpty = true := by simp [he]
  replace ha0 := Lib.hid ha0
  clear he
  have y1 : XB.cell? ⟨W.heap.size + 3, 1, none⟩ = some (.slice fa fl.length fc) := by simp [hPB.root.cell]
  have z0 : XB.cell? ⟨X.heap.size + 1, 0, none⟩ = some (.string nm) := by simp [hxB.cell]
  have z1 : XB.cell? ⟨X.heap.size + 1, 1, none⟩ = some (.int .i64 ((yo : Int) + (ya.size : Int))) := by simp [hxB.cell]
  have z2 : XB.cell? ⟨X.heap.size + 1, 2, none⟩ = some (.slice ua yb.length uc) := by simp [hxB.cell]
  have hXBz := hbXB.size
  have hApp := Lib.hid (fun (w1 : World) (tmp : Obj) (g cap : Nat) => hPB.app (w1 := w1) (tmp := tmp) (g := g) (cap := cap) (fz2 := fz) (by omega) (by omega) (by omega) (fun _ h => h) hPB.new hPB.fzs ⟨nm, (yo : Int) + (ya.size : Int), yb⟩ (.slice ua yb.length uc) (huB.keep (Keep.refl _ _) hPB.sub))
  have hnk : (fl.length + 1) * 48 ≤ 140737488355328 := by have := hh.out.many; omega
  have hsucE : Hid (Pl.planK s FR (x.hand.take (k + 1)) = some ⟨st.fr, st.l, st.fs ++ [⟨nm, (yo : Int) + (ya.size : Int), yb⟩]⟩) := Lib.hid (by
   rw [hsuc.out]
   unfold Pl.planStep
   simp only [Option.bind_some]
   rw [if_pos ha0.out]
   simp [Pl.HF.size])
  clear hstn x0 x1
  go_wp2_with (at_builtin; go_must (refine wpList_app1 (by rfl) _ _ 69 (by rfl) w6.heap.size 76 (.agg #[.string .empty, .int .i64 0, .slice none 0 0]) 3 48 Tryz.underlying69 info_file4 rfl (by decide) _ fl.length _ _ hPB.frow (by omega) (by rfl) #[.string nm, .int .i64 ((yo : Int) + (ya.size : Int)), .slice ua yb.length uc] 76 (by rfl) rfl (by simp [Value.oneCell']) hnk (by decide) ?_; intro g cap w1 hown' hgrow hat hg; have ⟨v1, hX2⟩ := hApp.out w1 _ g cap hown' hgrow hat hg; have cv1 : w1.cell? ⟨W.heap.size + 3, 1, none⟩ = some (.slice fa fl.length fc) := (by simp [v1.cell]); have fv1 := v1.frozen 1))
  obtain ⟨hPX, kX⟩ := hX2 _ rfl
  have hMX := hMB.keep kX (fun D hD => ⟨by have := (hDs D hD).1; omega, mark_not_row (hMB.2 D hD) hPB.frow⟩)
  refine ⟨⟨k + 1, hk1.out, Ds, _, hsucE.out, fz, ⟨_, _, _, _, hPX⟩, hMX, hDs, hwk.out, rfl⟩, ?_⟩
  rw [hwk.out]
  exact hms.out
 case neg =>
  have he := list_ne_of_size ha0
  have he2 : ya.toList.isEmpty = false := by simpa using he
  clear he
  obtain ⟨q, hq⟩ : ∃ q, q = yo / 256 := ⟨_, rfl⟩
  have hqb : q ≤ yb.length := by have := hkb.out; omega
  have hqi : (yo : Int) / 256 = (q : Int) := by omega
  have hq1 : (0 : Int) ≤ (q : Int) := by omega
  have huc : yb.length ≤ uc := by obtain ⟨_, _, e, h1, _⟩ := huB.1; injection e with _ _ e; omega
  have hq2 : (q : Int) ≤ (uc : Int) := by omega
  have PCl := Lib.hid (cloneI_any (yb.take q) (.slice ua q uc) XB (huB.1.upto hqb) (by have := hkb.out; rw [List.length_take]; omega))
  replace hq := Lib.hid hq
  have z2 : XB.cell? ⟨X.heap.size + 1, 2, none⟩ = some (.slice ua yb.length uc) := by simp [hxB.cell]
  go_upto_region 11 with (fail)
  go_wp2_with (go_at_call 69; refine PCl.out.mono ?_; rintro e XC ⟨vb, rfl, hrb, hbC⟩; obtain ⟨ba, bc, rfl⟩ := ownsRow_form hrb; have zC2 := (hbC.cell (p := ⟨X.heap.size + 1, 2, none⟩) hxB.lt).trans z2; have zf2 : XC.frozen? ⟨X.heap.size + 1, 2, none⟩ = false := (hxB.keep (Keep.of_below (fp := fun q => q < XB.heap.size) hbC (fun _ h _ => h)) hxB.lt).frozen 2)
  have hlq : (yb.take q).length = q := by rw [List.length_take]; omega
  obtain ⟨XD, hXD⟩ : ∃ XD, XD = XC.setCell ⟨X.heap.size + 1, 2, none⟩ (.slice ba q bc) := ⟨_, rfl⟩
  rw [← hXD]
  have hbz := hbXB.size
  have hbz1 : XB.heap.size = X.heap.size + 2 := by have h1 := hzB.out; have h2 := hzA.out; omega
  have hkC : Keep (fun z => z < XB.heap.size ∧ z ≠ X.heap.size + 1) XB XD := by rw [hXD]; exact (Keep.of_below (fp := fun z => z < XB.heap.size ∧ z ≠ X.heap.size + 1) hbC (fun _ h _ => h.1)).setCell _ _ _ (fun h _ => h.2 rfl)
  have hkX : Keep (fun z => z < X.heap.size) X XD := (Keep.of_below (fp := fun z => z < X.heap.size) hbXB (fun _ h _ => h)).trans hkC (fun z hz _ => ⟨by omega, by omega⟩)
  have hPD := hPW.keepAll hkX
  have hMD := hM.keep hkX (fun D hD => hM.lt D hD)
  have hoD := hoX.keep (hkX.mono (fun z hz _ => hoX.fpLt z hz))
  have hdD := hdX.keep (hkX.mono (fun z hz _ => hdX.lt z hz))
  have huD := hu.keep (hkX.mono (fun z hz _ => hoX.lt z hz)) (fun _ h => h)
  have hx10 : Blk XD X.heap.size #[.slice ua yb.length uc, .int .i64 (yo : Int), .string ya] 104 := hxAB.keep hkC ⟨by omega, by omega⟩
  have hx11 : Blk XD (X.heap.size + 1) #[.string nm, .int .i64 ((yo : Int) + (ya.size : Int)), .slice ba q bc] 76 := by
   rw [hXD]
   have := (hxB.keep (Keep.of_below (fp := fun z => z < XB.heap.size) hbC (fun _ h _ => h)) hxB.lt).set 2 (.slice ba q bc)
   simpa using this
  have hrD : XD.ownsRow w6.heap.size 3 1 (.slice ba q bc) (yb.take q).length (icells4 (yb.take q)) := by
   rw [hXD]
   rw [hlq] at hrb ⊢
   have h1 : XC.ownsRow XB.heap.size 3 1 (.slice ba q bc) q (icells4 (yb.take q)) := by have := hrb; unfold IOwn at this; rw [hlq] at this; exact this
   exact row_base ((keep_set XC (X.heap.size + 1) 2 (.slice ba q bc)).ownsRow h1 (fun z e => by have := (h1.lt z e).1; omega)) (by omega)
  have hvb : ∀ z, (.slice ba q bc : Value).ownBlock = some z → XB.heap.size ≤ z := fun z e => by
   have h1 : XC.ownsRow XB.heap.size 3 1 (.slice ba (yb.take q).length bc) (yb.take q).length (icells4 (yb.take q)) := hrb
   exact (h1.lt z (by rw [hlq]; exact e)).1
  have hbs : (Pl.bytesOf s ⟨yb, yo, ya⟩ q yb.length).size ≤ 4194304 := by
   have h1 := Pl.bytesL_length hdD.wf ((yb.take yb.length).drop q) (fun z hz => by
    have h2 := hki z (List.mem_of_mem_take (List.mem_of_mem_drop hz))
    rw [hN.out]
    exact ⟨by omega, h2.2⟩)
   have h3 := hkb.out
   unfold Pl.bytesOf
   rw [ByteArray.size_extract]
   have h4 : ((yb.take yb.length).drop q).length ≤ yb.length := by rw [List.length_drop, List.length_take]; omega
   refine Nat.le_trans (Nat.sub_le _ _) (Nat.le_trans (Nat.min_le_left _ _) (Nat.le_trans (Nat.min_le_left _ _) ?_))
   show (Pl.bytesL s ((yb.take yb.length).drop q)).length ≤ _
   rw [h1]
   omega
  have hBd : Below XD.heap.size XD XD.drew := (Below.refl _ _).drew
  have PBy := Lib.hid (bytes_any (hoD.beyond hBd) (hdD.beyond hBd) hup ⟨yb, yo, ya⟩ (.slice ua yb.length uc) (huD.keep (Keep.of_below (fp := rp) hBd (fun z hz _ => hoD.lt z hz)) (fun _ h => h)).1 q yb.length hqb (Nat.le_refl _) (by show q * 256 ≤ yo; have := hq.out; omega) (by show yo ≤ _; omega) (by have := hkb.out; show yb.length ≤ _; omega) (by rw [hN.out]; exact hN2) (fun z hz => by rw [hN.out]; have := hki z hz; exact ⟨by omega, this.2⟩))
  simp only at PBy
  have hsumb : (Pl.bytesOf s ⟨yb, yo, ya⟩ q yb.length).size + ya.size ≤ 9223372036854775807 := by omega
  have hsumb2 : ¬ 9223372036854775807 < (Pl.bytesOf s ⟨yb, yo, ya⟩ q yb.length).size + ya.size := by omega
  have hnew : Hid (Pl.newOf s ⟨yb, yo, ya⟩ = Pl.piecesOf (Pl.bytesOf s ⟨yb, yo, ya⟩ q yb.length ++ ya)) := Lib.hid (by unfold Pl.newOf; rw [hq.out])
  have hSSz : (Pl.bytesOf s ⟨yb, yo, ya⟩ q yb.length ++ ya).size ≤ 9223372036854775807 := by rw [ByteArray.size_append]; exact hsumb
  have w0 : XD.cell? ⟨X.heap.size, 0, none⟩ = some (.slice ua yb.length uc) := by simp [hx10.cell]
  have w1 : XD.cell? ⟨X.heap.size, 1, none⟩ = some (.int .i64 (yo : Int)) := by simp [hx10.cell]
  have w2 : XD.cell? ⟨X.heap.size, 2, none⟩ = some (.string ya) := by simp [hx10.cell]
  have hxl := hx10.lt
  have hcl := Lib.hid (fun (w : World) (hb : Below XD.heap.size XD w) => (⟨(hb.cell (p := ⟨X.heap.size, 0, none⟩) hxl).trans w0, (hb.cell (p := ⟨X.heap.size, 1, none⟩) hxl).trans w1, (hb.cell (p := ⟨X.heap.size, 2, none⟩) hxl).trans w2⟩ : w.cell? ⟨X.heap.size, 0, none⟩ = some (.slice ua yb.length uc) ∧ w.cell? ⟨X.heap.size, 1, none⟩ = some (.int .i64 (yo : Int)) ∧ w.cell? ⟨X.heap.size, 2, none⟩ = some (.string ya)))
  generalize Pl.bytesOf s ⟨yb, yo, ya⟩ q yb.length = BS at *
  have hvb2 : ∀ z, (.slice ba q bc : Value).ownBlock = some z → X.heap.size + 2 ≤ z := fun z e => by have := hvb z e; omega
  have hXD1 : X.heap.size + 2 ≤ XD.heap.size := by have := hkC.size; omega
  clear hXD hbz hbz1 hkC hbC zC2 zf2 PCl hxAB hxB hPB hMB hoB hdB huB x0 x1 x2 z2
  go_region_held3 (fun W' => W'.cell? ⟨X.heap.size, 0, none⟩ = some (.slice ua yb.length uc) ∧ W'.cell? ⟨X.heap.size, 1, none⟩ = some (.int .i64 (yo : Int)) ∧ W'.cell? ⟨X.heap.size, 2, none⟩ = some (.string ya)) (first | exact kB | exact kA | exact ⟨w0, w1, w2⟩ | go_keep)
   (first
   | (go_at_call 61; refine PBy.out.mono ?_; rintro e XE ⟨rfl, bE⟩; have bA := hBd.trans (bE.mono hBd.size); have kA := hcl.out XE bA)
   | (go_at_call 83; refine (callsIn_wide.1 (pieces_in 5 _ _)).mono ?_; rintro e XF ⟨rfl, rfl⟩; have kB := hcl.out _ (bA.alloc bA.size (.cells #[.string (BS ++ ya)] 9))))
  have bP := Boxed.new XE 9 (.string (BS ++ ya))
  have hbF : Below XD.heap.size XD (XE.alloc (.cells #[.string (BS ++ ya)] 9)) := bA.alloc bA.size _
  have hzF : (XE.alloc (.cells #[.string (BS ++ ya)] 9)).heap.size = XE.heap.size + 1 := by simp
  generalize XE.alloc (.cells #[.string (BS ++ ya)] 9) = XF at bP hbF hzF ⊢
  have hEz := bA.size
  have hkF : Keep (fun z => z < XD.heap.size) XD XF := Keep.of_below hbF (fun _ h _ => h)
  have hPF := hPD.keepAll hkF
  have hMF := hMD.below hbF
  have hoF := hoD.beyond hbF
  have hdF := hdD.beyond hbF
  have hx11F := hx11.keep hkF hx11.lt
  have hrF := hkF.ownsRow hrD (fun z e => (hrD.lt z e).2)
  have hXzl : X.heap.size ≤ XD.heap.size := hkX.size
  have hq2F : Boxed XF W.heap.size 122 (.slice none 0 0) := hPF.keep.boxed (fp := fun z => z < w6.heap.size ∧ z ≠ w3.heap.size ∧ z ≠ w3.heap.size + 1 ∧ z ≠ W.heap.size + 3) ⟨by omega, by omega, by omega, by omega⟩ q2
  have hq3F : Blk XF (W.heap.size + 1) #[.int .u64 0, .slice none 0 0] 71 := (hPF.keep.block (W.heap.size + 1) ⟨by omega, by omega, by omega, by omega⟩ (by omega)).trans q3
  have hq4F : Boxed XF (W.heap.size + 1 + 1) 4 (.bool false) := (hPF.keep.block (W.heap.size + 1 + 1) ⟨by omega, by omega, by omega, by omega⟩ (by omega)).trans q4
  have hC : PlC XE.heap.size w3.heap.size (w3.heap.size + 1) (X.heap.size + 1) fz (.slice la st.l.length lc) (.slice ba q bc) :=
   ⟨by omega, by omega, by omega, by omega, by omega, by omega, fun z hz => by
    obtain ⟨a1, a2, a3, a4, a5, a6⟩ := hPW.fzs z hz
    exact ⟨by omega, a2, a3, by omega, a5, fun e => by have := hvb2 z e; omega⟩⟩
  have hI0 : PlI XE.heap.size w3.heap.size (w3.heap.size + 1) (X.heap.size + 1) w6.heap.size fz (.slice la st.l.length lc) (.slice ba q bc) nm ((yo : Int) + (ya.size : Int)) XF st.fr st.l (yb.take q) (fun z => z < XE.heap.size) XF :=
   ⟨fun _ h => h, ⟨_, hPF.box6, hPF.free⟩, ⟨_, hPF.box7, hPF.lrow, fun z e => ⟨by have := (hPD.lrow.lt z e).2; omega, .inl e⟩⟩, ⟨_, hx11F, hrF, fun z e => ⟨by have := (hrD.lt z e).2; omega, .inl e⟩⟩, Keep.refl _ _⟩
  clear PBy hcl hBd bA kA kB w0 w1 w2 hx10 hx11 hrD hrb hPD hMD hoD hdD hkX bE hbF hkF hx11F hrF
  go_wp2_with fail
  refine wpIn_wide.1 (wpIn_rangeG (n := 8) (F := Fence.wide) rfl (by omega) (gf := 116) (lb := #[.pointer (some ⟨XE.heap.size, 0, none⟩)]) rfl trivial (enters_of Tryz.func116 (by kernel_rfl) rfl)
   (pieces1_seq 7 XE.heap.size (BS ++ ya) hSSz XF bP) (fun _ => rfl) (by rintro z rfl; omega) (by rintro z h; exact h.elim)
   (fun pre fp Y => pre.length ≤ st.fr.length ∧ PlI XE.heap.size w3.heap.size (w3.heap.size + 1) (X.heap.size + 1) w6.heap.size fz (.slice la st.l.length lc) (.slice ba q bc) nm ((yo : Int) + (ya.size : Int)) XF (st.fr.drop pre.length) (st.l ++ Pl.zipB st.fr pre) (yb.take q ++ st.fr.take pre.length) fp Y)
   (fun c pre fp Y => c = .ret ∧ st.fr.length < pre.length ∧ (∀ z, z < XE.heap.size → fp z) ∧ Boxed Y W.heap.size 122 (.slice none 0 0) ∧ Blk Y (W.heap.size + 1) #[.int .u64 0, .slice none 0 0] 71 ∧ Boxed Y (W.heap.size + 1 + 1) 4 (.bool false) ∧
    Keep (fun z => z < XE.heap.size ∧ z ≠ w3.heap.size ∧ z ≠ w3.heap.size + 1 ∧ z ≠ X.heap.size + 1 ∧ (.slice la st.l.length lc : Value).ownBlock ≠ some z ∧ (.slice ba q bc : Value).ownBlock ≠ some z ∧ z ≠ W.heap.size ∧ z ≠ W.heap.size + 1 ∧ z ≠ W.heap.size + 1 + 1) XF Y)
   (fun pre y a' fp Y => (pre.length ≤ st.fr.length ∧ PlI XE.heap.size w3.heap.size (w3.heap.size + 1) (X.heap.size + 1) w6.heap.size fz (.slice la st.l.length lc) (.slice ba q bc) nm ((yo : Int) + (ya.size : Int)) XF (st.fr.drop pre.length) (st.l ++ Pl.zipB st.fr pre) (yb.take q ++ st.fr.take pre.length) fp Y) ∧ a' = { tmps := #[.pointer (some ⟨f, 0, none⟩), undef, .pointer (some ⟨W.heap.size, 0, none⟩), .pointer (some ⟨W.heap.size + 1, 0, none⟩), .pointer (some ⟨W.heap.size + 1 + 1, 0, none⟩), .pointer (some ⟨W.heap.size + 3, 0, none⟩), .pointer (some ⟨w3.heap.size, 0, none⟩), .pointer (some ⟨w3.heap.size + 1, 0, none⟩), undef, .string nm, .pointer (some ⟨X.heap.size, 0, none⟩), .pointer (some ⟨X.heap.size + 1, 0, none⟩), .int .i64 (q : Int), .string y, undef, undef, .pointer (some ⟨f, 0, none⟩), .pointer (some ⟨f, 0, none⟩), .pointer (some ⟨f, 2, none⟩), .pointer (some ⟨f, 2, none⟩), .int .u64 (x.safe.gen : Int), .int .u64 ((x.safe.gen : Int) + 1), .agg #[.int .u64 ((x.safe.gen : Int) + 1), .slice none 0 0], .pointer (some ⟨f, 0, none⟩), .func (.func 97) #[] #[.pointer (some ⟨W.heap.size + 3 + 1, 0, none⟩)], .slice va3 FR.length vc3, .pointer (some ⟨f, 0, none⟩), .slice (some ⟨gN, 0, none⟩) x.hand.length vc6, .int .i64 (x.hand.length : Int), .int .i64 (k : Int), .bool true, .pointer (some ⟨gN, k, none⟩), .string nm, .pointer (some ⟨f, 0, none⟩), .pointer (some ⟨f, 0, none⟩), .pointer (some ⟨f, 4, none⟩), .map (some m), .string nm, .agg #[.slice ua yb.length uc, .int .i64 (yo : Int), .string ya], .string nm, .pointer (some ⟨X.heap.size, 1, none⟩), .int .i64 (yo : Int), .pointer (some ⟨X.heap.size, 2, none⟩), .string ya, .int .i64 (ya.size : Int), .int .i64 ((yo : Int) + (ya.size : Int)), .pointer (some ⟨X.heap.size, 0, none⟩), .slice ua yb.length uc, .agg #[.string nm, .int .i64 ((yo : Int) + (ya.size : Int)), .slice ua yb.length uc], .pointer (some ⟨X.heap.size, 2, none⟩), .string ya, .bool true, .pointer (some ⟨X.heap.size, 1, none⟩), .int .i64 (yo : Int), .int .i64 (q : Int), .pointer (some ⟨X.heap.size, 0, none⟩), .slice ua yb.length uc, .int .i64 (q : Int), .slice ua q uc, .slice ba q bc, .pointer (some ⟨X.heap.size + 1, 2, none⟩), .pointer (some ⟨f, 0, none⟩), .agg #[.slice ua yb.length uc, .int .i64 (yo : Int), .string ya], .int .i64 (q : Int), .pointer (some ⟨X.heap.size, 0, none⟩), .slice ua yb.length uc, .int .i64 (yb.length : Int), .string BS, .pointer (some ⟨X.heap.size, 2, none⟩), .string ya, .string (BS ++ ya), .func (.func 116) #[] #[.pointer (some ⟨XE.heap.size, 0, none⟩)], .string y, undef, undef, undef, undef, undef, undef, undef, undef, undef, undef, undef, undef, undef, undef, undef, undef, undef, undef, undef, undef, undef, undef, v95, v96, v97, v98, v99, v100, v101, undef, undef, undef, undef, undef, undef, undef, undef, undef, undef, undef, undef, undef, undef], defers := [] })
   ?_ ?_ ?_ (fun z => z < XE.heap.size) ?_ ?_ ?_ ?assign ?body ?done ?stop)
  case assign =>
   intro l' pre y fp Y K hI hlt hsp hK2
   unfold encP
   rw [fold1]
   simp only [List.setIfInBounds_toArray, List.set_cons_succ, List.set_cons_zero]
   gi_wp2
   exact hK2 _ fp Y (Step.refl hlt) ⟨hI, rfl⟩
  case body =>
   rintro l' pre y a' fp Y ⟨⟨hpl, hf, ⟨v6, h6, hi6⟩, ⟨v7, h7, hl7, hq7⟩, ⟨v11, h11, hb11, hq11⟩, hkY⟩, rfl⟩ hlt hsp
   obtain ⟨fa6, fc6, rfl, _⟩ := id hi6.1
   obtain ⟨fa7, fc7, rfl⟩ := ownsRow_form hl7
   obtain ⟨fa11, fc11, rfl⟩ := ownsRow_form hb11
   have hYz := hkY.size
   have d6 := h6.cell
   have d7 := h7.cell
   have lf7 := h7.frozen
   cases hdr : st.fr.drop pre.length with
   | nil =>
    rw [hdr] at d6
    have hpe : pre.length = st.fr.length := by
     have := congrArg List.length hdr
     rw [List.length_drop] at this
     simp at this
     omega
    have hg2 : ∀ z, W.heap.size ≤ z → z < W.heap.size + 3 → z < XE.heap.size ∧ z ≠ w3.heap.size ∧ z ≠ w3.heap.size + 1 ∧ z ≠ X.heap.size + 1 ∧ (.slice la st.l.length lc : Value).ownBlock ≠ some z ∧ (.slice ba q bc : Value).ownBlock ≠ some z := fun z h1 h2 => ⟨by omega, by omega, by omega, by omega, fun e => by have := (hPW.lrow.lt z e).1; omega, fun e => by have := hvb2 z e; omega⟩
    have e2 := hkY.boxed (hg2 W.heap.size (by omega) (by omega)) hq2F
    have e3 := hq3F.keep hkY (hg2 (W.heap.size + 1) (by omega) (by omega))
    have e4 := hkY.boxed (hg2 (W.heap.size + 1 + 1) (by omega) (by omega)) hq4F
    have ec2 := e2.cell
    have ef2 := e2.frozen
    have ec30 : Y.cell? ⟨W.heap.size + 1, 0, none⟩ = some (.int .u64 0) := by simp [e3.cell]
    have ec31 : Y.cell? ⟨W.heap.size + 1, 1, none⟩ = some (.slice none 0 0) := by simp [e3.cell]
    have ef30 := e3.frozen 0
    have ef31 := e3.frozen 1
    have ec4 := e4.cell
    have ef4 := e4.frozen
    have s4 : Boxed ((((Y.setCell ⟨W.heap.size, 0, none⟩ (.slice none 0 0)).setCell ⟨W.heap.size + 1, 0, none⟩ (.int .u64 0)).setCell ⟨W.heap.size + 1, 1, none⟩ (.slice none 0 0)).setCell ⟨W.heap.size + 1 + 1, 0, none⟩ (.bool false)) W.heap.size 122 (.slice none 0 0) :=
     (keep_set _ (W.heap.size + 1 + 1) 0 _).boxed (by omega) ((keep_set _ (W.heap.size + 1) 1 _).boxed (by omega) ((keep_set _ (W.heap.size + 1) 0 _).boxed (by omega) (e2.set _)))
    have t4 : Blk ((((Y.setCell ⟨W.heap.size, 0, none⟩ (.slice none 0 0)).setCell ⟨W.heap.size + 1, 0, none⟩ (.int .u64 0)).setCell ⟨W.heap.size + 1, 1, none⟩ (.slice none 0 0)).setCell ⟨W.heap.size + 1 + 1, 0, none⟩ (.bool false)) (W.heap.size + 1) #[.int .u64 0, .slice none 0 0] 71 := by
     have h1 := ((e3.keep (keep_set Y W.heap.size 0 (.slice none 0 0)) (by omega)).set 0 (.int .u64 0)).set 1 (.slice none 0 0)
     have h2 := h1.keep (keep_set _ (W.heap.size + 1 + 1) 0 (.bool false)) (by omega)
     simpa using h2
    have u4 : Boxed ((((Y.setCell ⟨W.heap.size, 0, none⟩ (.slice none 0 0)).setCell ⟨W.heap.size + 1, 0, none⟩ (.int .u64 0)).setCell ⟨W.heap.size + 1, 1, none⟩ (.slice none 0 0)).setCell ⟨W.heap.size + 1 + 1, 0, none⟩ (.bool false)) (W.heap.size + 1 + 1) 4 (.bool false) :=
     ((keep_set _ (W.heap.size + 1) 1 _).boxed (by omega) ((keep_set _ (W.heap.size + 1) 0 _).boxed (by omega) ((keep_set _ W.heap.size 0 _).boxed (by omega) e4))).set _
    have k4 : Keep (fun z => z ≠ W.heap.size ∧ z ≠ W.heap.size + 1 ∧ z ≠ W.heap.size + 1 + 1) Y ((((Y.setCell ⟨W.heap.size, 0, none⟩ (.slice none 0 0)).setCell ⟨W.heap.size + 1, 0, none⟩ (.int .u64 0)).setCell ⟨W.heap.size + 1, 1, none⟩ (.slice none 0 0)).setCell ⟨W.heap.size + 1 + 1, 0, none⟩ (.bool false)) :=
     ((((Keep.refl _ Y).setCell _ _ _ (fun h _ => h.1 rfl)).setCell _ _ _ (fun h _ => h.2.1 rfl)).setCell _ _ _ (fun h _ => h.2.1 rfl)).setCell _ _ _ (fun h _ => h.2.2 rfl)
    have z4 : ((((Y.setCell ⟨W.heap.size, 0, none⟩ (.slice none 0 0)).setCell ⟨W.heap.size + 1, 0, none⟩ (.int .u64 0)).setCell ⟨W.heap.size + 1, 1, none⟩ (.slice none 0 0)).setCell ⟨W.heap.size + 1 + 1, 0, none⟩ (.bool false)).heap.size = Y.heap.size := by simp [World.setCell]
    have hlp : st.fr.length < (pre ++ [y]).length := by rw [List.length_append, List.length_singleton, hpe]; omega
    have hst4 : Step fp fp Y ((((Y.setCell ⟨W.heap.size, 0, none⟩ (.slice none 0 0)).setCell ⟨W.heap.size + 1, 0, none⟩ (.int .u64 0)).setCell ⟨W.heap.size + 1, 1, none⟩ (.slice none 0 0)).setCell ⟨W.heap.size + 1 + 1, 0, none⟩ (.bool false)) :=
     ⟨k4.mono (fun z hz _ => ⟨fun e => hz (hf z (by omega)), fun e => hz (hf z (by omega)), fun e => hz (hf z (by omega))⟩), fun z hz => .inl hz, fun z hz => by rw [z4]; exact hlt z hz⟩
    have hkk4 := (hkY.mono (fp' := fun z => z < XE.heap.size ∧ z ≠ w3.heap.size ∧ z ≠ w3.heap.size + 1 ∧ z ≠ X.heap.size + 1 ∧ (.slice la st.l.length lc : Value).ownBlock ≠ some z ∧ (.slice ba q bc : Value).ownBlock ≠ some z ∧ z ≠ W.heap.size ∧ z ≠ W.heap.size + 1 ∧ z ≠ W.heap.size + 1 + 1) (fun z hz _ => ⟨hz.1, hz.2.1, hz.2.2.1, hz.2.2.2.1, hz.2.2.2.2.1, hz.2.2.2.2.2.1⟩)).trans k4 (fun z hz _ => hz.2.2.2.2.2.2)
    have hend := Lib.hid (And.intro hlp (And.intro s4 (And.intro t4 (And.intro u4 (And.intro hkk4 hst4)))))
    replace hpe := Lib.hid hpe
    clear hdr s4 t4 u4 k4 z4 hlp hst4 hkk4
    gi_wp2
    obtain ⟨p1, p2, p3, p4, p5, p6⟩ := hend.out
    exact ⟨fp, ⟨rfl, p1, hf, p2, p3, p4, p5⟩, p6⟩
   | cons a r =>
    have ha32 : 32 ≤ a := by
     have h1 : a ∈ st.fr := List.mem_of_mem_drop (by rw [hdr]; exact List.mem_cons_self)
     rw [Pl.planK_fr _ _ hst.out] at h1
     have h2 := List.mem_of_mem_drop h1
     rw [← hFR.out] at h2
     exact (Pl.freeU_pos h2).1
    obtain ⟨an, rfl⟩ : ∃ an : Nat, a = (an : Int) := ⟨a.toNat, by omega⟩
    have hplt : pre.length < st.fr.length := by
     have := congrArg List.length hdr
     rw [List.length_drop] at this
     simp at this
     omega
    have hdc := List.drop_eq_getElem_cons hplt
    rw [hdr] at hdc
    injection hdc with hget hdr1
    have hkl' := (Pl.planK_len _ _ hst.out).2
    have hzl := Pl.zipB_length (fr := st.fr) (ps := pre) hpl
    have hnL : ((st.l ++ Pl.zipB st.fr pre).length + 1) * 24 ≤ 140737488355328 := by rw [List.length_append, hzl]; omega
    have hnB : ((yb.take q ++ st.fr.take pre.length).length + 1) * 8 ≤ 140737488355328 := by
     have := hkb.out
     rw [List.length_append, List.length_take, List.length_take]
     omega
    have hfin : Hid (st.l ++ Pl.zipB st.fr (pre ++ [y]) = (st.l ++ Pl.zipB st.fr pre) ++ [(an, y)] ∧ yb.take q ++ st.fr.take (pre ++ [y]).length = (yb.take q ++ st.fr.take pre.length) ++ [(an : Int)] ∧ st.fr.drop (pre ++ [y]).length = r ∧ (pre ++ [y]).length ≤ st.fr.length) := Lib.hid (by
     rw [List.length_append, List.length_singleton, Pl.zipB_snoc hplt, List.take_succ_eq_append_getElem hplt, ← hget, ← hdr1, ← List.append_assoc, ← List.append_assoc]
     exact ⟨rfl, rfl, rfl, by omega⟩)
    rw [hdr] at d6 hi6 h6
    clear ha32 hplt hget hdr1 hkl' hzl hdr
    generalize hLL : st.l ++ Pl.zipB st.fr pre = LL at *
    generalize hBL : yb.take q ++ st.fr.take pre.length = BL at *
    replace hLL := Lib.hid hLL
    replace hBL := Lib.hid hBL
    have hput := Lib.hid (fun (w1 : World) (tmp : Obj) (g cap : Nat) => PlI.putL hC hlt (by omega : XE.heap.size ≤ Y.heap.size) hf h6 hi6 h7 hl7 hq7 h11 hb11 hq11 hkY (w1 := w1) (tmp := tmp) (g := g) (cap := cap) (an, y))
    obtain ⟨g6, o6, rfl, hz6', hl6, hc6, hcap1, hcap2, hrest⟩ := hi6.rest
    obtain ⟨e1, e2, e3, e4, e5, e6⟩ := hC.fz g6 hz6'
    have hg7 : (.slice fa7 LL.length fc7 : Value).ownBlock ≠ some g6 := fun e => by
     rcases (hq7 g6 e).2 with h | h
     ·exact e5 h
     ·omega
    have h6n := h6.not_row (by decide) hl7
    have hkeep6 : Hid (∀ W', Keep (fun z => z ≠ w3.heap.size + 1 ∧ (.slice fa7 LL.length fc7 : Value).ownBlock ≠ some z) Y W' → W'.cell? ⟨w3.heap.size, 0, none⟩ = some (.slice (some ⟨g6, o6, none⟩) ((an : Int) :: r).length fc6) ∧ W'.cell? ⟨g6, o6, none⟩ = some (.int .i64 (an : Int))) := Lib.hid (fun W' hk => ⟨(hk.boxed ⟨by omega, fun e => h6n e.symm⟩ h6).cell, hk.cell ⟨e3, hg7⟩ hc6⟩)
    have dA := hkeep6.out ((Y.alloc (.cells #[.int .i64 (an : Int), .string y] 140)).drew) ((Keep.of_below (fp := fun z => z ≠ w3.heap.size + 1 ∧ (.slice fa7 LL.length fc7 : Value).ownBlock ≠ some z ∧ z < Y.heap.size) ((Below.refl Y.heap.size Y).alloc (Nat.le_refl _) _) (fun _ h _ => h.2.2)).drew.mono (fun z hz hl => ⟨hz.1, hz.2, hl⟩))
    obtain ⟨dA6, dAc⟩ := dA
    have dA7 := (h7.alloc (.cells #[.int .i64 (an : Int), .string y] 140)).cell
    gi_wp2
    refine wpIn_region_any (by kernel_rfl) (wpAnyIn_of_wpAny (by rintro ⟨a, w, h⟩; exact h) (by kernel_rfl) _ _ _ _ (wpAny_of_held (S := fun W' => W'.cell? ⟨w3.heap.size, 0, none⟩ = some (.slice (some ⟨g6, o6, none⟩) ((an : Int) :: r).length fc6) ∧ W'.cell? ⟨g6, o6, none⟩ = some (.int .i64 (an : Int))) _ _ _ _ ?_))
    have hS0 : Y.drew.cell? ⟨w3.heap.size, 0, none⟩ = some (.slice (some ⟨g6, o6, none⟩) ((an : Int) :: r).length fc6) ∧ Y.drew.cell? ⟨g6, o6, none⟩ = some (.int .i64 (an : Int)) := ⟨d6, hc6⟩
    change wpAnyH _ _ _ _ _ _ _ _ Y.drew
    refine wpAnyH_take (i := 1) (v := ?_) rfl (by kernel_rfl) (by kernel_rfl) (by kernel_rfl) (fun _ _ _ h => h) (Or.inl ⟨by rfl, ?_⟩) (by assumption) ?_
    rotate_left 1
    ·intro w hSw
     try dsimp only at hSw
     obtain ⟨hs1, hs2⟩ := hSw
     go_simp
     try with_reducible rfl
    try simp only [Act.put, List.setIfInBounds_toArray, List.set_cons_zero, List.set_cons_succ]
    refine wpAnyH_take (i := 2) (v := ?_) rfl (by kernel_rfl) (by kernel_rfl) (by kernel_rfl) (fun _ _ _ h => h) (Or.inl ⟨by rfl, ?_⟩) (by assumption) ?_
    rotate_left 1
    ·intro w hSw
     try dsimp only at hSw
     obtain ⟨hs1, hs2⟩ := hSw
     go_simp
     try with_reducible rfl
    try simp only [Act.put, List.setIfInBounds_toArray, List.set_cons_zero, List.set_cons_succ]
    refine wpAnyH_take (i := 3) (v := ?_) rfl (by kernel_rfl) (by kernel_rfl) (by kernel_rfl) (fun _ _ _ h => h) (Or.inl ⟨by rfl, ?_⟩) (by assumption) ?_
    rotate_left 1
    ·intro w hSw
     try dsimp only at hSw
     obtain ⟨hs1, hs2⟩ := hSw
     go_simp
     try with_reducible rfl
    try simp only [Act.put, List.setIfInBounds_toArray, List.set_cons_zero, List.set_cons_succ]
    refine wpAnyH_take (i := 4) (v := ?_) rfl (by kernel_rfl) (by kernel_rfl) (by kernel_rfl) (fun _ _ _ h => h) (Or.inl ⟨by rfl, ?_⟩) (by assumption) ?_
    rotate_left 1
    ·intro w hSw
     try dsimp only at hSw
     obtain ⟨hs1, hs2⟩ := hSw
     go_simp
     try with_reducible rfl
    try simp only [Act.put, List.setIfInBounds_toArray, List.set_cons_zero, List.set_cons_succ]
    refine wpAnyH_take (i := 5) (v := ?_) rfl (by kernel_rfl) (by kernel_rfl) (by kernel_rfl) (fun _ _ _ h => h) (Or.inl ⟨by rfl, ?_⟩) (by assumption) ?_
    rotate_left 1
    ·intro w hSw
     try dsimp only at hSw
     obtain ⟨hs1, hs2⟩ := hSw
     go_simp
     try with_reducible rfl
    try simp only [Act.put, List.setIfInBounds_toArray, List.set_cons_zero, List.set_cons_succ]
    apply via
    ·intro hG
     refine wpAnyH_ready (rs := [0, 6]) (by kernel_rfl) (by simp) ?_
     refine AllReadyH.cons rfl (fun K hK => ?_) (AllReadyH.cons rfl (fun K hK => ?_) AllReadyH.nil)
     ·go_simp
      refine hK.out _ _ ?_ (fun hHeld => ?_)
      ·(first | exact ⟨d6, hc6⟩ | exact ⟨dA6, dAc⟩ | go_keep)
      clear hK K
      try simp only [Act.put, List.setIfInBounds_toArray, List.set_cons_zero, List.set_cons_succ]
      refine wpAnyH_ready (rs := [6]) (by kernel_rfl) (by simp) ?_
      refine AllReadyH.cons rfl (fun K hK => ?_) AllReadyH.nil
      go_simp
      refine hK.out _ _ ?_ (fun hHeld2 => ?_)
      ·(first | exact ⟨d6, hc6⟩ | exact ⟨dA6, dAc⟩ | go_keep)
      clear hK K
      try simp only [Act.put, List.setIfInBounds_toArray, List.set_cons_zero, List.set_cons_succ]
      exact hG
     ·go_simp
      refine hK.out _ _ ?_ (fun hHeld => ?_)
      ·(first | exact ⟨d6, hc6⟩ | exact ⟨dA6, dAc⟩ | go_keep)
      clear hK K
      try simp only [Act.put, List.setIfInBounds_toArray, List.set_cons_zero, List.set_cons_succ]
      refine wpAnyH_ready (rs := [0]) (by kernel_rfl) (by simp) ?_
      refine AllReadyH.cons rfl (fun K hK => ?_) AllReadyH.nil
      go_simp
      refine hK.out _ _ ?_ (fun hHeld2 => ?_)
      ·(first | exact ⟨d6, hc6⟩ | exact ⟨dA6, dAc⟩ | go_keep)
      clear hK K
      try simp only [Act.put, List.setIfInBounds_toArray, List.set_cons_zero, List.set_cons_succ]
      exact hG
    refine wpAnyH_ready (rs := [7]) (by kernel_rfl) (by simp) ?_
    refine AllReadyH.cons rfl (fun K hK => ?_) AllReadyH.nil
    refine step_app1 (by rfl) _ _ 122 (by rfl) w6.heap.size 140 (.agg #[.int .i64 0, .string .empty]) 2 24 Tryz.underlying122 info_place rfl (by decide) _ _ _ Y hl7 (by omega) (by rfl) #[.int .i64 (an : Int), .string y] 140 (by rfl) rfl (by simp [Value.oneCell']) hnL (by decide) ?_
    intro g cap w1 hown' hgrow hat hg
    obtain ⟨v1, hX2⟩ := hput.out w1 _ g cap hown' hgrow hat hg
    have kg : Keep (fun z => (.slice fa7 LL.length fc7 : Value).ownBlock ≠ some z) Y w1 := keep_app hgrow
    refine hK.out _ _ (hkeep6.out w1 (kg.mono (fun z hz _ => hz.2))) (fun hHeld => ?_)
    clear hK K
    try simp only [Act.put, List.setIfInBounds_toArray, List.set_cons_zero, List.set_cons_succ]
    have c7 := v1.cell
    have f7 := v1.frozen
    refine wpAnyH_ready (rs := [8]) (by kernel_rfl) (by simp) ?_
    refine AllReadyH.cons rfl (fun K hK => ?_) AllReadyH.nil
    go_simp
    obtain ⟨hP2, hSt2⟩ := hX2 _ rfl
    refine hK.out _ _ (hkeep6.out _ ((kg.mono (fun z hz _ => hz.2)).trans (keep_set w1 (w3.heap.size + 1) 0 _) (fun z hz _ => hz.1))) (fun hHeld2 => ?_)
    clear hK K
    refine wpAnyH_done (by kernel_rfl) ?_ _
    generalize w1.setCell ⟨w3.heap.size + 1, 0, none⟩ (.slice (some ⟨g, 0, none⟩) (LL.length + 1) cap) = Y2 at hP2 hSt2 ⊢
    clear hX2 c7 f7 v1 kg hput hown' hgrow hat hg dA6 dAc dA7 hS0 hkeep6
    obtain ⟨hf2, ⟨v62, h62, hi62⟩, ⟨v72, h72, hl72, hq72⟩, ⟨v112, h112, hb112, hq112⟩, hkY2⟩ := hP2
    obtain ⟨fa62, fc62, rfl, _⟩ := id hi62.1
    obtain ⟨fa112, fc112, rfl⟩ := ownsRow_form hb112
    have hlt2 := hSt2.lt
    have hYz2 := hkY2.size
    have hput2 := Lib.hid (fun (w1 : World) (tmp : Obj) (g cap : Nat) => PlI.putB hC hlt2 (by omega : XE.heap.size ≤ Y2.heap.size) hf2 h62 hi62 h72 hl72 hq72 h112 hb112 hq112 hkY2 (w1 := w1) (tmp := tmp) (g := g) (cap := cap) (an : Int))
    have e62 := h62.cell
    obtain ⟨g62, o62, rfl, hz62, hl62, hc62, hcapA, hcapB, hrest2⟩ := hi62.rest
    obtain ⟨i1, i2, i3, i4, i5, i6⟩ := hC.fz g62 hz62
    have hg11 : (.slice fa112 BL.length fc112 : Value).ownBlock ≠ some g62 := fun e => by
     rcases (hq112 g62 e).2 with h | h
     ·exact i6 h
     ·omega
    have h11n := h62.not_row (by decide) hb112
    have hkeep7 : Hid (∀ W', Keep (fun z => z ≠ X.heap.size + 1 ∧ (.slice fa112 BL.length fc112 : Value).ownBlock ≠ some z) Y2 W' → W'.cell? ⟨w3.heap.size, 0, none⟩ = some (.slice (some ⟨g62, o62, none⟩) ((an : Int) :: r).length fc62) ∧ W'.cell? ⟨g62, o62, none⟩ = some (.int .i64 (an : Int))) := Lib.hid (fun W' hk => ⟨(hk.boxed ⟨hC.n6, fun e => h11n e.symm⟩ h62).cell, hk.cell ⟨i4, hg11⟩ hc62⟩)
    have dB := hkeep7.out ((Y2.alloc (.cells #[.int .i64 (an : Int)] 3)).drew) ((Keep.of_below (fp := fun z => z ≠ X.heap.size + 1 ∧ (.slice fa112 BL.length fc112 : Value).ownBlock ≠ some z ∧ z < Y2.heap.size) ((Below.refl Y2.heap.size Y2).alloc (Nat.le_refl _) _) (fun _ h _ => h.2.2)).drew.mono (fun z hz hl => ⟨hz.1, hz.2, hl⟩))
    obtain ⟨dB6, dBc⟩ := dB
    have h112c : Y2.cell? ⟨X.heap.size + 1, 2, none⟩ = some (.slice fa112 BL.length fc112) := by simp [h112.cell]
    have h112d := h112.alloc (.cells #[.int .i64 (an : Int)] 3)
    have dB11 : (Y2.alloc (.cells #[.int .i64 (an : Int)] 3)).cell? ⟨X.heap.size + 1, 2, none⟩ = some (.slice fa112 BL.length fc112) := by simp [h112d.cell]
    clear h112d
    gi_wp2
    refine wpIn_region_any (by kernel_rfl) (wpAnyIn_of_wpAny (by rintro ⟨a, w, h⟩; exact h) (by kernel_rfl) _ _ _ _ (wpAny_of_held (S := fun W' => W'.cell? ⟨w3.heap.size, 0, none⟩ = some (.slice (some ⟨g62, o62, none⟩) ((an : Int) :: r).length fc62) ∧ W'.cell? ⟨g62, o62, none⟩ = some (.int .i64 (an : Int))) _ _ _ _ ?_))
    have hS0 : Y2.drew.cell? ⟨w3.heap.size, 0, none⟩ = some (.slice (some ⟨g62, o62, none⟩) ((an : Int) :: r).length fc62) ∧ Y2.drew.cell? ⟨g62, o62, none⟩ = some (.int .i64 (an : Int)) := ⟨e62, hc62⟩
    change wpAnyH _ _ _ _ _ _ _ _ Y2.drew
    refine wpAnyH_take (i := 0) (v := ?_) rfl (by kernel_rfl) (by kernel_rfl) (by kernel_rfl) (fun _ _ _ h => h) (Or.inl ⟨by rfl, ?_⟩) (by assumption) ?_
    rotate_left 1
    ·intro w hSw
     try dsimp only at hSw
     obtain ⟨hs1, hs2⟩ := hSw
     go_simp
     try with_reducible rfl
    try simp only [Act.put, List.setIfInBounds_toArray, List.set_cons_zero, List.set_cons_succ]
    refine wpAnyH_take (i := 2) (v := ?_) rfl (by kernel_rfl) (by kernel_rfl) (by kernel_rfl) (fun _ _ _ h => h) (Or.inl ⟨by rfl, ?_⟩) (by assumption) ?_
    rotate_left 1
    ·intro w hSw
     try dsimp only at hSw
     obtain ⟨hs1, hs2⟩ := hSw
     go_simp
     try with_reducible rfl
    try simp only [Act.put, List.setIfInBounds_toArray, List.set_cons_zero, List.set_cons_succ]
    refine wpAnyH_take (i := 3) (v := ?_) rfl (by kernel_rfl) (by kernel_rfl) (by kernel_rfl) (fun _ _ _ h => h) (Or.inl ⟨by rfl, ?_⟩) (by assumption) ?_
    rotate_left 1
    ·intro w hSw
     try dsimp only at hSw
     obtain ⟨hs1, hs2⟩ := hSw
     go_simp
     try with_reducible rfl
    try simp only [Act.put, List.setIfInBounds_toArray, List.set_cons_zero, List.set_cons_succ]
    refine wpAnyH_take (i := 4) (v := ?_) rfl (by kernel_rfl) (by kernel_rfl) (by kernel_rfl) (fun _ _ _ h => h) (Or.inl ⟨by rfl, ?_⟩) (by assumption) ?_
    rotate_left 1
    ·intro w hSw
     try dsimp only at hSw
     obtain ⟨hs1, hs2⟩ := hSw
     go_simp
     try with_reducible rfl
    try simp only [Act.put, List.setIfInBounds_toArray, List.set_cons_zero, List.set_cons_succ]
    apply via
    ·intro hG
     refine wpAnyH_ready (rs := [1, 5]) (by kernel_rfl) (by simp) ?_
     refine AllReadyH.cons rfl (fun K hK => ?_) (AllReadyH.cons rfl (fun K hK => ?_) AllReadyH.nil)
     ·go_simp
      refine hK.out _ _ ?_ (fun hHeld => ?_)
      ·(first | exact ⟨e62, hc62⟩ | exact ⟨dB6, dBc⟩ | go_keep)
      clear hK K
      try simp only [Act.put, List.setIfInBounds_toArray, List.set_cons_zero, List.set_cons_succ]
      refine wpAnyH_ready (rs := [5]) (by kernel_rfl) (by simp) ?_
      refine AllReadyH.cons rfl (fun K hK => ?_) AllReadyH.nil
      go_simp
      refine hK.out _ _ ?_ (fun hHeld2 => ?_)
      ·(first | exact ⟨e62, hc62⟩ | exact ⟨dB6, dBc⟩ | go_keep)
      clear hK K
      try simp only [Act.put, List.setIfInBounds_toArray, List.set_cons_zero, List.set_cons_succ]
      exact hG
     ·go_simp
      refine hK.out _ _ ?_ (fun hHeld => ?_)
      ·(first | exact ⟨e62, hc62⟩ | exact ⟨dB6, dBc⟩ | go_keep)
      clear hK K
      try simp only [Act.put, List.setIfInBounds_toArray, List.set_cons_zero, List.set_cons_succ]
      refine wpAnyH_ready (rs := [1]) (by kernel_rfl) (by simp) ?_
      refine AllReadyH.cons rfl (fun K hK => ?_) AllReadyH.nil
      go_simp
      refine hK.out _ _ ?_ (fun hHeld2 => ?_)
      ·(first | exact ⟨e62, hc62⟩ | exact ⟨dB6, dBc⟩ | go_keep)
      clear hK K
      try simp only [Act.put, List.setIfInBounds_toArray, List.set_cons_zero, List.set_cons_succ]
      exact hG
    refine wpAnyH_ready (rs := [6]) (by kernel_rfl) (by simp) ?_
    refine AllReadyH.cons rfl (fun K hK => ?_) AllReadyH.nil
    refine step_app1 (by rfl) _ _ 74 (by rfl) w6.heap.size 3 (.int .i64 0) 1 8 Tryz.underlying74 info_int4 rfl (by decide) _ _ _ Y2 hb112 (by omega) (by rfl) #[.int .i64 (an : Int)] 3 (by rfl) rfl (by simp [Value.oneCell']) hnB (by decide) ?_
    intro g cap w1 hown' hgrow hat hg
    obtain ⟨v1, hX2⟩ := hput2.out w1 _ g cap hown' hgrow hat hg
    have kg : Keep (fun z => (.slice fa112 BL.length fc112 : Value).ownBlock ≠ some z) Y2 w1 := keep_app hgrow
    refine hK.out _ _ (hkeep7.out w1 (kg.mono (fun z hz _ => hz.2))) (fun hHeld => ?_)
    clear hK K
    try simp only [Act.put, List.setIfInBounds_toArray, List.set_cons_zero, List.set_cons_succ]
    refine wpAnyH_take (i := 7) (v := ?_) rfl (by kernel_rfl) (by kernel_rfl) (by kernel_rfl) (fun _ _ _ h => h) (Or.inl ⟨by rfl, ?_⟩) (by assumption) ?_
    rotate_left 1
    ·intro w hSw
     try dsimp only at hSw
     obtain ⟨hs1, hs2⟩ := hSw
     go_simp
     try with_reducible rfl
    try simp only [Act.put, List.setIfInBounds_toArray, List.set_cons_zero, List.set_cons_succ]
    have c7 : w1.cell? ⟨X.heap.size + 1, 2, none⟩ = some (.slice fa112 BL.length fc112) := by simp [v1.cell]
    have f7 := v1.frozen 2
    refine wpAnyH_ready (rs := [8]) (by kernel_rfl) (by simp) ?_
    refine AllReadyH.cons rfl (fun K hK => ?_) AllReadyH.nil
    go_simp
    obtain ⟨hP3, hSt3⟩ := hX2 _ rfl
    refine hK.out _ _ (hkeep7.out _ ((kg.mono (fun z hz _ => hz.2)).trans (keep_set w1 (X.heap.size + 1) 2 _) (fun z hz _ => hz.1))) (fun hHeld2 => ?_)
    clear hK K
    refine wpAnyH_done (by kernel_rfl) ?_ _
    generalize w1.setCell ⟨X.heap.size + 1, 2, none⟩ (.slice (some ⟨g, 0, none⟩) (BL.length + 1) cap) = Y3 at hP3 hSt3 ⊢
    clear hX2 c7 f7 v1 kg hput2 hown' hgrow hat hg dB6 dBc dB11 hS0 hkeep7 h112c e62 hc62
    obtain ⟨v63, h63, hi63⟩ := hP3.2.1
    obtain ⟨fa63, fc63, rfl, _⟩ := id hi63.1
    obtain ⟨g63, o63, rfl, _, hl63, _, hcapC, hcapD, hrest3⟩ := hi63.rest
    have hcut := Lib.hid (PlI.cut hC hSt3.lt hP3 hrest3)
    have e63 := h63.cell
    have f63 := h63.frozen
    clear hP3 hi63 hrest3
    have hcp1 : (1 : Int) ≤ (((an : Int) :: r).length : Int) := by simp; omega
    have hcp2 : (((an : Int) :: r).length : Int) ≤ (fc63 : Int) := by omega
    gi_wp2_with fail
    all_goals
     obtain ⟨hfA, hfB, hfC, hfD⟩ := hfin.out
     obtain ⟨hP4, hS4⟩ := hcut.out
     first
     | (have hfc : ¬ fc63 = 1 := by assumption
        rw [if_neg hfc] at hP4 hS4)
     | (have hfc : fc63 = 1 := by assumption
        rw [if_pos hfc, show fc63 - 1 = 0 by omega] at hP4 hS4)
     exact ⟨_, ⟨hfD, by rw [hfA, hfB, hfC]; exact hP4⟩, (hSt2.trans hSt3).trans hS4⟩
  case done =>
   rintro D xs fp Z hDz hnD hnew2 hlt hkp0 rfl ⟨hlen, hI⟩ hKD
   generalize hBL : yb.take q ++ st.fr.take (Pl.piecesOf (BS ++ ya)).length = BL at hI
   replace hBL := Lib.hid hBL
   have hIk := hI.2.2.2.2
   obtain ⟨v6, vl, vb, hPZ, h11Z, hrZ, hvf, hf2, hy2, hmk⟩ := hPF.ofI hC hI (by omega) (by omega) (by omega) (by omega) (by omega : w6.heap.size ≤ X.heap.size + 1) (fun q e => by have := (hPW.frow.lt q e).2; omega) (fun q e => by have := hvb2 q e; omega)
   obtain ⟨vba, vbc, rfl⟩ := ownsRow_form hrZ
   have hZz : XF.heap.size ≤ Z.heap.size := hIk.size
   have hMZ0 : Marked Ds Z := ⟨hMF.1, fun D' hD' => hmk D' (by have := hM.lt D' hD'; omega) (hDs D' hD').1 (Nat.le_refl _) (by omega) (by omega) (hMF.2 D' hD')⟩
   have hMZ : Marked (D :: Ds) Z := hMZ0.cons hKD (fun h => by have := hMF.lt D h; omega)
   have hn2 : ∀ q, (fz q ∨ (.slice vba BL.length vbc : Value).ownBlock = some q) → rp q ∨ W.heap.size + 3 < q := by
    rintro q (hq | hq)
    ·exact hPF.new q hq
    ·right
     have := (hrZ.lt q hq).1
     omega
   have hDs2 : ∀ D' ∈ D :: Ds, w6.heap.size ≤ D' ∧ ¬ (fz D' ∨ (.slice vba BL.length vbc : Value).ownBlock = some D') := by
    intro D' hD'
    rcases List.mem_cons.1 hD' with rfl | hD'
    ·refine ⟨by omega, ?_⟩
     rintro (h | h)
     ·have := (hC.fz D' h).1; omega
     ·exact hnD (hvf D' h)
    ·exact ⟨(hDs D' hD').1, fun h => h.elim (hDs D' hD').2 (fun e => mark_not_row (hMZ0.2 D' hD') hrZ e)⟩
   have hsucE : Hid (Pl.planK s FR (x.hand.take (k + 1)) = some ⟨st.fr.drop (Pl.piecesOf (BS ++ ya)).length, st.l ++ Pl.zipB st.fr (Pl.piecesOf (BS ++ ya)), st.fs ++ [⟨nm, (yo : Int) + (ya.size : Int), BL⟩]⟩) := Lib.hid (by
    rw [← hBL.out, hsuc.out]
    unfold Pl.planStep
    simp only [Option.bind_some]
    rw [if_neg ha0, hnew.out, if_neg (by omega), hq.out]
    simp [Pl.HF.size])
   have hApp := Lib.hid (fun (w1 : World) (tmp : Obj) (g cap : Nat) => hPZ.app (w1 := w1) (tmp := tmp) (g := g) (cap := cap) (fz2 := fun q => fz q ∨ (.slice vba BL.length vbc : Value).ownBlock = some q) (by omega) (by omega) (by omega) (fun _ h => .inl h) hn2 hf2 ⟨nm, (yo : Int) + (ya.size : Int), BL⟩ (.slice vba BL.length vbc) hy2)
   have hwz : w6.heap.size ≤ Z.heap.size := by omega
   have y1 : Z.cell? ⟨W.heap.size + 3, 1, none⟩ = some (.slice fa fl.length fc) := by simp [hPZ.root.cell]
   have z0 : Z.cell? ⟨X.heap.size + 1, 0, none⟩ = some (.string nm) := by simp [h11Z.cell]
   have z1 : Z.cell? ⟨X.heap.size + 1, 1, none⟩ = some (.int .i64 ((yo : Int) + (ya.size : Int))) := by simp [h11Z.cell]
   have z2 : Z.cell? ⟨X.heap.size + 1, 2, none⟩ = some (.slice vba BL.length vbc) := by simp [h11Z.cell]
   have hnk : (fl.length + 1) * 48 ≤ 140737488355328 := by have := hh.out.many; omega
   clear hstn hIk hI hlen hf2 hn2 hy2 hvf hmk h11Z hrZ hq2F hq3F hq4F hoF hdF hPF hMF huD hC hI0 bP
   go_wp2_with (at_builtin; go_must (refine wpList_app1 (by rfl) _ _ 69 (by rfl) w6.heap.size 76 (.agg #[.string .empty, .int .i64 0, .slice none 0 0]) 3 48 Tryz.underlying69 info_file4 rfl (by decide) _ fl.length _ _ hPZ.frow hwz (by rfl) #[.string nm, .int .i64 ((yo : Int) + (ya.size : Int)), (.slice vba BL.length vbc)] 76 (by rfl) rfl (by simp [Value.oneCell']) hnk (by decide) ?_; intro g cap w1 hown' hgrow hat hg; have ⟨v1, hX2⟩ := hApp.out w1 _ g cap hown' hgrow hat hg; have cv1 : w1.cell? ⟨W.heap.size + 3, 1, none⟩ = some (.slice fa fl.length fc) := (by simp [v1.cell]); have fv1 := v1.frozen 1))
   obtain ⟨hPX, kX⟩ := hX2 _ rfl
   have hMX := hMZ.keep kX (fun D' hD' => ⟨by have := (hDs2 D' hD').1; omega, mark_not_row (hMZ.2 D' hD') hPZ.frow⟩)
   refine ⟨⟨k + 1, hk1.out, D :: Ds, _, hsucE.out, _, ⟨_, _, _, _, hPX⟩, hMX, hDs2, hwk.out, rfl⟩, ?_⟩
   rw [hwk.out]
   exact hms.out
  case stop =>
   rintro D c pre fp Z hDz hnD hnew2 hlt hkp0 hsp ⟨rfl, hlp, hf, e2, e3, e4, hkZ⟩ hKD
   have hnone : Pl.planK s FR (x.hand.take (k + 1)) = none := by
    rw [hsuc.out]
    unfold Pl.planStep
    simp only [Option.bind_some]
    rw [if_neg ha0, hnew.out, if_pos (by have := hsp.length_le; omega)]
   have hOEn : OE = none := by
    rw [hOE.out]
    unfold Pl.Fs.planE
    rw [hFR.out, Pl.planK_stop hnone]
    rfl
   have hMZ0 : Marked Ds Z := hMF.keep hkZ (fun D' hD' => by
    have h1 := (hDs D' hD').1
    have h2 := hM.lt D' hD'
    exact ⟨by omega, by omega, by omega, by omega, mark_not_row (hM.2 D' hD') hPW.lrow, fun e => by have := hvb2 D' e; omega, by omega, by omega, by omega⟩)
   have hMZ : Marked (D :: Ds) Z := hMZ0.cons hKD (fun h => by have := hMF.lt D h; omega)
   have hnin : ∀ z, z < w6.heap.size → z ∉ D :: Ds := fun z hz h => by
    rcases List.mem_cons.1 h with h | h
    ·omega
    ·have := (hDs z h).1; omega
   have hkk : Keep (fun q => q < W.heap.size) W Z := ((Keep.of_below (fp := fun q => q < W.heap.size) hbW6 (fun _ h _ => h)).trans hPF.keep (fun q hq _ => ⟨by omega, by omega, by omega, by omega⟩)).trans hkZ (fun q hq _ => ⟨by omega, by omega, by omega, by omega, fun e => by have := (hPW.lrow.lt q e).1; omega, fun e => by have := hvb2 q e; omega, by omega, by omega, by omega⟩)
   clear hstn hnone hq2F hq3F hq4F hoF hdF hPF hMF huD hC hI0 bP hMZ0 hlp hsp hkZ
   gi_wp2
   refine leaves_marks (D :: Ds) _ hMZ (fun W' hk' => ⟨_, results_plan rfl rfl rfl rfl (hk'.boxed (hnin _ (by omega)) e2) (e3.keep hk' (hnin _ (by omega))) (hk'.boxed (hnin _ (by omega)) e4), ?_⟩)
   rw [hOEn]
   have hk2 := hkk.trans hk' (fun z hz _ => hnin z (by omega))
   exact ⟨⟨hk2.os, hk2.tape, hk2.output, hk2.size, fun z hz => hk2.block z hz hz⟩, _, _, _, _, _, rfl, fun l r h => by cases h⟩
  ·rintro pre f1 Y Y' ⟨h1, h2⟩ hkp
   exact ⟨h1, h2.keep hC hkp⟩
  ·rintro c pre f1 Y Y' ⟨h1, h2, h3, h4, h5, h6, h7⟩ hkp
   exact ⟨h1, h2, h3, hkp.boxed (h3 _ (by omega)) h4, h5.keep hkp (h3 _ (by omega)), hkp.boxed (h3 _ (by omega)) h6, h7.trans hkp (fun z hz _ => h3 z hz.1)⟩
  ·rintro pre y a' _ f1 Y Y' ⟨⟨h1, h2⟩, he⟩ hkp
   exact ⟨⟨h1, h2.keep hC hkp⟩, he⟩
  ·rintro z hz rfl; omega
  ·intro z hz; omega
  ·exact ⟨Nat.zero_le _, by simpa [Pl.zipB_nil] using hI0⟩
end
end Go.Proofs.YtogblcdefbnbeaaGreat
