
/- Walk: the safe root told. Condition: none. -/
import Derived.Test.YtndekdgpibipnaaQWCo

namespace Go.Proofs.Ytndekdgpibipnaa
open Go.RowKit Go.Maps

variable {B Bd f d m : Nat} {vf : Value} {x : Pl.Fs} {s : Pl.Dv} {rp fp fpd : Nat → Prop} {W W' : World}
/-- files in rows of one's own -/
def FilesOwn (W : World) (base : Nat) (v : Value) (fl : List (Pl.FileP × Value)) : Prop := W.ownsRow base 74 3 v fl.length (fcells4 fl) ∧ ∀ y ∈ fl, IOwn W base y.2 y.1.blocks
theorem FilesOwn.keep {base : Nat} {v : Value} {fl : List (Pl.FileP × Value)} {fp : Nat → Prop} (h : FilesOwn W base v fl) (hk : Keep fp W W') (hf : ∀ q, base ≤ q → q < W.heap.size → fp q) : FilesOwn W' base v fl :=
  ⟨hk.ownsRow h.1 (fun q e => hf q (h.1.lt q e).1 (h.1.lt q e).2), fun y hy => hk.ownsRow (h.2 y hy) (fun q e => hf q (World.ownsRow.lt (h.2 y hy) q e).1 (World.ownsRow.lt (h.2 y hy) q e).2)⟩
theorem FilesOwn.at {base : Nat} {v : Value} {fl : List (Pl.FileP × Value)} (h : FilesOwn W base v fl) : FilesAt W v (fl.map (·.1)) := files_of_rows h.1 h.2
/-- how far the telling is -/
structure RoI (W : World) (B0 B1 : Nat) (gen : Int) (v : Value) (fl : List (Pl.FileP × Value)) (X : World) : Prop where
  res : Blk X B0 #[.int .u64 0, .slice none 0 0] 50
  out : Blk X B1 #[.int .u64 gen, v] 50
  own : FilesOwn X (B1 + 1) v fl
  low : Below W.heap.size W X
theorem RoI.keepAll {B0 B1 : Nat} {gen : Int} {v : Value} {fl : List (Pl.FileP × Value)} {X X' : World} (h : RoI W B0 B1 gen v fl X) (hk : Keep (fun q => q < X.heap.size) X X') : RoI W B0 B1 gen v fl X' :=
  ⟨h.res.keep hk h.res.lt, h.out.keep hk h.out.lt, h.own.keep hk (fun _ _ h => h), ⟨hk.os.trans h.low.os, hk.tape.trans h.low.tape, hk.output.trans h.low.output, Nat.le_trans h.low.size hk.size, fun q hq => (hk.block q (Nat.lt_of_lt_of_le hq h.low.size) (Nat.lt_of_lt_of_le hq h.low.size)).trans (h.low.block q hq)⟩⟩
theorem RoI.app {B0 B1 : Nat} {gen : Int} {v : Value} {fl : List (Pl.FileP × Value)} {X w1 : World} (h : RoI W B0 B1 gen v fl X) (h0 : W.heap.size ≤ B0) (h01 : B0 < B1) (y : Pl.FileP) (vb : Value) (hy : IOwn X (B1 + 1) vb y.blocks) {tmp : Obj} {g cap : Nat}
    (hown : w1.ownsRow (B1 + 1) 74 3 (.slice (some ⟨g, 0, none⟩) (fl.length + 1) cap) (fl.length + 1) (fcells4 fl ++ (#[.string y.name, .int .i64 y.size, vb] : Array Value).toList)) (hgrow : (X.alloc tmp).grownBy w1 v.ownBlock) (hat : v.ownBlock = some g ∨ X.heap.size ≤ g) :
    Blk w1 B1 #[.int .u64 gen, v] 50 ∧ ∀ X2, X2 = w1.setCell ⟨B1, 1, none⟩ (.slice (some ⟨g, 0, none⟩) (fl.length + 1) cap) → RoI W B0 B1 gen (.slice (some ⟨g, 0, none⟩) (fl.length + 1) cap) (fl ++ [(y, vb)]) X2 := by
  have kg : Keep (fun q => v.ownBlock ≠ some q) X w1 := keep_app hgrow
  have hvl : ∀ q, v.ownBlock = some q → B1 + 1 ≤ q := fun q e => (h.own.1.lt q e).1
  have v1 : Blk w1 B1 #[.int .u64 gen, v] 50 := h.out.keep kg (fun e => by have := hvl B1 e; omega)
  refine ⟨v1, ?_⟩
  rintro X2 rfl
  have hg1 : B1 + 1 ≤ g := (hown.lt g rfl).1
  have k5 := keep_set w1 B1 1 (.slice (some ⟨g, 0, none⟩) (fl.length + 1) cap)
  have kX : Keep (fun z => z ≠ B1 ∧ v.ownBlock ≠ some z) X (w1.setCell ⟨B1, 1, none⟩ (.slice (some ⟨g, 0, none⟩) (fl.length + 1) cap)) := (kg.mono (fun z hz _ => hz.2)).trans k5 (fun z hz _ => hz.1)
  have hrow : ∀ (u : Value) (bl : List Int), IOwn X (B1 + 1) u bl → IOwn (w1.setCell ⟨B1, 1, none⟩ (.slice (some ⟨g, 0, none⟩) (fl.length + 1) cap)) (B1 + 1) u bl := fun u bl hu => kX.ownsRow hu (fun q e => ⟨by have := (World.ownsRow.lt hu q e).1; omega, fun e2 => rows_apart h.own.1 hu (by decide) e2 e⟩)
  refine ⟨h.res.keep kX ⟨by omega, fun e => by have := hvl B0 e; omega⟩, ?_, ⟨?_, ?_⟩, ?_⟩
  · have := v1.set 1 (.slice (some ⟨g, 0, none⟩) (fl.length + 1) cap)
    exact this
  · have := k5.ownsRow hown (fun q e => (show g = q by simpa [Value.ownBlock] using e) ▸ (by omega))
    rw [List.length_append, List.length_singleton, fcells4_append]
    exact this
  · intro z hz
    rcases List.mem_append.1 hz with hz | hz
    · exact hrow _ _ (h.own.2 z hz)
    · obtain rfl := List.mem_singleton.1 hz
      exact hrow _ _ hy
  · have hs := h.low.size
    exact ⟨kX.os.trans h.low.os, kX.tape.trans h.low.tape, kX.output.trans h.low.output, Nat.le_trans h.low.size kX.size, fun q hq => (kX.block q ⟨by omega, fun e => by have := hvl q e; omega⟩ (by omega)).trans (h.low.block q hq)⟩
/-- what Root tells -/
def RootEnds (W : World) (r : Pl.RootP) (e : Ending) (w' : World) : Prop := ∃ (va : Option Addr) (vn vc : Nat) (fl : List (Pl.FileP × Value)), e = .returned (.agg #[.int .u64 (r.gen : Int), .slice va vn vc]) ∧ FilesOwn w' W.heap.size (.slice va vn vc) fl ∧ fl.map (·.1) = r.files ∧ Below W.heap.size W w'
def Pl.Fs.rootE (x : Pl.Fs) (s : Pl.Dv) : Pl.RootP := if x.dead s = true then ⟨0, []⟩ else x.safe
-- [R
set_option maxRecDepth 100000 in
set_option maxHeartbeats 1000000 in
theorem root_any (h : FsAt B f d x fp W) (hd : DevAt Bd d s fpd W) (hl : x.safe.files.length ≤ 1048576) (hbl : ∀ y ∈ x.safe.files, y.blocks.length ≤ 1073741824) :
    Calls Try.prog 36 #[.pointer (some ⟨f, 0, none⟩)] W fun e w' => RootEnds W (x.rootE s) e w' := by
  obtain ⟨E, hE⟩ : ∃ E, E = x.rootE s := ⟨_, rfl⟩
  rw [← hE]
  have hlt := h.lt
  obtain ⟨m, vf, rp, ho, rfl⟩ := id h
  have PD := Lib.hid (fun (w : World) (b : Bool) (hb : Below W.heap.size W w) (hdd : x.dead s = b) => dead_is hdd (h.beyond hb) (hd.beyond hb))
  have b0 : Below W.heap.size W (W.alloc (.cells #[.int .u64 0, .slice none 0 0] 50)) := (Below.refl _ _).alloc (Nat.le_refl _) _
  have hB0 := Blk.new W #[.int .u64 0, .slice none 0 0] 50
  cases hdd : x.dead s with
  | true =>
    have PD1 := Lib.hid (PD.out _ true b0 hdd)
    obtain rfl : E = ⟨0, []⟩ := by rw [hE]; unfold Pl.Fs.rootE; rw [if_pos hdd]
    clear hE hdd PD
    go_enter Try.func36, Try.ntmps36
    go_wp2_with fail
    refine PD1.out.mono ?_
    rintro e w1 ⟨rfl, n, e1⟩
    have hb1 : Below W.heap.size W w1 := e1 ▸ below_drewN b0 n
    have hB1 : Blk w1 W.heap.size #[.int .u64 0, .slice none 0 0] 50 := e1 ▸ hB0
    clear e1
    have r0 : w1.cell? ⟨W.heap.size, 0, none⟩ = some (.int .u64 0) := by simp [hB1.cell]
    have r1 : w1.cell? ⟨W.heap.size, 1, none⟩ = some (.slice none 0 0) := by simp [hB1.cell]
    have f0 := hB1.frozen 0
    have f1 := hB1.frozen 1
    have hB2 := (hB1.set 0 (.int .u64 0)).set 1 (.slice none 0 0)
    have hb2 := (hb1.setCell (p := ⟨W.heap.size, 0, none⟩) (Nat.le_refl _) (.int .u64 0)).setCell (p := ⟨W.heap.size, 1, none⟩) (Nat.le_refl _) (.slice none 0 0)
    go_wp2
    refine bodyPost_ret (results_root rfl rfl hB2) rfl ?_
    exact ⟨none, 0, 0, [], rfl, ⟨World.ownsRow_nil _ _ _ _, fun _ h => by cases h⟩, rfl, hb2⟩
  | false =>
    have PD1 := Lib.hid (PD.out _ false b0 hdd)
    obtain rfl : E = x.safe := by rw [hE]; unfold Pl.Fs.rootE; rw [if_neg (by rw [hdd]; exact Bool.false_ne_true)]
    clear hE hdd PD
    go_enter Try.func36, Try.ntmps36
    go_wp2_with fail
    refine PD1.out.mono ?_
    rintro e w1 ⟨rfl, n, e1⟩
    have hb1 : Below W.heap.size W w1 := e1 ▸ below_drewN b0 n
    have hB1 : Blk w1 W.heap.size #[.int .u64 0, .slice none 0 0] 50 := e1 ▸ hB0
    have hz1 : w1.heap.size = W.heap.size + 1 := by rw [e1]; simp
    have ho1 := ho.beyond hb1
    clear e1
    obtain ⟨c0, c1, c2, c3, c4, c5⟩ := ho1.cells
    obtain ⟨ao, cap, rfl, hcl, hcm, hrow⟩ := id ho1.files
    have hR2 := Blk.new w1 #[.int .u64 (x.safe.gen : Int), .slice none 0 0] 50
    have hB2 := hB1.alloc (.cells #[.int .u64 (x.safe.gen : Int), .slice none 0 0] 50)
    have hb2 := hb1.alloc (by omega) (.cells #[.int .u64 (x.safe.gen : Int), .slice none 0 0] 50)
    have hz2 : (w1.alloc (.cells #[.int .u64 (x.safe.gen : Int), .slice none 0 0] 50)).heap.size = w1.heap.size + 1 := by simp
    go_upto_region 4 with (fail)
    clear c0 c1 c2 c3 c4 c5
    generalize w1.alloc (.cells #[.int .u64 (x.safe.gen : Int), .slice none 0 0] 50) = w2 at hR2 hB2 hb2 hz2 ⊢
    have ho2 := ho.beyond hb2
    obtain ⟨c0, c1, c2, c3, c4, c5⟩ := ho2.cells
    rw [hz1] at hR2
    have hI0 : RoI W W.heap.size (W.heap.size + 1) (x.safe.gen : Int) (.slice none 0 0) [] w2 := ⟨hB2, hR2, ⟨World.ownsRow_nil _ _ _ _, fun _ h => by cases h⟩, hb2⟩
    clear hrow hB1 hR2 hB2 hz2 ho1 hb2 hb1
    replace hz1 := Lib.hid hz1
    go_wp2_with fail
    clear c0 c1 c2 c3 c4 c5 ho2
    go_loopw [25] (fun i W' => ∃ (k : Nat) (vf2 : Value) (fl : List (Pl.FileP × Value)), k ≤ x.safe.files.length ∧ i = .int .i64 (k : Int) ∧ fl.map (·.1) = x.safe.files.take k ∧ RoI W W.heap.size (W.heap.size + 1) (x.safe.gen : Int) vf2 fl W') (fun i _ => x.safe.files.length - (intOf i).toNat)
    case atStart => exact ⟨0, _, [], Nat.zero_le _, rfl, by simp, hI0⟩
    clear hI0
    case round =>
      obtain ⟨k, vf2, fl, hk, rfl, hfl, hI⟩ := hrel
      obtain ⟨fa, fc, rfl⟩ := ownsRow_form hI.own.1
      have hor := ho.beyond hI.low
      have hfn : Hid (fl.length = k) := Lib.hid (by have := congrArg List.length hfl; simpa [Nat.min_eq_left hk] using this)
      by_cases hkl : k < x.safe.files.length
      case neg =>
        obtain rfl : k = x.safe.files.length := by omega
        rw [List.take_of_length_le (Nat.le_refl _)] at hfl
        replace hfl := Lib.hid hfl
        have r0 : wr.cell? ⟨W.heap.size, 0, none⟩ = some (.int .u64 0) := by simp [hI.res.cell]
        have r1 : wr.cell? ⟨W.heap.size, 1, none⟩ = some (.slice none 0 0) := by simp [hI.res.cell]
        have f0 := hI.res.frozen 0
        have f1 := hI.res.frozen 1
        have o0 : wr.cell? ⟨W.heap.size + 1, 0, none⟩ = some (.int .u64 (x.safe.gen : Int)) := by simp [hI.out.cell]
        have o1 : wr.cell? ⟨W.heap.size + 1, 1, none⟩ = some (.slice fa fl.length fc) := by simp [hI.out.cell]
        have hB2 := (hI.res.set 0 (.int .u64 (x.safe.gen : Int))).set 1 (.slice fa fl.length fc)
        have hb2 := (hI.low.setCell (p := ⟨W.heap.size, 0, none⟩) (Nat.le_refl _) (.int .u64 (x.safe.gen : Int))).setCell (p := ⟨W.heap.size, 1, none⟩) (Nat.le_refl _) (.slice fa fl.length fc)
        have ho2 := hI.own.keep (fp := fun q => q ≠ W.heap.size) (((Keep.refl _ wr).setCell _ 0 (.int .u64 (x.safe.gen : Int)) (fun h _ => h rfl)).setCell _ 1 (.slice fa fl.length fc) (fun h _ => h rfl)) (fun q h1 _ => by omega)
        have hend := Lib.hid (And.intro ho2 hb2)
        clear ho2 hb2
        go_wp2
        refine bodyPost_ret (results_root rfl rfl hB2) rfl ?_
        obtain ⟨⟨h1, h2⟩, h3⟩ := hend.out
        exact ⟨_, _, _, fl, rfl, ⟨row_base h1 (by omega), fun y hy => row_base (h2 y hy) (by omega)⟩, hfl.out, h3⟩
      obtain ⟨ao', cap', e, _, _, hrow⟩ := id hor.files
      injection e with e e1 e2
      subst e
      subst e2
      clear e1
      obtain ⟨bR, oR, rfl, hbR, hrp, hx⟩ := hrow (by omega)
      obtain ⟨z0, z1, u, z2, hu⟩ := hx k hkl
      obtain ⟨ai, ci, rfl, i1, i2, hib⟩ := id hu.1
      have hyb := hbl _ (List.getElem_mem hkl)
      have htk : Hid (x.safe.files.take (k + 1) = x.safe.files.take k ++ [x.safe.files[k]]) := Lib.hid (List.take_succ_eq_append_getElem hkl)
      clear hx hrow
      generalize x.safe.files[k] = y at *
      obtain ⟨ynm, ysz, ybl⟩ := y
      simp only at z0 z1 z2 i1 i2 hib hu hyb
      have hkk : (0 : Int) ≤ (k : Int) := by omega
      have hkk2 : (k : Int) < (x.safe.files.length : Int) := by omega
      have hk1 : Hid (k + 1 ≤ x.safe.files.length) := Lib.hid (by omega)
      replace hfl := Lib.hid hfl
      obtain ⟨XA, hXA⟩ : ∃ XA, XA = wr.alloc (.cells #[.string ynm, .int .i64 ysz, .slice ai ybl.length ci] 74) := ⟨_, rfl⟩
      have hbA : Below wr.heap.size wr XA := by rw [hXA]; exact (Below.refl _ _).alloc (Nat.le_refl _) _
      have hT := Blk.new wr #[.string ynm, .int .i64 ysz, .slice ai ybl.length ci] 74
      rw [← hXA] at hT
      have hzA : XA.heap.size = wr.heap.size + 1 := by rw [hXA]; simp
      have huA := hu.1.below hbA
      have PCl := Lib.hid (cloneI_any ybl (.slice ai ybl.length ci) XA huA hyb)
      rw [hzA] at PCl
      go_upto_region 7 with (fail)
      rw [← hXA]
      clear hXA z0 z1 z2 hib
      have t2 : XA.cell? ⟨wr.heap.size, 2, none⟩ = some (.slice ai ybl.length ci) := by simp [hT.cell]
      replace hzA := Lib.hid hzA
      go_upto_region 8 with (go_at_call 78; refine PCl.out.mono ?_; rintro e XC ⟨vb, rfl, hrb, hbC⟩; obtain ⟨ba, bc, rfl⟩ := ownsRow_form hrb; have hkC := Keep.of_below (fp := fun q => q < XA.heap.size) (hzA.out ▸ hbC) (fun _ h _ => h); have hTC := hT.keep hkC hT.lt; have zf2 := hTC.frozen 2; have zC2 : XC.cell? ⟨wr.heap.size, 2, none⟩ = some (.slice ai ybl.length ci) := (by simp [hTC.cell]))
      have hTD := hTC.set 2 (.slice ba ybl.length bc)
      have hkD : Keep (fun q => q < wr.heap.size) wr (XC.setCell ⟨wr.heap.size, 2, none⟩ (.slice ba ybl.length bc)) := (((Keep.of_below (fp := fun q => q < wr.heap.size) hbA (fun _ h _ => h)).trans hkC (fun q hq _ => by have := hzA.out; omega)).setCell _ _ _ (fun h _ => by omega))
      have hID := hI.keepAll hkD
      have hlw := hI.low.size
      have hlo := hI.out.lt
      have hvD : IOwn (XC.setCell ⟨wr.heap.size, 2, none⟩ (.slice ba ybl.length bc)) (W.heap.size + 1 + 1) (.slice ba ybl.length bc) ybl := by
        have hr2 := (keep_set XC wr.heap.size 2 (.slice ba ybl.length bc)).ownsRow hrb (fun q e => by have := (World.ownsRow.lt hrb q e).1; omega)
        exact row_base hr2 (by omega)
      have hzD := hkD.size
      generalize XC.setCell ⟨wr.heap.size, 2, none⟩ (.slice ba ybl.length bc) = XD at hTD hkD hID hvD hzD ⊢
      clear hkC hTC zf2 zC2 PCl hbC hrb hT hbA huA hzA t2 hI
      have hApp := Lib.hid (fun (w1 : World) (tmp : Obj) (g cap : Nat) => hID.app (w1 := w1) (tmp := tmp) (g := g) (cap := cap) (Nat.le_refl _) (Nat.lt_succ_self _) ⟨ynm, ysz, ybl⟩ (.slice ba ybl.length bc) hvD)
      have y1 : XD.cell? ⟨W.heap.size + 1, 1, none⟩ = some (.slice fa fl.length fc) := by simp [hID.out.cell]
      have t0 : XD.cell? ⟨wr.heap.size, 0, none⟩ = some (.string ynm) := by simp [hTD.cell]
      have t1 : XD.cell? ⟨wr.heap.size, 1, none⟩ = some (.int .i64 ysz) := by simp [hTD.cell]
      have t2 : XD.cell? ⟨wr.heap.size, 2, none⟩ = some (.slice ba ybl.length bc) := by simp [hTD.cell]
      have hnk : (fl.length + 1) * 48 ≤ 140737488355328 := by have := hfn.out; omega
      have hbase : W.heap.size + 1 + 1 ≤ XD.heap.size := by omega
      go_wp2_with (at_builtin; go_must (refine wpList_app1 (by rfl) _ _ 48 (by rfl) (W.heap.size + 1 + 1) 74 (.agg #[.string .empty, .int .i64 0, .slice none 0 0]) 3 48 Try.underlying48 info_file4 rfl (by decide) _ fl.length _ _ hID.own.1 hbase (by rfl) #[.string ynm, .int .i64 ysz, (.slice ba ybl.length bc)] 74 (by rfl) rfl (by simp [Value.oneCell']) hnk (by decide) ?_; intro g cap w1 hown' hgrow hat hg; have ⟨v1, hX2⟩ := hApp.out w1 _ g cap hown' hgrow hat; have cv1 : w1.cell? ⟨W.heap.size + 1, 1, none⟩ = some (.slice fa fl.length fc) := (by simp [v1.cell]); have fv1 := v1.frozen 1))
      refine ⟨⟨k + 1, _, _, hk1.out, by rw [Int.natCast_add]; rfl, ?_, hX2 _ rfl⟩, by simp [intOf]; omega⟩
      rw [List.map_append, hfl.out, htk.out]
      rfl
-- R]
end Go.Proofs.Ytndekdgpibipnaa
