
/- Walks: the document's file system: reverted. Condition: few files. -/
import Derived.Test.YtogblcdefbnbeaaGreatQPb
import Derived.Test.YtogblcdefbnbeaaGreatQGl
import Derived.Deep.RegionHeld3
set_option maxRecDepth 100000
namespace Go.Proofs.YtogblcdefbnbeaaGreat
section
open Go.RowKit
theorem via2 {α : Type} {H A : α → Prop} {B : Prop} (h : (∀ w, H w → A w) → B) (g : ∀ w, H w → A w) : B := h g
variable {B Br q r i : Nat} {vf vh vo : Value} {rp fp fpr : Nat → Prop} {hl hl0 : List (Pl.RF1 × Value)} {x : Pl.Rf} {s : Pl.Dv} {W W' : World}
structure RvI (W : World) (q r : Nat) (vf : Value) (rp : Nat → Prop) (x : Pl.Rf) (s : Pl.Dv) (i : Nat) (vo : Value) (hl : List (Pl.RF1 × Value)) (X : World) : Prop where
 blk : Blk X q #[.pointer (some ⟨r, 0, none⟩), .int .i64 (x.epoch : Int), .int .u64 (x.safe.gen : Int), vf, vo, .bool false] 101
 row : X.ownsRow W.heap.size 111 4 vo hl.length (rfcells hl)
 map : hl.map (·.1) = (Pl.loadR s x.safe).take i
 ints : ∀ y ∈ hl, IntsF rp W y.2 y.1.blocks
 keep : Keep (fun k => k ≠ q) W X
theorem RvI.len (h : RvI W q r vf rp x s i vo hl W') (hi : i ≤ x.safe.files.length) : hl.length = i := by
 have := congrArg List.length h.map
 rw [List.length_map, List.length_take] at this
 have h2 : (Pl.loadR s x.safe).length = x.safe.files.length := by simp [Pl.loadR]
 omega
theorem RvI.still {X X' : World} (h : RvI W q r vf rp x s i vo hl X) (hb : Below X.heap.size X X') : RvI W q r vf rp x s i vo hl X' := by
 have hk : Keep (fun k => k < X.heap.size) X X' := Keep.of_below hb (fun _ h _ => h)
 exact ⟨h.blk.keep hk h.blk.lt, hk.ownsRow h.row (fun k e => (h.row.lt k e).2), h.map, h.ints, h.keep.trans hk (fun k _ hl => Nat.lt_of_lt_of_le hl h.keep.size)⟩
theorem RvI.app {X w5 : World} (h : RvI W q r vf rp x s i vo hl X) (hi : i < x.safe.files.length) (hq : q < W.heap.size) (f : Pl.FileP) (hf : f = x.safe.files[i]) (u : Value) (hu : IntsF rp W u f.blocks) (hs : 0 ≤ f.size) {ob : Obj} {g cap : Nat}
  (hown : w5.ownsRow W.heap.size 111 4 (.slice (some ⟨g, 0, none⟩) (i + 1) cap) (i + 1) (rfcells hl ++ (#[.string f.name, .string (Pl.loadF s f), .int .i64 f.size, u] : Array Value).toList)) (hgrow : (X.alloc ob).grownBy w5 vo.ownBlock) :
  Blk w5 q #[.pointer (some ⟨r, 0, none⟩), .int .i64 (x.epoch : Int), .int .u64 (x.safe.gen : Int), vf, vo, .bool false] 101 ∧ ∃ hl', RvI W q r vf rp x s (i + 1) (.slice (some ⟨g, 0, none⟩) (i + 1) cap) hl' (w5.setCell ⟨q, 4, none⟩ (.slice (some ⟨g, 0, none⟩) (i + 1) cap)) := by
 have kg : Keep (fun k => vo.ownBlock ≠ some k) X w5 := keep_app hgrow
 have hsz : ((f.size.toNat : Nat) : Int) = f.size := Int.toNat_of_nonneg hs
 have hvo : ∀ k, vo.ownBlock = some k → W.heap.size ≤ k := fun k e => (h.row.lt k e).1
 have hB5 : Blk w5 q _ _ := h.blk.keep kg (fun e => by have := hvo q e; omega)
 have k5 := keep_set w5 q 4 (.slice (some ⟨g, 0, none⟩) (i + 1) cap)
 have hlen := h.len (Nat.le_of_lt hi)
 refine ⟨hB5, hl ++ [((⟨f.name, Pl.loadF s f, f.size.toNat, f.blocks⟩ : Pl.RF1), u)], hB5.set 4 _, ?_, ?_, fun y hy => ?_, (h.keep.trans kg (fun k _ hl e => by have := hvo k e; omega)).trans k5 (fun k hk _ => hk)⟩
 ·rw [rfcells_append, List.length_append, List.length_singleton, hlen]
  have e1 : rfcells [((⟨f.name, Pl.loadF s f, f.size.toNat, f.blocks⟩ : Pl.RF1), u)] = (#[.string f.name, .string (Pl.loadF s f), .int .i64 f.size, u] : Array Value).toList := by rw [← hsz]; rfl
  rw [e1]
  exact k5.ownsRow hown (fun k e => by have := (hown.lt k e).1; omega)
 ·rw [List.map_append, h.map, List.take_succ_eq_append_getElem (by simp [Pl.loadR]; exact hi)]
  congr 1
  simp [Pl.loadR, hf]
 ·rcases List.mem_append.1 hy with hy | hy
  ·exact h.ints y hy
  ·rw [List.mem_singleton.1 hy]; exact hu
theorem RvI.done {X : World} (h : RvI W q r vf rp x s x.safe.files.length vo hl X) (ho : RfO B q r vf vh rp hl0 x W) (hB : B ≤ W.heap.size) (hd : x.dead s = false) :
  RfO B q r vf vo rp hl (x.revertR s) X ∧ Step (rfFp q vh rp) (rfFp q vo rp) W X := by
 have hkr : Keep rp W X := h.keep.mono (fun k hk _ e => ho.nq (e ▸ hk))
 have hall : (Pl.loadR s x.safe).take x.safe.files.length = Pl.loadR s x.safe := List.take_of_length_le (by simp [Pl.loadR])
 have hx : x.revertR s = { x with hand := Pl.loadR s x.safe, changed := false } := by unfold Pl.Rf.revertR; rw [if_neg (by rw [hd]; exact Bool.false_ne_true)]
 rw [hx]
 have hnew : ∀ k, vo.ownBlock = some k → W.heap.size ≤ k ∧ k < X.heap.size := fun k e => h.row.lt k e
 refine ⟨⟨h.blk, ho.files.keep hkr (fun _ h => h), row_base h.row hB, fun y hy => (h.ints y hy).keep hkr (fun _ h => h), by rw [h.map, hall], ho.nq, fun k e => ⟨fun e2 => by have := ho.lt k e2; have := hnew k e; omega, fun e2 => by have := hnew k e; have := ho.blk.lt; omega⟩, fun k hk => Nat.lt_of_lt_of_le (ho.lt k hk) h.keep.size, ho.low, ho.lq⟩, ⟨h.keep.mono (fun k hk _ e => hk (.inl e)), fun k hk => ?_, fun k hk => ?_⟩⟩
 ·rcases hk with hk | hk | hk
  ·exact .inl (.inl hk)
  ·exact .inr (hnew k hk).1
  ·exact .inl (.inr (.inr hk))
 ·rcases hk with rfl | hk | hk
  ·exact h.blk.lt
  ·exact (hnew k hk).2
  ·exact Nat.lt_of_lt_of_le (ho.lt k hk) h.keep.size
set_option maxHeartbeats 4000000 in
theorem rrevert_any (h : RfAt B q r x fp W) (hr : RefAt Br r s fpr W) (hdj : ∀ k, fp k → ¬ fpr k) (hB : B ≤ W.heap.size) (hw : s.wait.length ≤ 9223372036854775807) (hN : s.safe.length ≤ 16384) (hm : Pl.May (s.safe.length : Int) x.safe) :
  Calls Tryz.prog 43 #[.pointer (some ⟨q, 0, none⟩)] W fun e w' => (∃ v, e = .returned v) ∧ ∃ fp', RfAt B q r (x.revertR s) fp' w' ∧ Step fp fp' W w' := by
 have h0 := h
 obtain ⟨vf, vh, rp, hl0, ho, rfl⟩ := h
 cases hdd : x.dead s with
 | true =>
  have PD := Lib.hid (rdead_is hdd h0 hr)
  have hres : Hid (∀ m, RfAt B q r (x.revertR s) (rfFp q vh rp) (W.drewN m) ∧ Step (rfFp q vh rp) (rfFp q vh rp) W (W.drewN m)) := Lib.hid (fun m => by
   unfold Pl.Rf.revertR
   rw [if_pos hdd]
   exact ⟨h0.keep ((Keep.refl _ W).drewN m), ⟨(Keep.refl _ W).drewN m, fun _ h => .inl h, fun k hk => h0.lt k hk⟩⟩)
  clear h0 ho hr hdd
  go_enter Tryz.func43, Tryz.ntmps43
  go_wp2_with (go_at_call 64; refine PD.out.mono ?_; rintro e w1 ⟨rfl, m, rfl⟩)
  refine bodyPost_ret (results_none rfl _ _ _) rfl ?_
  exact ⟨⟨_, rfl⟩, _, (hres.out m).1, (hres.out m).2⟩
 | false =>
  have PD := Lib.hid (rdead_is hdd h0 hr)
  have hup : s.down = false := by
   unfold Pl.Rf.dead at hdd
   cases hs : s.down with
   | false => rfl
   | true => rw [hs] at hdd; cases hdd
  have hrq : ¬ fpr q := hdj q (.inl rfl)
  have hql := ho.blk.lt
  have hfin := Lib.hid (fun (vo : Value) (hl : List (Pl.RF1 × Value)) (X : World) (hI : RvI W q r vf rp x s x.safe.files.length vo hl X) => hI.done ho hB hdd)
  have hst : Hid (∀ m, RvI W q r vf rp x s 0 (.slice none 0 0) [] (((W.drewN m).setCell ⟨q, 5, none⟩ (.bool false)).setCell ⟨q, 4, none⟩ (.slice none 0 0))) := Lib.hid (fun m => by
   have kd : Keep (fun _ => True) W (W.drewN m) := (Keep.refl _ W).drewN m
   have b1 : Blk (W.drewN m) q _ _ := ho.blk.keep kd trivial
   refine ⟨(b1.set 5 (.bool false)).set 4 (.slice none 0 0), World.ownsRow_nil _ _ _ _, by simp, fun y hy => (by cases hy), ?_⟩
   exact ((kd.mono (fun k _ _ => trivial)).trans (keep_set (W.drewN m) q 5 (.bool false)) (fun k hk _ => hk)).trans (keep_set _ q 4 _) (fun k hk _ => hk))
  have hld := Lib.hid (fun (X : World) (hk : Keep (fun k => k ≠ q) W X) (hc : X.cell? ⟨q, 0, none⟩ = some (.pointer (some ⟨r, 0, none⟩))) (f : Pl.FileP) (ua : Option Addr) (uc : Nat) (hf : f ∈ x.safe.files) (hu : IntsAt X (.slice ua f.blocks.length uc) f.blocks) => by
   obtain ⟨f1, f2, f3, f4, f5⟩ := hm.blocks (by omega) hf
   have hsz : f.size ≤ (f.blocks.length * 256 : Nat) := by
    obtain ⟨j, hj, e⟩ := List.mem_iff_getElem.1 hf
    have h4 := (hm.head j hj).2.2.2
    rw [e] at h4
    unfold Pl.takesB at h4
    split at h4 <;> omega
   exact rload_any (W := X) hc (Nat.lt_of_lt_of_le hql hk.size) (hr.keep (hk.mono (fun k hk2 _ e => hrq (e ▸ hk2)))) hup hw f ua uc hu f1 (fun b hb => by have := f2 b hb; omega) f3 hsz)
  obtain ⟨c0, c1, c2, c3, c4, c5⟩ := ho.cells
  have z4 := ho.blk.frozen 4
  have z5 := ho.blk.frozen 5
  obtain ⟨ao, cap, rfl, fc1, fc2, hfx⟩ := id ho.files
  have hrp := ho.lt
  have hnq := ho.nq
  have hmany := hm.many
  have hsn : ∀ i (hi : i < x.safe.files.length), 0 ≤ x.safe.files[i].size := fun i hi => (hm.head i hi).2.2.1
  clear h0 ho hr hdd hm hdj hup hrq
  go_enter Tryz.func43, Tryz.ntmps43
  go_upto_region 4 with (go_at_call 64; refine PD.out.mono ?_; rintro e w1 ⟨rfl, m, rfl⟩)
  have hI0 := hst.out m
  generalize ((W.drewN m).setCell ⟨q, 5, none⟩ (.bool false)).setCell ⟨q, 4, none⟩ (.slice none 0 0) = w2 at hI0 ⊢
  obtain ⟨FS, hFS⟩ : ∃ FS, FS = x.safe.files := ⟨_, rfl⟩
  clear hst PD c0 c1 c2 c4 c5 z4 z5
  go_wp2_with fail
  go_loopw [3] (fun iv X => ∃ (i : Nat) (a1 : Option Addr) (k1 : Nat) (hl : List (Pl.RF1 × Value)), i ≤ x.safe.files.length ∧ iv = .int .i64 (i : Int) ∧ RvI W q r (.slice ao x.safe.files.length cap) rp x s i (.slice a1 i k1) hl X) (fun iv _ => x.safe.files.length - (intOf iv).toNat)
  case atStart => exact ⟨0, none, 0, [], Nat.zero_le _, rfl, hI0⟩
  clear hI0
  case round =>
   obtain ⟨i, a1, k1, hl, hi, rfl, hI⟩ := hrel
   have d3 : wr.cell? ⟨q, 3, none⟩ = some (.slice ao x.safe.files.length cap) := by simp [hI.blk.cell]
   have hi0 : (0 : Int) ≤ (i : Int) := by omega
   by_cases hil : i < x.safe.files.length
   ·have hi2 : (i : Int) < (x.safe.files.length : Int) := by omega
    obtain ⟨b, off, rfl, hbl, hrb, hfi⟩ := hfx (by omega)
    obtain ⟨z0, z1, u, z2, hu⟩ := hfi i hil
    have hsi := hsn i hil
    have hbq : b ≠ q := fun e => hnq (e ▸ hrb)
    have y0 := hI.keep.cell (b := b) (o := off + i * 3) hbq z0
    have y1 := hI.keep.cell (b := b) (o := off + i * 3 + 1) hbq z1
    have y2 := hI.keep.cell (b := b) (o := off + i * 3 + 2) hbq z2
    have hmem := List.getElem_mem hil
    have hap := Lib.hid (fun (X w5 : World) (hI : RvI W q r (.slice (some ⟨b, off, none⟩) x.safe.files.length cap) rp x s i (.slice a1 i k1) hl X) ob g cap' hown hgrow => RvI.app (w5 := w5) (ob := ob) (g := g) (cap := cap') hI hil hql (x.safe.files[i]'hil) rfl u hu hsi hown hgrow)
    have hlen := hI.len (Nat.le_of_lt hil)
    have hui := hu.keep (hI.keep.mono (fp' := rp) (fun k hk _ e => hnq (e ▸ hk))) (fun _ h => h)
    obtain ⟨ua, uc, rfl, _⟩ := id hui.1
    generalize x.safe.files[i] = f at *
    clear z0 z1 z2 hu hfi hfx hsn
    go_upto_region 8 with (fail)
    have hX0 := Blk.new wr #[.string f.name, .int .i64 f.size, .slice ua f.blocks.length uc] 76
    have hb4 : Below wr.heap.size wr (wr.alloc (.cells #[.string f.name, .int .i64 f.size, .slice ua f.blocks.length uc] 76)) := (Below.refl _ _).alloc (Nat.le_refl _) _
    have hI4 := hI.still hb4
    have hu4 := hui.1.below hb4
    generalize wr.alloc (.cells #[.string f.name, .int .i64 f.size, .slice ua f.blocks.length uc] 76) = w4 at hX0 hI4 hu4 ⊢
    have hbx : ∀ k, (Value.slice a1 i k1).ownBlock = some k → k ≠ wr.heap.size := fun k e e2 => by have := (hI.row.lt k e).2; omega
    have hbxq : wr.heap.size ≠ q := fun e => by have := hI.keep.size; omega
    generalize wr.heap.size = bx at hX0 hbx hbxq ⊢
    have d0 : w4.cell? ⟨q, 0, none⟩ = some (.pointer (some ⟨r, 0, none⟩)) := by simp [hI4.blk.cell]
    have d4 : w4.cell? ⟨q, 4, none⟩ = some (.slice a1 i k1) := by simp [hI4.blk.cell]
    have x0 : w4.cell? ⟨bx, 0, none⟩ = some (.string f.name) := by simp [hX0.cell]
    have x1 : w4.cell? ⟨bx, 1, none⟩ = some (.int .i64 f.size) := by simp [hX0.cell]
    have x2 : w4.cell? ⟨bx, 2, none⟩ = some (.slice ua f.blocks.length uc) := by simp [hX0.cell]
    have kd4 : Keep (fun _ => True) w4 w4.drew := (Keep.refl _ w4).drew
    have hb44 : Below w4.heap.size w4 w4.drew := (Below.refl _ _).drew
    have PL := Lib.hid (hld.out w4.drew (hI4.keep.trans (kd4.mono (fun _ _ _ => trivial)) (fun k hk _ => hk)) (kd4.cell (b := q) (o := 0) trivial d0) f ua uc hmem (hu4.below hb44))
    have hres : Hid (∀ w5, Below w4.drew.heap.size w4.drew w5 → RvI W q r (.slice (some ⟨b, off, none⟩) x.safe.files.length cap) rp x s i (.slice a1 i k1) hl w5 ∧ w5.cell? ⟨q, 4, none⟩ = some (.slice a1 i k1) ∧ w5.cell? ⟨bx, 0, none⟩ = some (.string f.name) ∧ w5.cell? ⟨bx, 1, none⟩ = some (.int .i64 f.size) ∧ w5.cell? ⟨bx, 2, none⟩ = some (.slice ua f.blocks.length uc) ∧ w5.ownsRow W.heap.size 111 4 (.slice a1 i k1) i (rfcells hl) ∧ W.heap.size ≤ w5.heap.size ∧ Blk w5 bx #[.string f.name, .int .i64 f.size, .slice ua f.blocks.length uc] 76) := Lib.hid (fun w5 b5 => by
     have b45 : Below w4.heap.size w4 w5 := hb44.trans b5
     have hI5 := hI4.still b45
     have hrow := hI5.row
     rw [hlen] at hrow
     exact ⟨hI5, (b45.cell (p := ⟨q, 4, none⟩) hI4.blk.lt).trans d4, (b45.cell (p := ⟨bx, 0, none⟩) hX0.lt).trans x0, (b45.cell (p := ⟨bx, 1, none⟩) hX0.lt).trans x1, (b45.cell (p := ⟨bx, 2, none⟩) hX0.lt).trans x2, hrow, hI5.keep.size, (b45.block bx hX0.lt).trans hX0⟩)
    have hi64 : i ≤ 64 := by omega
    clear hI hI4 hui hu4 hX0 hb4 hld hfin y0 y1 y2 d3 hlen hmem kd4 hb44
    refine wp_region_held_drew (S := fun W' => W'.cell? ⟨bx, 0, none⟩ = some (.string f.name) ∧ W'.cell? ⟨bx, 1, none⟩ = some (.int .i64 f.size) ∧ W'.cell? ⟨bx, 2, none⟩ = some (.slice ua f.blocks.length uc)) (by kernel_rfl) ⟨x0, x1, x2⟩ (fun hHeld => ?_)
    refine wpAnyH_take (i := 0) (v := ?_) rfl (by kernel_rfl) (by kernel_rfl) (by kernel_rfl) (fun _ _ _ h => h) (Or.inl ⟨by rfl, ?_⟩) (by assumption) ?_
    rotate_left 1
    ·intro w hSw
     try dsimp only at hSw
     obtain ⟨hs1, hs2, hs3⟩ := hSw
     go_simp
     try with_reducible rfl
    try simp only [Act.put, List.getElem_toArray, List.getElem_cons_zero, List.getElem_cons_succ, List.setIfInBounds_toArray, List.set_cons_zero, List.set_cons_succ]
    refine wpAnyH_take (i := 1) (v := ?_) rfl (by kernel_rfl) (by kernel_rfl) (by kernel_rfl) (fun _ _ _ h => h) (Or.inl ⟨by rfl, ?_⟩) (by assumption) ?_
    rotate_left 1
    ·intro w hSw
     try dsimp only at hSw
     obtain ⟨hs1, hs2, hs3⟩ := hSw
     go_simp
     try with_reducible rfl
    try simp only [Act.put, List.getElem_toArray, List.getElem_cons_zero, List.getElem_cons_succ, List.setIfInBounds_toArray, List.set_cons_zero, List.set_cons_succ]
    refine wpAnyH_take (i := 2) (v := ?_) rfl (by kernel_rfl) (by kernel_rfl) (by kernel_rfl) (fun _ _ _ h => h) (Or.inl ⟨by rfl, ?_⟩) (by assumption) ?_
    rotate_left 1
    ·intro w hSw
     try dsimp only at hSw
     obtain ⟨hs1, hs2, hs3⟩ := hSw
     go_simp
     try with_reducible rfl
    try simp only [Act.put, List.getElem_toArray, List.getElem_cons_zero, List.getElem_cons_succ, List.setIfInBounds_toArray, List.set_cons_zero, List.set_cons_succ]
    refine wpAnyH_take (i := 3) (v := ?_) rfl (by kernel_rfl) (by kernel_rfl) (by kernel_rfl) (fun _ _ _ h => h) (Or.inl ⟨by rfl, ?_⟩) (by assumption) ?_
    rotate_left 1
    ·intro w hSw
     try dsimp only at hSw
     obtain ⟨hs1, hs2, hs3⟩ := hSw
     go_simp
     try with_reducible rfl
    try simp only [Act.put, List.getElem_toArray, List.getElem_cons_zero, List.getElem_cons_succ, List.setIfInBounds_toArray, List.set_cons_zero, List.set_cons_succ]
    refine wpAnyH_take (i := 5) (v := ?_) rfl (by kernel_rfl) (by kernel_rfl) (by kernel_rfl) (fun _ _ _ h => h) (Or.inl ⟨by rfl, ?_⟩) (by assumption) ?_
    rotate_left 1
    ·intro w hSw
     try dsimp only at hSw
     obtain ⟨hs1, hs2, hs3⟩ := hSw
     go_simp
     try with_reducible rfl
    try simp only [Act.put, List.getElem_toArray, List.getElem_cons_zero, List.getElem_cons_succ, List.setIfInBounds_toArray, List.set_cons_zero, List.set_cons_succ]
    refine wpAnyH_take (i := 6) (v := ?_) rfl (by kernel_rfl) (by kernel_rfl) (by kernel_rfl) (fun _ _ _ h => h) (Or.inl ⟨by rfl, ?_⟩) (by assumption) ?_
    rotate_left 1
    ·intro w hSw
     try dsimp only at hSw
     obtain ⟨hs1, hs2, hs3⟩ := hSw
     go_simp
     try with_reducible rfl
    try simp only [Act.put, List.getElem_toArray, List.getElem_cons_zero, List.getElem_cons_succ, List.setIfInBounds_toArray, List.set_cons_zero, List.set_cons_succ]
    refine wpAnyH_take (i := 7) (v := ?_) rfl (by kernel_rfl) (by kernel_rfl) (by kernel_rfl) (fun _ _ _ h => h) (Or.inl ⟨by rfl, ?_⟩) (by assumption) ?_
    rotate_left 1
    ·intro w hSw
     try dsimp only at hSw
     obtain ⟨hs1, hs2, hs3⟩ := hSw
     go_simp
     try with_reducible rfl
    try simp only [Act.put, List.getElem_toArray, List.getElem_cons_zero, List.getElem_cons_succ, List.setIfInBounds_toArray, List.set_cons_zero, List.set_cons_succ]
    refine wpAnyH_take (i := 8) (v := ?_) rfl (by kernel_rfl) (by kernel_rfl) (by kernel_rfl) (fun _ _ _ h => h) (Or.inl ⟨by rfl, ?_⟩) (by assumption) ?_
    rotate_left 1
    ·intro w hSw
     try dsimp only at hSw
     obtain ⟨hs1, hs2, hs3⟩ := hSw
     go_simp
     try with_reducible rfl
    try simp only [Act.put, List.getElem_toArray, List.getElem_cons_zero, List.getElem_cons_succ, List.setIfInBounds_toArray, List.set_cons_zero, List.set_cons_succ]
    refine wpAnyH_take (i := 10) (v := ?_) rfl (by kernel_rfl) (by kernel_rfl) (by kernel_rfl) (fun _ _ _ h => h) (Or.inl ⟨by rfl, ?_⟩) (by assumption) ?_
    rotate_left 1
    ·intro w hSw
     try dsimp only at hSw
     obtain ⟨hs1, hs2, hs3⟩ := hSw
     go_simp
     try with_reducible rfl
    try simp only [Act.put, List.getElem_toArray, List.getElem_cons_zero, List.getElem_cons_succ, List.setIfInBounds_toArray, List.set_cons_zero, List.set_cons_succ]
    refine wpAnyH_take (i := 11) (v := ?_) rfl (by kernel_rfl) (by kernel_rfl) (by kernel_rfl) (fun _ _ _ h => h) (Or.inl ⟨by rfl, ?_⟩) (by assumption) ?_
    rotate_left 1
    ·intro w hSw
     try dsimp only at hSw
     obtain ⟨hs1, hs2, hs3⟩ := hSw
     go_simp
     try with_reducible rfl
    try simp only [Act.put, List.getElem_toArray, List.getElem_cons_zero, List.getElem_cons_succ, List.setIfInBounds_toArray, List.set_cons_zero, List.set_cons_succ]
    refine wpAnyH_take (i := 12) (v := ?_) rfl (by kernel_rfl) (by kernel_rfl) (by kernel_rfl) (fun _ _ _ h => h) (Or.inl ⟨by rfl, ?_⟩) (by assumption) ?_
    rotate_left 1
    ·intro w hSw
     try dsimp only at hSw
     obtain ⟨hs1, hs2, hs3⟩ := hSw
     go_simp
     try with_reducible rfl
    try simp only [Act.put, List.getElem_toArray, List.getElem_cons_zero, List.getElem_cons_succ, List.setIfInBounds_toArray, List.set_cons_zero, List.set_cons_succ]
    refine wpAnyH_take (i := 13) (v := ?_) rfl (by kernel_rfl) (by kernel_rfl) (by kernel_rfl) (fun _ _ _ h => h) (Or.inl ⟨by rfl, ?_⟩) (by assumption) ?_
    rotate_left 1
    ·intro w hSw
     try dsimp only at hSw
     obtain ⟨hs1, hs2, hs3⟩ := hSw
     go_simp
     try with_reducible rfl
    try simp only [Act.put, List.getElem_toArray, List.getElem_cons_zero, List.getElem_cons_succ, List.setIfInBounds_toArray, List.set_cons_zero, List.set_cons_succ]
    apply (via2 (H := fun w5 => Below w4.drew.heap.size w4.drew w5))
    ·intro hG
     refine wpAnyH_ready (rs := [4, 9]) (by kernel_rfl) (by simp) ?_
     refine AllReadyH.cons rfl (fun K hK => ?_) (AllReadyH.cons rfl (fun K hK => ?_) AllReadyH.nil)
     ·go_simp
      refine hK.out _ _ ⟨x0, x1, x2⟩ (fun hHeld2 => ?_)
      clear hK K
      try simp only [Act.put, List.getElem_toArray, List.getElem_cons_zero, List.getElem_cons_succ, List.setIfInBounds_toArray, List.set_cons_zero, List.set_cons_succ]
      refine wpAnyH_ready (rs := [9]) (by kernel_rfl) (by simp) ?_
      refine AllReadyH.cons rfl (fun K hK => ?_) AllReadyH.nil
      go_simp
      go_at_call 77
      refine PL.out.mono ?_
      rintro e w5 ⟨rfl, b5⟩
      have ⟨hI5, e4, v0, v1, v2, hrow5, hB5, hX5⟩ := hres.out w5 b5
      refine hK.out _ _ ⟨v0, v1, v2⟩ (fun hHeld3 => ?_)
      clear hK K
      try simp only [Act.put, List.getElem_toArray, List.getElem_cons_zero, List.getElem_cons_succ, List.setIfInBounds_toArray, List.set_cons_zero, List.set_cons_succ]
      refine wpAnyH_take (i := 14) (v := ?_) rfl (by kernel_rfl) (by kernel_rfl) (by kernel_rfl) (fun _ _ _ h => h) (Or.inl ⟨by rfl, ?_⟩) (by assumption) ?_
      rotate_left 1
      ·intro w hSw
       try dsimp only at hSw
       obtain ⟨hs1, hs2, hs3⟩ := hSw
       go_simp
       try with_reducible rfl
      try simp only [Act.put, List.getElem_toArray, List.getElem_cons_zero, List.getElem_cons_succ, List.setIfInBounds_toArray, List.set_cons_zero, List.set_cons_succ]
      refine wpAnyH_ready (rs := [15]) (by kernel_rfl) (by simp) ?_
      refine AllReadyH.cons rfl (fun K hK => ?_) AllReadyH.nil
      go_simp
      refine hK.out _ _ (by go_keep) (fun hHeld4 => ?_)
      clear hK K
      try simp only [Act.put, List.getElem_toArray, List.getElem_cons_zero, List.getElem_cons_succ, List.setIfInBounds_toArray, List.set_cons_zero, List.set_cons_succ]
      exact hG w5 b5
     ·go_simp
      go_at_call 77
      refine PL.out.mono ?_
      rintro e w5 ⟨rfl, b5⟩
      have ⟨hI5, e4, v0, v1, v2, hrow5, hB5, hX5⟩ := hres.out w5 b5
      have e4a := fun ob => (World.cell?_alloc_some w5 ⟨q, 4, none⟩ ob (by simp [e4])).trans e4
      refine hK.out _ _ ⟨v0, v1, v2⟩ (fun hHeld3 => ?_)
      clear hK K
      try simp only [Act.put, List.getElem_toArray, List.getElem_cons_zero, List.getElem_cons_succ, List.setIfInBounds_toArray, List.set_cons_zero, List.set_cons_succ]
      refine wpAnyH_take (i := 14) (v := ?_) rfl (by kernel_rfl) (by kernel_rfl) (by kernel_rfl) (fun _ _ _ h => h) (Or.inl ⟨by rfl, ?_⟩) (by assumption) ?_
      rotate_left 1
      ·intro w hSw
       try dsimp only at hSw
       obtain ⟨hs1, hs2, hs3⟩ := hSw
       go_simp
       try with_reducible rfl
      try simp only [Act.put, List.getElem_toArray, List.getElem_cons_zero, List.getElem_cons_succ, List.setIfInBounds_toArray, List.set_cons_zero, List.set_cons_succ]
      refine wpAnyH_ready (rs := [4, 15]) (by kernel_rfl) (by simp) ?_
      refine AllReadyH.cons rfl (fun K hK => ?_) (AllReadyH.cons rfl (fun K hK => ?_) AllReadyH.nil)
      ·go_simp
       refine hK.out _ _ ⟨v0, v1, v2⟩ (fun hHeld5 => ?_)
       clear hK K
       try simp only [Act.put, List.getElem_toArray, List.getElem_cons_zero, List.getElem_cons_succ, List.setIfInBounds_toArray, List.set_cons_zero, List.set_cons_succ]
       refine wpAnyH_ready (rs := [15]) (by kernel_rfl) (by simp) ?_
       refine AllReadyH.cons rfl (fun K hK => ?_) AllReadyH.nil
       go_simp
       refine hK.out _ _ (by go_keep) (fun hHeld4 => ?_)
       clear hK K
       try simp only [Act.put, List.getElem_toArray, List.getElem_cons_zero, List.getElem_cons_succ, List.setIfInBounds_toArray, List.set_cons_zero, List.set_cons_succ]
       exact hG w5 b5
      ·go_simp
       refine hK.out _ _ (by go_keep) (fun hHeld5 => ?_)
       clear hK K
       try simp only [Act.put, List.getElem_toArray, List.getElem_cons_zero, List.getElem_cons_succ, List.setIfInBounds_toArray, List.set_cons_zero, List.set_cons_succ]
       refine wpAnyH_ready (rs := [4]) (by kernel_rfl) (by simp) ?_
       refine AllReadyH.cons rfl (fun K hK => ?_) AllReadyH.nil
       go_simp
       refine hK.out _ _ (by go_keep) (fun hHeld6 => ?_)
       clear hK K
       try simp only [Act.put, List.getElem_toArray, List.getElem_cons_zero, List.getElem_cons_succ, List.setIfInBounds_toArray, List.set_cons_zero, List.set_cons_succ]
       exact hG w5 b5
    intro w5 b5
    have ⟨hI5, e4, v0, v1, v2, hrow5, hB5, hX5⟩ := hres.out w5 b5
    refine wpAnyH_ready (rs := [16]) (by kernel_rfl) (by simp) ?_
    refine AllReadyH.cons rfl (fun K hK => ?_) AllReadyH.nil
    refine step_app2 (by rfl) _ _ 99 (by rfl) W.heap.size 111 _ 4 64 Tryz.underlying99 info_rf1 rfl (by decide) (.slice a1 i k1) i (rfcells hl) w5 hrow5 hB5 (by rfl) #[.string f.name, .string (Pl.loadF s f), .int .i64 f.size, .slice ua f.blocks.length uc] 111 (by rfl) rfl (by simp [Value.oneCell']) (by omega) (by decide) ?_
    intro g cap' w6 hown hgrow hat hg
    have ⟨hB6, hl', hI6⟩ := hap.out w5 w6 hI5 _ g cap' hown hgrow
    have f4 := hB6.frozen 4
    have f5 : w6.cell? ⟨q, 4, none⟩ = some (.slice a1 i k1) := (by simp [hB6.cell])
    have hX6 := hX5.keep (keep_app hgrow) (fun e => hbx _ e rfl)
    have q0 : w6.cell? ⟨bx, 0, none⟩ = some (.string f.name) := (by simp [hX6.cell])
    have q1 : w6.cell? ⟨bx, 1, none⟩ = some (.int .i64 f.size) := (by simp [hX6.cell])
    have q2 : w6.cell? ⟨bx, 2, none⟩ = some (.slice ua f.blocks.length uc) := (by simp [hX6.cell])
    replace hI6 := Lib.hid hI6
    have hXs := hX6.keep (keep_set w6 q 4 (.slice (some ⟨g, 0, none⟩) (i + 1) cap')) hbxq
    have s0 := hXs.cell 0
    have s1 := hXs.cell 1
    have s2 := hXs.cell 2
    refine hK.out _ _ ⟨q0, q1, q2⟩ (fun hHeld7 => ?_)
    clear hK K
    try simp only [Act.put, List.getElem_toArray, List.getElem_cons_zero, List.getElem_cons_succ, List.setIfInBounds_toArray, List.set_cons_zero, List.set_cons_succ]
    refine wpAnyH_take (i := 17) (v := ?_) rfl (by kernel_rfl) (by kernel_rfl) (by kernel_rfl) (fun _ _ _ h => h) (Or.inl ⟨by rfl, ?_⟩) (by assumption) ?_
    rotate_left 1
    ·intro w hSw
     try dsimp only at hSw
     obtain ⟨hs1, hs2, hs3⟩ := hSw
     go_simp
     try with_reducible rfl
    try simp only [Act.put, List.getElem_toArray, List.getElem_cons_zero, List.getElem_cons_succ, List.setIfInBounds_toArray, List.set_cons_zero, List.set_cons_succ]
    refine wpAnyH_take (i := 18) (v := ?_) rfl (by kernel_rfl) (by kernel_rfl) (by kernel_rfl) (fun _ _ _ h => h) (Or.inl ⟨by rfl, ?_⟩) (by assumption) ?_
    rotate_left 1
    ·intro w hSw
     try dsimp only at hSw
     obtain ⟨hs1, hs2, hs3⟩ := hSw
     go_simp
     try with_reducible rfl
    try simp only [Act.put, List.getElem_toArray, List.getElem_cons_zero, List.getElem_cons_succ, List.setIfInBounds_toArray, List.set_cons_zero, List.set_cons_succ]
    refine wpAnyH_ready (rs := [19]) (by kernel_rfl) (by simp) ?_
    refine AllReadyH.cons rfl (fun K hK => ?_) AllReadyH.nil
    go_simp
    refine hK.out _ _ ⟨s0, s1, s2⟩ (fun hHeld8 => ?_)
    clear hK K
    refine wpAnyH_done (by kernel_rfl) ?_ _
    clear hap hres PL d0 d4 x0 x1 x2
    go_wp2_with fail
    go_roundw
    case rel => exact ⟨i + 1, some ⟨g, 0, none⟩, cap', hl', by omega, by go_num, hI6.out⟩
    case measure => simp [intOf]; omega
   ·obtain rfl : i = x.safe.files.length := by omega
    have hi2 : ¬ (x.safe.files.length : Int) < (x.safe.files.length : Int) := by omega
    obtain ⟨g1, g2⟩ := hfin.out _ _ _ hI
    replace g1 := Lib.hid g1
    replace g2 := Lib.hid g2
    clear hI hfx hfin hld
    go_wp2
    go_end0
    exact ⟨⟨_, rfl⟩, _, RfAt.of g1.out, g2.out⟩
end
end Go.Proofs.YtogblcdefbnbeaaGreat
