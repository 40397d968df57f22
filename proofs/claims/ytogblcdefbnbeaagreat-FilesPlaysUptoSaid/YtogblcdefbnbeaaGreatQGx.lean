
/- A file system in memory, by its footprint. Condition: none. -/
import Derived.Test.YtogblcdefbnbeaaGreatQGc
import Derived.Test.YtogblcdefbnbeaaGreatQGg
import Derived.Test.YtogblcdefbnbeaaGreatQGn
import Derived.Test.YtogblcdefbnbeaaGreatQGi
import Derived.Test.YtogblcdefbnbeaaGreatQGe
import Derived.Deep.QuietTactic
import Derived.BigQuiet
import Derived.IntWalk
import Derived.StringKeys
import Derived.Outline
set_option maxRecDepth 100000
namespace Go.Proofs.YtogblcdefbnbeaaGreat
section
open Go.RowKit Go.Maps
def IntsF (fp : Nat → Prop) (W : World) (v : Value) (l : List Int) : Prop := IntsAt W v l ∧ (0 < l.length → ∀ b, v.ownBlock = some b → fp b)
theorem IntsF.keep {fp fp' : Nat → Prop} {W W' : World} {v : Value} {l : List Int} (h : IntsF fp W v l) (hk : Keep fp W W') (hf : ∀ k, fp k → fp' k) : IntsF fp' W' v l :=
 ⟨h.1.kept hk.size (fun h0 b hb e => hk.block b (h.2 h0 b e) hb), fun h0 b e => hf b (h.2 h0 b e)⟩
theorem IntsF.nil (fp : Nat → Prop) (W : World) : IntsF fp W (.slice none 0 0) [] := ⟨⟨none, 0, rfl, Nat.le_refl _, by decide, fun h => by simp at h⟩, fun h => by simp at h⟩
theorem IntsAt.one {W : World} {v : Value} {l r : List Int} (h : IntsAt W v l) (h' : IntsAt W v r) : l = r := by
 obtain ⟨a, c, rfl, h1, h2, h3⟩ := h
 obtain ⟨a', c', e, h1', h2', h3'⟩ := h'
 injection e with e1 e2 e3
 subst e1 e3
 refine List.ext_getElem e2 (fun i hi hi' => ?_)
 obtain ⟨b, off, rfl, hb, hc⟩ := h3 (by omega)
 obtain ⟨b', off', e, hb', hc'⟩ := h3' (by omega)
 injection e with e
 injection e with e1 e2
 subst e1 e2
 have := (hc i hi).symm.trans (hc' i hi')
 injection this with this
 injection this
def FileV (fp : Nat → Prop) (W : World) (v : Value) (x : Pl.HF) : Prop := ∃ u, v = .agg #[u, .int .i64 (x.old : Int), .string x.added] ∧ IntsF fp W u x.blocks
theorem FileV.one {fp : Nat → Prop} {W : World} {v : Value} {x y : Pl.HF} (h : FileV fp W v x) (h' : FileV fp W v y) : x = y := by
 obtain ⟨u, rfl, h⟩ := h
 obtain ⟨u', e, h'⟩ := h'
 simp only [Value.agg.injEq, Array.mk.injEq, List.cons.injEq, and_true, Value.int.injEq, Value.string.injEq, true_and] at e
 obtain ⟨e1, e2, e3⟩ := e
 subst e1
 have eb := h.1.one h'.1
 cases x; cases y
 simp only at e2 e3 eb
 subst e3 eb
 congr
 omega
theorem FileV.keep {fp fp' : Nat → Prop} {W W' : World} {v : Value} {x : Pl.HF} (h : FileV fp W v x) (hk : Keep fp W W') (hf : ∀ k, fp k → fp' k) : FileV fp' W' v x := by
 obtain ⟨u, rfl, h⟩ := h
 exact ⟨u, rfl, h.keep hk hf⟩
theorem FileV.zero (fp : Nat → Prop) (W : World) : FileV fp W (.agg #[.slice none 0 0, .int .i64 0, .string .empty]) Pl.HF.zero := ⟨_, rfl, IntsF.nil fp W⟩
open Classical in
noncomputable def RF (fp : Nat → Prop) (W : World) (v : Value) : Option (DataW Pl.HF × List MemPlace) := if h : ∃ x, FileV fp W v x then some (.held (Classical.choose h), []) else none
theorem RF_mk {fp : Nat → Prop} {W : World} {v : Value} {x : Pl.HF} (h : FileV fp W v x) : RF fp W v = some (.held x, []) := by
 unfold RF
 have h2 : ∃ x, FileV fp W v x := ⟨x, h⟩
 rw [dif_pos h2]
 rw [(Classical.choose_spec h2).one h]
theorem RF_inv {fp : Nat → Prop} {W : World} {v : Value} {z : DataW Pl.HF × List MemPlace} (h : RF fp W v = some z) : ∃ x, FileV fp W v x ∧ z = (.held x, []) := by
 unfold RF at h
 split at h
 ·rename_i h2
  exact ⟨_, Classical.choose_spec h2, (Option.some.inj h).symm⟩
 ·cases h
theorem RF_keep {fp fp' : Nat → Prop} {W W' : World} (hk : Keep fp W W') (hf : ∀ k, fp k → fp' k) {v : Value} {z : DataW Pl.HF × List MemPlace} (h : RF fp W v = some z) : RF fp' W' v = some z := by
 obtain ⟨x, hx, rfl⟩ := RF_inv h
 exact RF_mk (hx.keep hk hf)
def HandAt (fp : Nat → Prop) (W : World) (m : Nat) (l : List (ByteArray × Pl.HF)) : Prop := W.ownsMap Tryz.prog 9 (RF fp W) m l.length (Pl.toD l)
theorem ownsMap_reread {H : Type} {P : Program} {k : TypeId} {R R' : Value → Option (DataW H × List MemPlace)} {W W' : World} {m n : Nat} {D : DataW H} (h : W.ownsMap P k R m n D) (he : W'.heap[m]? = W.heap[m]?) (hR : ∀ v z, R v = some z → R' v = some z) : W'.ownsMap P k R' m n D := by
 obtain ⟨es, clock, hb, F, hs, hD⟩ := h
 obtain ⟨F1, hmap, _⟩ := F.stay (R' := R') (fun x _ z hz => hR _ _ hz)
 exact ⟨es, clock, he.trans hb, F1, hs, by rw [hD, hmap]⟩
theorem HandAt.keep {fp fp' : Nat → Prop} {W W' : World} {m : Nat} {l : List (ByteArray × Pl.HF)} (h : HandAt fp W m l) (hk : Keep fp W W') (hf : ∀ k, fp k → fp' k) (hm : W'.heap[m]? = W.heap[m]?) : HandAt fp' W' m l :=
 ownsMap_reread h hm (fun _ _ hz => RF_keep hk hf hz)
theorem ownsMap_tight {H : Type} {P : Program} {k : TypeId} {R : Value → Option (DataW H × List MemPlace)} {W : World} {m n : Nat} {D : DataW H} (h : W.ownsMap P k R m n D) : W.ownsMap P k R m (Maps.size D) D := by
 obtain ⟨es, clock, hb, F, hs, rfl⟩ := h
 exact ⟨es, clock, hb, F, by simp [Maps.size, length_sorted], rfl⟩
theorem HandAt.of {fp : Nat → Prop} {W : World} {m n : Nat} {l : List (ByteArray × Pl.HF)} (h : W.ownsMap Tryz.prog 9 (RF fp W) m n (Pl.toD l)) : HandAt fp W m l := by
 have h2 := ownsMap_tight h
 rw [Pl.toD_size] at h2
 exact h2
def FileF (fp : Nat → Prop) (W : World) (b o : Nat) (x : Pl.FileP) : Prop :=
 W.cell? ⟨b, o, none⟩ = some (.string x.name) ∧ W.cell? ⟨b, o + 1, none⟩ = some (.int .i64 x.size) ∧ ∃ u, W.cell? ⟨b, o + 2, none⟩ = some u ∧ IntsF fp W u x.blocks
def FilesF (fp : Nat → Prop) (W : World) (v : Value) (l : List Pl.FileP) : Prop :=
 ∃ (ao : Option Addr) (cap : Nat), v = .slice ao l.length cap ∧ l.length ≤ cap ∧ cap ≤ 9223372036854775807 ∧ (0 < l.length → ∃ b off, ao = some ⟨b, off, none⟩ ∧ b < W.heap.size ∧ fp b ∧ ∀ i (hi : i < l.length), FileF fp W b (off + i * 3) l[i])
theorem FileF.keep {fp fp' : Nat → Prop} {W W' : World} {b o : Nat} {x : Pl.FileP} (h : FileF fp W b o x) (hk : Keep fp W W') (hf : ∀ k, fp k → fp' k) (hb : fp b) : FileF fp' W' b o x := by
 obtain ⟨h0, h1, u, h3, h4⟩ := h
 exact ⟨hk.cell hb h0, hk.cell hb h1, u, hk.cell hb h3, h4.keep hk hf⟩
theorem FilesF.keep {fp fp' : Nat → Prop} {W W' : World} {v : Value} {l : List Pl.FileP} (h : FilesF fp W v l) (hk : Keep fp W W') (hf : ∀ k, fp k → fp' k) : FilesF fp' W' v l := by
 obtain ⟨ao, cap, rfl, h1, h2, h⟩ := h
 refine ⟨ao, cap, rfl, h1, h2, fun h0 => ?_⟩
 obtain ⟨b, off, rfl, hlt, hb, hc⟩ := h h0
 exact ⟨b, off, rfl, Nat.lt_of_lt_of_le hlt hk.size, hf b hb, fun i hi => (hc i hi).keep hk hf hb⟩
theorem FilesF.at {fp : Nat → Prop} {W : World} {v : Value} {l : List Pl.FileP} (h : FilesF fp W v l) : FilesAt W v l := by
 obtain ⟨ao, cap, rfl, h1, h2, h⟩ := h
 refine ⟨ao, cap, rfl, h1, h2, fun h0 => ?_⟩
 obtain ⟨b, off, rfl, hlt, hb, hc⟩ := h h0
 exact ⟨b, off, rfl, hlt, fun i hi => by obtain ⟨c0, c1, u, c2, hu⟩ := hc i hi; exact ⟨c0, c1, u, c2, hu.1⟩⟩
theorem FilesF.nil (fp : Nat → Prop) (W : World) : FilesF fp W (.slice none 0 0) [] := ⟨none, 0, rfl, Nat.le_refl _, by decide, fun h => by simp at h⟩
structure FsO (B f d m : Nat) (vf : Value) (rp : Nat → Prop) (x : Pl.Fs) (W : World) : Prop where
 blk : Blk W f #[.pointer (some ⟨d, 0, none⟩), .int .i64 (x.epoch : Int), .int .u64 (x.safe.gen : Int), vf, .map (some m), .bool x.changed] 86
 files : FilesF rp W vf x.safe.files
 hand : HandAt rp W m x.hand
 nf : ¬ rp f
 nm : ¬ rp m
 ne : m ≠ f
 lt : ∀ k, rp k → k < W.heap.size
 low : ∀ k, rp k → B ≤ k
 lf : B ≤ f
 lm : B ≤ m
def fsFp (f m : Nat) (rp : Nat → Prop) : Nat → Prop := fun k => k = f ∨ k = m ∨ rp k
def FsAt (B f d : Nat) (x : Pl.Fs) (fp : Nat → Prop) (W : World) : Prop := ∃ m vf rp, FsO B f d m vf rp x W ∧ fp = fsFp f m rp
variable {B f d m : Nat} {vf : Value} {rp : Nat → Prop} {x : Pl.Fs} {fp : Nat → Prop} {W W' : World}
theorem FsAt.of (h : FsO B f d m vf rp x W) : FsAt B f d x (fsFp f m rp) W := ⟨_, _, _, h, rfl⟩
theorem FsO.fpLt (h : FsO B f d m vf rp x W) : ∀ k, fsFp f m rp k → k < W.heap.size := fun k hk => by
 rcases hk with rfl | rfl | hk
 ·exact h.blk.lt
 ·exact World.ownsMap.lt h.hand
 ·exact h.lt k hk
theorem FsO.fpLow (h : FsO B f d m vf rp x W) : ∀ k, fsFp f m rp k → B ≤ k := fun k hk => by
 rcases hk with rfl | rfl | hk
 ·exact h.lf
 ·exact h.lm
 ·exact h.low k hk
theorem FsO.keep (h : FsO B f d m vf rp x W) (hk : Keep (fsFp f m rp) W W') : FsO B f d m vf rp x W' :=
 have hr := hk.mono (fp' := rp) (fun k hr _ => .inr (.inr hr))
 ⟨h.blk.keep hk (.inl rfl), h.files.keep hr (fun _ h => h), h.hand.keep hr (fun _ h => h) (hk.block m (.inr (.inl rfl)) h.hand.lt), h.nf, h.nm, h.ne, fun k hk' => Nat.lt_of_lt_of_le (h.lt k hk') hk.size, h.low, h.lf, h.lm⟩
theorem FsAt.keep (h : FsAt B f d x fp W) (hk : Keep fp W W') : FsAt B f d x fp W' := by
 obtain ⟨m, vf, rp, h, rfl⟩ := h
 exact ⟨m, vf, rp, h.keep hk, rfl⟩
theorem FsAt.lt (h : FsAt B f d x fp W) : ∀ k, fp k → k < W.heap.size := by
 obtain ⟨m, vf, rp, h, rfl⟩ := h
 exact h.fpLt
theorem FsAt.fpB (h : FsAt B f d x fp W) : ∀ k, fp k → B ≤ k := by
 obtain ⟨m, vf, rp, h, rfl⟩ := h
 exact h.fpLow
theorem FsAt.beyond (h : FsAt B f d x fp W) (hb : Below W.heap.size W W') : FsAt B f d x fp W' := h.keep (Keep.of_below hb (fun k hk _ => h.lt k hk))
theorem FsO.beyond (h : FsO B f d m vf rp x W) (hb : Below W.heap.size W W') : FsO B f d m vf rp x W' := h.keep (Keep.of_below hb (fun k hk _ => h.fpLt k hk))
theorem FsO.cells (h : FsO B f d m vf rp x W) : W.cell? ⟨f, 0, none⟩ = some (.pointer (some ⟨d, 0, none⟩)) ∧ W.cell? ⟨f, 1, none⟩ = some (.int .i64 (x.epoch : Int)) ∧ W.cell? ⟨f, 2, none⟩ = some (.int .u64 (x.safe.gen : Int)) ∧ W.cell? ⟨f, 3, none⟩ = some vf ∧ W.cell? ⟨f, 4, none⟩ = some (.map (some m)) ∧ W.cell? ⟨f, 5, none⟩ = some (.bool x.changed) := by
 refine ⟨?_, ?_, ?_, ?_, ?_, ?_⟩ <;> simp [h.blk.cell]
theorem FsO.turn (h : FsO B f d m vf rp x W) {l : List (ByteArray × Pl.HF)} {c : Bool} (hk : Keep (fun k => k ≠ f ∧ k ≠ m) W W')
  (hb : Blk W' f #[.pointer (some ⟨d, 0, none⟩), .int .i64 (x.epoch : Int), .int .u64 (x.safe.gen : Int), vf, .map (some m), .bool c] 86) (hh : HandAt rp W' m l) :
  FsO B f d m vf rp { x with hand := l, changed := c } W' ∧ Step (fsFp f m rp) (fsFp f m rp) W W' := by
 have hr := hk.mono (fp' := rp) (fun k hr _ => ⟨fun e => h.nf (e ▸ hr), fun e => h.nm (e ▸ hr)⟩)
 refine ⟨⟨hb, h.files.keep hr (fun _ h => h), hh, h.nf, h.nm, h.ne, fun k hk' => Nat.lt_of_lt_of_le (h.lt k hk') hk.size, h.low, h.lf, h.lm⟩, ⟨hk.mono (fun k hn _ => ⟨fun e => hn (.inl e), fun e => hn (.inr (.inl e))⟩), fun _ h => .inl h, fun k hk' => Nat.lt_of_lt_of_le (h.fpLt k hk') hk.size⟩⟩
end
section
open Go.RowKit Go.Maps
variable {B Bd f d m : Nat} {vf : Value} {x : Pl.Fs} {s : Pl.Dv} {rp fp fpd : Nat → Prop} {W W' : World}
theorem up_quiet (h : DevAt B d s fp W) {b : Bool} (hd : s.down = b) (n : Nat) : Calls Tryz.prog 47 #[.pointer (some ⟨d, 0, none⟩)] (W.drewN n) fun e w' => e = .returned (.bool (!b)) ∧ w' = W.drewN n :=
 (up_is (h.keep ((Keep.refl _ W).drewN n)) hd).mono fun _ _ ⟨h1, h2⟩ => ⟨h1, h2.symm⟩
theorem epoch_quiet (h : DevAt B d s fp W) (n : Nat) : Calls Tryz.prog 49 #[.pointer (some ⟨d, 0, none⟩)] (W.drewN n) fun e w' => e = .returned (.int .i64 (s.epoch : Int)) ∧ w' = W.drewN n :=
 (epoch_any (h.keep ((Keep.refl _ W).drewN n))).mono fun _ _ ⟨h1, h2⟩ => ⟨h1, h2.symm⟩
theorem keep_drewN {W W' : World} {n : Nat} (e : W' = W.drewN n) (g : Nat → Prop) : Keep g W W' := e ▸ (Keep.refl g W).drewN n
set_option maxHeartbeats 2000000 in
theorem dead_any (h : FsAt B f d x fp W) (hd : DevAt Bd d s fpd W) : Calls Tryz.prog 60 #[.pointer (some ⟨f, 0, none⟩)] W fun e w' => e = .returned (.bool (x.dead s)) ∧ ∃ n, w' = W.drewN n := by
 obtain ⟨m, vf, rp, h, rfl⟩ := h
 obtain ⟨c0, c1, c2, c3, c4, c5⟩ := h.cells
 have PE := Lib.hid (fun n => epoch_quiet hd n)
 cases hdn : s.down with
 | true =>
  have PU := Lib.hid (fun n => up_quiet hd hdn n)
  obtain ⟨D, hD⟩ : ∃ D, D = x.dead s := ⟨_, rfl⟩
  rw [← hD]
  have hD' : D = true := by rw [hD]; unfold Pl.Fs.dead; rw [hdn]; rfl
  subst hD'
  clear hD hdn h hd
  go_enter Tryz.func60, Tryz.ntmps60
  go_wp2_with fail
  go_quiet ((first | (go_at_call 47; exact Calls.quiet_of_same (PU.out _)) | (go_at_call 49; exact Calls.quiet_of_same (PE.out _))))
  go_wp2
  go_ret
  exact ⟨rfl, _, rfl⟩
 | false =>
  have PU := Lib.hid (fun n => up_quiet hd hdn n)
  obtain ⟨D, hD⟩ : ∃ D, D = x.dead s := ⟨_, rfl⟩
  rw [← hD]
  have hD' := Lib.hid (show D = decide (s.epoch ≠ x.epoch) by rw [hD]; unfold Pl.Fs.dead; rw [hdn]; rfl)
  clear hD hdn h hd
  go_enter Tryz.func60, Tryz.ntmps60
  go_wp2_with fail
  go_quiet ((first | (go_at_call 47; exact Calls.quiet_of_same (PU.out _)) | (go_at_call 49; exact Calls.quiet_of_same (PE.out _))))
  go_wp2
  go_ret
  refine ⟨?_, _, rfl⟩
  rw [hD'.out]
  by_cases e : s.epoch = x.epoch
  ·simp [e]
  ·have h1 : (s.epoch : Int) ≠ (x.epoch : Int) := by omega
   simp [e, h1]
theorem dead_is {b : Bool} (hb : x.dead s = b) (h : FsAt B f d x fp W) (hd : DevAt Bd d s fpd W) : Calls Tryz.prog 60 #[.pointer (some ⟨f, 0, none⟩)] W fun e w' => e = .returned (.bool b) ∧ ∃ n, w' = W.drewN n := hb ▸ dead_any h hd
theorem str_law : Keyed Tryz.prog 9 := string_keyed Tryz.underlying9
theorem zero_file (w : World) : (zeroValue 104).run Tryz.prog w = .ok (.agg #[.slice none 0 0, .int .i64 0, .string .empty]) w := by kernel_rfl
theorem key_of {s : ByteArray} (hs : s.size ≤ maxLen) : keyOf Tryz.prog 9 (.string s) = some (.string s.data.toList) := WideMaps.keyOf_string_mk Tryz.underlying9 hs
theorem hand_look {l : List (ByteArray × Pl.HF)} (h : HandAt rp W m l) {nm : ByteArray} (hs : nm.size ≤ maxLen) :
  ∃ (a : Option Addr) (c : Nat), (Instr.lookup 84 (.map (some m)) (.string nm) true).run Tryz.prog W = .ok (.tuple #[.agg #[.slice a ((Pl.hget l nm).getD Pl.HF.zero).blocks.length c, .int .i64 (((Pl.hget l nm).getD Pl.HF.zero).old : Int), .string ((Pl.hget l nm).getD Pl.HF.zero).added], .bool (Pl.hget l nm).isSome]) W ∧ IntsF rp W (.slice a ((Pl.hget l nm).getD Pl.HF.zero).blocks.length c) ((Pl.hget l nm).getD Pl.HF.zero).blocks := by
 obtain ⟨v, ps, hrun, hv⟩ := World.ownsMap.look_ok h str_law Tryz.underlying84 (zero_file W) (RF_mk (FileV.zero rp W)) (key_of hs)
 rw [Pl.toD_has] at hrun
 rw [Pl.toD_at] at hv
 obtain ⟨y, ⟨u, rfl, hu⟩, e⟩ := RF_inv hv
 injection e with e _
 injection e with e
 subst e
 obtain ⟨a, c, rfl, h1, h2, h3⟩ := id hu.1
 exact ⟨a, c, hrun, hu⟩
def Pl.Fs.sizeE (x : Pl.Fs) (s : Pl.Dv) (nm : ByteArray) : Int × Int := if x.dead s = true then (0, 4) else match Pl.hget x.hand nm with | none => (0, 6) | some y => ((y.size : Int), 0)
set_option maxHeartbeats 2000000 in
theorem size_any (h : FsAt B f d x fp W) (hd : DevAt Bd d s fpd W) (nm : ByteArray) (hs : nm.size ≤ maxLen) (hz : ∀ y, Pl.hget x.hand nm = some y → y.size ≤ 9223372036854775807) :
  Calls Tryz.prog 22 #[.pointer (some ⟨f, 0, none⟩), .string nm] W fun e w' => e = .returned (.tuple #[.int .i64 (x.sizeE s nm).1, .int .i64 (x.sizeE s nm).2]) ∧ Below W.heap.size W w' := by
 obtain ⟨E, hE⟩ : ∃ E, E = x.sizeE s nm := ⟨_, rfl⟩
 rw [← hE]
 obtain ⟨m, vf, rp, ho, rfl⟩ := id h
 cases hdd : x.dead s with
 | true =>
  have PD := Lib.hid (dead_is hdd h hd)
  obtain rfl : E = (0, 4) := by rw [hE]; unfold Pl.Fs.sizeE; rw [if_pos hdd]
  clear hE hdd
  go_enter Tryz.func22, Tryz.ntmps22
  go_wp2_with fail
  refine PD.out.mono ?_
  rintro e w1 ⟨rfl, n, e1⟩
  have ho1 := ho.keep (keep_drewN e1 _)
  have hb1 : Below W.heap.size W w1 := e1 ▸ below_drewN (Below.refl _ _) n
  clear e1
  go_wp2
  go_ret2
  exact ⟨rfl, hb1⟩
 | false =>
  have PD := Lib.hid (dead_is hdd h hd)
  cases hg : Pl.hget x.hand nm with
  | none =>
   obtain rfl : E = (0, 6) := by rw [hE]; unfold Pl.Fs.sizeE; rw [if_neg (by rw [hdd]; exact Bool.false_ne_true), hg]
   clear hE hdd hz
   go_enter Tryz.func22, Tryz.ntmps22
   go_wp2_with fail
   refine PD.out.mono ?_
   rintro e w1 ⟨rfl, n, e1⟩
   have ho1 := ho.keep (keep_drewN e1 _)
   have hb1 : Below W.heap.size W w1 := e1 ▸ below_drewN (Below.refl _ _) n
   clear e1
   obtain ⟨c0, c1, c2, c3, c4, c5⟩ := ho1.cells
   obtain ⟨ua, uc, hrun, hu⟩ := hand_look ho1.hand hs
   rw [hg] at hrun hu
   simp only [Option.getD_none, Option.isSome_none, Pl.HF.zero] at hrun hu
   clear PD hg
   go_wp2
   go_ret2
   exact ⟨rfl, hb1.alloc hb1.size _⟩
  | some y =>
   have hy := hz y hg
   obtain rfl : E = ((y.size : Int), 0) := by rw [hE]; unfold Pl.Fs.sizeE; rw [if_neg (by rw [hdd]; exact Bool.false_ne_true), hg]
   unfold Pl.HF.size at hy ⊢
   clear hE hdd hz
   go_enter Tryz.func22, Tryz.ntmps22
   go_wp2_with fail
   refine PD.out.mono ?_
   rintro e w1 ⟨rfl, n, e1⟩
   have ho1 := ho.keep (keep_drewN e1 _)
   have hb1 : Below W.heap.size W w1 := e1 ▸ below_drewN (Below.refl _ _) n
   clear e1
   obtain ⟨c0, c1, c2, c3, c4, c5⟩ := ho1.cells
   obtain ⟨ua, uc, hrun, hu⟩ := hand_look ho1.hand hs
   rw [hg] at hrun hu
   simp only [Option.getD_some, Option.isSome_some] at hrun hu
   clear PD hg
   go_wp2
   go_ret2
   exact ⟨by simp, hb1.alloc hb1.size _⟩
end
end Go.Proofs.YtogblcdefbnbeaaGreat
