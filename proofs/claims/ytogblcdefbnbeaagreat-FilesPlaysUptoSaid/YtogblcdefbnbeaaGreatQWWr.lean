
/- Walk: blocks and a root written. Condition: a disk behind few acts. -/
import Derived.Test.YtogblcdefbnbeaaGreatQGk
import Derived.Test.YtogblcdefbnbeaaGreatQGv
import Derived.Outline
import Derived.Deep.RegionHeld3
set_option maxRecDepth 100000
namespace Go.Proofs.YtogblcdefbnbeaaGreat
section
open Go.RowKit Go.Shelf
attribute [local go_sem] Oper.semAt_some
variable {B Bd Bl f d m : Nat} {vf vl vr : Value} {x : Pl.Fs} {s : Pl.Dv} {rp rp2 fp fpd : Nat → Prop} {W W' : World}
theorem info_place : (Tryz.prog.info? 140).map (fun i => (i.zero, i.size, i.bytes)) = some (some (.agg #[.int .i64 0, .string .empty]), 2, 24) := by kernel_rfl
theorem piecesOf_few {r : Pl.RootP} {N : Int} (h : (Pl.encRt N r).2 = 0) : (Pl.piecesOf ⟨(Pl.encRt N r).1.toArray⟩).length ≤ 15 := by
 obtain ⟨_, h1, _, h2⟩ := encRt_yes h
 rw [Pl.piecesOf_length, h1]
 show Pl.pieceN (Pl.frame 1 (Pl.rootBytes r)).toArray.size ≤ 15
 rw [List.size_toArray]
 unfold Pl.pieceN
 omega
def PcI (D0 ba b4 Bl c : Nat) (vl : Value) (l : List (Nat × ByteArray)) (W2 : World) (pre : List ByteArray) (fp : Nat → Prop) (X : World) : Prop :=
 (∀ z, z < D0 → fp z) ∧ (∃ n : Nat, n = c + pre.length ∧ Boxed X ba 3 (.int .i64 (n : Int))) ∧ (∃ v, Boxed X b4 122 v ∧ X.ownsRow Bl 140 2 v (l.length + pre.length) (wcells (l ++ pre.mapIdx fun i p => (c + (i + 1), p))) ∧ (∀ q, v.ownBlock = some q → fp q ∧ (vl.ownBlock = some q ∨ D0 ≤ q))) ∧
  Keep (fun z => z < D0 ∧ z ≠ ba ∧ z ≠ b4 ∧ vl.ownBlock ≠ some z) W2 X
theorem PcI.abide {D0 ba b4 Bl c : Nat} {vl : Value} {l : List (Nat × ByteArray)} {W2 : World} (h1 : ba < D0) (h2 : b4 < D0) : Abide (PcI D0 ba b4 Bl c vl l W2) := by
 rintro pre fp X X' ⟨hf, ⟨n, hn, hb⟩, ⟨v, hv, hr, hq⟩, hk⟩ hkp
 exact ⟨hf, ⟨n, hn, hkp.boxed (hf _ h1) hb⟩, ⟨v, hkp.boxed (hf _ h2) hv, hkp.ownsRow hr (fun k e => (hq k e).1), hq⟩, hk.trans hkp (fun z hz _ => hf z hz.1)⟩
theorem PcI.more {D0 ba b4 Bl c n : Nat} {vl v : Value} {l : List (Nat × ByteArray)} {W2 X : World} {pre : List ByteArray} {fp : Nat → Prop} {y : ByteArray} (h1 : ba < D0) (h2 : b4 < D0) (hne : ba ≠ b4) (hD : D0 ≤ X.heap.size)
  (hf : ∀ z, z < D0 → fp z) (hlt : ∀ z, fp z → z < X.heap.size) (hn : n = c + pre.length) (hba : Boxed X ba 3 (.int .i64 (n : Int))) (hv : Boxed X b4 122 v) (hr : X.ownsRow Bl 140 2 v (l.length + pre.length) (wcells (l ++ pre.mapIdx fun i p => (c + (i + 1), p))))
  (hq : ∀ q, v.ownBlock = some q → fp q ∧ (vl.ownBlock = some q ∨ D0 ≤ q)) (hk : Keep (fun z => z < D0 ∧ z ≠ ba ∧ z ≠ b4 ∧ vl.ownBlock ≠ some z) W2 X) :
  (X.setCell ⟨ba, 0, none⟩ (.int .i64 ((n : Int) + 1))).ownsRow Bl 140 2 v (l.length + pre.length) (wcells (l ++ pre.mapIdx fun i p => (c + (i + 1), p))) ∧ Boxed (X.setCell ⟨ba, 0, none⟩ (.int .i64 ((n : Int) + 1))) b4 122 v ∧
  ∀ (w1 : World) (tmp : Obj) (g cap : Nat), w1.ownsRow Bl 140 2 (.slice (some ⟨g, 0, none⟩) (l.length + pre.length + 1) cap) (l.length + pre.length + 1) (wcells (l ++ pre.mapIdx fun i p => (c + (i + 1), p)) ++ (#[.int .i64 ((n : Int) + 1), .string y] : Array Value).toList) →
   ((X.setCell ⟨ba, 0, none⟩ (.int .i64 ((n : Int) + 1))).alloc tmp).grownBy w1 v.ownBlock → (v.ownBlock = some g ∨ X.heap.size ≤ g) → g < w1.heap.size →
   Boxed w1 b4 122 v ∧ ∀ X2, X2 = w1.setCell ⟨b4, 0, none⟩ (.slice (some ⟨g, 0, none⟩) (l.length + pre.length + 1) cap) → PcI D0 ba b4 Bl c vl l W2 (pre ++ [y]) (fun z => fp z ∨ z = g) X2 ∧ Step fp (fun z => fp z ∨ z = g) X X2 := by
 obtain ⟨XA, hXA⟩ : ∃ XA, XA = X.setCell ⟨ba, 0, none⟩ (.int .i64 ((n : Int) + 1)) := ⟨_, rfl⟩
 rw [← hXA]
 have hnr1 := hba.not_row (by decide) hr
 have hnr2 := hv.not_row (by decide) hr
 have kA : Keep (fun z => z ≠ ba) X XA := by rw [hXA]; exact (Keep.refl _ X).setCell _ _ _ (fun h _ => h rfl)
 have zA : XA.heap.size = X.heap.size := by rw [hXA]; simp [World.setCell]
 have bA : Boxed XA ba 3 (.int .i64 ((n : Int) + 1)) := by rw [hXA]; exact hba.set _
 have vA : Boxed XA b4 122 v := kA.boxed (fun e => hne e.symm) hv
 have rA := kA.ownsRow hr (fun q e e2 => hnr1 (by rw [e, e2]))
 refine ⟨rA, vA, ?_⟩
 intro w1 tmp g cap hown hgrow hat hg
 have v1 : Boxed w1 b4 122 v := (vA.alloc tmp).kept hgrow (vA.not_row (by decide) rA)
 have b1 : Boxed w1 ba 3 (.int .i64 ((n : Int) + 1)) := (bA.alloc tmp).kept hgrow (bA.not_row (by decide) rA)
 refine ⟨v1, ?_⟩
 rintro X2 rfl
 have hg4 : g ≠ b4 := fun e => v1.not_row (by decide) hown (by rw [e]; rfl)
 have k4 : Keep (fun z => z ≠ b4) w1 (w1.setCell ⟨b4, 0, none⟩ (.slice (some ⟨g, 0, none⟩) (l.length + pre.length + 1) cap)) := (Keep.refl _ w1).setCell _ _ _ (fun h _ => h rfl)
 have z1 : X.heap.size ≤ w1.heap.size := by have := hgrow.size; rw [World.size_alloc, zA] at this; omega
 have kX : Keep (fun z => z ≠ ba ∧ z ≠ b4 ∧ v.ownBlock ≠ some z) X (w1.setCell ⟨b4, 0, none⟩ (.slice (some ⟨g, 0, none⟩) (l.length + pre.length + 1) cap)) :=
  (Keep.trans (fp := fun z => z ≠ ba ∧ z ≠ b4 ∧ v.ownBlock ≠ some z) (kA.mono (fun z hz _ => hz.1)) (keep_app hgrow) (fun z hz _ => hz.2.2)).trans k4 (fun z hz _ => hz.2.1)
 refine ⟨⟨fun z hz => .inl (hf z hz), ⟨n + 1, by rw [List.length_append, List.length_singleton]; omega, ?_⟩, ⟨_, v1.set _, ?_, ?_⟩, ?_⟩, ⟨?_, ?_, ?_⟩⟩
 ·exact k4.boxed hne b1
 ·have := k4.ownsRow hown (fun q e => (show g = q by simpa [Value.ownBlock] using e) ▸ hg4)
  rw [List.length_append, List.length_singleton, List.mapIdx_append, ← List.append_assoc, wcells_append, ← Nat.add_assoc]
  simpa [wcells, hn, Int.add_assoc] using this
 ·intro q e
  have e2 : g = q := by simpa [Value.ownBlock] using e
  subst e2
  refine ⟨.inr rfl, ?_⟩
  rcases hat with h | h
  ·exact (hq g h).2
  ·right; omega
 ·refine hk.trans kX (fun z hz hl => ⟨hz.2.1, hz.2.2.1, fun e => ?_⟩)
  rcases (hq z e).2 with h | h
  ·exact hz.2.2.2 h
  ·omega
 ·exact kX.mono (fun z hz _ => ⟨fun e => hz (e ▸ hf _ h1), fun e => hz (e ▸ hf _ h2), fun e => hz (hq z e).1⟩)
 ·rintro z (h | rfl)
  ·exact .inl h
  ·rcases hat with h | h
   ·exact .inl (hq z h).1
   ·exact .inr h
 ·have hz : (w1.setCell ⟨b4, 0, none⟩ (.slice (some ⟨g, 0, none⟩) (l.length + pre.length + 1) cap)).heap.size = w1.heap.size := by simp [World.setCell]
  rintro z (h | rfl)
  ·rw [hz]; have := hlt z h; omega
  ·rw [hz]; exact hg
theorem Step.orL {g g' : Nat → Prop} {A C : World} {q0 : Nat} (h : Step g g' A C) (h0 : q0 < A.heap.size) : Step (fun q => q = q0 ∨ g q) (fun q => q = q0 ∨ g' q) A C :=
 ⟨h.keep.mono (fun q hq _ hg => hq (.inr hg)), fun q hq => by
  rcases hq with hq | hq
  ·exact .inl (.inl hq)
  ·exact (h.new q hq).imp .inr id, fun q hq => by
  rcases hq with rfl | hq
  ·exact Nat.lt_of_lt_of_le h0 h.keep.size
  ·exact h.lt q hq⟩
theorem FsO.setSafe (h : FsO B f d m vf rp x W) {r : Pl.RootP} (hr : FilesF rp W vr r.files) :
  FsO B f d m vr rp { x with safe := r } ((W.setCell ⟨f, 2, none⟩ (.int .u64 (r.gen : Int))).setCell ⟨f, 3, none⟩ vr) ∧ Step (fun q => q = f) (fun q => q = f) W ((W.setCell ⟨f, 2, none⟩ (.int .u64 (r.gen : Int))).setCell ⟨f, 3, none⟩ vr) := by
 have hk : Keep (fun q => q ≠ f) W ((W.setCell ⟨f, 2, none⟩ (.int .u64 (r.gen : Int))).setCell ⟨f, 3, none⟩ vr) := ((Keep.refl _ W).setCell _ _ _ (fun h _ => h rfl)).setCell _ _ _ (fun h _ => h rfl)
 have hr2 := hk.mono (fp' := rp) (fun q hq _ e => h.nf (e ▸ hq))
 have hz : ((W.setCell ⟨f, 2, none⟩ (.int .u64 (r.gen : Int))).setCell ⟨f, 3, none⟩ vr).heap.size = W.heap.size := by simp [World.setCell]
 refine ⟨⟨?_, hr.keep hr2 (fun _ h => h), h.hand.keep hr2 (fun _ h => h) (hk.block m h.ne h.hand.lt), h.nf, h.nm, h.ne, fun q hq => by rw [hz]; exact h.lt q hq, h.low, h.lf, h.lm⟩, ⟨hk, fun q hq => .inl hq, fun q hq => by rw [hz, hq]; exact h.blk.lt⟩⟩
 have := (h.blk.set 2 (.int .u64 (r.gen : Int))).set 3 vr
 simpa using this
theorem FsO.wide (h : FsO B f d m vf rp x W) (hsub : ∀ q, rp q → rp2 q) (hr2 : ∀ q, rp2 q → q < W.heap.size ∧ B ≤ q ∧ q ≠ f ∧ q ≠ m) : FsO B f d m vf rp2 x W :=
 ⟨h.blk, h.files.keep (Keep.refl _ _) hsub, h.hand.keep (Keep.refl _ _) hsub rfl, fun hf => (hr2 f hf).2.2.1 rfl, fun hm => (hr2 m hm).2.2.2 rfl, h.ne, fun q hq => (hr2 q hq).1, fun q hq => (hr2 q hq).2.1, h.lf, h.lm⟩
def WrEnds (B Bd f d m : Nat) (rp2 fpd : Nat → Prop) (vl : Value) (ER : Pl.Dv) (EX : Pl.Fs) (W W' : World) : Prop :=
 ∃ fpd' vf', FsO B f d m vf' rp2 EX W' ∧ DevAt Bd d ER fpd' W' ∧ Step (fun q => q = f ∨ fpd q ∨ vl.ownBlock = some q) (fun q => q = f ∨ fpd' q) W W' ∧ ∀ q, fpd' q → fpd q ∨ W.heap.size ≤ q
set_option maxHeartbeats 1000000 in
theorem write_root (ho : FsO B f d m vf rp x W) (hd : DevAt Bd d s fpd W) {N k : Nat} (hO : Pl.Ok N k s) (hk : k ≤ 1099511627776) (hN1 : 40 ≤ N) (hN2 : N ≤ 16384) (hdj : ∀ q, fsFp f m rp2 q → ¬ fpd q) (hBd : Bd ≤ W.heap.size) (hBl : Bl ≤ W.heap.size)
  (l : List (Nat × ByteArray)) (hl : W.ownsRow Bl 140 2 vl l.length (wcells l)) (hlo : ∀ q, vl.ownBlock = some q → ¬ fsFp f m rp2 q ∧ ¬ fpd q) (hll : l.length ≤ 16384) (hlb : ∀ p ∈ l, p.1 < N ∧ p.2.size = 256)
  (r : Pl.RootP) (hrf : r.fine) (hrr : FilesF rp2 W vr r.files) (hsub : ∀ q, rp q → rp2 q) (hr2 : ∀ q, rp2 q → q < W.heap.size ∧ B ≤ q ∧ q ≠ f ∧ q ≠ m) :
  Calls Tryz.prog 55 #[.pointer (some ⟨f, 0, none⟩), vl, .agg #[.int .u64 (r.gen : Int), vr]] W fun e w' => e = .returned (.int .i64 (Pl.wrRoot s l r).2) ∧ WrEnds B Bd f d m rp2 fpd vl (Pl.wrRoot s l r).1 (x.writeE s l r) W w' := by
 obtain ⟨ER, hER⟩ : ∃ ER, ER = Pl.wrRoot s l r := ⟨_, rfl⟩
 obtain ⟨EX, hEX⟩ : ∃ EX, EX = x.writeE s l r := ⟨_, rfl⟩
 rw [← hER, ← hEX]
 have hlen := hO.len
 obtain ⟨va, vc, rfl⟩ : ∃ va vc, vl = .slice va l.length vc := by
  rcases hl.2 with ⟨e, h0⟩ | ⟨g, cap, cur, e, _⟩
  ·exact ⟨none, 0, by rw [e, h0]⟩
  ·exact ⟨_, _, e⟩
 obtain ⟨W1, hW1⟩ : ∃ W1, W1 = W.alloc (.cells #[.slice va l.length vc] 122) := ⟨_, rfl⟩
 have hb1 : Below W.heap.size W W1 := by rw [hW1]; exact (Below.refl _ _).alloc (Nat.le_refl _) _
 have hX4 : Boxed W1 W.heap.size 122 (.slice va l.length vc) := by rw [hW1]; exact Boxed.new _ _ _
 have hz1 : W1.heap.size = W.heap.size + 1 := by rw [hW1]; simp
 obtain ⟨W2, hW2⟩ : ∃ W2, W2 = W1.alloc (.cells #[.int .u64 (r.gen : Int), vr] 71) := ⟨_, rfl⟩
 have hb2 : Below (W.heap.size + 1) W1 W2 := by rw [← hz1, hW2]; exact (Below.refl _ _).alloc (Nat.le_refl _) _
 have hX5 : Blk W2 (W.heap.size + 1) #[.int .u64 (r.gen : Int), vr] 71 := by rw [← hz1, hW2]; exact Blk.new _ _ _
 have hbw2 : Below W.heap.size W W2 := hb1.trans (hb2.mono (Nat.le_succ _))
 have hX4b : Boxed W2 W.heap.size 122 (.slice va l.length vc) := (hb2.block W.heap.size (Nat.lt_succ_self _)).trans hX4
 obtain ⟨ra, rc, rfl, rl1, rl2, rl3⟩ := id hrr
 have ho2 := ho.beyond hbw2
 have hd2 := hd.beyond hbw2
 obtain ⟨c0, _⟩ := ho2.cells
 have x0 : W2.cell? ⟨W.heap.size + 1, 0, none⟩ = some (.int .u64 (r.gen : Int)) := by simp [hX5.cell]
 have x1 : W2.cell? ⟨W.heap.size + 1, 1, none⟩ = some (.slice ra r.files.length rc) := by simp [hX5.cell]
 have hbdr : Below W2.heap.size W2 W2.drew := (Below.refl _ _).drew
 have PB := Lib.hid (blocks_any (hd2.beyond hbdr))
 have PE := Lib.hid (fun (w : World) (hb : Below W2.heap.size W2 w) => encRt_any r ra rc (s.safe.length : Int) w hrf ((hrr.at.below hbw2).below hb) (by omega) (by omega))
 have hcl := Lib.hid (fun (w : World) (hb : Below W2.heap.size W2 w) => (⟨(ho2.beyond hb).cells.1, (hb.cell (p := ⟨W.heap.size + 1, 0, none⟩) hX5.lt).trans x0, (hb.cell (p := ⟨W.heap.size + 1, 1, none⟩) hX5.lt).trans x1⟩ : w.cell? ⟨f, 0, none⟩ = some (.pointer (some ⟨d, 0, none⟩)) ∧ w.cell? ⟨W.heap.size + 1, 0, none⟩ = some (.int .u64 (r.gen : Int)) ∧ w.cell? ⟨W.heap.size + 1, 1, none⟩ = some (.slice ra r.files.length rc)))
 refine (callsIn_wide (n := 6)).1 ?_
 refine callsIn_of_wp_marks Tryz.func55 rfl trivial (wpIn_wide.2 ?_) rfl
 simp only [Tryz.ntmps55, List.size_toArray, List.length_cons, List.length_nil, Nat.reduceAdd, Nat.reduceSub, Array.replicate_succ, Array.replicate_zero, List.push_toArray, List.append_toArray, List.nil_append, List.cons_append]
 go_wp2_with fail
 rw [← hW1, ← hW2]
 clear hW1 hW2
 replace hER := Lib.hid hER
 replace hEX := Lib.hid hEX
 replace hlen := Lib.hid hlen
 go_region_held3 (fun W' => W'.cell? ⟨f, 0, none⟩ = some (.pointer (some ⟨d, 0, none⟩)) ∧ W'.cell? ⟨W.heap.size + 1, 0, none⟩ = some (.int .u64 (r.gen : Int)) ∧ W'.cell? ⟨W.heap.size + 1, 1, none⟩ = some (.slice ra r.files.length rc)) (first | exact kA | exact ⟨c0, x0, x1⟩ | go_keep)
  (first
  | (go_at_call 53; refine PB.out.mono ?_; rintro e w' ⟨rfl, rfl⟩)
  | (go_at_call 82; refine (PE.out _ hbdr).mono ?_; rintro e w3 ⟨rfl, b3⟩; have bA := hbdr.trans (b3.mono hbdr.size); have kA := hcl.out w3 bA))
 have hb3 : Below W.heap.size W w3 := hbw2.trans (bA.mono hbw2.size)
 have hX4c : Boxed w3 W.heap.size 122 (.slice va l.length vc) := (bA.block W.heap.size hX4b.lt).trans hX4b
 have hX5c : Blk w3 (W.heap.size + 1) #[.int .u64 (r.gen : Int), .slice ra r.files.length rc] 71 := (bA.block (W.heap.size + 1) hX5.lt).trans hX5
 obtain ⟨SS, hSS⟩ : ∃ SS, SS = (⟨(Pl.encRt (min (s.safe.length : Int) 16384) r).1.toArray⟩ : ByteArray) := ⟨_, rfl⟩
 obtain ⟨ee, hee⟩ : ∃ ee, ee = (Pl.encRt (min (s.safe.length : Int) 16384) r).2 := ⟨_, rfl⟩
 rw [← hSS, ← hee]
 replace hSS := Lib.hid hSS
 replace hee := Lib.hid hee
 clear PB PE hcl hbdr b3 bA kA c0 x0 x1 hX4 hX4b hX5 hb1 hb2 hbw2 ho2 hd2
 by_cases he0 : ee = 0
 case neg =>
  have hR : ER = (s, 5) := by rw [hER.out]; unfold Pl.wrRoot; rw [if_pos (hee.out ▸ he0)]
  have hX : EX = x := by rw [hEX.out]; unfold Pl.Fs.writeE; rw [← hER.out, hR]; rfl
  have hne : (ee != 0) = true := by simpa using he0
  obtain ⟨ho3, hd3⟩ := And.intro (ho.beyond hb3) (hd.beyond hb3)
  go_wp2
  refine leaves_marks [] _ (Marked.nil _) (fun W' hk' => ⟨_, results_tmp rfl _ _ _, ?_⟩)
  have hkW : Keep (fun q => q < W.heap.size) W W' := (Keep.of_below (fp := fun q => q < W.heap.size) hb3 (fun _ h _ => h)).trans hk' (fun _ _ _ => by simp)
  rw [hR, hX]
  exact ⟨rfl, fpd, vf, (ho.keep (hkW.mono (fun q hq _ => ho.fpLt q hq))).wide hsub (fun q hq => ⟨Nat.lt_of_lt_of_le (hr2 q hq).1 hkW.size, (hr2 q hq).2⟩), hd.keep (hkW.mono (fun q hq _ => hd.lt q hq)), ⟨hkW.mono (fun q _ hq => hq), fun q hq => .inl (hq.imp id .inl), fun q hq => by
   have := hkW.size
   rcases hq with rfl | hq
   ·have := ho.blk.lt; omega
   ·have := hd.lt q hq; omega⟩, fun _ h => .inl h⟩
 case pos =>
  subst he0
  have q0 : w3.cell? ⟨W.heap.size + 1, 0, none⟩ = some (.int .u64 (r.gen : Int)) := by simp [hX5c.cell]
  have hgu : (r.gen : Int) ≤ 18446744073709551615 := by have := hrf.gen; omega
  go_wp2_with (go_at_call 83; refine (callsIn_wide.1 (pieces_in 5 _ _)).mono ?_; rintro e w' ⟨rfl, rfl⟩)
  have bA := (Boxed.new w3 3 (.int .i64 ((r.gen : Int) % 2 * 16))).alloc (.cells #[.string SS] 9)
  have bP := Boxed.new (w3.alloc (.cells #[.int .i64 ((r.gen : Int) % 2 * 16)] 3)) 9 (.string SS)
  rw [World.size_alloc] at bP
  have hbd : Below w3.heap.size w3 ((w3.alloc (.cells #[.int .i64 ((r.gen : Int) % 2 * 16)] 3)).alloc (.cells #[.string SS] 9)) := ((Below.refl _ _).alloc (Nat.le_refl _) _).alloc (by simp) _
  have hzd : ((w3.alloc (.cells #[.int .i64 ((r.gen : Int) % 2 * 16)] 3)).alloc (.cells #[.string SS] 9)).heap.size = w3.heap.size + 2 := by simp
  generalize (w3.alloc (.cells #[.int .i64 ((r.gen : Int) % 2 * 16)] 3)).alloc (.cells #[.string SS] 9) = W5 at bA bP hbd hzd ⊢
  have hX4d : Boxed W5 W.heap.size 122 (.slice va l.length vc) := (hbd.block W.heap.size hX4c.lt).trans hX4c
  have hX5d : Blk W5 (W.heap.size + 1) #[.int .u64 (r.gen : Int), .slice ra r.files.length rc] 71 := (hbd.block (W.heap.size + 1) hX5c.lt).trans hX5c
  have hb5 : Below W.heap.size W W5 := hb3.trans (hbd.mono hb3.size)
  have hz3 : W.heap.size + 1 < w3.heap.size := hX5c.lt
  have hl5 : W5.ownsRow Bl 140 2 (.slice va l.length vc) l.length (wcells l) := (Keep.of_below (fp := fun q => q < W.heap.size) hb5 (fun _ h _ => h)).ownsRow hl (fun q e => (hl.lt q e).2)
  have hpn : (Pl.piecesOf SS).length ≤ 15 := by rw [hSS.out]; exact piecesOf_few hee.out.symm
  have hSz : SS.size ≤ 9223372036854775807 := by
   have h1 := hpn
   rw [Pl.piecesOf_length] at h1
   unfold Pl.pieceN at h1
   omega
  have hcS := Lib.hid (show ((Pl.slotOf r.gen : Nat) : Int) = (r.gen : Int) % 2 * 16 by unfold Pl.slotOf; omega)
  rw [← hcS.out] at bA
  clear hX4c hX5c q0 hbd hb3 hz1
  refine wpIn_wide.1 (wpIn_rangeG (n := 6) (F := Fence.wide) rfl (by omega) (gf := 116) (lb := #[.pointer (some ⟨w3.heap.size + 1, 0, none⟩)]) rfl trivial (enters_of Tryz.func116 (by kernel_rfl) rfl)
   (pieces1_seq 5 (w3.heap.size + 1) SS hSz W5 bP) (fun _ => rfl) (by rintro z rfl; omega) (by rintro z h; exact h.elim)
   (PcI (w3.heap.size + 1) w3.heap.size W.heap.size Bl (Pl.slotOf r.gen) (.slice va l.length vc) l W5)
   (fun _ _ _ _ => False)
   (fun pre y a' fp X => PcI (w3.heap.size + 1) w3.heap.size W.heap.size Bl (Pl.slotOf r.gen) (.slice va l.length vc) l W5 pre fp X ∧ a' = { tmps := #[.pointer (some ⟨f, 0, none⟩), .slice va l.length vc, .agg #[.int .u64 (r.gen : Int), .slice ra r.files.length rc], undef, .pointer (some ⟨W.heap.size, 0, none⟩), .pointer (some ⟨W.heap.size + 1, 0, none⟩), .int .i64 0, .string SS, .int .i64 0, .int .i64 ((r.gen : Int) % 2 * 16), .pointer (some ⟨w3.heap.size, 0, none⟩), .string y, undef, undef, undef, undef, undef, undef, .tuple #[.string SS, .int .i64 0], .agg #[.int .u64 (r.gen : Int), .slice ra r.files.length rc], .pointer (some ⟨f, 0, none⟩), .pointer (some ⟨f, 0, none⟩), .pointer (some ⟨f, 0, none⟩), .pointer (some ⟨d, 0, none⟩), .int .i64 (s.safe.length : Int), .tuple #[.string SS, .int .i64 0], .string SS, .int .i64 0, .int .i64 0, .bool false, .pointer (some ⟨W.heap.size + 1, 0, none⟩), .int .u64 (r.gen : Int), .int .u64 ((r.gen : Int) % 2), .int .i64 ((r.gen : Int) % 2), .int .i64 ((r.gen : Int) % 2 * 16), .int .i64 ((r.gen : Int) % 2 * 16), .string SS, .func (.func 116) #[] #[.pointer (some ⟨w3.heap.size + 1, 0, none⟩)], .string y, undef, undef, undef, undef, undef, undef, undef, undef, undef, undef, undef, undef, undef, undef, undef, undef, undef, undef, undef, undef, undef, undef, undef, undef, undef, undef, undef, undef, undef, undef, undef, undef, undef, undef, undef, undef, undef, undef, undef, undef, undef, undef, undef, undef, undef, undef, undef, undef, undef, undef, undef, undef, undef, undef, undef, undef, undef, undef, undef], defers := [] })
   (PcI.abide (by omega) (by omega)) ?_ ?_ (fun z => z < w3.heap.size + 1) ?_ ?_ ?_ ?assign ?body ?done ?stop)
  case assign =>
   intro l' pre y fp X K hI hlt hsp hK2
   unfold encP
   rw [fold1]
   simp only [List.setIfInBounds_toArray, List.set_cons_succ, List.set_cons_zero]
   gi_wp2
   exact hK2 _ fp X (Step.refl hlt) ⟨hI, rfl⟩
  case body =>
   rintro l' pre y a' fp X ⟨⟨hf, ⟨n, hn, hba⟩, ⟨v, hv, hr, hq⟩, hk⟩, rfl⟩ hlt hsp
   have hpl : pre.length + 1 ≤ 15 := by
    have h1 := hsp.length_le
    rw [List.length_append, List.length_singleton] at h1
    omega
   have hXz := hk.size
   have hsl : Pl.slotOf r.gen ≤ 16 := by unfold Pl.slotOf; omega
   have hnb : n ≤ 100 := by omega
   have cA := hba.cell
   have fA := hba.frozen
   have lA := hba.lt
   obtain ⟨rA, vA, hM⟩ := PcI.more (y := y) (show w3.heap.size < w3.heap.size + 1 by omega) (show W.heap.size < w3.heap.size + 1 by omega) (by omega) (by omega) hf hlt hn hba hv hr hq hk
   have cB := (hba.set (.int .i64 ((n : Int) + 1))).cell
   have cV := vA.cell
   replace hn := Lib.hid hn
   have hXA : (X.setCell ⟨w3.heap.size, 0, none⟩ (.int .i64 ((n : Int) + 1))).heap.size = X.heap.size := by simp [World.setCell]
   gi_wp2_with (gi_at_builtin; go_must (refine wpListIn_app1 (by rfl) _ _ 122 (by rfl) Bl 140 (.agg #[.int .i64 0, .string .empty]) 2 24 Tryz.underlying122 info_place rfl (by decide) _ (l.length + pre.length) _ _ rA (by rw [hXA]; omega) (by rfl) #[.int .i64 ((n : Int) + 1), .string y] 140 (by rw [hXA]; rfl) rfl (by simp [Value.oneCell']) (by omega) (by decide) ?_; intro g cap w1 hown' hgrow hat hg; have ⟨v1, hX2⟩ := hM w1 _ g cap hown' hgrow (by rw [hXA] at hat; exact hat) hg; have c1 := v1.cell; have f1 := v1.frozen))
   obtain ⟨hI', st⟩ := hX2 _ rfl
   exact ⟨_, hI', st⟩
  case done =>
   rintro D ys fp X hD hnD hnew hlt hkp rfl ⟨hf, -, ⟨v, hv, hr, hq⟩, hk⟩ hKD
   obtain ⟨LL, hLL⟩ : ∃ LL, LL = Pl.toWrite s l r := ⟨_, rfl⟩
   have eL : (l ++ (Pl.piecesOf SS).mapIdx fun i p => (Pl.slotOf r.gen + (i + 1), p)) = LL := by rw [hLL, hSS.out]; rfl
   have hLn : l.length + (Pl.piecesOf SS).length = LL.length := by rw [← eL]; simp
   rw [eL, hLn] at hr
   have hLb : ∀ p ∈ LL, p.1 < N ∧ p.2.size = 256 := by
    intro p hp
    rw [← eL, List.mem_append] at hp
    rcases hp with hp | hp
    ·exact hlb p hp
    ·rw [List.mem_mapIdx] at hp
     obtain ⟨i, hi, rfl⟩ := hp
     refine ⟨?_, Pl.piecesOf_mem (List.getElem_mem hi)⟩
     show Pl.slotOf r.gen + (i + 1) < N
     unfold Pl.slotOf
     omega
   have hLl : LL.length ≤ 16399 := by omega
   replace hLL := Lib.hid hLL
   clear eL hLn
   have hkW : Keep (fun z => z < W.heap.size ∧ (Value.slice va l.length vc).ownBlock ≠ some z) W X := (Keep.of_below (fp := fun z => z < W.heap.size ∧ (Value.slice va l.length vc).ownBlock ≠ some z) hb5 (fun _ h _ => h.1)).trans hk (fun z hz _ => ⟨by omega, by omega, by omega, hz.2⟩)
   have hdX := hd.keep (hkW.mono (fun q hq _ => ⟨hd.lt q hq, fun e => (hlo q e).2 hq⟩))
   have hoX := (ho.keep (hkW.mono (fun q hq _ => ⟨ho.fpLt q hq, fun e => (hlo q e).1 (by
    rcases hq with h | h | h
    ·exact .inl h
    ·exact .inr (.inl h)
    ·exact .inr (.inr (hsub q h)))⟩))).wide hsub (fun q hq => ⟨Nat.lt_of_lt_of_le (hr2 q hq).1 hkW.size, (hr2 q hq).2⟩)
   have hrX : FilesF rp2 X (.slice ra r.files.length rc) r.files := hrr.keep (hkW.mono (fun q hq _ => ⟨(hr2 q hq).1, fun e => (hlo q e).1 (.inr (.inr hq))⟩)) (fun _ h => h)
   have hX5e : Blk X (W.heap.size + 1) #[.int .u64 (r.gen : Int), .slice ra r.files.length rc] 71 := hX5d.keep hk ⟨by omega, by omega, by omega, fun e => by have := (hl.lt _ e).2; omega⟩
   have hfsl : ∀ q, fsFp f m rp2 q → q < W.heap.size := fun q hq => by
    rcases hq with rfl | rfl | hq
    ·exact ho.blk.lt
    ·exact World.ownsMap.lt ho.hand
    ·exact (hr2 q hq).1
   have hvn : ∀ q, v.ownBlock = some q → ¬ fpd q ∧ q < X.heap.size := fun q e => ⟨fun h => by
    rcases (hq q e).2 with h1 | h1
    ·exact (hlo q h1).2 h
    ·have := hd.lt q h; omega, (hr.lt q e).2⟩
   have hst0 : Step (fun q => q = f ∨ fpd q ∨ (Value.slice va l.length vc).ownBlock = some q) (fun q => q = f ∨ fpd q) W X :=
    ⟨hkW.mono (fun q hq hl => ⟨hl, fun e => hq (.inr (.inr e))⟩), fun q hq => .inl (hq.imp id .inl), fun q hq => by
     have := hkW.size
     rcases hq with rfl | hq
     ·have := ho.blk.lt; omega
     ·have := hd.lt q hq; omega⟩
   obtain ⟨vb, vcap, rfl⟩ : ∃ vb vcap, v = .slice vb LL.length vcap := by
    rcases hr.2 with ⟨e, h0⟩ | ⟨g, cap, cur, e, _⟩
    ·exact ⟨none, 0, by rw [e, h0]⟩
    ·exact ⟨_, _, e⟩
   have cV := hv.cell
   have hWX := hkW.size
   have hX5l := hX5e.lt
   have hDX : D < X.heap.size := (Array.getElem?_eq_some_iff.1 hKD).1
   have hDn : ¬ fpd D := fun h => by have := hd.lt D h; omega
   have hDf : D ≠ f := fun e => by have := ho.blk.lt; omega
   clear hkp hnew hlt hf hk hkW hX4d hX5d hl5 bA bP hb5 hq hnD
   replace hKD := Lib.hid hKD
   -- whatever ends the call, told at once
   have hEnd := Lib.hid (fun (a : Pl.Dv × Int) (x' : Pl.Fs) (vf' : Value) (fpk : Nat → Prop) (W1 W2 : World) (e1 : ER = a) (e2 : EX = x') (hoW : FsO B f d m vf' rp2 x' W1) (hdW : DevAt Bd d a.1 fpk W1) (st : Step (fun q => q = f ∨ fpd q ∨ (Value.slice va l.length vc).ownBlock = some q) (fun q => q = f ∨ fpk q) W W1) (hnk : ∀ q, fpk q → fpd q ∨ X.heap.size ≤ q) (hk' : Keep (fun k => k ∉ [D]) W1 W2) =>
    (show Ending.returned (Value.int .i64 a.2) = .returned (.int .i64 ER.2) ∧ WrEnds B Bd f d m rp2 fpd (.slice va l.length vc) ER.1 EX W W2 from by
     subst e1 e2
     have hDk : ∀ q, fpk q → q ≠ D := fun q hq e => by
      rcases hnk q hq with h | h
      ·exact hDn (e ▸ h)
      ·omega
     refine ⟨rfl, fpk, vf', hoW.keep (hk'.mono (fun q hq _ => by
      have : q ≠ D := fun e => by have := hfsl q hq; omega
      simpa using this)), hdW.keep (hk'.mono (fun q hq _ => by simpa using hDk q hq)), ⟨st.keep.trans hk' (fun q hq hl => by
       have : q ≠ D := by omega
       simpa using this), st.new, fun q hq => Nat.lt_of_lt_of_le (st.lt q hq) hk'.size⟩, fun q hq => (hnk q hq).imp id (fun h => by have := hst0.keep.size; omega)⟩))
   go_wp2_with fail
   go_loopw [49] (fun i W' => ∃ (j : Nat) (fpk : Nat → Prop), j ≤ LL.length ∧ i = .int .i64 (j : Int) ∧ (Pl.wrAll s (LL.take j)).2 = 0 ∧ DevAt Bd d (Pl.wrAll s (LL.take j)).1 fpk W' ∧ Keep (fun z => z < X.heap.size ∧ ¬ fpd z) X W' ∧ Step (fun q => q = f ∨ fpd q ∨ (Value.slice va l.length vc).ownBlock = some q) (fun q => q = f ∨ fpk q) W W' ∧ (∀ q, fpk q → fpd q ∨ X.heap.size ≤ q)) (fun i _ => LL.length - (intOf i).toNat)
   case atStart => exact ⟨0, fpd, Nat.zero_le _, rfl, rfl, hdX, Keep.refl _ _, hst0, fun _ h => .inl h⟩
   clear hdX hst0
   case round =>
    obtain ⟨j, fpk, hj, rfl, hok, hdr, hkr, hstr, hnk⟩ := hrel
    have hXr := hkr.size
    have hor := hoX.keep (hkr.mono (fun q hq _ => ⟨by have := hfsl q hq; omega, hdj q hq⟩))
    have hfk : ∀ q, q < X.heap.size → ¬ fpd q → ¬ fpk q := fun q h1 h2 h3 => by
     rcases hnk q h3 with h | h
     ·exact h2 h
     ·omega
    have hff : ¬ fpk f := hfk f (by have := hfsl f (.inl rfl); omega) (hdj f (.inl rfl))
    have hokr := Pl.wrAll_ok hO (LL.take j)
    have hjl : (LL.take j).length ≤ 16399 := by rw [List.length_take]; omega
    by_cases hjL : j < LL.length
    case pos =>
     obtain ⟨g, rfl⟩ : ∃ g, vb = some ⟨g, 0, none⟩ := by
      rcases hr.2 with ⟨e, h0⟩ | ⟨g, cap, cur, e, _⟩
      ·omega
      ·injection e with e _ _
       exact ⟨g, e⟩
     have hgn := hvn g rfl
     have hgk := hfk g hgn.2 hgn.1
     obtain ⟨w0, w1'⟩ := wcells_get LL j hjL
     have r0 := hr.cells (g := g) rfl _ _ w0
     have r1 := hr.cells (g := g) rfl _ _ w1'
     rw [Addr.add_lit, Nat.zero_add] at r0 r1
     replace r0 := hkr.cell (b := g) ⟨hgn.2, hgn.1⟩ r0
     replace r1 := hkr.cell (b := g) ⟨hgn.2, hgn.1⟩ r1
     obtain ⟨pb1, pb2⟩ := hLb LL[j] (List.getElem_mem hjL)
     have hsn := Lib.hid (Pl.wrAll_succ (s := s) hjL)
     generalize LL[j] = p at *
     obtain ⟨pn, ps⟩ := p
     simp only at r0 r1 pb1 pb2
     generalize Pl.wrAll s (LL.take j) = a at *
     obtain ⟨s1, e1⟩ := a
     simp only at hok hdr hokr
     subst hok
     have hB4 : Below wr.heap.size wr (wr.alloc (.cells #[.int .i64 (pn : Int), .string ps] 140)) := (Below.refl _ _).alloc (Nat.le_refl _) _
     have hx4 : Blk (wr.alloc (.cells #[.int .i64 (pn : Int), .string ps] 140)) wr.heap.size _ _ := Blk.new _ _ _
     have hd4 := hdr.beyond hB4
     have ho4 := hor.beyond hB4
     have hst4 := hstr.beyond hB4
     have hk4 := hkr.beyond hB4
     have hbx : ¬ fpk wr.heap.size := fun h => by have := hdr.lt _ h; omega
     have hwz := hB4.size
     go_upto_region 13 with (fail)
     have hwb : Bd ≤ (wr.alloc (.cells #[.int .i64 (pn : Int), .string ps] 140)).heap.size := by omega
     clear r0 r1 hB4 hwz
     generalize wr.alloc (.cells #[.int .i64 (pn : Int), .string ps] 140) = w4 at hx4 hd4 ho4 hst4 hk4 hwb ⊢
     generalize wr.heap.size = bx at hx4 hbx ⊢
     have hBd4 : Below w4.heap.size w4 w4.drew := (Below.refl _ _).drew
     have c0 := ho4.cells.1
     have x0 : w4.cell? ⟨bx, 0, none⟩ = some (.int .i64 (pn : Int)) := by simp [hx4.cell]
     have x1 : w4.cell? ⟨bx, 1, none⟩ = some (.string ps) := by simp [hx4.cell]
     have PW := Lib.hid (write_e pn ps pb2 (hd4.beyond hBd4) hokr (by omega) hN2 pb1 hwb)
     have hcl := Lib.hid (fun (w6 : World) (fp6 : Nat → Prop) (st : Step fpk fp6 w4.drew w6) => (⟨st.keep.cell hff (hBd4.cell (p := ⟨f, 0, none⟩) ho4.blk.lt |>.trans c0), st.keep.cell hbx (hBd4.cell (p := ⟨bx, 0, none⟩) hx4.lt |>.trans x0), st.keep.cell hbx (hBd4.cell (p := ⟨bx, 1, none⟩) hx4.lt |>.trans x1)⟩ : w6.cell? ⟨f, 0, none⟩ = some (.pointer (some ⟨d, 0, none⟩)) ∧ w6.cell? ⟨bx, 0, none⟩ = some (.int .i64 (pn : Int)) ∧ w6.cell? ⟨bx, 1, none⟩ = some (.string ps)))
     go_region_held3 (fun W' => W'.cell? ⟨f, 0, none⟩ = some (.pointer (some ⟨d, 0, none⟩)) ∧ W'.cell? ⟨bx, 0, none⟩ = some (.int .i64 (pn : Int)) ∧ W'.cell? ⟨bx, 1, none⟩ = some (.string ps)) (first | exact kA | exact ⟨c0, x0, x1⟩ | go_keep)
      ((go_at_call 84; refine PW.out.mono ?_; rintro e w6 ⟨rfl, fp6, hd6, st6⟩; have kA := hcl.out w6 fp6 st6))
     have hsn2 : Hid (Pl.wrAll s (LL.take (j + 1)) = s1.wrE pn ps) := Lib.hid hsn.out
     obtain ⟨A, hA⟩ : ∃ A, A = s1.wrE pn ps := ⟨_, rfl⟩
     rw [← hA] at hd6 hsn2 ⊢
     have st6' : Step fpk fp6 w4 w6 := Step.after hd4.lt hBd4 st6
     have hk6 : Keep (fun z => z < X.heap.size ∧ ¬ fpd z) X w6 := hk4.trans st6'.keep (fun q hq _ => hfk q hq.1 hq.2)
     have hst6 := hst4.trans (st6'.orL ho4.blk.lt)
     have hn6 : ∀ q, fp6 q → fpd q ∨ X.heap.size ≤ q := fun q hq => by
      rcases st6'.new q hq with h | h
      ·exact hnk q h
      ·have := hk4.size; right; omega
     clear kA hcl PW c0 x0 x1 hA hst4 hstr hd4 hdr st6 st6' hBd4 hx4
     by_cases he : A.2 = 0
     case pos =>
      go_wp2
      go_roundw
      case rel => exact ⟨j + 1, fp6, by omega, by go_num, by rw [hsn2.out]; exact he, by rw [hsn2.out]; exact hd6, hk6, hst6, hn6⟩
      case measure => simp [intOf]; omega
     case neg =>
      have hne : (A.2 != 0) = true := by simpa using he
      have hR : ER = A := by
       have h1 : Pl.wrAll s LL = A := by rw [Pl.wrAll_stop (k := j + 1) (by rw [hsn2.out]; exact he), hsn2.out]
       rw [hER.out]
       unfold Pl.wrRoot
       rw [if_neg (by rw [← hee.out]; decide), ← hLL.out, h1]
       unfold Pl.wrEnd
       rw [if_pos he]
      have hX : EX = x := by rw [hEX.out]; unfold Pl.Fs.writeE; rw [← hER.out, hR, if_neg he]
      have hM6 := (Marked.nil w6).cons ((hk6.block D ⟨hDX, hDn⟩ hDX).trans hKD.out) (by simp)
      have ho6 := hoX.keep (hk6.mono (fun q hq _ => ⟨by have := hfsl q hq; omega, hdj q hq⟩))
      have hfin := Lib.hid (fun W2 (hk' : Keep (fun k => k ∉ [D]) w6 W2) => hEnd.out A x vf fp6 w6 W2 hR hX ho6 hd6 hst6 hn6 hk')
      clear hR hX
      go_wp2
      refine leaves_marks [D] _ hM6 (fun W' hk' => ⟨_, results_tmp rfl _ _ _, ?_⟩)
      exact hfin.out W' hk'
    case neg =>
     obtain rfl : j = LL.length := by omega
     rw [List.take_of_length_le (Nat.le_refl _)] at hok hdr hokr
     have hWd : Hid (ER = Pl.wrEnd r.gen (Pl.wrAll s LL)) := Lib.hid (by
      rw [hER.out]
      unfold Pl.wrRoot
      rw [if_neg (by rw [← hee.out]; decide), ← hLL.out])
     have hokk := hokr.mono (show k + LL.length ≤ 1099511644200 by omega)
     clear hokr hjl hjL
     generalize Pl.wrAll s LL = a at *
     obtain ⟨s1, e1⟩ := a
     simp only at hok hdr hokk
     subst hok
     have hWd1 : Hid (ER = if s1.syE.2 ≠ 0 then s1.syE else if (s1.syE.1.wrE (Pl.slotOf r.gen) (Pl.headB r.gen)).2 ≠ 0 then s1.syE.1.wrE (Pl.slotOf r.gen) (Pl.headB r.gen) else (s1.syE.1.wrE (Pl.slotOf r.gen) (Pl.headB r.gen)).1.syE) := Lib.hid hWd.out
     have hEXn := Lib.hid (show ER.2 ≠ 0 → EX = x from fun h => by rw [hEX.out]; unfold Pl.Fs.writeE; rw [← hER.out, if_neg h])
     have hEXy := Lib.hid (show ER.2 = 0 → EX = { x with safe := r } from fun h => by rw [hEX.out]; unfold Pl.Fs.writeE; rw [← hER.out, if_pos h])
     have hfl := ho.blk.lt
     have c0 := hor.cells.1
     have PS := Lib.hid (sync_e hdr hokk (by omega))
     have hoks := hokk.syE
     clear hWd hER hEX
     go_wp2_with fail
     refine PS.out.mono ?_
     rintro e w6 ⟨rfl, hd6, st6⟩
     have hk6 : Keep (fun z => z < X.heap.size ∧ ¬ fpd z) X w6 := hkr.trans st6.keep (fun q hq _ => hfk q hq.1 hq.2)
     have hst6 := hstr.trans (st6.orL (by omega))
     have ho6 := hoX.keep (hk6.mono (fun q hq _ => ⟨by have := hfsl q hq; omega, hdj q hq⟩))
     have hM6 := (Marked.nil w6).cons ((hk6.block D ⟨hDX, hDn⟩ hDX).trans hKD.out) (by simp)
     clear PS c0 hor hdr hkr hstr st6
     generalize s1.syE = a2 at *
     obtain ⟨s2, e2⟩ := a2
     simp only at hWd1 hoks hd6
     by_cases he2 : e2 = 0
     case neg =>
      have hne : (e2 != 0) = true := by simpa using he2
      have hR : ER = (s2, e2) := by rw [hWd1.out, if_pos he2]
      have hfin := Lib.hid (fun W2 (hk' : Keep (fun k => k ∉ [D]) w6 W2) => hEnd.out (s2, e2) x vf fpk w6 W2 hR (hEXn.out (by rw [hR]; exact he2)) ho6 hd6 hst6 hnk hk')
      clear he2 hWd1 hR
      go_wp2
      refine leaves_marks [D] _ hM6 (fun W' hk' => ⟨_, results_tmp rfl _ _ _, ?_⟩)
      exact hfin.out W' hk'
     subst he2
     have hWd2 : Hid (ER = if (s2.wrE (Pl.slotOf r.gen) (Pl.headB r.gen)).2 ≠ 0 then s2.wrE (Pl.slotOf r.gen) (Pl.headB r.gen) else (s2.wrE (Pl.slotOf r.gen) (Pl.headB r.gen)).1.syE) := Lib.hid hWd1.out
     clear hWd1
     have hX5w : Blk w6 (W.heap.size + 1) #[.int .u64 (r.gen : Int), .slice ra r.files.length rc] 71 := hX5e.keep hk6 ⟨hX5l, fun h => by have := hd.lt _ h; omega⟩
     have c0 := ho6.cells.1
     have x0 : w6.cell? ⟨W.heap.size + 1, 0, none⟩ = some (.int .u64 (r.gen : Int)) := by simp [hX5w.cell]
     go_upto_region 20 with (fail)
     have hBd6 : Below w6.heap.size w6 w6.drew := (Below.refl _ _).drew
     have PH := Lib.hid (head_any r.gen hrf.gen w6.drew)
     have PW : Hid (∀ w7 : World, Below w6.heap.size w6 w7 → Calls Tryz.prog 84 #[.pointer (some ⟨d, 0, none⟩), .int .i64 ((r.gen : Int) % 2 * 16), .string (Pl.headB r.gen)] w7 fun e w' => e = .returned (.int .i64 (s2.wrE (Pl.slotOf r.gen) (Pl.headB r.gen)).2) ∧ ∃ fp', DevAt Bd d (s2.wrE (Pl.slotOf r.gen) (Pl.headB r.gen)).1 fp' w' ∧ Step fpk fp' w7 w') := Lib.hid (fun w7 b7 => by
      have h := write_e (Pl.slotOf r.gen) (Pl.headB r.gen) (Pl.headB_size _) (hd6.beyond b7) hoks (by omega) hN2 (by unfold Pl.slotOf; omega) (by have := b7.size; have := hk6.size; omega)
      rw [hcS.out] at h
      exact h)
     have hcl7 := Lib.hid (fun (w7 : World) (b7 : Below w6.heap.size w6 w7) => (⟨(ho6.beyond b7).cells.1, (b7.cell (p := ⟨W.heap.size + 1, 0, none⟩) hX5w.lt).trans x0⟩ : w7.cell? ⟨f, 0, none⟩ = some (.pointer (some ⟨d, 0, none⟩)) ∧ w7.cell? ⟨W.heap.size + 1, 0, none⟩ = some (.int .u64 (r.gen : Int))))
     have hxk : ¬ fpk (W.heap.size + 1) := hfk _ hX5l (fun h => by have := hd.lt _ h; omega)
     have hcl8 := Lib.hid (fun (w7 w8 : World) (fp8 : Nat → Prop) (h : w7.cell? ⟨f, 0, none⟩ = some (.pointer (some ⟨d, 0, none⟩)) ∧ w7.cell? ⟨W.heap.size + 1, 0, none⟩ = some (.int .u64 (r.gen : Int))) (st : Step fpk fp8 w7 w8) => (⟨st.keep.cell hff h.1, st.keep.cell hxk h.2⟩ : w8.cell? ⟨f, 0, none⟩ = some (.pointer (some ⟨d, 0, none⟩)) ∧ w8.cell? ⟨W.heap.size + 1, 0, none⟩ = some (.int .u64 (r.gen : Int))))
     go_region_held3 (fun W' => W'.cell? ⟨f, 0, none⟩ = some (.pointer (some ⟨d, 0, none⟩)) ∧ W'.cell? ⟨W.heap.size + 1, 0, none⟩ = some (.int .u64 (r.gen : Int))) (first | exact kB | exact kA | exact ⟨c0, x0⟩ | go_keep)
      (first
      | (go_at_call 54; refine PH.out.mono ?_; rintro e w7 ⟨rfl, b7⟩; have bA := hBd6.trans (b7.mono hBd6.size); have kA := hcl7.out w7 bA)
      | (go_at_call 84; refine (PW.out _ bA).mono ?_; rintro e w8 ⟨rfl, fp8, hd8, st8⟩; have kB := hcl8.out w7 w8 fp8 kA st8))
     have st8' : Step fpk fp8 w6 w8 := Step.after hd6.lt bA st8
     have hk8 : Keep (fun z => z < X.heap.size ∧ ¬ fpd z) X w8 := hk6.trans st8'.keep (fun q hq _ => hfk q hq.1 hq.2)
     have hst8 := hst6.trans (st8'.orL ho6.blk.lt)
     have hn8 : ∀ q, fp8 q → fpd q ∨ X.heap.size ≤ q := fun q hq => by
      rcases st8'.new q hq with h | h
      ·exact hnk q h
      ·have := hk6.size; right; omega
     have ho8 := hoX.keep (hk8.mono (fun q hq _ => ⟨by have := hfsl q hq; omega, hdj q hq⟩))
     have hM8 := (Marked.nil w8).cons ((hk8.block D ⟨hDX, hDn⟩ hDX).trans hKD.out) (by simp)
     have hfk8 : ∀ q, q < X.heap.size → ¬ fpd q → ¬ fp8 q := fun q h1 h2 h3 => by
      rcases hn8 q h3 with h | h
      ·exact h2 h
      ·omega
     have hok8 := hoks.wrE (Pl.slotOf r.gen) (Pl.headB r.gen)
     clear PH PW hcl7 hcl8 kA kB bA b7 st8 st8' hBd6 c0 x0 hX5w hst6 hd6 ho6 hM6 hk6 hoks
     generalize s2.wrE (Pl.slotOf r.gen) (Pl.headB r.gen) = a3 at *
     obtain ⟨s3, e3⟩ := a3
     simp only at hWd2 hok8 hd8
     by_cases he3 : e3 = 0
     case neg =>
      have hne : (e3 != 0) = true := by simpa using he3
      have hR : ER = (s3, e3) := by rw [hWd2.out, if_pos he3]
      have hfin := Lib.hid (fun W2 (hk' : Keep (fun k => k ∉ [D]) w8 W2) => hEnd.out (s3, e3) x vf fp8 w8 W2 hR (hEXn.out (by rw [hR]; exact he3)) ho8 hd8 hst8 hn8 hk')
      clear he3 hWd2 hR
      go_wp2
      refine leaves_marks [D] _ hM8 (fun W' hk' => ⟨_, results_tmp rfl _ _ _, ?_⟩)
      exact hfin.out W' hk'
     subst he3
     have hWd3 : Hid (ER = s3.syE) := Lib.hid hWd2.out
     clear hWd2
     have c0 := ho8.cells.1
     have PS := Lib.hid (sync_e hd8 hok8 (by omega))
     go_wp2_with fail
     refine PS.out.mono ?_
     rintro e w9 ⟨rfl, hd9, st9⟩
     have hk9 : Keep (fun z => z < X.heap.size ∧ ¬ fpd z) X w9 := hk8.trans st9.keep (fun q hq _ => hfk8 q hq.1 hq.2)
     have hst9 := hst8.trans (st9.orL ho8.blk.lt)
     have ho9 := hoX.keep (hk9.mono (fun q hq _ => ⟨by have := hfsl q hq; omega, hdj q hq⟩))
     have hM9 := (Marked.nil w9).cons ((hk9.block D ⟨hDX, hDn⟩ hDX).trans hKD.out) (by simp)
     have hr9 : FilesF rp2 w9 (.slice ra r.files.length rc) r.files := hrX.keep (hk9.mono (fun q hq _ => ⟨by have := hfsl q (.inr (.inr hq)); omega, hdj q (.inr (.inr hq))⟩)) (fun _ h => h)
     have hX5w : Blk w9 (W.heap.size + 1) #[.int .u64 (r.gen : Int), .slice ra r.files.length rc] 71 := hX5e.keep hk9 ⟨hX5l, fun h => by have := hd.lt _ h; omega⟩
     clear PS c0 ho8 hd8 hk8 hst8 hM8 st9 hok8
     generalize s3.syE = a4 at *
     obtain ⟨s4, e4⟩ := a4
     simp only at hWd3 hd9
     by_cases he4 : e4 = 0
     case neg =>
      have hne : (e4 != 0) = true := by simpa using he4
      have hfin := Lib.hid (fun W2 (hk' : Keep (fun k => k ∉ [D]) w9 W2) => hEnd.out (s4, e4) x vf fp8 w9 W2 hWd3.out (hEXn.out (by rw [hWd3.out]; exact he4)) ho9 hd9 hst9 hn8 hk')
      clear he4 hWd3
      go_wp2
      refine leaves_marks [D] _ hM9 (fun W' hk' => ⟨_, results_tmp rfl _ _ _, ?_⟩)
      exact hfin.out W' hk'
     subst he4
     obtain ⟨hoF, hsF⟩ := ho9.setSafe hr9
     have hkF : Keep (fun q => q ≠ f) w9 ((w9.setCell ⟨f, 2, none⟩ (.int .u64 (r.gen : Int))).setCell ⟨f, 3, none⟩ (.slice ra r.files.length rc)) := hsF.keep
     have hdF := hd9.keep (hkF.mono (fun q hq _ e => by subst e; exact hfk8 _ (by omega) (hdj _ (.inl rfl)) hq))
     have hstF : Step (fun q => q = f ∨ fp8 q) (fun q => q = f ∨ fp8 q) w9 ((w9.setCell ⟨f, 2, none⟩ (.int .u64 (r.gen : Int))).setCell ⟨f, 3, none⟩ (.slice ra r.files.length rc)) :=
      ⟨hkF.mono (fun q hq _ e => hq (.inl e)), fun q hq => .inl hq, fun q hq => Nat.lt_of_lt_of_le (hst9.lt q hq) hkF.size⟩
     have hMF := (Marked.nil _).cons ((hkF.block D hDf (Nat.lt_of_lt_of_le hDX hk9.size)).trans ((hk9.block D ⟨hDX, hDn⟩ hDX).trans hKD.out)) (by simp)
     have hfin := Lib.hid (fun W2 (hk' : Keep (fun k => k ∉ [D]) ((w9.setCell ⟨f, 2, none⟩ (.int .u64 (r.gen : Int))).setCell ⟨f, 3, none⟩ (.slice ra r.files.length rc)) W2) => hEnd.out (s4, 0) { x with safe := r } (.slice ra r.files.length rc) fp8 _ W2 hWd3.out (hEXy.out (by rw [hWd3.out])) hoF hdF (hst9.trans hstF) hn8 hk')
     have x0 : w9.cell? ⟨W.heap.size + 1, 0, none⟩ = some (.int .u64 (r.gen : Int)) := by simp [hX5w.cell]
     have x1 : w9.cell? ⟨W.heap.size + 1, 1, none⟩ = some (.slice ra r.files.length rc) := by simp [hX5w.cell]
     obtain ⟨c0, c1, c2, c3, _⟩ := ho9.cells
     have f2 := ho9.blk.frozen 2
     have f3 := ho9.blk.frozen 3
     clear hoF hsF hdF hstF hWd3
     go_wp2
     refine leaves_marks [D] _ hMF (fun W' hk' => ⟨_, results_tmp rfl _ _ _, ?_⟩)
     exact hfin.out W' hk'
  case stop =>
   rintro D c pre fp X _ _ _ _ _ _ h
   exact h.elim
  ·rintro c pre f1 X X' h
   exact h.elim
  ·rintro pre y a' _ f1 X X' ⟨h, he⟩ hkp
   exact ⟨PcI.abide (by omega) (by omega) _ _ _ _ h hkp, he⟩
  ·rintro z hz rfl; omega
  ·intro z hz; omega
  ·exact ⟨fun z hz => hz, ⟨_, rfl, by simpa using bA⟩, ⟨_, hX4d, by simpa using hl5, fun q e => ⟨by have := (hl5.lt q e).2; have := (hl.lt q e).2; omega, .inl e⟩⟩, Keep.refl _ _⟩
end
end Go.Proofs.YtogblcdefbnbeaaGreat
