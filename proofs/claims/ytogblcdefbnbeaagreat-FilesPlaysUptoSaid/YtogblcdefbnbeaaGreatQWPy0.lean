
/- Memory and walks: both file systems and both disks side by side. Condition: few acts. -/
import Derived.Test.YtogblcdefbnbeaaGreatQPf
import Derived.Test.YtogblcdefbnbeaaGreatQGh
import Derived.Laws.OwnMore
set_option maxRecDepth 100000
namespace Go.Proofs.YtogblcdefbnbeaaGreat
section
open Go.RowKit Go.Maps
variable {f d q r N T k : Nat} {x x' : Pl.Fs} {y y' : Pl.Rf} {s s1 s2 s1' s2' : Pl.Dv} {fp fd fq fr fp' fd' fq' fr' : Nat → Prop} {w W W' : World}
theorem fsAt_base {B B' f d : Nat} {x : Pl.Fs} {fp : Nat → Prop} {W : World} (h : FsAt B f d x fp W) (hB : B' ≤ B) : FsAt B' f d x fp W := by
 obtain ⟨m, vf, rp, h, rfl⟩ := h
 exact ⟨m, vf, rp, ⟨h.blk, h.files, h.hand, h.nf, h.nm, h.ne, h.lt, fun k hk => Nat.le_trans hB (h.low k hk), Nat.le_trans hB h.lf, Nat.le_trans hB h.lm⟩, rfl⟩
theorem rfAt_base {B B' q r : Nat} {y : Pl.Rf} {fp : Nat → Prop} {W : World} (h : RfAt B q r y fp W) (hB : B' ≤ B) : RfAt B' q r y fp W := by
 obtain ⟨vf, vh, rp, hl, h, rfl⟩ := h
 exact ⟨vf, vh, rp, hl, ⟨h.blk, h.files, row_base h.hand hB, h.ints, h.heq, h.nq, h.nh, h.lt, fun k hk => Nat.le_trans hB (h.low k hk), Nat.le_trans hB h.lq⟩, rfl⟩
theorem refAt_base {B B' r : Nat} {s : Pl.Dv} {fr : Nat → Prop} {W : World} (h : RefAt B r s fr W) (hB : B' ≤ B) : RefAt B' r s fr W := by
 obtain ⟨sv, wv, h⟩ := h
 exact ⟨sv, wv, h.blk, row_base h.safe hB, row_base h.wait hB, h.fr, h.fsv, h.fwv, h.lt, fun k hk => Nat.le_trans hB (h.low k hk), h.wf⟩
structure F4 (w : World) (f d q r : Nat) (x : Pl.Fs) (y : Pl.Rf) (s1 s2 : Pl.Dv) (fp fd fq fr : Nat → Prop) (W : World) : Prop where
 fs : FsAt w.heap.size f d x fp W
 dev : DevAt w.heap.size d s1 fd W
 rf : RfAt w.heap.size q r y fq W
 ref : RefAt w.heap.size r s2 fr W
 d1 : ∀ z, fp z → ¬ fd z
 d2 : ∀ z, fp z → ¬ fq z
 d3 : ∀ z, fp z → ¬ fr z
 d4 : ∀ z, fd z → ¬ fq z
 d5 : ∀ z, fd z → ¬ fr z
 d6 : ∀ z, fq z → ¬ fr z
 low : Below w.heap.size w W
theorem F4.beyond (h : F4 w f d q r x y s1 s2 fp fd fq fr W) (hb : Below W.heap.size W W') : F4 w f d q r x y s1 s2 fp fd fq fr W' :=
 ⟨h.fs.beyond hb, h.dev.beyond hb, h.rf.beyond hb, h.ref.beyond hb, h.d1, h.d2, h.d3, h.d4, h.d5, h.d6, h.low.trans (hb.mono h.low.size)⟩
theorem apart_new {A A' C : Nat → Prop} {n : Nat} (hn : ∀ z, A' z → A z ∨ n ≤ z) (hc : ∀ z, C z → z < n) (hd : ∀ z, A z → ¬ C z) : ∀ z, A' z → ¬ C z := fun z hz h => by
 rcases hn z hz with h1 | h1
 ·exact hd z h1 h
 ·have := hc z h; omega
theorem F4.real (h : F4 w f d q r x y s1 s2 fp fd fq fr W) (hF : FsAt w.heap.size f d x' fp' W') (hD : DevAt w.heap.size d s1' fd' W') (hdj : ∀ z, fp' z → ¬ fd' z) (n1 : ∀ z, fp' z → fp z ∨ W.heap.size ≤ z) (n2 : ∀ z, fd' z → fd z ∨ W.heap.size ≤ z) (hk : Keep (fun z => ¬ fp z ∧ ¬ fd z) W W') :
  F4 w f d q r x' y s1' s2 fp' fd' fq fr W' :=
 ⟨hF, hD, h.rf.keep (hk.mono (fun z hz _ => ⟨fun e => h.d2 z e hz, fun e => h.d4 z e hz⟩)), h.ref.keep (hk.mono (fun z hz _ => ⟨fun e => h.d3 z e hz, fun e => h.d5 z e hz⟩)), hdj, apart_new n1 h.rf.lt h.d2, apart_new n1 h.ref.lt h.d3, apart_new n2 h.rf.lt h.d4, apart_new n2 h.ref.lt h.d5, h.d6,
  hk.below h.low (Nat.le_refl _) (fun z hz => ⟨fun e => by have := h.fs.fpB z e; omega, fun e => by have := h.dev.fpB z e; omega⟩)⟩
theorem F4.doc (h : F4 w f d q r x y s1 s2 fp fd fq fr W) (hR : RfAt w.heap.size q r y' fq' W') (hE : RefAt w.heap.size r s2' fr' W') (hdj : ∀ z, fq' z → ¬ fr' z) (n1 : ∀ z, fq' z → fq z ∨ W.heap.size ≤ z) (n2 : ∀ z, fr' z → fr z ∨ W.heap.size ≤ z) (hk : Keep (fun z => ¬ fq z ∧ ¬ fr z) W W') :
  F4 w f d q r x y' s1 s2' fp fd fq' fr' W' :=
 ⟨h.fs.keep (hk.mono (fun z hz _ => ⟨fun e => h.d2 z hz e, fun e => h.d3 z hz e⟩)), h.dev.keep (hk.mono (fun z hz _ => ⟨fun e => h.d4 z hz e, fun e => h.d5 z hz e⟩)), hR, hE, h.d1, fun z a b => apart_new n1 h.fs.lt (fun z a b => h.d2 z b a) z b a, fun z a b => apart_new n2 h.fs.lt (fun z a b => h.d3 z b a) z b a, fun z a b => apart_new n1 h.dev.lt (fun z a b => h.d4 z b a) z b a, fun z a b => apart_new n2 h.dev.lt (fun z a b => h.d5 z b a) z b a, hdj,
  hk.below h.low (Nat.le_refl _) (fun z hz => ⟨fun e => by have := h.rf.fpB z e; omega, fun e => by have := h.ref.fpB z e; omega⟩)⟩
theorem F4.fsS (h : F4 w f d q r x y s1 s2 fp fd fq fr W) (hF : FsAt w.heap.size f d x' fp' W') (st : Step fp fp' W W') : F4 w f d q r x' y s1 s2 fp' fd fq fr W' :=
 h.real hF (h.dev.keep (st.keep.mono (fun z hz _ e => h.d1 z e hz))) (apart_new st.new h.dev.lt h.d1) st.new (fun _ h => .inl h) (st.keep.mono (fun z hz _ => hz.1))
theorem F4.rfS (h : F4 w f d q r x y s1 s2 fp fd fq fr W) (hR : RfAt w.heap.size q r y' fq' W') (st : Step fq fq' W W') : F4 w f d q r x y' s1 s2 fp fd fq' fr W' :=
 h.doc hR (h.ref.keep (st.keep.mono (fun z hz _ e => h.d6 z e hz))) (apart_new st.new h.ref.lt h.d6) st.new (fun _ h => .inl h) (st.keep.mono (fun z hz _ => hz.1))
theorem F4.devS (h : F4 w f d q r x y s1 s2 fp fd fq fr W) (hD : DevAt w.heap.size d s1' fd' W') (st : Step fd fd' W W') : F4 w f d q r x y s1' s2 fp fd' fq fr W' :=
 h.real (h.fs.keep (st.keep.mono (fun z hz _ e => h.d1 z hz e))) hD (fun z a b => apart_new st.new h.fs.lt (fun z a b => h.d1 z b a) z b a) (fun _ h => .inl h) st.new (st.keep.mono (fun z hz _ => hz.2))
theorem F4.refS (h : F4 w f d q r x y s1 s2 fp fd fq fr W) (hE : RefAt w.heap.size r s2' fr' W') (st : Step fr fr' W W') : F4 w f d q r x y s1 s2' fp fd fq fr' W' :=
 h.doc (h.rf.keep (st.keep.mono (fun z hz _ e => h.d6 z hz e))) hE (fun z a b => apart_new st.new h.rf.lt (fun z a b => h.d6 z b a) z b a) (fun _ h => .inl h) st.new (st.keep.mono (fun z hz _ => hz.2))
set_option maxHeartbeats 1000000 in
theorem disks_any (h : Two w.heap.size d r s s fd fr W) (hw : s.wait.length ≤ 1099511627776) :
  Calls Tryz.prog 14 #[.pointer (some ⟨d, 0, none⟩), .pointer (some ⟨r, 0, none⟩)] W fun e w' => e = .returned (.bool true) ∧ Below W.heap.size W w' := by
 have a1 := Lib.hid (fun (X : World) (hb : Below W.heap.size W X) => up_any (h.1.beyond hb))
 have a3 := Lib.hid (fun (X : World) (hb : Below W.heap.size W X) => acts_any (h.1.beyond hb))
 have a5 := Lib.hid (pending_any h.1 (by omega))
 obtain ⟨L, hL⟩ : ∃ L, L = s.wait.map fun p => (p.1 : Int) := ⟨_, rfl⟩
 have hlen : L.length = s.wait.length := by rw [hL]; simp
 have hRef := h.2.1
 rw [← hL] at a5
 have hrl : r < W.heap.size := by obtain ⟨_, _, h0⟩ := hRef; exact h0.blk.lt
 have hcl : Hid (∀ X, Below W.heap.size W X → X.cell? ⟨r, 2, none⟩ = some (.bool s.down) ∧ X.cell? ⟨r, 4, none⟩ = some (.int .i64 (s.acts : Int))) := Lib.hid (fun X hb => by
  obtain ⟨_, _, h0⟩ := hRef.beyond hb
  exact ⟨by simp [h0.blk.cell], by simp [h0.blk.cell]⟩)
 replace hL := Lib.hid hL
 go_enter Tryz.func14, Tryz.ntmps14
 go_upto_region 3 with (first
  | (go_at_call 44; ((with_reducible refine a5.out.mono ?_); rintro e w1 ⟨rfl, hI, hb1⟩; have hR1 := hRef.beyond hb1; have hPr := refPending_any hR1 (by omega); rw [← hL.out] at hPr; replace hPr := Lib.hid hPr))
  | (go_at_call 46; ((with_reducible refine hPr.out.mono ?_); rintro e w2 ⟨v2, rfl, hown⟩; have hI2 := hI.keep (f := fun _ => True) (Keep.of_below hown.below (fun _ _ h => h)) trivial; have hSame : Hid (Calls Tryz.prog 45 #[.slice (some ⟨W.heap.size, 0, none⟩) s.wait.length s.wait.length, v2] w2 fun e w' => e = .returned (.bool true) ∧ Q w2 w') := (by
    rcases own_icell hown hlen.symm with ⟨e1, rfl⟩ | ⟨g, cap, rfl, hc⟩
    ·rw [← hlen, e1]; exact Lib.hid (sameInts_none _ _)
    ·rw [← hlen]; exact Lib.hid (sameInts_any _ g cap L (by omega) (fun i hi => blk_icells hI2 hi) hc))))
  | (go_at_call 45; ((with_reducible refine hSame.out.mono ?_); rintro e w3 ⟨rfl, nq, rfl⟩)))
 have hb2 : Below W.heap.size W (w2.drewN nq) := (hb1.trans (hown.below.mono hb1.size)).trans (((Q.refl w2).drewN nq).below _)
 clear hSame hPr hI hI2 hR1 hown hb1 a5
 generalize w2.drewN nq = w3 at *
 obtain ⟨c2, c4⟩ := hcl.out w3 hb2
 have hr3 : r < w3.heap.size := Nat.lt_of_lt_of_le hrl hb2.size
 clear hcl
 go_wp2_with (first
  | (go_at_call 47; ((with_reducible refine (a1.out w3 hb2).mono ?_); rintro e w1 ⟨rfl, rfl⟩))
  | (go_at_call 48; ((with_reducible refine (a3.out w3 hb2).mono ?_); rintro e w1 ⟨rfl, rfl⟩)))
 go_ret
 exact ⟨ret_bool (by simp), hb2⟩
def OpnEnds (w : World) (d r N k : Nat) (e : Ending) (W' : World) : Prop :=
 ∃ (f q : Nat) (x : Pl.Fs) (y : Pl.Rf) (s' : Pl.Dv) (fp fd fq fr : Nat → Prop), e = .returned (.tuple #[.pointer (some ⟨f, 0, none⟩), .pointer (some ⟨q, 0, none⟩), .bool true]) ∧ F4 w f d q r x y s' s' fp fd fq fr W' ∧ Pl.RelF N 0 x y s' ∧ Pl.Fine N k s'
set_option maxHeartbeats 1000000 in
theorem opened_any (h : Two w.heap.size d r s s fd fr W) (hlow : Below w.heap.size w W) (hF : Pl.Fine N k s) (hk : k ≤ 1099511627776) (hN1 : 40 ≤ N) (hN2 : N ≤ 16384) (hFr : Pl.Free s) (hw : s.wait = []) :
  Calls Tryz.prog 7 #[.pointer (some ⟨d, 0, none⟩), .pointer (some ⟨r, 0, none⟩)] W (OpnEnds w d r N (k + 18)) := by
 have hwf := h.1.wf
 have hOk : Pl.Ok N k s := ⟨hF.len, hF.armed, hF.acts, hF.wait⟩
 have hmay : ∀ j r0, Pl.decS s N j = some r0 → Pl.May (N : Int) r0 := fun j r0 h => by
  have := (encRt_yes (Pl.decRt_may h)).1
  rwa [show min (N : Int) 16384 = (N : Int) by omega] at this
 have hlen := hF.len
 have PO := Lib.hid (open_any h.1 hFr.2 hlow.size hOk hk hN1 hN2 (Pl.decS s N) (fun j hj X => decode_any _ _ X (by
  rw [← Pl.slotN_all]
  exact Nat.le_trans (Pl.slotN_size hwf hj (by omega)) (by decide)) (by omega) (by omega)) (fun j r0 hj => by
   have hm := hmay j r0 hj
   exact ⟨fun z hz => by
    have := hm.blocks (by omega) hz
    unfold maxLen
    omega, by have := hm.many; omega, hm.g2⟩))
 have hopen := fun hwf' => Pl.RelF.opened hFr hw hF.len hN2 hwf hwf'
 have hfine : Pl.Fine N (k + 18) (Pl.openE s (Pl.decS s N)).1.2 := by
  unfold Pl.openE
  split
  ·have h1 : Pl.Fine N (k + 18) (Pl.wrRoot s [] ⟨1, []⟩).1 := (Pl.wrRoot_fine hF [] ⟨1, []⟩).mono (by simp)
   split
   ·exact h1
   ·exact h1
  ·exact hF.mono (by omega)
 have hR : Hid (∀ X, Keep (fun z => ¬ fd z) W X → Calls Tryz.prog 18 #[.pointer (some ⟨r, 0, none⟩)] X (ROpenEnds w.heap.size r fr (Pl.openR s (Pl.decS s N)) X)) := Lib.hid (fun X hk => ropen_any (h.2.1.keep (hk.mono (fun z hz _ e => h.2.2 z e hz))) hFr.2 (Nat.le_trans hlow.size hk.size) hF (by omega) hN1 hN2)
 have hwB := hlow.size
 go_enter Tryz.func7, Tryz.ntmps7
 go_wp2_with fail
 refine PO.out.mono ?_
 rintro e w1 ⟨fd1, hD1, hn1, hk1, hm1⟩
 obtain ⟨x, y, s', e1, e2, hrel⟩ := hopen hD1.wf
 rw [e1] at hD1 hm1 hfine
 obtain ⟨f, fp, rfl, hFs, hdj1⟩ := hm1
 simp only at hD1 hfine
 have hz1 := hk1.size
 have hR1 := hR.out w1 hk1
 rw [e2] at hR1
 have hR2 := Lib.hid hR1
 clear hR hR1 PO hopen hmay e1 e2
 go_wp2_with fail
 refine hR2.out.mono ?_
 rintro e w2 ⟨fr2, hE2, hn2, hk2, hm2⟩
 obtain ⟨q, fq, rfl, hRf, hdj2⟩ := hm2
 simp only at hE2
 have hz2 := hk2.size
 have hr1 : ∀ z, fr z → z < W.heap.size := h.2.1.lt
 have hd0 : ∀ z, fd z → z < W.heap.size := h.1.lt
 have hfB := hFs.fpB
 have hqB := hRf.fpB
 have hF1l := hFs.lt
 have hD1l := hD1.lt
 have hfd : ∀ z, fp z → ¬ fr z := fun z a b => by have := hfB z a; have := hr1 z b; omega
 have hfd1 : ∀ z, fd1 z → ¬ fr z := fun z a b => by
  rcases hn1 z a with h1 | h1
  ·exact h.2.2 z h1 b
  ·have := hr1 z b; omega
 have hfin : Hid (F4 w f d q r x y s' s' fp fd1 fq fr2 w2) := Lib.hid ⟨fsAt_base (hFs.keep (hk2.mono (fun z hz _ e => hfd z hz e))) hwB, hD1.keep (hk2.mono (fun z hz _ e => hfd1 z hz e)), rfAt_base hRf (by omega), hE2, hdj1, fun z a b => by
   have := hF1l z a
   have := hqB z b
   omega, fun z a b => by
   rcases hn2 z b with h1 | h1
   ·exact hfd z a h1
   ·have := hF1l z a; omega, fun z a b => by
   have := hD1l z a
   have := hqB z b
   omega, fun z a b => by
   rcases hn2 z b with h1 | h1
   ·exact hfd1 z a h1
   ·have := hD1l z a; omega, hdj2, (hk2.below (hk1.below hlow (Nat.le_refl _) (fun z hz e => by have := h.1.fpB z e; omega)) (Nat.le_refl _) (fun z hz e => by have := h.2.1.fpB z e; omega))⟩
 have hrl := Lib.hid hrel
 have hfn := Lib.hid hfine
 clear hrel hfine hFs hD1 hE2 hRf hR2
 go_wp2_with fail
 go_ret3
 exact ⟨f, q, x, y, s', fp, fd1, fq, fr2, rfl, hfin.out, hrl.out, hfn.out⟩
end
end Go.Proofs.YtogblcdefbnbeaaGreat
