
/- Memory: a file system, its disk and plain files side by side. Condition: none.
   Memory and plain: what stands ahead of each act of the law FilesWhole, and behind it. Condition: none. -/
import Derived.Test.YtndekdgpibipnaaQGs
import Derived.Test.YtndekdgpibipnaaQGo
import Derived.Test.YtndekdgpibipnaaQGh

namespace Go.Proofs.Ytndekdgpibipnaa
open Go.RowKit

theorem FsO.mono {B B' f d m : Nat} {vf : Value} {rp : Nat → Prop} {x : Pl.Fs} {W : World} (h : FsO B f d m vf rp x W) (hB : B' ≤ B) : FsO B' f d m vf rp x W :=
  ⟨h.blk, h.files, h.hand, h.nf, h.nm, h.ne, h.lt, fun k hk => Nat.le_trans hB (h.low k hk), Nat.le_trans hB h.lf, Nat.le_trans hB h.lm⟩
theorem FsAt.mono {B B' f d : Nat} {x : Pl.Fs} {fp : Nat → Prop} {W : World} (h : FsAt B f d x fp W) (hB : B' ≤ B) : FsAt B' f d x fp W := by
  obtain ⟨m, vf, rp, h, rfl⟩ := h
  exact ⟨m, vf, rp, h.mono hB, rfl⟩
/-- plain files in a box of their own -/
structure PfB (W : World) (B m : Nat) (vn vd : Value) (ns ds : List ByteArray) : Prop where
  box : Blk W m #[vn, vd] 84
  pf : Pf W B vn vd ns ds
  lo : B ≤ m
  ne : ∀ q, pfFp vn vd q → q ≠ m
theorem PfB.cells {W : World} {B m : Nat} {vn vd : Value} {ns ds : List ByteArray} (h : PfB W B m vn vd ns ds) : W.cell? ⟨m, 0, none⟩ = some vn ∧ W.cell? ⟨m, 1, none⟩ = some vd := ⟨by simp [h.box.cell], by simp [h.box.cell]⟩
theorem pl_cells {W : World} {m : Nat} {a b : Value} (h : Blk W m #[a, b] 84) : W.cell? ⟨m, 0, none⟩ = some a ∧ W.cell? ⟨m, 1, none⟩ = some b ∧ W.frozen? ⟨m, 0, none⟩ = false ∧ W.frozen? ⟨m, 1, none⟩ = false ∧ m < W.heap.size := ⟨by simp [h.cell], by simp [h.cell], h.frozen 0, h.frozen 1, h.lt⟩
def pfG (m : Nat) (vn vd : Value) (q : Nat) : Prop := q = m ∨ pfFp vn vd q
variable {w W W' X X' : World} {B m d f mS mH N k : Nat} {vn vd vS vT vH vI v1 v2 : Value} {ns ds nsS dsS nsH dsH ns' ds' : List ByteArray} {x x' : Pl.Fs} {s s' : Pl.Dv} {fp fpd fp' fpd' : Nat → Prop} {cut : Bool}
theorem PfB.keep {g : Nat → Prop} (h : PfB W B m vn vd ns ds) (hk : Keep g W W') (hg : ∀ q, pfG m vn vd q → g q) : PfB W' B m vn vd ns ds :=
  ⟨h.box.keep hk (hg m (.inl rfl)), h.pf.keep hk (fun q e => hg q (.inr e)), h.lo, h.ne⟩
theorem PfB.lt (h : PfB W B m vn vd ns ds) (q : Nat) (e : pfG m vn vd q) : B ≤ q ∧ q < W.heap.size := by
  rcases e with rfl | e
  · exact ⟨h.lo, h.box.lt⟩
  · exact h.pf.lt q e
theorem keep_two (W : World) (m : Nat) (u v : Value) : Keep (fun q => q ≠ m) W ((W.setCell ⟨m, 0, none⟩ u).setCell ⟨m, 1, none⟩ v) := ((Keep.refl _ W).setCell _ _ _ (fun h _ => h rfl)).setCell _ _ _ (fun h _ => h rfl)
theorem PfB.store {a b : Value} (hb : Blk W m #[a, b] 84) (hp : Pf W B vn vd ns ds) (hne : ∀ q, pfFp vn vd q → q ≠ m) (hB : B ≤ m) : PfB ((W.setCell ⟨m, 0, none⟩ vn).setCell ⟨m, 1, none⟩ vd) B m vn vd ns ds :=
  ⟨heap_two hb, hp.keep (keep_two W m vn vd) (fun q e => hne q e), hB, hne⟩
/-- a file system, its disk, the plain files that are safe and those at hand -/
structure WhM (w : World) (d f mS mH : Nat) (x : Pl.Fs) (s : Pl.Dv) (fp fpd : Nat → Prop) (vS vT vH vI : Value) (nsS dsS nsH dsH : List ByteArray) (X : World) : Prop where
  fs : FsAt w.heap.size f d x fp X
  dev : DevAt w.heap.size d s fpd X
  pS : PfB X w.heap.size mS vS vT nsS dsS
  pH : PfB X w.heap.size mH vH vI nsH dsH
  low : Below w.heap.size w X
  d1 : ∀ q, fp q → ¬ fpd q
  d2 : ∀ q, pfG mS vS vT q → ¬ fp q ∧ ¬ fpd q
  d3 : ∀ q, pfG mH vH vI q → ¬ fp q ∧ ¬ fpd q ∧ ¬ pfG mS vS vT q
theorem WhM.still (h : WhM w d f mS mH x s fp fpd vS vT vH vI nsS dsS nsH dsH X) (hb : Below X.heap.size X X') : WhM w d f mS mH x s fp fpd vS vT vH vI nsS dsS nsH dsH X' := by
  have hk : Keep (fun q => q < X.heap.size) X X' := Keep.of_below hb (fun _ h _ => h)
  exact ⟨h.fs.beyond hb, h.dev.beyond hb, h.pS.keep hk (fun q e => (h.pS.lt q e).2), h.pH.keep hk (fun q e => (h.pH.lt q e).2), h.low.trans (hb.mono h.low.size), h.d1, h.d2, h.d3⟩
/-- another file system, another disk -/
theorem WhM.turn {f' : Nat} (h : WhM w d f mS mH x s fp fpd vS vT vH vI nsS dsS nsH dsH X) (hk : Keep (fun q => ¬ fp q ∧ ¬ fpd q) X X') (hf : FsAt w.heap.size f' d x' fp' X') (hd : DevAt w.heap.size d s' fpd' X') (h1 : ∀ q, fp' q → ¬ fpd' q) (h2 : ∀ q, fp' q → fp q ∨ X.heap.size ≤ q) (h3 : ∀ q, fpd' q → fpd q ∨ X.heap.size ≤ q) :
    WhM w d f' mS mH x' s' fp' fpd' vS vT vH vI nsS dsS nsH dsH X' :=
  ⟨hf, hd, h.pS.keep hk (fun q e => h.d2 q e), h.pH.keep hk (fun q e => ⟨(h.d3 q e).1, (h.d3 q e).2.1⟩), hk.below h.low (Nat.le_refl _) (fun q hq => ⟨fun e => by have := h.fs.fpB q e; omega, fun e => by have := h.dev.fpB q e; omega⟩), h1,
    fun q e => ⟨fun e2 => (h2 q e2).elim (h.d2 q e).1 (fun e3 => by have := (h.pS.lt q e).2; omega), fun e2 => (h3 q e2).elim (h.d2 q e).2 (fun e3 => by have := (h.pS.lt q e).2; omega)⟩,
    fun q e => ⟨fun e2 => (h2 q e2).elim (h.d3 q e).1 (fun e3 => by have := (h.pH.lt q e).2; omega), fun e2 => (h3 q e2).elim (h.d3 q e).2.1 (fun e3 => by have := (h.pH.lt q e).2; omega), (h.d3 q e).2.2⟩⟩
/-- other plain files at hand -/
theorem WhM.hand (h : WhM w d f mS mH x s fp fpd vS vT vH vI nsS dsS nsH dsH X) (hk : Keep (fun q => ¬ pfFp vH vI q) X X') (hp : Pf X' w.heap.size v1 v2 ns' ds') (hn : ∀ q, pfFp v1 v2 q → pfFp vH vI q ∨ X.heap.size ≤ q) :
    Blk X' mH #[vH, vI] 84 ∧ WhM w d f mS mH x s fp fpd vS vT v1 v2 nsS dsS ns' ds' ((X'.setCell ⟨mH, 0, none⟩ v1).setCell ⟨mH, 1, none⟩ v2) := by
  have hb : Blk X' mH #[vH, vI] 84 := h.pH.box.keep hk (fun e => h.pH.ne mH e rfl)
  have hmH := (h.pH.lt mH (.inl rfl))
  have k2 := keep_two X' mH v1 v2
  have hK : Keep (fun q => ¬ pfG mH vH vI q) X ((X'.setCell ⟨mH, 0, none⟩ v1).setCell ⟨mH, 1, none⟩ v2) := (hk.mono (fun q hq _ e => hq (.inr e))).trans k2 (fun q hq _ e => hq (.inl e))
  have hG : ∀ q, pfG mH v1 v2 q → pfG mH vH vI q ∨ X.heap.size ≤ q := fun q e => e.elim (fun e => .inl (.inl e)) (fun e => (hn q e).imp (fun e => .inr e) id)
  have hne : ∀ q, pfFp v1 v2 q → q ≠ mH := fun q e => (hn q e).elim (fun e2 => h.pH.ne q e2) (fun e2 => by omega)
  refine ⟨hb, h.fs.keep (hK.mono (fun q hq _ e => (h.d3 q e).1 hq)), h.dev.keep (hK.mono (fun q hq _ e => (h.d3 q e).2.1 hq)), h.pS.keep hK (fun q e e2 => (h.d3 q e2).2.2 e), PfB.store hb hp hne h.pH.lo, hK.below h.low (Nat.le_refl _) (fun q hq e => by have := (h.pH.lt q e).1; omega), h.d1, h.d2, fun q e => ?_⟩
  rcases hG q e with e2 | e2
  · exact h.d3 q e2
  · exact ⟨fun e3 => by have := h.fs.lt q e3; omega, fun e3 => by have := h.dev.lt q e3; omega, fun e3 => by have := (h.pS.lt q e3).2; omega⟩
/-- other plain files that are safe -/
theorem WhM.safe (h : WhM w d f mS mH x s fp fpd vS vT vH vI nsS dsS nsH dsH X) (hk : Keep (fun q => ¬ pfFp vS vT q) X X') (hp : Pf X' w.heap.size v1 v2 ns' ds') (hn : ∀ q, pfFp v1 v2 q → pfFp vS vT q ∨ X.heap.size ≤ q) :
    Blk X' mS #[vS, vT] 84 ∧ WhM w d f mS mH x s fp fpd v1 v2 vH vI ns' ds' nsH dsH ((X'.setCell ⟨mS, 0, none⟩ v1).setCell ⟨mS, 1, none⟩ v2) := by
  have hb : Blk X' mS #[vS, vT] 84 := h.pS.box.keep hk (fun e => h.pS.ne mS e rfl)
  have hmS := (h.pS.lt mS (.inl rfl))
  have k2 := keep_two X' mS v1 v2
  have hK : Keep (fun q => ¬ pfG mS vS vT q) X ((X'.setCell ⟨mS, 0, none⟩ v1).setCell ⟨mS, 1, none⟩ v2) := (hk.mono (fun q hq _ e => hq (.inr e))).trans k2 (fun q hq _ e => hq (.inl e))
  have hG : ∀ q, pfG mS v1 v2 q → pfG mS vS vT q ∨ X.heap.size ≤ q := fun q e => e.elim (fun e => .inl (.inl e)) (fun e => (hn q e).imp (fun e => .inr e) id)
  have hne : ∀ q, pfFp v1 v2 q → q ≠ mS := fun q e => (hn q e).elim (fun e2 => h.pS.ne q e2) (fun e2 => by omega)
  refine ⟨hb, h.fs.keep (hK.mono (fun q hq _ e => (h.d2 q e).1 hq)), h.dev.keep (hK.mono (fun q hq _ e => (h.d2 q e).2 hq)), PfB.store hb hp hne h.pS.lo, h.pH.keep hK (fun q e => (h.d3 q e).2.2), hK.below h.low (Nat.le_refl _) (fun q hq e => by have := (h.pS.lt q e).1; omega), h.d1, fun q e => ?_, fun q e => ⟨(h.d3 q e).1, (h.d3 q e).2.1, fun e2 => ?_⟩⟩
  · rcases hG q e with e2 | e2
    · exact h.d2 q e2
    · exact ⟨fun e3 => by have := h.fs.lt q e3; omega, fun e3 => by have := h.dev.lt q e3; omega⟩
  · rcases hG q e2 with e3 | e3
    · exact (h.d3 q e).2.2 e3
    · have := (h.pH.lt q e).2; omega
/-- .. copied: there is nothing of the old one's in a copy -/
theorem WhM.hand' (h : WhM w d f mS mH x s fp fpd vS vT vH vI nsS dsS nsH dsH X) (hb : Below X.heap.size X X') (hp : Pf X' X.heap.size v1 v2 ns' ds') :
    Blk X' mH #[vH, vI] 84 ∧ WhM w d f mS mH x s fp fpd vS vT v1 v2 nsS dsS ns' ds' ((X'.setCell ⟨mH, 0, none⟩ v1).setCell ⟨mH, 1, none⟩ v2) :=
  h.hand (Keep.of_below hb (fun q _ hq => hq)) (hp.base h.low.size) (fun q e => .inr (hp.lt q e).1)
theorem WhM.safe' (h : WhM w d f mS mH x s fp fpd vS vT vH vI nsS dsS nsH dsH X) (hb : Below X.heap.size X X') (hp : Pf X' X.heap.size v1 v2 ns' ds') :
    Blk X' mS #[vS, vT] 84 ∧ WhM w d f mS mH x s fp fpd v1 v2 vH vI ns' ds' nsH dsH ((X'.setCell ⟨mS, 0, none⟩ v1).setCell ⟨mS, 1, none⟩ v2) :=
  h.safe (Keep.of_below hb (fun q _ hq => hq)) (hp.base h.low.size) (fun q e => .inr (hp.lt q e).1)
/-- both are copies of one, whatever the box of the safe ones held meanwhile -/
theorem WhM.both (h : WhM w d f mS mH x s fp fpd vS vT vH vI nsS dsS nsH dsH X) {a b : Value} {X3 X4 X5 : World} (hk : Keep (fun q => q ≠ mS) X X3) (hB : Blk X3 mS #[a, b] 84) (h4 : Below X3.heap.size X3 X4) (hp : Pf X4 X3.heap.size v1 v2 ns' ds') (e5 : (X4.setCell ⟨mH, 0, none⟩ v1).setCell ⟨mH, 1, none⟩ v2 = X5) :
    Blk X4 mH #[vH, vI] 84 ∧ Blk X5 mH #[v1, v2] 84 ∧ Blk X5 mS #[a, b] 84 ∧ Pf X5 w.heap.size v1 v2 ns' ds' ∧
    ∀ (X6 : World) (v3 v4 : Value), Below X5.heap.size X5 X6 → Pf X6 X5.heap.size v3 v4 ns' ds' → Blk X6 mS #[a, b] 84 ∧ WhM w d f mS mH x s fp fpd v3 v4 v1 v2 ns' ds' ns' ds' ((X6.setCell ⟨mS, 0, none⟩ v3).setCell ⟨mS, 1, none⟩ v4) := by
  have hmS := h.pS.lt mS (.inl rfl)
  have hmH := h.pH.lt mH (.inl rfl)
  have hd : mH ≠ mS := fun e => (h.d3 mH (.inl rfl)).2.2 (.inl e)
  have b4 : Blk X4 mS #[a, b] 84 := (h4.block mS hB.lt).trans hB
  have bH3 : Blk X3 mH #[vH, vI] 84 := h.pH.box.keep hk hd
  have bH4 : Blk X4 mH #[vH, vI] 84 := (h4.block mH bH3.lt).trans bH3
  have hz := hk.size
  have k4 : Keep (fun q => q ≠ mS ∧ q < X3.heap.size) X X4 := (hk.mono (fun q hq _ => hq.1)).trans (Keep.of_below h4 (fun _ h _ => h)) (fun q hq _ => hq.2)
  have kA : Keep (fun q => q ≠ mH) X4 X5 := e5 ▸ keep_two X4 mH v1 v2
  have hlow := h.low.size
  have hnew : ∀ q, pfFp v1 v2 q → X3.heap.size ≤ q ∧ q < X4.heap.size := fun q e => hp.lt q e
  have hzA := kA.size
  have hz4 := h4.size
  have pH5 : PfB X5 w.heap.size mH v1 v2 ns' ds' := by
    rw [← e5]
    exact PfB.store bH4 (hp.base (Nat.le_trans hlow hz)) (fun q e => by have := hnew q e; omega) h.pH.lo
  have bS5 : Blk X5 mS #[a, b] 84 := b4.keep kA (fun e => hd e.symm)
  have k5 : Keep (fun q => q ≠ mS ∧ q ≠ mH ∧ q < X.heap.size) X X5 := (k4.mono (fun q hq hl => ⟨hq.1, by omega⟩)).trans kA (fun q hq _ => hq.2.1)
  refine ⟨bH4, pH5.box, bS5, pH5.pf, fun X6 v3 v4 h6 hp6 => ?_⟩
  have bS6 : Blk X6 mS #[a, b] 84 := (h6.block mS bS5.lt).trans bS5
  have kB := keep_two X6 mS v3 v4
  have k56 : Keep (fun q => q < X5.heap.size) X5 X6 := Keep.of_below h6 (fun _ h _ => h)
  have hK : Keep (fun q => q ≠ mS ∧ q ≠ mH ∧ q < X.heap.size) X ((X6.setCell ⟨mS, 0, none⟩ v3).setCell ⟨mS, 1, none⟩ v4) :=
    (k5.trans k56 (fun q hq _ => by omega)).trans kB (fun q hq _ => hq.1)
  have hnew2 : ∀ q, pfFp v3 v4 q → X5.heap.size ≤ q := fun q e => (hp6.lt q e).1
  refine ⟨bS6, h.fs.keep (hK.mono (fun q hq _ => ⟨fun e => (h.d2 q (.inl e)).1 hq, fun e => (h.d3 q (.inl e)).1 hq, h.fs.lt q hq⟩)), h.dev.keep (hK.mono (fun q hq _ => ⟨fun e => (h.d2 q (.inl e)).2 hq, fun e => (h.d3 q (.inl e)).2.1 hq, h.dev.lt q hq⟩)), PfB.store bS6 (hp6.base (by omega)) (fun q e => by have := hnew2 q e; omega) h.pS.lo, ?_, hK.below h.low (Nat.le_refl _) (fun q hq => ⟨by omega, by omega, by omega⟩), h.d1, fun q e => ?_, fun q e => ?_⟩
  · refine (pH5.keep k56 (fun q e => (pH5.lt q e).2)).keep kB (fun q e => ?_)
    rcases e with e | e
    · rw [e]; exact hd
    · have := hnew q e; omega
  · rcases e with e | e
    · exact h.d2 q (.inl e)
    · have h1 := hnew2 q e
      exact ⟨fun e3 => by have := h.fs.lt q e3; omega, fun e3 => by have := h.dev.lt q e3; omega⟩
  · rcases e with e | e
    · refine ⟨(h.d3 q (.inl e)).1, (h.d3 q (.inl e)).2.1, fun e2 => ?_⟩
      rcases e2 with e2 | e2
      · exact hd (e.symm.trans e2)
      · have := hnew2 q e2; omega
    · have h1 := hnew q e
      refine ⟨fun e3 => by have := h.fs.lt q e3; omega, fun e3 => by have := h.dev.lt q e3; omega, fun e2 => ?_⟩
      rcases e2 with e2 | e2
      · omega
      · have := hnew2 q e2; omega
end Go.Proofs.Ytndekdgpibipnaa

namespace Go.Proofs.Ytndekdgpibipnaa
open Go.RowKit

namespace Pl
variable {N T : Nat} {x : Fs} {s : Dv}
theorem tryE_safe (x : Fs) (s : Dv) (y : AcF) : (x.tryE s y).1.safe = x.safe ∧ (x.tryE s y).1.epoch = x.epoch := by
  unfold Fs.tryE Fs.createE Fs.appendE Fs.renameE Fs.deleteE Fs.create Fs.append Fs.rename Fs.delete
  repeat' split
  all_goals exact ⟨rfl, rfl⟩
theorem HK.tryE (h : HK N T x.hand) (y : AcF) : HK N (T + y.data.size) (x.tryE s y).1.hand := by
  have h0 := h.mono (Nat.le_add_right T y.data.size)
  unfold Fs.tryE Fs.createE Fs.appendE Fs.renameE Fs.deleteE
  split
  · split
    · exact h0
    · exact h0.create _
  · split
    · split
      · exact h0
      · exact h.append _ _
    · split
      · split
        · exact h0
        · exact h0.rename _ _
      · split
        · split
          · exact h0
          · exact h0.delete _
        · exact h0
theorem Kp.tryE (h : Kp N T x s) (y : AcF) : Kp N (T + y.data.size) (x.tryE s y).1 s := ⟨h.len, h.hand.tryE y, by rw [(tryE_safe x s y).1]; exact h.safe, h.wait⟩
theorem Kp.commitOk {N T k : Nat} {x : Pl.Fs} {s : Pl.Dv} (h : Pl.HK N T x.hand) (hlen : s.safe.length = N) (hT : T ≤ 4611686018427387904) (hN : N ≤ 16384) (ho : Pl.Ok N k s) : Pl.Ok N (k + (N + 18)) (x.commitE s).1.2 := by
  unfold Pl.Fs.commitE
  split
  · exact ho.mono (by omega)
  · split
    · exact ho.mono (by omega)
    · cases hp : x.planE s with
      | none => exact ho.mono (by omega)
      | some lr =>
        obtain ⟨l, r⟩ := lr
        have po := planE_ok hlen (h.ok hT) hp
        have h1 := (Pl.wrRoot_ok ho l r).mono (show k + (l.length + 18) ≤ k + (N + 18) by have := po.few; omega)
        simp only
        split
        · exact h1
        · exact h1
variable {nsS dsS nsH dsH ns' ds' : List ByteArray} {y : AcF} {T' : Nat} {cut : Bool}
theorem Al.mono (h : Al N T x s nsS dsS nsH dsH) (hT : T ≤ T') : Al N T' x s nsS dsS nsH dsH := ⟨h.kp.mono hT, h.good, h.repS, h.repH, h.hn, h.hb, h.chg⟩
theorem read_arm (s : Dv) (n : Int) (i : Nat) : (s.arm n).read i = s.read i := rfl
theorem Al.arm (h : Al N T x s nsS dsS nsH dsH) (n : Int) : Al N T x (s.arm n) nsS dsS nsH dsH :=
  ⟨⟨h.kp.len, h.kp.hand, h.kp.safe, h.kp.wait⟩, h.good.congr (fun _ _ => rfl) h.good.other, h.repS.congr (handOf_hb _) (fun _ _ => rfl), h.repH.congr h.hb (fun _ _ => rfl), h.hn, h.hb, fun hc => (h.chg hc).congr (handOf_hb _) (fun _ _ => rfl)⟩
theorem Surv.arm (h : Surv N s nsS dsS nsH dsH cut) (n : Int) : Surv N (s.arm n) nsS dsS nsH dsH cut := h
theorem Al.step (h : Al N T x s nsS dsS nsH dsH) (h0 : (x.tryE s y).2 = 0) (hd : DoesTo y nsH dsH ns' ds') : Al N (T + y.data.size) (x.tryE s y).1 s nsS dsS ns' ds' :=
  ⟨h.kp.tryE y, by rw [(tryE_safe x s y).1]; exact h.good, by rw [(tryE_safe x s y).1]; exact h.repS, h.repH.does h.hn h0 hd, h.hn.tryE, by rw [(tryE_safe x s y).1]; exact HB.tryE h.hb, fun hc => by rw [(tryE_safe x s y).1]; exact Rep.still h.chg h0 hd hc⟩
theorem Al.revert (h : Al N T x s nsS dsS nsH dsH) (hN : N ≤ 16384) : Al N T x.revert s nsS dsS nsS dsS :=
  ⟨⟨h.kp.len, (HK.revert h.kp.safe hN).mono (Nat.zero_le _), h.kp.safe, h.kp.wait⟩, h.good, h.repS, h.repS, handOf_hn _, handOf_hb _, fun _ => h.repS⟩
/-- opened anew -/
theorem Al.opened {r : RootP} (hg : Good N s r) (hlen : s.safe.length = N) (hw : s.wait = []) (hN : N ≤ 16384) (hr : Rep s (handOf r) ns' ds') : Al N 0 (Fs.revert ⟨s.epoch, r, [], false⟩) s ns' ds' ns' ds' :=
  ⟨⟨hlen, HK.revert (hg.mayN hN) hN, hg.mayN hN, hw⟩, hg, hr, hr, handOf_hn _, handOf_hb _, fun _ => hr⟩
theorem dead_tryE (h : x.dead s = true) (y : AcF) : (x.tryE s y).2 ≠ 0 := by
  unfold Fs.tryE Fs.createE Fs.appendE Fs.renameE Fs.deleteE
  rw [if_pos h, if_pos h, if_pos h, if_pos h]
  repeat' split
  all_goals first
  | exact (by decide : (4 : Int) ≠ 0)
  | exact (by decide : (1 : Int) ≠ 0)
theorem dead_down (h : s.down = true) : x.dead s = true := by unfold Fs.dead; rw [h]; rfl
end Pl
/-- what stands ahead of each act -/
structure WhI (w : World) (d mS mH N k f : Nat) (cut : Bool) (x : Pl.Fs) (s : Pl.Dv) (fp fpd : Nat → Prop) (vS vT vH vI : Value) (nsS dsS nsH dsH : List ByteArray) (X : World) : Prop where
  m : WhM w d f mS mH x s fp fpd vS vT vH vI nsS dsS nsH dsH X
  ok : Pl.Ok N (k * 20000 + 20000) s
  ep : s.epoch = x.epoch
  epk : s.epoch ≤ k
  may : Pl.May (N : Int) x.safe
  hk : Pl.HK N (k * 1048576) x.hand
  pbS : Pl.Pb nsS dsS
  pbH : Pl.Pb nsH dsH
  surv : Pl.Surv N s nsS dsS nsH dsH cut
  al : s.down = true ∨ Pl.Al N (k * 1048576) x s nsS dsS nsH dsH
variable {w X X' : World} {d mS mH N k f : Nat} {cut : Bool} {x : Pl.Fs} {s : Pl.Dv} {fp fpd fp' fpd' : Nat → Prop} {vS vT vH vI v1 v2 v3 v4 : Value} {nsS dsS nsH dsH ns' ds' : List ByteArray} {y : AcF}
theorem WhI.still (h : WhI w d mS mH N k f cut x s fp fpd vS vT vH vI nsS dsS nsH dsH X) (hb : Below X.heap.size X X') : WhI w d mS mH N k f cut x s fp fpd vS vT vH vI nsS dsS nsH dsH X' :=
  ⟨h.m.still hb, h.ok, h.ep, h.epk, h.may, h.hk, h.pbS, h.pbH, h.surv, h.al⟩
theorem WhI.alive (h : WhI w d mS mH N k f cut x s fp fpd vS vT vH vI nsS dsS nsH dsH X) (hd : s.down = false) : x.dead s = false ∧ Pl.Al N (k * 1048576) x s nsS dsS nsH dsH := by
  refine ⟨by unfold Pl.Fs.dead; rw [hd, h.ep]; simp, ?_⟩
  rcases h.al with e | e
  · rw [hd] at e; cases e
  · exact e
/-- nothing done -/
theorem WhI.next (h : WhI w d mS mH N k f cut x s fp fpd vS vT vH vI nsS dsS nsH dsH X) : WhI w d mS mH N (k + 1) f cut x s fp fpd vS vT vH vI nsS dsS nsH dsH X :=
  ⟨h.m, h.ok.mono (by omega), h.ep, Nat.le_succ_of_le h.epk, h.may, h.hk.mono (by omega), h.pbS, h.pbH, h.surv, h.al.imp id (fun a => a.mono (by omega))⟩
/-- a step refused -/
theorem WhI.refused (h : WhI w d mS mH N k f cut x s fp fpd vS vT vH vI nsS dsS nsH dsH X) (h0 : (x.tryE s y).2 ≠ 0) (hF : FsAt w.heap.size f d (x.tryE s y).1 fp X') (st : Step fp fp X X') : WhI w d mS mH N (k + 1) f cut x s fp fpd vS vT vH vI nsS dsS nsH dsH X' := by
  rw [Pl.tryE_no h0] at hF
  have hn := h.next
  exact ⟨h.m.turn (st.keep.mono (fun q hq _ => hq.1)) hF (h.m.dev.keep (st.keep.mono (fun q hq _ e => h.m.d1 q e hq))) h.m.d1 (fun q e => .inl e) (fun q e => .inl e), hn.ok, hn.ep, hn.epk, hn.may, hn.hk, hn.pbS, hn.pbH, hn.surv, hn.al⟩
/-- a step done: the file system, then the plain files -/
theorem WhI.tried (h : WhI w d mS mH N k f cut x s fp fpd vS vT vH vI nsS dsS nsH dsH X) (hF : FsAt w.heap.size f d (x.tryE s y).1 fp X') (st : Step fp fp X X') : WhM w d f mS mH (x.tryE s y).1 s fp fpd vS vT vH vI nsS dsS nsH dsH X' :=
  h.m.turn (st.keep.mono (fun q hq _ => hq.1)) hF (h.m.dev.keep (st.keep.mono (fun q hq _ e => h.m.d1 q e hq))) h.m.d1 (fun q e => .inl e) (fun q e => .inl e)
theorem WhI.done (h : WhI w d mS mH N k f cut x s fp fpd vS vT vH vI nsS dsS nsH dsH X) (hN : N ≤ 16384) (h0 : (x.tryE s y).2 = 0) (hd : DoesTo y nsH dsH ns' ds') (hy : y.data.size ≤ 1048576) (hm : WhM w d f mS mH (x.tryE s y).1 s fp fpd vS vT v1 v2 nsS dsS ns' ds' X') : WhI w d mS mH N (k + 1) f cut (x.tryE s y).1 s fp fpd vS vT v1 v2 nsS dsS ns' ds' X' := by
  have hdn : s.down = false := by
    cases e : s.down with
    | false => rfl
    | true => exact absurd h0 (Pl.dead_tryE (Pl.dead_down e) y)
  obtain ⟨e1, e2⟩ := Pl.tryE_safe x s y
  have hA := ((h.alive hdn).2.step h0 hd).mono (T' := (k + 1) * 1048576) (by omega)
  exact ⟨hm, h.ok.mono (by omega), by rw [e2]; exact h.ep, Nat.le_succ_of_le h.epk, by rw [e1]; exact h.may, hA.kp.hand, h.pbS, hA.repH.pb hA.kp.hand, hA.surv cut, .inr hA⟩
/-- what does_any asks -/
theorem WhI.asks (h : WhI w d mS mH N k f cut x s fp fpd vS vT vH vI nsS dsS nsH dsH X) (hk : k ≤ 1048576) (h0 : (x.tryE s y).2 = 0) (hy : y.data.size ≤ 1048576) : (0 ≤ y.kind ∧ y.kind ≤ 3) ∧ (y.kind = 0 ∨ y.name ∈ nsH) ∧ ∀ t ∈ dsH, t.size + y.data.size ≤ 9223372036854775807 := by
  have hdn : s.down = false := by
    cases e : s.down with
    | false => rfl
    | true => exact absurd h0 (Pl.dead_tryE (Pl.dead_down e) y)
  have hA := (h.alive hdn).2
  refine ⟨by rcases Pl.tryE_kind h0 with e | e | e | e <;> omega, Pl.tryE_has hA.repH h0, fun t ht => ?_⟩
  have := hA.repH.small hA.kp.hand t ht
  omega
/-- a commit: how the file system and its disk are turned -/
theorem WhI.com {x' : Pl.Fs} {s' : Pl.Dv} (h : WhI w d mS mH N k f cut x s fp fpd vS vT vH vI nsS dsS nsH dsH X) (hF : FsAt w.heap.size f d x' fp' X') (hD : DevAt w.heap.size d s' fpd' X') (hdj : ∀ q, fp' q → ¬ fpd' q) (hn : ∀ q, fp' q → fp q ∨ X.heap.size ≤ q) (hnd : ∀ q, fpd' q → fpd q ∨ X.heap.size ≤ q) (hk : Keep (fun q => ¬ fp q ∧ ¬ fpd q) X X') :
    WhM w d f mS mH x' s' fp' fpd' vS vT vH vI nsS dsS nsH dsH X' := h.m.turn hk hF hD hdj hn hnd
set_option maxRecDepth 100000 in
/-- .. what it comes to -/
theorem WhI.commit (h : WhI w d mS mH N k f cut x s fp fpd vS vT vH vI nsS dsS nsH dsH X) (hk : k ≤ 1048576) (hN1 : 40 ≤ N) (hN : N ≤ 16384) :
    ((x.commitE s).2 = 0 ∧ ∀ fp' fpd' v1 v2 X', WhM w d f mS mH (x.commitE s).1.1 (x.commitE s).1.2 fp' fpd' v1 v2 vH vI nsH dsH nsH dsH X' → WhI w d mS mH N (k + 1) f cut (x.commitE s).1.1 (x.commitE s).1.2 fp' fpd' v1 v2 vH vI nsH dsH nsH dsH X') ∨
    ((x.commitE s).2 = 5 ∧ ∀ fp' fpd' X', WhM w d f mS mH (x.commitE s).1.1 (x.commitE s).1.2 fp' fpd' vS vT vH vI nsS dsS nsH dsH X' → WhI w d mS mH N (k + 1) f cut (x.commitE s).1.1 (x.commitE s).1.2 fp' fpd' vS vT vH vI nsS dsS nsH dsH X') ∨
    ((x.commitE s).2 = 4 ∧ (x.commitE s).1.1.freeN (x.commitE s).1.2 = 0 ∧ (x.commitE s).1.2.safe.length = N ∧ Pl.May (N : Int) (x.commitE s).1.1.safe ∧ ∀ fp' fpd' X', WhM w d f mS mH (x.commitE s).1.1 (x.commitE s).1.2 fp' fpd' vS vT vH vI nsS dsS nsH dsH X' → WhI w d mS mH N (k + 1) f true (x.commitE s).1.1 (x.commitE s).1.2 fp' fpd' vS vT vH vI nsS dsS nsH dsH X') := by
  have hn := h.next
  have hlen := h.ok.len
  have hT : k * 1048576 ≤ 4611686018427387904 := by omega
  have hco := (Pl.Kp.commitOk h.hk hlen hT hN h.ok).mono (show k * 20000 + 20000 + (N + 18) ≤ (k + 1) * 20000 + 20000 by omega)
  have weak : ∀ {s0 : Pl.Dv}, Pl.Surv N s0 nsS dsS nsH dsH cut → Pl.Surv N s0 nsS dsS nsH dsH true := fun hs keep torn n hnn => by
    obtain ⟨r, h1, h2⟩ := hs keep torn n hnn
    exact ⟨r, h1, h2.imp id (fun h3 => ⟨rfl, h3.2⟩)⟩
  cases hdn : s.down with
  | true =>
    have hdd := Pl.dead_down (x := x) hdn
    have e : x.commitE s = ((x, s), 4) := by unfold Pl.Fs.commitE; rw [if_pos hdd]
    rw [e]
    exact .inr (.inr ⟨rfl, by show x.freeN s = 0; unfold Pl.Fs.freeN; rw [if_pos hdd], hlen, h.may, fun fp' fpd' X' hm => ⟨hm, hn.ok, hn.ep, hn.epk, hn.may, hn.hk, hn.pbS, hn.pbH, weak hn.surv, .inl hdn⟩⟩)
  | false =>
    obtain ⟨hdd, hA⟩ := h.alive hdn
    have hwf := h.m.dev.wf
    rcases hA.commit hwf hdd hT hN1 hN with ⟨e1, a1⟩ | ⟨e1, a1⟩ | ⟨e1, e2, e3, a1⟩
    · refine .inl ⟨e1, fun fp' fpd' v1 v2 X' hm => ?_⟩
      have hK := hA.kp.commit hdd hT hN1 hN
      have a2 := a1.mono (T' := (k + 1) * 1048576) (by omega)
      exact ⟨hm, hco, by rw [hK.2.2.2.1, hK.2.2.2.2.1]; exact h.ep, by rw [hK.2.2.2.1]; exact Nat.le_succ_of_le h.epk, hK.2.1, a2.kp.hand, h.pbH, h.pbH, a2.surv cut, .inr a2⟩
    · refine .inr (.inl ⟨e1, fun fp' fpd' X' hm => ?_⟩)
      rw [a1] at hm ⊢
      exact ⟨hm, hn.ok, hn.ep, hn.epk, hn.may, hn.hk, hn.pbS, hn.pbH, hn.surv, hn.al⟩
    · have hK := hA.kp.commit hdd hT hN1 hN
      refine .inr (.inr ⟨e1, by unfold Pl.Fs.freeN; rw [if_pos (Pl.dead_down e3)], hK.2.2.1, hK.2.1, fun fp' fpd' X' hm => ?_⟩)
      exact ⟨hm, hco, by rw [hK.2.2.2.1, hK.2.2.2.2.1]; exact h.ep, by rw [hK.2.2.2.1]; exact Nat.le_succ_of_le h.epk, hK.2.1, by rw [e2]; exact hn.hk, h.pbS, h.pbH, a1, .inl e3⟩
/-- reverted -/
theorem WhI.rev (h : WhI w d mS mH N k f cut x s fp fpd vS vT vH vI nsS dsS nsH dsH X) (hF : FsAt w.heap.size f d (x.revertE s) fp' X') (st : Step fp fp' X X') : WhM w d f mS mH (x.revertE s) s fp' fpd vS vT vH vI nsS dsS nsH dsH X' := by
  refine h.m.turn (st.keep.mono (fun q hq _ => hq.1)) hF (h.m.dev.keep (st.keep.mono (fun q hq _ e => h.m.d1 q e hq))) (fun q e e2 => ?_) st.new (fun q e => .inl e)
  rcases st.new q e with e3 | e3
  · exact h.m.d1 q e3 e2
  · have := h.m.dev.lt q e2; omega
theorem WhI.revDown (h : WhI w d mS mH N k f cut x s fp fpd vS vT vH vI nsS dsS nsH dsH X) (hdn : s.down = true) (hm : WhM w d f mS mH (x.revertE s) s fp' fpd vS vT vH vI nsS dsS nsH dsH X') : WhI w d mS mH N (k + 1) f cut (x.revertE s) s fp' fpd vS vT vH vI nsS dsS nsH dsH X' := by
  have e : x.revertE s = x := by unfold Pl.Fs.revertE; rw [if_pos (Pl.dead_down hdn)]
  have hn := h.next
  rw [e] at hm ⊢
  exact ⟨hm, hn.ok, hn.ep, hn.epk, hn.may, hn.hk, hn.pbS, hn.pbH, hn.surv, hn.al⟩
theorem WhI.revUp (h : WhI w d mS mH N k f cut x s fp fpd vS vT vH vI nsS dsS nsH dsH X) (hN : N ≤ 16384) (hdn : s.down = false) (hm : WhM w d f mS mH (x.revertE s) s fp' fpd vS vT v1 v2 nsS dsS nsS dsS X') : WhI w d mS mH N (k + 1) f cut (x.revertE s) s fp' fpd vS vT v1 v2 nsS dsS nsS dsS X' := by
  obtain ⟨hdd, hA⟩ := h.alive hdn
  have e : x.revertE s = x.revert := by unfold Pl.Fs.revertE; rw [if_neg (by rw [hdd]; exact Bool.false_ne_true)]
  have hn := h.next
  have hA2 := (hA.revert hN).mono (T' := (k + 1) * 1048576) (by omega)
  rw [e] at hm ⊢
  exact ⟨hm, hn.ok, hn.ep, hn.epk, hn.may, hA2.kp.hand, hn.pbS, hn.pbS, hA2.surv cut, .inr hA2⟩
/-- armed -/
theorem WhI.armed (h : WhI w d mS mH N k f cut x s fp fpd vS vT vH vI nsS dsS nsH dsH X) (n : Int) (hn' : n ≤ 9223372036854775807) (hD : DevAt w.heap.size d (s.arm n) fpd X') (st : Step fpd fpd X X') : WhI w d mS mH N (k + 1) f cut x (s.arm n) fp fpd vS vT vH vI nsS dsS nsH dsH X' := by
  have hn := h.next
  exact ⟨h.m.turn (st.keep.mono (fun q hq _ => hq.2)) (h.m.fs.keep (st.keep.mono (fun q hq _ e => h.m.d1 q hq e))) hD h.m.d1 (fun q e => .inl e) (fun q e => .inl e), ⟨hn.ok.len, by show n.toNat ≤ _; omega, hn.ok.acts, hn.ok.wait⟩, hn.ep, hn.epk, hn.may, hn.hk, hn.pbS, hn.pbH, hn.surv.arm n, hn.al.imp id (fun a => a.arm n)⟩
/-- the power lost: the disk, and what will be found on it -/
theorem WhI.crash (h : WhI w d mS mH N k f cut x s fp fpd vS vT vH vI nsS dsS nsH dsH X) (kl : List Bool) (torn : Int) (n : Nat) (hn : n ≤ 256) (hD : DevAt w.heap.size d (s.crash kl torn n) fpd X') (st : Step fpd fpd X X') :
    WhM w d f mS mH x (s.crash kl torn n) fp fpd vS vT vH vI nsS dsS nsH dsH X' ∧ Pl.Ok N (k * 20000 + 20000) (s.crash kl torn n) ∧ (s.crash kl torn n).epoch ≤ k + 1 ∧
      ∃ r, Pl.Good N (s.crash kl torn n) r ∧ (Pl.Rep (s.crash kl torn n) (Pl.handOf r) nsS dsS ∨ (cut = true ∧ Pl.Rep (s.crash kl torn n) (Pl.handOf r) nsH dsH)) := by
  refine ⟨h.m.turn (st.keep.mono (fun q hq _ => hq.2)) (h.m.fs.keep (st.keep.mono (fun q hq _ e => h.m.d1 q hq e))) hD h.m.d1 (fun q e => .inl e) (fun q e => .inl e), ⟨?_, Nat.zero_le _, h.ok.acts, Nat.zero_le _⟩, ?_, h.surv kl torn n hn⟩
  · show (Pl.crashN _ _ _ _ _ _).length = N
    rw [Pl.crashN_length]
    exact h.ok.len
  · show s.epoch + 1 ≤ k + 1
    have := h.epk
    omega
/-- .. and opened anew -/
theorem WhI.anew {r : Pl.RootP} {s' : Pl.Dv} {f' : Nat} (hN : N ≤ 16384) (hok : Pl.Ok N (k * 20000 + 20000) s') (hep : s'.epoch ≤ k + 1) (hw : s'.wait = []) (hg : Pl.Good N s' r) (hr : Pl.Rep s' (Pl.handOf r) ns' ds') (hm : WhM w d f' mS mH (Pl.Fs.revert ⟨s'.epoch, r, [], false⟩) s' fp' fpd' v1 v2 v3 v4 ns' ds' ns' ds' X') : WhI w d mS mH N (k + 1) f' false (Pl.Fs.revert ⟨s'.epoch, r, [], false⟩) s' fp' fpd' v1 v2 v3 v4 ns' ds' ns' ds' X' := by
  have hA0 := Pl.Al.opened hg hok.len hw hN hr
  have hA := hA0.mono (T' := (k + 1) * 1048576) (Nat.zero_le _)
  exact ⟨hm, hok.mono (by omega), rfl, hep, hg.mayN hN, hA.kp.hand, hr.pb hA0.kp.hand, hr.pb hA0.kp.hand, hA.surv false, .inr hA⟩
/-- the plain files at hand are what is at hand -/
theorem WhI.is (h : WhI w d mS mH N k f cut x s fp fpd vS vT vH vI nsS dsS nsH dsH X) (hd : s.down = false) : IsP x s nsH dsH :=
  (Pl.isP_rep h.hk h.pbH.nodup h.pbH.eqlen).2 (h.alive hd).2.repH
/-- .. all that hidden -/
def WhAt (w : World) (d mS mH N k f : Nat) (cut : Bool) (X : World) : Prop := ∃ x s fp fpd vS vT vH vI nsS dsS nsH dsH, WhI w d mS mH N k f cut x s fp fpd vS vT vH vI nsS dsS nsH dsH X
theorem WhI.at' (h : WhI w d mS mH N k f cut x s fp fpd vS vT vH vI nsS dsS nsH dsH X) : WhAt w d mS mH N k f cut X := ⟨_, _, _, _, _, _, _, _, _, _, _, _, h⟩
theorem bools_own {W : World} {u : Value} {l : List Bool} (h : BoolsAt W u l) (h0 : 0 < l.length) (q : Nat) (e : u.ownBlock = some q) : q < W.heap.size := by
  obtain ⟨ao, cap, rfl, _, _, hh⟩ := h
  obtain ⟨b, off, rfl, hlt, _⟩ := hh h0
  have : b = q := by simpa [Value.ownBlock] using e
  omega
theorem slotS_size {s : Pl.Dv} (h : s.WF) (hlen : 40 ≤ s.safe.length) {k : Nat} (hk : k < 2) : (Pl.slotS s k).size ≤ 1000000000 := by
  have hl : (Pl.bytesL s (Pl.slotB k)).length = (Pl.slotB k).length * 256 := Pl.bytesL_length h _ (fun q hq => by
    unfold Pl.slotB at hq
    obtain ⟨i, hi, rfl⟩ := List.mem_map.1 hq
    have := List.mem_range.1 hi
    omega)
  rw [Pl.slotB_length] at hl
  show (Pl.bytesL s (Pl.slotB k)).toArray.size ≤ _
  rw [List.size_toArray]
  omega
/-- what Open is told by, of any disk -/
theorem dec_any {s : Pl.Dv} (h : s.WF) (hlen : s.safe.length = N) (hN1 : 40 ≤ N) (hN : N ≤ 16384) : (∀ k, k < 2 → ∀ w, Calls Try.prog 33 #[.string (Pl.slotS s k), .int .i64 (N : Int)] w (DecEnds w ((fun k => Pl.decRt (N : Int) (Pl.slotS s k)) k))) ∧
    ∀ k r, (fun k => Pl.decRt (N : Int) (Pl.slotS s k)) k = some r → (∀ y ∈ r.files, y.name.size ≤ maxLen ∧ 0 ≤ y.size) ∧ r.files.length ≤ 1073741824 ∧ r.gen ≤ 4611686018427387904 := by
  refine ⟨fun k hk w => decode_any _ _ w (slotS_size h (by omega) hk) (by omega) (by omega), fun k r hr => ?_⟩
  have hm := (encRt_yes (Pl.decRt_may hr)).1
  refine ⟨fun y hy => ?_, by have := hm.many; omega, hm.g2⟩
  have := hm.blocks (by omega) hy
  unfold maxLen
  omega
end Go.Proofs.Ytndekdgpibipnaa
