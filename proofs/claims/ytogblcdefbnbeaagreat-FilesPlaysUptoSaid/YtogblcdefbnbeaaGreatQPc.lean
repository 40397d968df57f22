
/- What the document's Commit holds on its way. Condition: none. -/
import Derived.Test.YtogblcdefbnbeaaGreatQPl
import Derived.Test.YtogblcdefbnbeaaGreatQWRf7
import Derived.Test.YtogblcdefbnbeaaGreatQGl
import Derived.Test.YtogblcdefbnbeaaGreatQPa
set_option maxRecDepth 100000
namespace Go.Proofs.YtogblcdefbnbeaaGreat
section
open Go.RowKit
variable {D0 D1 b5 b9 gen : Nat} {rp fz fz2 : Nat → Prop} {v6 v60 v5 vb : Value} {fl : List (Pl.FileP × Value)} {W1 X X' Z w1 w7 : World} {st : Pl.PlSt} {lw : List (Nat × ByteArray)} {bl : List Int} {nm : ByteArray} {sz : Int}
theorem Pl.pK_len {fr : List Int} : ∀ (l : List Pl.RF1) (st : Pl.PlSt), Pl.pK fr l = some st → st.fs.length = l.length ∧ st.l.length + st.fr.length = fr.length := by
 refine Pl.snoc_ind (P := fun l => ∀ st : Pl.PlSt, Pl.pK fr l = some st → st.fs.length = l.length ∧ st.l.length + st.fr.length = fr.length) ?_ ?_
 ·rintro st h
  obtain rfl := Option.some.inj h
  exact ⟨rfl, by simp⟩
 ·intro l p ih st h
  rw [Pl.pK_snoc] at h
  cases hp : Pl.pK fr l with
  | none => rw [hp] at h; cases h
  | some st0 =>
   rw [hp] at h
   obtain ⟨i1, i2⟩ := ih st0 hp
   unfold Pl.pStep at h
   simp only [Option.bind_some] at h
   split at h
   ·obtain rfl := Option.some.inj h
    exact ⟨by simp [i1], i2⟩
   ·split at h
    ·cases h
    ·obtain rfl := Option.some.inj h
     refine ⟨by simp [i1], ?_⟩
     simp only [List.length_append, List.length_drop]
     rw [Pl.zipB_length (by omega)]
     omega
theorem Pl.pK_fr {fr : List Int} : ∀ (l : List Pl.RF1) (st : Pl.PlSt), Pl.pK fr l = some st → ∀ b ∈ st.fr, b ∈ fr := by
 refine Pl.snoc_ind (P := fun l => ∀ st : Pl.PlSt, Pl.pK fr l = some st → ∀ b ∈ st.fr, b ∈ fr) ?_ ?_
 ·rintro st h b hb
  obtain rfl := Option.some.inj h
  exact hb
 ·intro l p ih st h
  rw [Pl.pK_snoc] at h
  cases hp : Pl.pK fr l with
  | none => rw [hp] at h; cases h
  | some st0 =>
   rw [hp] at h
   have i1 := ih st0 hp
   unfold Pl.pStep at h
   simp only [Option.bind_some] at h
   split at h
   ·obtain rfl := Option.some.inj h
    exact i1
   ·split at h
    ·cases h
    ·obtain rfl := Option.some.inj h
     exact fun b hb => i1 b (List.mem_of_mem_drop hb)
structure CmW (D0 b5 gen : Nat) (rp : Nat → Prop) (W1 : World) (st : Pl.PlSt) (fz : Nat → Prop) (v6 v5 : Value) (fl : List (Pl.FileP × Value)) (X : World) : Prop where
 lrow : X.ownsRow D0 61 2 v6 st.l.length (wcells st.l)
 root : Blk X b5 #[.int .u64 (gen : Int), v5] 71
 frow : X.ownsRow D0 76 3 v5 fl.length (fcells4 fl)
 files : fl.map (·.1) = st.fs
 ints : ∀ y ∈ fl, IntsF fz X y.2 y.1.blocks
 keep : Keep (fun q => q < D0) W1 X
 fzs : ∀ q, fz q → q < X.heap.size ∧ (rp q ∨ D0 ≤ q) ∧ q ≠ b5 ∧ v6.ownBlock ≠ some q ∧ v5.ownBlock ≠ some q
 sub : ∀ q, rp q → fz q
theorem CmW.keepAll (h : CmW D0 b5 gen rp W1 st fz v6 v5 fl X) (hk : Keep (fun q => q < X.heap.size) X X') : CmW D0 b5 gen rp W1 st fz v6 v5 fl X' :=
 ⟨hk.ownsRow h.lrow (fun q e => (h.lrow.lt q e).2), h.root.keep hk h.root.lt, hk.ownsRow h.frow (fun q e => (h.frow.lt q e).2), h.files, fun y hy => (h.ints y hy).keep (hk.mono (fun q _ hl => hl)) (fun _ h => h), h.keep.trans hk (fun q hq hl => Nat.lt_of_lt_of_le hl h.keep.size), fun q hq => ⟨Nat.lt_of_lt_of_le (h.fzs q hq).1 hk.size, (h.fzs q hq).2⟩, h.sub⟩
theorem CmW.keepAll2 {b : Nat} (h : CmW D0 b5 gen rp W1 st fz v6 v5 fl X) (hk : Keep (fun q => q ≠ b) X X') (hb : D0 ≤ b ∧ b ≠ b5) (h1 : ∀ q, fz q → q ≠ b) (h2 : ∀ q, v5.ownBlock = some q → q ≠ b) (h3 : ∀ q, v6.ownBlock = some q → q ≠ b) : CmW D0 b5 gen rp W1 st fz v6 v5 fl X' :=
 ⟨hk.ownsRow h.lrow (fun q e => h3 q e), h.root.keep hk (fun e => hb.2 e.symm), hk.ownsRow h.frow (fun q e => h2 q e), h.files, fun y hy => (h.ints y hy).keep (hk.mono (fun q hq _ => h1 q hq)) (fun _ h => h), h.keep.trans hk (fun q hq hl => by omega), fun q hq => ⟨Nat.lt_of_lt_of_le (h.fzs q hq).1 hk.size, (h.fzs q hq).2⟩, h.sub⟩
theorem CmW.app (h : CmW D0 b5 gen rp W1 st fz v6 v5 fl X) (h5 : D0 ≤ b5) (hs : ∀ q, fz q → fz2 q) (hf2 : ∀ q, fz2 q → q < X.heap.size ∧ (rp q ∨ D0 ≤ q) ∧ q ≠ b5 ∧ v6.ownBlock ≠ some q ∧ v5.ownBlock ≠ some q) (y : Pl.FileP) (vb : Value) (hy : IntsF fz2 X vb y.blocks) {tmp : Obj} {g cap : Nat}
  (hown : w1.ownsRow D0 76 3 (.slice (some ⟨g, 0, none⟩) (fl.length + 1) cap) (fl.length + 1) (fcells4 fl ++ (#[.string y.name, .int .i64 y.size, vb] : Array Value).toList)) (hgrow : (X.alloc tmp).grownBy w1 v5.ownBlock) (hat : v5.ownBlock = some g ∨ X.heap.size ≤ g) (fr : List Int) :
  Blk w1 b5 #[.int .u64 (gen : Int), v5] 71 ∧ CmW D0 b5 gen rp W1 ⟨fr, st.l, st.fs ++ [y]⟩ fz2 v6 (.slice (some ⟨g, 0, none⟩) (fl.length + 1) cap) (fl ++ [(y, vb)]) (w1.setCell ⟨b5, 1, none⟩ (.slice (some ⟨g, 0, none⟩) (fl.length + 1) cap)) := by
 have n5 := h.root.not_row (by decide) h.frow
 have kg : Keep (fun q => v5.ownBlock ≠ some q) X w1 := keep_app hgrow
 have v1 : Blk w1 b5 #[.int .u64 (gen : Int), v5] 71 := h.root.keep kg (fun e => n5 e.symm)
 refine ⟨v1, ?_⟩
 have hg5 : g ≠ b5 := fun e => v1.not_row (by decide) hown (by rw [e]; rfl)
 have k5 := keep_set w1 b5 1 (.slice (some ⟨g, 0, none⟩) (fl.length + 1) cap)
 have kX : Keep (fun z => z ≠ b5 ∧ v5.ownBlock ≠ some z) X (w1.setCell ⟨b5, 1, none⟩ (.slice (some ⟨g, 0, none⟩) (fl.length + 1) cap)) :=
  (kg.mono (fun z hz _ => hz.2)).trans k5 (fun z hz _ => hz.1)
 have kf := kX.mono (fp' := fz2) (fun q hq _ => ⟨(hf2 q hq).2.2.1, (hf2 q hq).2.2.2.2⟩)
 have hy2 := hy.keep kf (fun _ h => h)
 refine ⟨kX.ownsRow h.lrow (fun q e => ⟨fun e2 => h.root.not_row (by decide) h.lrow (by rw [← e2, e]), fun e2 => rows_apart h.frow h.lrow (by decide) e2 e⟩), ?_, ?_, by rw [List.map_append, h.files]; rfl, ?_, ?_, ?_, fun q hq => hs q (h.sub q hq)⟩
 ·have := v1.set 1 (.slice (some ⟨g, 0, none⟩) (fl.length + 1) cap)
  simpa using this
 ·have := k5.ownsRow hown (fun q e => (show g = q by simpa [Value.ownBlock] using e) ▸ hg5)
  rw [List.length_append, List.length_singleton, fcells4_append]
  exact this
 ·intro z hz
  rcases List.mem_append.1 hz with hz | hz
  ·exact (h.ints z hz).keep (kf.mono (fun q hq _ => hs q hq)) hs
  ·obtain rfl := List.mem_singleton.1 hz
   exact hy2
 ·exact h.keep.trans kX (fun q hq _ => ⟨by omega, fun e => by have := (h.frow.lt q e).1; omega⟩)
 ·intro q hq
  obtain ⟨a1, a2, a3, a4, a5⟩ := hf2 q hq
  refine ⟨Nat.lt_of_lt_of_le a1 kX.size, a2, a3, a4, fun e => ?_⟩
  have e2 : g = q := by simpa [Value.ownBlock] using e
  rcases hat with h1 | h1
  ·exact a5 (e2 ▸ h1)
  ·omega
structure CmI (D0 D1 b9 : Nat) (v60 : Value) (nm : ByteArray) (sz : Int) (X1 : World) (lw : List (Nat × ByteArray)) (bl : List Int) (v6 vb : Value) (X : World) : Prop where
 lrow : X.ownsRow D0 61 2 v6 lw.length (wcells lw)
 lat : ∀ q, v6.ownBlock = some q → v60.ownBlock = some q ∨ D1 ≤ q
 blk : Blk X b9 #[.string nm, .int .i64 sz, vb] 76
 bl : IOwn X D1 vb bl
 keep : Keep (fun q => q < D1 ∧ q ≠ b9 ∧ v60.ownBlock ≠ some q) X1 X
theorem CmI.still {X1 : World} (h : CmI D0 D1 b9 v60 nm sz X1 lw bl v6 vb X) (hb : Below X.heap.size X X') : CmI D0 D1 b9 v60 nm sz X1 lw bl v6 vb X' := by
 have hk : Keep (fun q => q < X.heap.size) X X' := Keep.of_below hb (fun _ h _ => h)
 exact ⟨hk.ownsRow h.lrow (fun q e => (h.lrow.lt q e).2), h.lat, h.blk.keep hk h.blk.lt, hk.ownsRow h.bl (fun q e => (World.ownsRow.lt h.bl q e).2), h.keep.trans hk (fun q hq hl => Nat.lt_of_lt_of_le hl h.keep.size)⟩
theorem CmI.write {X1 : World} (h : CmI D0 D1 b9 v60 nm sz X1 lw bl v6 vb X) (h9 : b9 < D1) (hD : D1 ≤ X.heap.size) {n : Nat} {p : ByteArray} {i : Int} (hi : (n : Int) = i) {tmp : Obj} {g cap : Nat}
  (hown : w7.ownsRow D0 61 2 (.slice (some ⟨g, 0, none⟩) (lw.length + 1) cap) (lw.length + 1) (wcells lw ++ (#[.int .i64 i, .string p] : Array Value).toList)) (hgrow : (X.alloc tmp).grownBy w7 v6.ownBlock) (hat : v6.ownBlock = some g ∨ X.heap.size ≤ g) :
  CmI D0 D1 b9 v60 nm sz X1 (lw ++ [(n, p)]) bl (.slice (some ⟨g, 0, none⟩) (lw.length + 1) cap) vb w7 := by
 have kg : Keep (fun q => v6.ownBlock ≠ some q) X w7 := keep_app hgrow
 refine ⟨?_, fun q e => ?_, h.blk.keep kg (fun e => h.blk.not_row (by decide) h.lrow e.symm), kg.ownsRow h.bl (fun q e e2 => rows_apart h.bl h.lrow (by decide) e e2), h.keep.trans kg (fun q hq hl e => ?_)⟩
 ·rw [wcells_append, List.length_append, List.length_singleton]
  subst hi
  exact hown
 ·have e2 : g = q := by simpa [Value.ownBlock] using e
  subst e2
  rcases hat with h1 | h1
  ·exact h.lat _ h1
  ·right; omega
 ·rcases h.lat q e with h1 | h1
  ·exact hq.2.2 h1
  ·omega
theorem CmI.block {X1 : World} (h : CmI D0 D1 b9 v60 nm sz X1 lw bl v6 vb X) (h9 : b9 < D1) {b : Int} {tmp : Obj} {g cap : Nat}
  (hown : w7.ownsRow D1 3 1 (.slice (some ⟨g, 0, none⟩) (bl.length + 1) cap) (bl.length + 1) (icells4 bl ++ (#[.int .i64 b] : Array Value).toList)) (hgrow : (X.alloc tmp).grownBy w7 vb.ownBlock) :
  Blk w7 b9 #[.string nm, .int .i64 sz, vb] 76 ∧ CmI D0 D1 b9 v60 nm sz X1 lw (bl ++ [b]) v6 (.slice (some ⟨g, 0, none⟩) (bl.length + 1) cap) (w7.setCell ⟨b9, 2, none⟩ (.slice (some ⟨g, 0, none⟩) (bl.length + 1) cap)) := by
 have kg : Keep (fun q => vb.ownBlock ≠ some q) X w7 := keep_app hgrow
 have b1 : Blk w7 b9 #[.string nm, .int .i64 sz, vb] 76 := h.blk.keep kg (fun e => h.blk.not_row (by decide) h.bl e.symm)
 have k9 := keep_set w7 b9 2 (.slice (some ⟨g, 0, none⟩) (bl.length + 1) cap)
 have kX : Keep (fun q => q ≠ b9 ∧ vb.ownBlock ≠ some q) X (w7.setCell ⟨b9, 2, none⟩ (.slice (some ⟨g, 0, none⟩) (bl.length + 1) cap)) := (kg.mono (fun q hq _ => hq.2)).trans k9 (fun q hq _ => hq.1)
 refine ⟨b1, kX.ownsRow h.lrow (fun q e => ⟨fun e2 => h.blk.not_row (by decide) h.lrow (by rw [← e2, e]), fun e2 => rows_apart h.lrow h.bl (by decide) e e2⟩), h.lat, ?_, ?_, h.keep.trans kX (fun q hq _ => ⟨hq.2.1, fun e => by have := (World.ownsRow.lt h.bl q e).1; omega⟩)⟩
 ·have := b1.set 2 (.slice (some ⟨g, 0, none⟩) (bl.length + 1) cap)
  simpa using this
 ·have hg : g ≠ b9 := fun e => b1.not_row (by decide) hown (by rw [e]; rfl)
  have := k9.ownsRow hown (fun q e => (show g = q by simpa [Value.ownBlock] using e) ▸ hg)
  unfold IOwn
  rw [icells4_snoc] at this
  rw [List.length_append, List.length_singleton]
  exact this
theorem CmW.ofI (h : CmW D0 b5 gen rp W1 st fz v60 v5 fl X) (hI : CmI D0 D1 b9 v60 nm sz X lw bl v6 vb Z) (hX : X.heap.size = D1) (h5 : D0 ≤ b5) (h95 : b9 ≠ b5) (h9 : D0 ≤ b9) (hv9 : v5.ownBlock ≠ some b9) (hf9 : ¬ fz b9) (hrp : ∀ q, rp q → q < D0) (fr : List Int) :
  CmW D0 b5 gen rp W1 ⟨fr, lw, st.fs⟩ fz v6 v5 fl Z ∧ (∀ q, fz q ∨ vb.ownBlock = some q → q < Z.heap.size ∧ (rp q ∨ D0 ≤ q) ∧ q ≠ b5 ∧ v6.ownBlock ≠ some q ∧ v5.ownBlock ≠ some q) ∧ IntsF (fun q => fz q ∨ vb.ownBlock = some q) Z vb bl := by
 have hzz := hI.keep.size
 have n5 := h.root.not_row (by decide) h.frow
 have hfrow : Z.ownsRow D0 76 3 v5 fl.length (fcells4 fl) := hI.keep.ownsRow h.frow (fun q e => by
  have h1 := (h.frow.lt q e).2
  exact ⟨by omega, fun e2 => hv9 (by rw [← e2, e]), fun e2 => rows_apart h.frow h.lrow (by decide) e e2⟩)
 have hroot : Blk Z b5 #[.int .u64 (gen : Int), v5] 71 := h.root.keep hI.keep ⟨by have := h.root.lt; omega, fun e => h95 e.symm, fun e => h.root.not_row (by decide) h.lrow e.symm⟩
 have hf0 : ∀ q, fz q → q < D1 ∧ q ≠ b9 ∧ v60.ownBlock ≠ some q := fun q hq => by
  obtain ⟨a1, a2, a3, a4, a5⟩ := h.fzs q hq
  exact ⟨by omega, fun e => hf9 (e ▸ hq), a4⟩
 have hfz : ∀ q, fz q → q < Z.heap.size ∧ (rp q ∨ D0 ≤ q) ∧ q ≠ b5 ∧ v6.ownBlock ≠ some q ∧ v5.ownBlock ≠ some q := fun q hq => by
  obtain ⟨a1, a2, a3, a4, a5⟩ := h.fzs q hq
  refine ⟨by omega, a2, a3, fun e => ?_, a5⟩
  rcases hI.lat q e with h1 | h1
  ·exact a4 h1
  ·omega
 refine ⟨⟨hI.lrow, hroot, hfrow, h.files, fun y hy => (h.ints y hy).keep (hI.keep.mono (fun q hq _ => hf0 q hq)) (fun _ h => h), h.keep.trans hI.keep (fun q hq hl => ⟨by have := h.keep.size; omega, by omega, fun e => by have := (h.lrow.lt q e).1; omega⟩), hfz, h.sub⟩, ?_, ⟨IOwn.at hI.bl, fun _ q e => .inr e⟩⟩
 rintro q (hq | hq)
 ·exact hfz q hq
 ·have h1 := World.ownsRow.lt hI.bl q hq
  have h2 := h.root.lt
  have h3 := h.keep.size
  have h4 := hI.blk.lt
  exact ⟨h1.2, .inr (by omega), by omega, fun e => rows_apart hI.bl hI.lrow (by decide) hq e, fun e => by have := (h.frow.lt q e).2; omega⟩
theorem Pl.wrRoot_fine {n k : Nat} {s : Pl.Dv} (h : Pl.Fine n k s) (l : List (Nat × ByteArray)) (r : Pl.RootP) : Pl.Fine n (k + l.length + 18) (Pl.wrRoot s l r).1 := by
 unfold Pl.wrRoot
 split
 ·exact h.mono (by omega)
 ·rename_i hE
  have hE2 : (Pl.encRt (min (s.safe.length : Int) 16384) r).2 = 0 := by simpa using hE
  have h1 := Pl.wrAll_fine h (Pl.toWrite s l r)
  have hl : (Pl.toWrite s l r).length ≤ l.length + 15 := by
   unfold Pl.toWrite Pl.encB
   rw [List.length_append, Pl.placesK_length]
   obtain ⟨_, h2, _, h3⟩ := encRt_yes hE2
   have : (Pl.piecesOf ⟨(Pl.encRt (min (s.safe.length : Int) 16384) r).1.toArray⟩).length ≤ 15 := by
    rw [Pl.piecesOf_length, h2]
    show Pl.pieceN (Pl.frame 1 (Pl.rootBytes r)).toArray.size ≤ 15
    rw [List.size_toArray]
    unfold Pl.pieceN
    omega
   omega
  have h2 : Pl.Fine n (k + l.length + 15) (Pl.wrAll s (Pl.toWrite s l r)).1 := h1.mono (by omega)
  unfold Pl.wrEnd
  split
  ·exact h2.mono (by omega)
  ·split
   ·exact h2.syE.mono (by omega)
   ·split
    ·exact (h2.syE.wrE _ _).mono (by omega)
    ·exact ((h2.syE.wrE _ _).syE).mono (by omega)
end
section
open Go.RowKit
variable {B Br q r N k : Nat} {vf vh : Value} {rp rp2 fp fpr : Nat → Prop} {hh : List (Pl.RF1 × Value)} {x : Pl.Rf} {s : Pl.Dv} {W W' : World}
structure Pl.HandD (l : List Pl.RF1) : Prop where
 many : l.length ≤ 64
 all : ∀ z ∈ l, z.old ≤ z.data.size ∧ z.data.size ≤ 4611686018427400000 ∧ z.old / 256 ≤ z.blocks.length ∧ z.old ≤ 4194304
def ComR (B Br q r : Nat) (fp fpr : Nat → Prop) (a : (Pl.Rf × Pl.Dv) × Int) (W : World) (e : Ending) (w' : World) : Prop :=
 e = .returned (.int .i64 a.2) ∧ ∃ fp' fpr', RfAt B q r a.1.1 fp' w' ∧ RefAt Br r a.1.2 fpr' w' ∧ (∀ z, fp' z → ¬ fpr' z) ∧ Step (fun z => fp z ∨ fpr z) (fun z => fp' z ∨ fpr' z) W w'
theorem ComR.same {a : (Pl.Rf × Pl.Dv) × Int} {n : Int} (ha : a = ((x, s), n)) (h : RfAt B q r x fp W) (hr : RefAt Br r s fpr W) (hdj : ∀ z, fp z → ¬ fpr z) (hk : Keep (fun z => z < W.heap.size) W W') : ComR B Br q r fp fpr a W (.returned (.int .i64 n)) W' := by
 subst ha
 refine ⟨rfl, fp, fpr, h.keep (hk.mono (fun z hz _ => h.lt z hz)), hr.keep (hk.mono (fun z hz _ => hr.lt z hz)), hdj, hk.mono (fun z _ hl => hl), fun z hz => .inl hz, fun z hz => ?_⟩
 have := hk.size
 rcases hz with hz | hz
 ·have := h.lt z hz; omega
 ·have := hr.lt z hz; omega
theorem PutEnds.done {W1 W2 : World} (hP : PutEnds B Br q r vh rp2 fpr hh s x W1 W2) (hk : Keep (fun z => z < W.heap.size) W W1) (hfn : ∀ z, rp2 z → z < W1.heap.size ∧ (rp z ∨ W.heap.size ≤ z)) (hq : q < W.heap.size) (hvh : ∀ z, vh.ownBlock = some z → z < W.heap.size) (hdj2 : ∀ z, rfFp q vh rp2 z → ¬ fpr z) :
  ∃ fpr', RfAt B q r x (rfFp q vh rp2) W2 ∧ RefAt Br r s fpr' W2 ∧ (∀ z, rfFp q vh rp2 z → ¬ fpr' z) ∧ Step (fun z => rfFp q vh rp z ∨ fpr z) (fun z => rfFp q vh rp2 z ∨ fpr' z) W W2 := by
 obtain ⟨fpr', vf', ho', hr', hs', hn'⟩ := hP
 have hks := hk.size
 refine ⟨fpr', ⟨vf', vh, rp2, hh, ho', rfl⟩, hr', fun z hz hf => ?_, ⟨(hk.mono (fun z _ hl => hl)).trans hs'.keep (fun z hz _ h => hz (h.elim (fun e => .inl (.inl e)) .inr)), ?_, ?_⟩⟩
 ·rcases hn' z hf with h | h
  ·exact hdj2 z hz h
  ·rcases hz with rfl | hz | hz
   ·omega
   ·have := hvh z hz; omega
   ·have := (hfn z hz).1; omega
 ·rintro z ((hz | hz | hz) | hz)
  ·exact .inl (.inl (.inl hz))
  ·exact .inl (.inl (.inr (.inl hz)))
  ·exact (hfn z hz).2.elim (fun h => .inl (.inl (.inr (.inr h)))) .inr
  ·exact (hn' z hz).elim (fun h => .inl (.inr h)) (fun h => .inr (by omega))
 ·rintro z (hz | hz)
  ·exact ho'.fpLt z hz
  ·exact hr'.lt z hz
theorem ComR.over {f1 f2 fpr1 : Nat → Prop} {x2 : Pl.Rf} {W1 W2 : World} (hr : RefAt Br r s fpr1 W1) (hdj : ∀ z, f1 z → ¬ fpr1 z) (hst : Step (fun z => fp z ∨ fpr z) (fun z => f1 z ∨ fpr1 z) W W1) (hx2 : RfAt B q r x2 f2 W2) (hst2 : Step f1 f2 W1 W2) :
  ∃ fp' fpr', RfAt B q r x2 fp' W2 ∧ RefAt Br r s fpr' W2 ∧ (∀ z, fp' z → ¬ fpr' z) ∧ Step (fun z => fp z ∨ fpr z) (fun z => fp' z ∨ fpr' z) W W2 := by
 refine ⟨f2, fpr1, hx2, hr.keep (hst2.keep.mono (fun z hz _ h => hdj z h hz)), fun z hz hf => ?_, hst.trans ⟨hst2.keep.mono (fun z hz _ h => hz (.inl h)), ?_, ?_⟩⟩
 ·rcases hst2.new z hz with h | h
  ·exact hdj z h hf
  ·have := hr.lt z hf; omega
 ·rintro z (hz | hz)
  ·exact (hst2.new z hz).elim (fun h => .inl (.inl h)) .inr
  ·exact .inl (.inr hz)
 ·rintro z (hz | hz)
  ·exact hst2.lt z hz
  ·exact Nat.lt_of_lt_of_le (hr.lt z hz) hst2.keep.size
def strLen : Value → Nat
 | .string s => s.size
 | _ => 0
theorem Pl.pieces_take (E : ByteArray) {j : Nat} (hj : j < Pl.pieceN E.size) : (Pl.piecesOf E).take (j + 1) = (Pl.piecesOf E).take j ++ [Pl.pieceAt E j] := by
 rw [List.take_succ_eq_append_getElem (by rw [Pl.piecesOf_length]; exact hj)]
 congr 2
 unfold Pl.piecesOf
 simp
set_option maxHeartbeats 8000000 in
theorem rcommit_any (h : RfAt B q r x fp W) (hr : RefAt Br r s fpr W) (hO : Pl.Fine N k s) (hk : k ≤ 1099511627776) (hN1 : 40 ≤ N) (hN2 : N ≤ 16384) (hdj : ∀ z, fp z → ¬ fpr z) (hB : B ≤ W.heap.size) (hBr : Br ≤ W.heap.size) (hm : Pl.May (N : Int) x.safe) (hhd : Pl.HandD x.hand)
  (hplan : ∀ st, Pl.pK (Pl.freeU x.safe N) x.hand = some st → (⟨x.safe.gen + 1, st.fs⟩ : Pl.RootP).fine ∧ st.l.length ≤ 16384 ∧ ∀ p ∈ st.l, p.1 < N ∧ p.2.size = 256) :
  Calls Tryz.prog 41 #[.pointer (some ⟨q, 0, none⟩)] W fun e w' => ComR B Br q r fp fpr (x.commitR s) W e w' := by
 obtain ⟨E0, hE0⟩ : ∃ E0, E0 = x.commitR s := ⟨_, rfl⟩
 rw [← hE0]
 have h0 := h
 obtain ⟨vf, vh, rp, hh, ho, rfl⟩ := h
 cases hdd : x.dead s with
 | true =>
  have PD := Lib.hid (rdead_is hdd h0 hr)
  have hfin := Lib.hid (fun m => ComR.same (W' := W.drewN m) (a := E0) (n := 4) (by rw [hE0]; unfold Pl.Rf.commitR; rw [if_pos hdd]) h0 hr hdj ((Keep.refl _ W).drewN m))
  clear hE0 hplan
  go_enter Tryz.func41, Tryz.ntmps41
  go_wp2_with (go_at_call 64; refine PD.out.mono ?_; rintro e w1 ⟨rfl, m, rfl⟩)
  go_ret
  exact hfin.out m
 | false =>
  have hup : s.down = false := by
   unfold Pl.Rf.dead at hdd
   cases hs : s.down with
   | false => rfl
   | true => rw [hs] at hdd; cases hdd
  have PD := Lib.hid (rdead_is hdd h0 hr)
  have hsame := Lib.hid (fun (n : Int) (W' : World) (ha : E0 = ((x, s), n)) (hkp : Keep (fun z => z < W.heap.size) W W') => ComR.same ha h0 hr hdj hkp)
  obtain ⟨c0, c1, c2, c3, c4, c5⟩ := ho.cells
  cases hch : x.changed with
  | false =>
   rw [hch] at c5
   have hE1 := Lib.hid (show E0 = ((x, s), 0) by rw [hE0]; unfold Pl.Rf.commitR; rw [if_neg (by rw [hdd]; exact Bool.false_ne_true), if_pos hch])
   clear hE0 hplan
   go_enter Tryz.func41, Tryz.ntmps41
   go_wp2_with (go_at_call 64; refine PD.out.mono ?_; rintro e w1 ⟨rfl, m, rfl⟩)
   go_ret
   exact hsame.out 0 _ hE1.out ((Keep.refl _ W).drewN m)
  | true =>
   rw [hch] at c5
   obtain ⟨FR, hFR⟩ : ∃ FR, FR = Pl.freeU x.safe N := ⟨_, rfl⟩
   have hE1 : Hid (E0 = match Pl.pK FR x.hand with
    | none => ((x, s), 5)
    | some st => if (Pl.encRt (min (s.safe.length : Int) 16384) ⟨x.safe.gen + 1, st.fs⟩).2 ≠ 0 then ((x, s), 5) else
     if (Pl.wrRoot s st.l ⟨x.safe.gen + 1, st.fs⟩).2 ≠ 0 then ((x, (Pl.wrRoot s st.l ⟨x.safe.gen + 1, st.fs⟩).1), (Pl.wrRoot s st.l ⟨x.safe.gen + 1, st.fs⟩).2) else
      ((Pl.Rf.revertR { x with safe := ⟨x.safe.gen + 1, st.fs⟩ } (Pl.wrRoot s st.l ⟨x.safe.gen + 1, st.fs⟩).1, (Pl.wrRoot s st.l ⟨x.safe.gen + 1, st.fs⟩).1), 0)) := Lib.hid (by
    rw [hE0, hFR, ← hO.len]
    unfold Pl.Rf.commitR
    rw [if_neg (by rw [hdd]; exact Bool.false_ne_true), if_neg (by rw [hch]; decide)]
    rfl)
   rw [← hFR] at hplan
   have hfin4 : ∀ a ∈ FR, 32 ≤ a ∧ a < (N : Int) := fun a ha => by rw [hFR] at ha; exact ⟨(Pl.freeU_pos ha).1, (Pl.freeU_pos ha).2.1⟩
   have hFRl : FR.length ≤ N := by rw [hFR]; exact Pl.freeU_length x.safe N
   have hgen := hm.g2
   have hxs : x.safe.files.length ≤ 64 := hm.many
   have PF := Lib.hid (fun (m : Nat) => rfree_any (h0.keep ((Keep.refl _ W).drewN m)) (hr.keep ((Keep.refl _ W).drewN m)) (by rw [hO.len]; exact hN2) (by omega) (fun y hy => by have := (hm.blocks (by omega) hy).1; omega) (fun b hb => by
    rw [hO.len]
    obtain ⟨y, hy, hby⟩ := List.mem_flatMap.1 hb
    have := (hm.blocks (by omega) hy).2.1 b hby
    omega))
   rw [hO.len, ← hFR] at PF
   have hgw : IntKind.u64.wrap ((x.safe.gen : Int) + 1) = ((x.safe.gen + 1 : Nat) : Int) := by rw [IntWalk.u64_in _ (by omega)]; rfl
   have hql := ho.blk.lt
   obtain ⟨ha, hc, rfl, hc1, hc2, hrow⟩ := ho.row
   clear hFR hE0 hch hdd
   go_enter Tryz.func41, Tryz.ntmps41
   go_upto_region 9 with (first
    | (go_at_call 64; refine PD.out.mono ?_; rintro e w1 ⟨rfl, m, rfl⟩)
    | (go_at_call 70; refine (PF.out m).mono ?_; rintro e w2 ⟨v4, rfl, hv4, hb2⟩; have e2 : w2.cell? ⟨q, 2, none⟩ = some (.int .u64 (x.safe.gen : Int)) := (hb2.cell (p := ⟨q, 2, none⟩) hql).trans c2))
   have hbW : Below W.heap.size W w2 := (below_drewN (Below.refl W.heap.size W) m).trans hb2
   obtain ⟨G, hG⟩ : ∃ G, G = x.safe.gen + 1 := ⟨_, rfl⟩
   rw [show (x.safe.gen : Int) + 1 = (G : Int) by omega]
   rw [← hG] at hplan
   rw [← hG] at hE1
   replace hG := Lib.hid hG
   have hroot0 := Blk.new w2 #[.int .u64 (G : Int), .slice none 0 0] 71
   have hb3 : Below w2.heap.size w2 (w2.alloc (.cells #[.int .u64 (G : Int), .slice none 0 0] 71)) := (Below.refl _ _).alloc (Nat.le_refl _) _
   have hv4F : IntsF (fun z => z < w2.heap.size) w2 v4 FR := ⟨IOwn.at hv4, fun _ z e => (World.ownsRow.lt hv4 z e).2⟩
   have hz3 : (w2.alloc (.cells #[.int .u64 (G : Int), .slice none 0 0] 71)).heap.size = w2.heap.size + 1 := by simp
   generalize w2.alloc (.cells #[.int .u64 (G : Int), .slice none 0 0] 71) = w3 at hroot0 hb3 hz3 ⊢
   have hk3 : Keep (fun z => z < w2.heap.size) w2 w3 := Keep.of_below hb3 (fun _ h _ => h)
   have hI4 : IntsF (fun z => z < w2.heap.size) w3 v4 FR := hv4F.keep hk3 (fun _ h => h)
   have hkW3 : Keep (fun z => z < W.heap.size) W w3 := Keep.of_below (hbW.trans (hb3.mono hbW.size)) (fun _ h _ => h)
   have hD0 : W.heap.size ≤ w2.heap.size := hbW.size
   have hC0 : CmW w2.heap.size w2.heap.size G rp w3 ⟨FR, [], []⟩ rp (.slice none 0 0) (.slice none 0 0) [] w3 :=
    ⟨World.ownsRow_nil _ _ _ _, hroot0, World.ownsRow_nil _ _ _ _, rfl, fun y hy => (List.not_mem_nil hy).elim, Keep.refl _ _, fun z hz => by
     have := ho.lt z hz
     exact ⟨by omega, .inl hz, by omega, fun e => by simp [Value.ownBlock] at e, fun e => by simp [Value.ownBlock] at e⟩, fun _ h => h⟩
   generalize w2.heap.size = D0 at hI4 hC0 hD0 hz3 hk3 ⊢
   clear hb2 hb3 hbW hv4 hv4F hroot0 PF PD hk3 e2 hgw c0 c1 c2 c3 c4 c5
   -- what a world under way still has
   have hcells : Hid (∀ Y, Keep (fun z => z < D0) w3 Y → RfO B q r vf (.slice ha hh.length hc) rp hh x Y ∧ RefAt Br r s fpr Y ∧ Keep (fun z => z < W.heap.size) W Y) := Lib.hid (fun Y hkY => by
    have hk2 : Keep (fun z => z < W.heap.size) W Y := hkW3.trans hkY (fun z hz _ => by omega)
    exact ⟨ho.keep (hk2.mono (fun z hz _ => ho.fpLt z hz)), hr.keep (hk2.mono (fun z hz _ => hr.lt z hz)), hk2⟩)
   have hhl : hh.length ≤ 64 := by have := hhd.many; rw [ho.heq, List.length_map] at this; exact this
   have hhE : ∀ i (hi : i < hh.length), hh[i].1.old ≤ hh[i].1.data.size ∧ hh[i].1.data.size ≤ 4611686018427400000 ∧ hh[i].1.old / 256 ≤ hh[i].1.blocks.length ∧ hh[i].1.old ≤ 4194304 := fun i hi => hhd.all _ (by rw [ho.heq]; exact List.mem_map_of_mem (List.getElem_mem hi))
   have hints := ho.ints
   have hrpl := ho.lt
   have hxh : Hid (x.hand = hh.map (·.1)) := Lib.hid ho.heq
   clear hhd hrow
   go_wp2_with fail
   go_loopw [4, 6, 7] (fun f4 y6 i7 X => ∃ (i : Nat) (st : Pl.PlSt) (fz : Nat → Prop) (v5 : Value) (fl : List (Pl.FileP × Value)), i ≤ hh.length ∧ i7 = .int .i64 (i : Int) ∧ Pl.pK FR ((hh.take i).map (·.1)) = some st ∧ IntsF (fun z => z < D0) X f4 st.fr ∧ CmW D0 D0 G rp w3 st fz y6 v5 fl X) (fun _ _ i7 _ => hh.length - (intOf i7).toNat)
   case atStart => exact ⟨0, _, rp, _, [], Nat.zero_le _, rfl, rfl, hI4, hC0⟩
   clear hI4 hC0
   case round =>
    obtain ⟨i, st, fz, v5, fl, hi, rfl, hst, hf4, hC⟩ := hrel
    obtain ⟨hoX, hrX, hkX⟩ := hcells.out wr hC.keep
    obtain ⟨c0, c1, c2, c3, c4, c5⟩ := hoX.cells
    have hi0 : (0 : Int) ≤ (i : Int) := by omega
    by_cases hil : i < hh.length
    ·have hi2 : (i : Int) < (hh.length : Int) := by omega
     obtain ⟨ha2, hc2', e9, _, _, hrow⟩ := hoX.row
     injection e9 with e91 _ e93
     subst e91 e93
     obtain ⟨g, rfl, hgl, r0, r1, r2, r3⟩ := hrow i hil
     have hE := hhE i hil
     have hui := hints hh[i] (List.getElem_mem hil)
     have hsn := Lib.hid (show Pl.pK FR ((hh.take (i + 1)).map (·.1)) = Pl.pStep (some st) hh[i].1 by
      rw [← hst, List.map_take, List.map_take, Pl.pK_succ (by rw [List.length_map]; exact hil), List.getElem_map])
     have hstop := Lib.hid (fun (e : Pl.pK FR ((hh.take (i + 1)).map (·.1)) = none) => (show Pl.pK FR x.hand = none by
      rw [hxh.out]
      rw [List.map_take] at e
      exact Pl.pK_stop e))
     generalize hh[i] = z at *
     obtain ⟨⟨zn, zd, zo, zb⟩, zu⟩ := z
     simp only at r0 r1 r2 r3 hE hui hsn
     obtain ⟨hE1', hE2', hE3', hE4'⟩ := hE
     have huX : IntsF rp wr zu zb := hui.keep (hkX.mono (fun y hy _ => hrpl y hy)) (fun _ h => h)
     obtain ⟨ua, uc, rfl, _⟩ := id huX.1
     go_upto_region 14 with (fail)
     have hX8 := (Blk.new wr #[.string zn, .string zd, .int .i64 (zo : Int), .slice ua zb.length uc] 111).keep ((Keep.refl (fun z => z < (wr.alloc (.cells #[.string zn, .string zd, .int .i64 (zo : Int), .slice ua zb.length uc] 111)).heap.size) _).alloc (.cells #[.string zn, .int .i64 (zd.size : Int), .slice ua zb.length uc] 76)) (by simp)
     have hX9 := Blk.new (wr.alloc (.cells #[.string zn, .string zd, .int .i64 (zo : Int), .slice ua zb.length uc] 111)) #[.string zn, .int .i64 (zd.size : Int), .slice ua zb.length uc] 76
     have hbX : Below wr.heap.size wr ((wr.alloc (.cells #[.string zn, .string zd, .int .i64 (zo : Int), .slice ua zb.length uc] 111)).alloc (.cells #[.string zn, .int .i64 (zd.size : Int), .slice ua zb.length uc] 76)) := ((Below.refl _ _).alloc (Nat.le_refl _) _).alloc (by simp) _
     have hzX : ((wr.alloc (.cells #[.string zn, .string zd, .int .i64 (zo : Int), .slice ua zb.length uc] 111)).alloc (.cells #[.string zn, .int .i64 (zd.size : Int), .slice ua zb.length uc] 76)).heap.size = wr.heap.size + 2 := by simp
     rw [World.size_alloc] at hX9
     generalize (wr.alloc (.cells #[.string zn, .string zd, .int .i64 (zo : Int), .slice ua zb.length uc] 111)).alloc (.cells #[.string zn, .int .i64 (zd.size : Int), .slice ua zb.length uc] 76) = X1 at hX8 hX9 hbX hzX ⊢
     have hkX1 : Keep (fun z => z < wr.heap.size) wr X1 := Keep.of_below hbX (fun _ h _ => h)
     have hC1 := hC.keepAll hkX1
     have hf41 : IntsF (fun z => z < D0) X1 u4 st.fr := hf4.keep (hkX1.mono (fun z hz hl => hl)) (fun _ h => h)
     have hu1 : IntsF rp X1 (.slice ua zb.length uc) zb := huX.keep (hkX1.mono (fun z _ hl => hl)) (fun _ h => h)
     have hDw : D0 + 1 ≤ wr.heap.size := by have := hC.root.lt; omega
     have p0 : X1.cell? ⟨wr.heap.size, 0, none⟩ = some (.string zn) := by simp [hX8.cell]
     have p1 : X1.cell? ⟨wr.heap.size, 1, none⟩ = some (.string zd) := by simp [hX8.cell]
     have p2 : X1.cell? ⟨wr.heap.size, 2, none⟩ = some (.int .i64 (zo : Int)) := by simp [hX8.cell]
     have p3 : X1.cell? ⟨wr.heap.size, 3, none⟩ = some (.slice ua zb.length uc) := by simp [hX8.cell]
     have s0 : X1.cell? ⟨wr.heap.size + 1, 0, none⟩ = some (.string zn) := by simp [hX9.cell]
     have s1 : X1.cell? ⟨wr.heap.size + 1, 1, none⟩ = some (.int .i64 (zd.size : Int)) := by simp [hX9.cell]
     have s2 : X1.cell? ⟨wr.heap.size + 1, 2, none⟩ = some (.slice ua zb.length uc) := by simp [hX9.cell]
     have hv59 : ∀ j, v5.ownBlock = some j → j < wr.heap.size := fun j e => (hC.frow.lt j e).2
     have hlr9 : ∀ j, u6.ownBlock = some j → j < wr.heap.size := fun j e => (hC.lrow.lt j e).2
     have hfzl : ∀ j, fz j → j < wr.heap.size := fun j hj => (hC.fzs j hj).1
     have hfll : fl.length = st.fs.length := by rw [← hC.files, List.length_map]
     have hsfi : st.fs.length ≤ 64 := by
      have := Pl.pK_len _ _ hst
      rw [List.length_map, List.length_take] at this
      omega
     obtain ⟨v5a, v5c, rfl⟩ := ownsRow_form hC.frow
     generalize wr.heap.size = b8 at *
     clear hkX1 huX hf4 hC hbX r0 r1 r2 r3 hrow
     by_cases hlt : zd.size ≤ zo
     ·have hlt2 : ¬ (zo : Int) < (zd.size : Int) := by omega
      have m1 : X1.cell? ⟨D0, 1, none⟩ = some (.slice v5a fl.length v5c) := by simp [hC1.root.cell]
      have hap := Lib.hid (fun (w5 : World) (ob : Obj) (gn cp : Nat) hown hgrow hat => hC1.app (fz2 := fz) (w1 := w5) (tmp := ob) (g := gn) (cap := cp) (Nat.le_refl _) (fun _ h => h) hC1.fzs ⟨zn, (zd.size : Int), zb⟩ (.slice ua zb.length uc) (hu1.keep (Keep.refl _ _) hC1.sub) hown hgrow hat st.fr)
      have hfr := hC1.frow
      have hDX1 : D0 ≤ X1.heap.size := by omega
      have hst2 : Hid (Pl.pK FR ((hh.take (i + 1)).map (·.1)) = some ⟨st.fr, st.l, st.fs ++ [⟨zn, (zd.size : Int), zb⟩]⟩) := Lib.hid (by
       rw [hsn.out]
       unfold Pl.pStep
       rw [Option.bind_some, if_pos hlt])
      have hfl2 : (fl.length + 1) * 48 ≤ 140737488355328 := by omega
      replace hfll := Lib.hid hfll
      replace hzX := Lib.hid hzX
      have hkf : Hid (∀ w5, Keep (fun z => z < D0) X1 w5 → IntsF (fun z => z < D0) w5 u4 st.fr) := Lib.hid (fun w5 hk5 => hf41.keep hk5 (fun _ h => h))
      clear hC1 hf41 hu1 hX8 hX9 hst hsn
      go_wp2_with (at_builtin; go_must (refine wpList_app1 (by rfl) _ _ 69 (by rfl) D0 76 (.agg #[.string .empty, .int .i64 0, .slice none 0 0]) 3 48 Tryz.underlying69 info_file4 rfl (by decide) (.slice v5a fl.length v5c) fl.length (fcells4 fl) X1 hfr hDX1 (by rfl) #[.string zn, .int .i64 (zd.size : Int), .slice ua zb.length uc] 76 (by rfl) rfl (by simp [Value.oneCell']) hfl2 (by decide) ?_; intro g6 cap6 w6 hown6 hgrow6 hat6 hg6; have ⟨hB6, hC6⟩ := hap.out w6 _ g6 cap6 hown6 hgrow6 hat6; have f6 := hB6.frozen 1; have l6 := hB6.lt; have m6 : w6.cell? ⟨D0, 1, none⟩ = some (.slice v5a fl.length v5c) := (by simp [hB6.cell])))
      go_roundw
      case rel =>
       refine ⟨i + 1, _, fz, _, _, by omega, by go_num, hst2.out, hkf.out _ ?_, hC6⟩
       have kg : Keep (fun z => (Value.slice v5a fl.length v5c).ownBlock ≠ some z) X1 w6 := keep_app hgrow6
       exact Keep.trans (fp := fun z => z < D0) (kg.mono (fun z hz _ e => by have := (hfr.lt z e).1; omega)) (keep_set w6 D0 1 (.slice (some ⟨g6, 0, none⟩) (fl.length + 1) cap6)) (fun z hz _ => by omega)
      case measure => simp [intOf]; omega
     ·have hlt2 : (zo : Int) < (zd.size : Int) := by omega
      obtain ⟨v60, hv60⟩ : ∃ v60 : Value, v60 = u6 := ⟨_, rfl⟩
      subst hv60
      have hB9 := (hX9.set 2 (.slice none 0 0))
      have kA : Keep (fun z => z ≠ b8 + 1) X1 (X1.setCell ⟨b8 + 1, 2, none⟩ (.slice none 0 0)) := keep_set X1 (b8 + 1) 2 _
      have hf9 := hX9.frozen 2
      have lf9 := hX9.lt
      obtain ⟨kp, hkp⟩ : ∃ kp, kp = zo / 256 := ⟨_, rfl⟩
      have hdiv : IntKind.i64.wrap ((zo : Int).tdiv 256) = (kp : Int) := by
       rw [IntWalk.i64_in _ (by rw [Int.tdiv_eq_ediv_of_nonneg (by omega)]; omega), Int.tdiv_eq_ediv_of_nonneg (by omega)]
       omega
      have hdiv2 : (zo : Int) / 256 = (kp : Int) := by omega
      have hzo := Lib.hid (show kp ≤ 16384 by omega)
      replace hkp := Lib.hid hkp
      go_upto_region 17 with (fail)
      have hCA : CmW D0 D0 G rp w3 st fz v60 (.slice v5a fl.length v5c) fl (X1.setCell ⟨b8 + 1, 2, none⟩ (.slice none 0 0)) := hC1.keepAll2 kA (by omega) (fun j hj => by have := hfzl j hj; omega) (fun j e => by have := hv59 j e; omega) (fun j e => by have := hlr9 j e; omega)
      have hf4A : IntsF (fun z => z < D0) (X1.setCell ⟨b8 + 1, 2, none⟩ (.slice none 0 0)) u4 st.fr := hf41.keep (kA.mono (fun z hz _ => by omega)) (fun _ h => h)
      have huA : IntsF rp (X1.setCell ⟨b8 + 1, 2, none⟩ (.slice none 0 0)) (.slice ua zb.length uc) zb := hu1.keep (kA.mono (fun z hz _ => by have := hrpl z hz; omega)) (fun _ h => h)
      have hX8A := hX8.keep kA (by omega)
      have hzA : (X1.setCell ⟨b8 + 1, 2, none⟩ (.slice none 0 0)).heap.size = b8 + 2 := by simp [World.setCell]; omega
      generalize X1.setCell ⟨b8 + 1, 2, none⟩ (.slice none 0 0) = XA at hB9 hCA hf4A huA hX8A hzA ⊢
      clear hX8 hX9 hC1 hf41 hu1 hzX kA hf9 lf9 p0 p1 p2 p3 s0 s1 s2
      have hI0 : CmI D0 (b8 + 2) (b8 + 1) v60 zn (zd.size : Int) XA st.l [] v60 (.slice none 0 0) XA := ⟨hCA.lrow, fun j e => .inl e, hB9, World.ownsRow_nil _ _ _ _, Keep.refl _ _⟩
      have p1 : XA.cell? ⟨b8, 1, none⟩ = some (.string zd) := by simp [hX8A.cell]
      have p3 : XA.cell? ⟨b8, 3, none⟩ = some (.slice ua zb.length uc) := by simp [hX8A.cell]
      have hIk : Hid (∀ lw bl v6 vb Y, CmI D0 (b8 + 2) (b8 + 1) v60 zn (zd.size : Int) XA lw bl v6 vb Y → Y.cell? ⟨b8, 1, none⟩ = some (.string zd) ∧ Y.cell? ⟨b8, 3, none⟩ = some (.slice ua zb.length uc) ∧ IntsF rp Y (.slice ua zb.length uc) zb ∧ Keep (fun z => z < D0) XA Y ∧ b8 + 2 ≤ Y.heap.size) := Lib.hid (fun lw bl v6 vb Y hI => by
       have h8 : v60.ownBlock ≠ some b8 := fun e => by have := hlr9 b8 e; omega
       have hkD : Keep (fun z => z < D0) XA Y := hI.keep.mono (fun z hz _ => ⟨by omega, by omega, fun e => by have := (hCA.lrow.lt z e).1; omega⟩)
       exact ⟨hI.keep.cell (b := b8) ⟨by omega, by omega, h8⟩ p1, hI.keep.cell (b := b8) ⟨by omega, by omega, h8⟩ p3, huA.keep (hkD.mono (fun z hz _ => by have := hrpl z hz; omega)) (fun _ h => h), hkD, by have := hI.keep.size; omega⟩)
      clear p1 p3 huA hX8A hB9
      go_wp2_with fail
      go_loopw [11] (fun k11 Y => ∃ (kk : Nat) (vb : Value), kk ≤ kp ∧ k11 = .int .i64 (kk : Int) ∧ CmI D0 (b8 + 2) (b8 + 1) v60 zn (zd.size : Int) XA st.l (zb.take kk) v60 vb Y) (fun k11 _ => kp - (intOf k11).toNat)
      case atStart => exact ⟨0, _, Nat.zero_le _, rfl, hI0⟩
      clear hI0
      case round =>
       obtain ⟨kk, vb, hkk, rfl, hI⟩ := hrel
       obtain ⟨p1, p3, huY, hkD, hzY⟩ := hIk.out _ _ _ _ _ hI
       by_cases hkl : kk < kp
       ·have hkl2 : (kk : Int) < (kp : Int) := by omega
        obtain ⟨⟨ua', uc', eu, u1', u2', u3'⟩, hur⟩ := id huY
        injection eu with eu1 _ eu3
        subst eu1 eu3
        have hkz : kk < zb.length := by have := hkp.out; omega
        obtain ⟨bu, ou, rfl, hbu, hux⟩ := u3' (by omega)
        have hrb : bu < W.heap.size := hrpl _ (hur (by omega) bu rfl)
        have hel := hux kk hkz
        have hnx : Hid (zb.take kk ++ [zb[kk]] = zb.take (kk + 1)) := Lib.hid (List.take_succ_eq_append_getElem hkz).symm
        have hkl0 : (0 : Int) ≤ (kk : Int) := by omega
        have hkl3 : (kk : Int) < (zb.length : Int) := by omega
        generalize zb[kk] = el at hel hnx
        go_upto_region 20 with (fail)
        have d2 : wr.cell? ⟨b8 + 1, 2, none⟩ = some vb := by simp [hI.blk.cell]
        have d2a := fun ob => (World.cell?_alloc_some wr ⟨b8 + 1, 2, none⟩ ob (by simp [d2])).trans d2
        have htk : (zb.take kk).length = kk := by rw [List.length_take]; omega
        have htl8 : (kk + 1) * 8 ≤ 140737488355328 := by have := hzo.out; omega
        have hbl : wr.ownsRow (b8 + 2) 3 1 vb kk (icells4 (zb.take kk)) := by have := hI.bl; unfold IOwn at this; rw [htk] at this; exact this
        have hblk := fun (w7 : World) (tmp : Obj) (g cap : Nat) => hI.block (w7 := w7) (b := el) (tmp := tmp) (g := g) (cap := cap) (by omega)
        simp only [htk, hnx.out] at hblk
        replace hblk := Lib.hid hblk
        clear hux u3' htk
        refine wp_region_held_drew (S := fun W' => W'.cell? ⟨b8, 3, none⟩ = some (.slice (some ⟨bu, ou, none⟩) zb.length uc) ∧ W'.cell? ⟨bu, ou + kk, none⟩ = some (.int .i64 el)) (by kernel_rfl) ⟨p3, hel⟩ (fun hHeld => ?_)
        refine wpAnyH_take (i := 0) (v := ?_) rfl (by kernel_rfl) (by kernel_rfl) (by kernel_rfl) (fun _ _ _ h => h) (Or.inl ⟨by rfl, ?_⟩) (by assumption) ?_
        rotate_left 1
        ·intro w hSw
         try dsimp only at hSw
         obtain ⟨hs1, hs2⟩ := hSw
         go_simp
         try with_reducible rfl
        try simp only [Act.put, List.getElem_toArray, List.getElem_cons_zero, List.getElem_cons_succ, List.setIfInBounds_toArray, List.set_cons_zero, List.set_cons_succ]
        refine wpAnyH_take (i := 2) (v := ?_) rfl (by kernel_rfl) (by kernel_rfl) (by kernel_rfl) (fun _ _ _ h => h) (Or.inl ⟨by rfl, ?_⟩) (by assumption) ?_
        rotate_left 1
        ·intro w hSw
         try dsimp only at hSw
         obtain ⟨hs1, hs2⟩ := hSw
         go_simp
         try with_reducible rfl
        try simp only [Act.put, List.getElem_toArray, List.getElem_cons_zero, List.getElem_cons_succ, List.setIfInBounds_toArray, List.set_cons_zero, List.set_cons_succ]
        refine wpAnyH_take (i := 3) (v := ?_) rfl (by kernel_rfl) (by kernel_rfl) (by kernel_rfl) (fun _ _ _ h => h) (Or.inl ⟨by rfl, ?_⟩) (by assumption) ?_
        rotate_left 1
        ·intro w hSw
         try dsimp only at hSw
         obtain ⟨hs1, hs2⟩ := hSw
         go_simp
         try with_reducible rfl
        try simp only [Act.put, List.getElem_toArray, List.getElem_cons_zero, List.getElem_cons_succ, List.setIfInBounds_toArray, List.set_cons_zero, List.set_cons_succ]
        refine wpAnyH_take (i := 4) (v := ?_) rfl (by kernel_rfl) (by kernel_rfl) (by kernel_rfl) (fun _ _ _ h => h) (Or.inl ⟨by rfl, ?_⟩) (by assumption) ?_
        rotate_left 1
        ·intro w hSw
         try dsimp only at hSw
         obtain ⟨hs1, hs2⟩ := hSw
         go_simp
         try with_reducible rfl
        try simp only [Act.put, List.getElem_toArray, List.getElem_cons_zero, List.getElem_cons_succ, List.setIfInBounds_toArray, List.set_cons_zero, List.set_cons_succ]
        refine wpAnyH_take (i := 5) (v := ?_) rfl (by kernel_rfl) (by kernel_rfl) (by kernel_rfl) (fun _ _ _ h => h) (Or.inl ⟨by rfl, ?_⟩) (by assumption) ?_
        rotate_left 1
        ·intro w hSw
         try dsimp only at hSw
         obtain ⟨hs1, hs2⟩ := hSw
         go_simp
         try with_reducible rfl
        try simp only [Act.put, List.getElem_toArray, List.getElem_cons_zero, List.getElem_cons_succ, List.setIfInBounds_toArray, List.set_cons_zero, List.set_cons_succ]
        refine wpAnyH_take (i := 6) (v := ?_) rfl (by kernel_rfl) (by kernel_rfl) (by kernel_rfl) (fun _ _ _ h => h) (Or.inl ⟨by rfl, ?_⟩) (by assumption) ?_
        rotate_left 1
        ·intro w hSw
         try dsimp only at hSw
         obtain ⟨hs1, hs2⟩ := hSw
         go_simp
         try with_reducible rfl
        try simp only [Act.put, List.getElem_toArray, List.getElem_cons_zero, List.getElem_cons_succ, List.setIfInBounds_toArray, List.set_cons_zero, List.set_cons_succ]
        apply via
        ·intro hG
         refine wpAnyH_ready (rs := [1, 7]) (by kernel_rfl) (by simp) ?_
         refine AllReadyH.cons rfl (fun K hK => ?_) (AllReadyH.cons rfl (fun K hK => ?_) AllReadyH.nil)
         ·go_simp
          refine hK.out _ _ (by first | exact ⟨p3, hel⟩ | go_keep) (fun hHeld2 => ?_)
          clear hK K
          try simp only [Act.put, List.getElem_toArray, List.getElem_cons_zero, List.getElem_cons_succ, List.setIfInBounds_toArray, List.set_cons_zero, List.set_cons_succ]
          refine wpAnyH_ready (rs := [7]) (by kernel_rfl) (by simp) ?_
          refine AllReadyH.cons rfl (fun K hK => ?_) AllReadyH.nil
          go_simp
          refine hK.out _ _ (by go_keep) (fun hHeld3 => ?_)
          clear hK K
          try simp only [Act.put, List.getElem_toArray, List.getElem_cons_zero, List.getElem_cons_succ, List.setIfInBounds_toArray, List.set_cons_zero, List.set_cons_succ]
          exact hG
         ·go_simp
          refine hK.out _ _ (by go_keep) (fun hHeld2 => ?_)
          clear hK K
          try simp only [Act.put, List.getElem_toArray, List.getElem_cons_zero, List.getElem_cons_succ, List.setIfInBounds_toArray, List.set_cons_zero, List.set_cons_succ]
          refine wpAnyH_ready (rs := [1]) (by kernel_rfl) (by simp) ?_
          refine AllReadyH.cons rfl (fun K hK => ?_) AllReadyH.nil
          go_simp
          refine hK.out _ _ (by go_keep) (fun hHeld3 => ?_)
          clear hK K
          try simp only [Act.put, List.getElem_toArray, List.getElem_cons_zero, List.getElem_cons_succ, List.setIfInBounds_toArray, List.set_cons_zero, List.set_cons_succ]
          exact hG
        refine wpAnyH_ready (rs := [8]) (by kernel_rfl) (by simp) ?_
        refine AllReadyH.cons rfl (fun K hK => ?_) AllReadyH.nil
        refine step_app1 (by rfl) _ _ 74 (by rfl) (b8 + 2) 3 (.int .i64 0) 1 8 Tryz.underlying74 info_int4 rfl (by decide) vb kk (icells4 (zb.take kk)) wr hbl hzY (by rfl) #[.int .i64 el] 3 (by rfl) rfl (by simp [Value.oneCell']) htl8 (by decide) ?_
        intro g5 cap5 w5 hown5 hgrow5 hat5 hg5
        obtain ⟨hB5, hI5⟩ := hblk.out w5 _ g5 cap5 hown5 hgrow5
        have kg5 : Keep (fun z => vb.ownBlock ≠ some z) wr w5 := keep_app hgrow5
        have q0 : w5.cell? ⟨b8, 3, none⟩ = some (.slice (some ⟨bu, ou, none⟩) zb.length uc) := kg5.cell (b := b8) (fun e => by have := (World.ownsRow.lt hbl b8 e).1; omega) p3
        have q1 : w5.cell? ⟨bu, ou + kk, none⟩ = some (.int .i64 el) := kg5.cell (b := bu) (fun e => by have := (World.ownsRow.lt hbl bu e).1; omega) hel
        have k95 := keep_set w5 (b8 + 1) 2 (.slice (some ⟨g5, 0, none⟩) (kk + 1) cap5)
        have t0 := k95.cell (b := b8) (by omega) q0
        have t1 := k95.cell (b := bu) (by omega) q1
        have f5 := hB5.frozen 2
        have l5 := hB5.lt
        have d5 : w5.cell? ⟨b8 + 1, 2, none⟩ = some vb := by simp [hB5.cell]
        refine hK.out _ _ ⟨q0, q1⟩ (fun hHeld7 => ?_)
        clear hK K
        try simp only [Act.put, List.getElem_toArray, List.getElem_cons_zero, List.getElem_cons_succ, List.setIfInBounds_toArray, List.set_cons_zero, List.set_cons_succ]
        refine wpAnyH_take (i := 9) (v := ?_) rfl (by kernel_rfl) (by kernel_rfl) (by kernel_rfl) (fun _ _ _ h => h) (Or.inl ⟨by rfl, ?_⟩) (by assumption) ?_
        rotate_left 1
        ·intro w hSw
         try dsimp only at hSw
         obtain ⟨hs1, hs2⟩ := hSw
         go_simp
         try with_reducible rfl
        try simp only [Act.put, List.getElem_toArray, List.getElem_cons_zero, List.getElem_cons_succ, List.setIfInBounds_toArray, List.set_cons_zero, List.set_cons_succ]
        refine wpAnyH_ready (rs := [10]) (by kernel_rfl) (by simp) ?_
        refine AllReadyH.cons rfl (fun K hK => ?_) AllReadyH.nil
        go_simp
        refine hK.out _ _ ⟨t0, t1⟩ (fun hHeld8 => ?_)
        clear hK K
        refine wpAnyH_done (by kernel_rfl) ?_ _
        generalize hYY : w5.setCell ⟨b8 + 1, 2, none⟩ (.slice (some ⟨g5, 0, none⟩) (kk + 1) cap5) = w6 at hI5 ⊢
        clear hI hblk d2 d2a hbl hB5 hown5 hgrow5 q0 q1 k95 t0 t1 f5 l5 d5 hYY p1 p3 hel
        go_wp2_with fail
        go_roundw
        case rel => exact ⟨kk + 1, _, by omega, by go_num, hI5⟩
        case measure => simp [intOf]; omega
       ·have hkl2 : ¬ (kk : Int) < (kp : Int) := by omega
        have hkk2 : kk = kp := by omega
        rw [hkk2] at hI
        replace hkk2 := Lib.hid hkk2
        have hm1 : IntKind.i64.wrap ((kp : Int) * 256) = ((kp * 256 : Nat) : Int) := by rw [IntWalk.i64_in _ (by have := hzo.out; omega)]; omega
        have hm2 : (kp : Int) * 256 = ((kp * 256 : Nat) : Int) := by omega
        have hm3 : ((kp * 256 : Nat) : Int) ≤ (zd.size : Int) := by have := hkp.out; omega
        have hm4 : (0 : Int) ≤ ((kp * 256 : Nat) : Int) := by omega
        generalize hKM : kp * 256 = KM at hm1 hm2 hm3 hm4
        replace hKM := Lib.hid hKM
        have hf4Y := hf4A.keep (hkD.mono (fun z hz _ => hz)) (fun _ h => h)
        go_upto_region 22 with (fail)
        obtain ⟨E, hEE⟩ : ∃ E, E = zd.extract KM zd.size := ⟨_, rfl⟩
        have hEz : E.size = zd.size - KM := by rw [hEE, ByteArray.size_extract]; omega
        rw [← hEE]
        have hPP : Hid (Pl.pPieces ⟨zn, zd, zo, zb⟩ = Pl.piecesOf E) := Lib.hid (by
         unfold Pl.pPieces
         simp only
         rw [hEE, ← hKM.out, hkp.out])
        have hex : E.extract 0 E.size = E := by simp
        replace hEE := Lib.hid hEE
        clear p1 p3 huY
        go_loopw [4, 6, 12] (fun f4 y6 s12 Y => ∃ (j : Nat) (vb : Value), j ≤ Pl.pieceN E.size ∧ j ≤ st.fr.length ∧ s12 = .string (E.extract (256 * j) E.size) ∧ IntsF (fun z => z < D0) Y f4 (st.fr.drop j) ∧ CmI D0 (b8 + 2) (b8 + 1) v60 zn (zd.size : Int) XA (st.l ++ Pl.zipB st.fr ((Pl.piecesOf E).take j)) (zb.take kp ++ st.fr.take j) y6 vb Y) (fun _ _ s12 _ => strLen s12)
        case atStart => exact ⟨0, vb, Nat.zero_le _, Nat.zero_le _, by rw [Nat.mul_zero, hex], hf4Y, by rw [List.take_zero, List.take_zero, Pl.zipB_nil, List.append_nil, List.append_nil]; exact hI⟩
        clear hex hf4Y hI hkD hzY
        case round =>
         obtain ⟨j, vb, hj1, hj2, rfl, hf, hI⟩ := hrel
         obtain ⟨p1, p3, huY, hkD, hzY⟩ := hIk.out _ _ _ _ _ hI
         obtain ⟨T, hT⟩ : ∃ T, T = E.extract (256 * j) E.size := ⟨_, rfl⟩
         have hTz : T.size = E.size - 256 * j := by rw [hT, ByteArray.size_extract]; omega
         have hPN : Pl.pieceN E.size = (E.size + 255) / 256 := rfl
         have hPl : (Pl.piecesOf E).length = Pl.pieceN E.size := Pl.piecesOf_length E
         by_cases hjl : j < Pl.pieceN E.size
         ·have hT0 : (0 : Int) < (T.size : Int) := by omega
          cases hdr : st.fr.drop j with
          | nil =>
           have hfl0 : st.fr.length ≤ j := by rw [List.drop_eq_nil_iff] at hdr; exact hdr
           rw [hdr] at hf
           obtain ⟨fa, fc, rfl, _⟩ := id hf.1
           have hE0 : E0 = ((x, s), 5) := by
            have h1 := hstop.out (by
             rw [hsn.out]
             unfold Pl.pStep
             rw [Option.bind_some, if_neg (by simp only; omega), if_pos (by rw [hPP.out, hPl]; omega)])
            rw [hE1.out, h1]
           have hfin := Lib.hid (hsame.out 5 wr hE0 (hcells.out wr (hCA.keep.trans hkD (fun z hz _ => hz))).2.2)
           clear hE0
           rw [← hT]
           clear hT hTz hPN hPl hdr
           go_wp2
           go_ret
           exact hfin.out
          | cons a fr' =>
           have hjr : j < st.fr.length := by
            rcases Nat.lt_or_ge j st.fr.length with h | h
            ·exact h
            ·rw [List.drop_of_length_le h] at hdr; cases hdr
           have hda : st.fr[j] = a ∧ st.fr.drop (j + 1) = fr' := by
            rw [List.drop_eq_getElem_cons hjr] at hdr
            injection hdr with h1 h2
            exact ⟨h1, h2⟩
           rw [hdr] at hf
           obtain ⟨fa, fc, rfl, _⟩ := id hf.1
           obtain ⟨gf, of', rfl, hgf, hgl, hcf, hcap1, hcap2, hrest⟩ := hf.rest
           have ha32 : 32 ≤ a ∧ a < (N : Int) := hfin4 a (Pl.pK_fr _ _ hst a (by rw [← hda.1]; exact List.getElem_mem hjr))
           obtain ⟨rl, hrl⟩ : ∃ rl, rl = fr'.length := ⟨_, rfl⟩
           rw [List.length_cons, ← hrl] at hcap1
           rw [List.length_cons, ← hrl]
           rw [← hrl, ← hda.2] at hrest
           have hne : ((rl : Int) + 1 == 0) = false := by simpa using (by omega : ¬ (rl : Int) + 1 = 0)
           obtain ⟨n, hn⟩ : ∃ n, n = min T.size 256 := ⟨_, rfl⟩
           obtain ⟨e1, e2⟩ := Pl.cut_piece hT hn
           have hmin : min (T.size : Int) 256 = (n : Int) := by omega
           have hn1 : (n : Int) ≤ (T.size : Int) := by omega
           have hn0 : (0 : Int) ≤ (n : Int) := by omega
           have hn2 : (256 : Int) - (n : Int) = ((256 - n : Nat) : Int) := by omega
           have PN := Lib.hid (fun w => noughtsN_any (256 - n) (by omega) w)
           have hZz : (Pl.zeros (256 - n)).size = 256 - n := Pl.zeros_size _
           generalize Pl.zeros (256 - n) = ZN at PN hZz e1
           have hn4 : IntKind.i64.wrap ((256 - n : Nat) : Int) = ((256 - n : Nat) : Int) := IntWalk.i64_in _ (by omega)
           have hexz : (T.extract 0 n).size = n := by rw [ByteArray.size_extract]; omega
           have hn3 : n ≤ 256 := by omega
           have g1 : (T.extract 0 n).size + ZN.size ≤ 9223372036854775807 := by omega
           have g2 : ¬ 9223372036854775807 < (T.extract 0 n).size + ZN.size := by omega
           have g3 : min n T.size + ZN.size ≤ 9223372036854775807 := by omega
           have g4 : ¬ 9223372036854775807 < min n T.size + ZN.size := by omega
           have g5 : n + ZN.size ≤ 9223372036854775807 := by omega
           have g6 : ¬ 9223372036854775807 < n + ZN.size := by omega
           have hTlt : (T.extract n T.size).size < T.size := by rw [ByteArray.size_extract]; omega
           have hpc := Lib.hid (Pl.pieces_take E hjl)
           have hzip : Hid (Pl.zipB st.fr ((Pl.piecesOf E).take (j + 1)) = Pl.zipB st.fr ((Pl.piecesOf E).take j) ++ [(a.toNat, Pl.pieceAt E j)]) := Lib.hid (by
            have hl : ((Pl.piecesOf E).take j).length = j := by rw [List.length_take]; omega
            rw [hpc.out, Pl.zipB_snoc (by omega)]
            simp only [hl, hda.1])
           have htk : Hid (st.fr.take (j + 1) = st.fr.take j ++ [a]) := Lib.hid (by rw [List.take_succ_eq_append_getElem hjr, hda.1])
           rw [← hT]
           replace hexz := Lib.hid hexz
           replace hZz := Lib.hid hZz
           replace e1 := Lib.hid e1
           replace e2 := Lib.hid e2
           replace hn := Lib.hid hn
           replace hrl := Lib.hid hrl
           replace hTlt := Lib.hid hTlt
           have hLWl : (st.l ++ Pl.zipB st.fr ((Pl.piecesOf E).take j)).length ≤ 16384 := by
            have h1 := (Pl.pK_len _ _ hst).2
            have hl : ((Pl.piecesOf E).take j).length = j := by rw [List.length_take]; omega
            rw [List.length_append, Pl.zipB_length (by omega), hl]
            omega
           have hBKl : (zb.take kp ++ st.fr.take j).length ≤ 32768 := by
            have h1 := (Pl.pK_len _ _ hst).2
            have h2 := hzo.out
            rw [List.length_append, List.length_take, List.length_take]
            omega
           generalize hLW : st.l ++ Pl.zipB st.fr ((Pl.piecesOf E).take j) = LW at hI hLWl
           generalize hBK : zb.take kp ++ st.fr.take j = BK at hI hBKl
           replace hLW := Lib.hid hLW
           replace hBK := Lib.hid hBK
           clear hT hTz hPN hPl hdr hf p1 p3 huY hkD hpc hda
           go_upto_region 26 with (fail)
           have hbd : Below wr.heap.size wr wr.drew := (Below.refl _ _).drew
           have hId := hI.still hbd
           have hres := Lib.hid (fun (w6 : World) (b6 : Below wr.drew.heap.size wr.drew w6) => (⟨hId.still b6, (hId.still b6).lrow, Nat.le_trans (by omega : D0 ≤ wr.heap.size) (Nat.le_trans hbd.size b6.size), (b6.cell (p := ⟨gf, of', none⟩) hgl).trans hcf⟩ : CmI D0 (b8 + 2) (b8 + 1) v60 zn (zd.size : Int) XA LW BK u6 vb w6 ∧ w6.ownsRow D0 61 2 u6 LW.length (wcells LW) ∧ D0 ≤ w6.heap.size ∧ w6.cell? ⟨gf, of', none⟩ = some (.int .i64 a)))
           go_region_held3 (fun W' => W'.cell? ⟨gf, of', none⟩ = some (.int .i64 a)) (first | exact kA | exact hcf | go_keep)
            (first
            | (go_at_call 16; refine (PN.out _).mono ?_; rintro e w6 ⟨rfl, b6⟩; have ⟨hI6, hrow6, hB6, kA⟩ := hres.out w6 b6)
            | (refine step_app2 (by rfl) _ _ 44 (by rfl) D0 61 _ 2 24 Tryz.underlying44 info_wr rfl (by decide) u6 LW.length _ w6 hrow6 hB6 (by rfl) #[.int .i64 a, .string (T.extract 0 n ++ ZN)] 61 (by rfl) rfl (by simp [Value.oneCell']) (by omega) (by decide) ?_; intro g7 cap7 w7 hown7 hgrow7 hat7 hg7; have kA7 : w7.cell? ⟨gf, of', none⟩ = some (.int .i64 a) := (keep_app hgrow7).cell (b := gf) (fun e => by have := (hrow6.lt gf e).1; omega) kA; replace kA := kA7))
           rw [e1.out] at hown7
           have hz6 : b8 + 2 ≤ w6.heap.size := Nat.le_trans hzY (Nat.le_trans hbd.size b6.size)
           have hI7 := hI6.write (by omega) hz6 (n := a.toNat) (by omega) hown7 hgrow7 hat7
           have hgfw : gf < D0 := by assumption
           have hrest7 : Hid (∀ Y, Keep (fun z => z < D0) wr Y → IntsF (fun z => z < D0) Y (.slice (if fc = 1 then some ⟨gf, of', none⟩ else some ⟨gf, of' + 1, none⟩) rl (fc - 1)) (st.fr.drop (j + 1))) := Lib.hid (fun Y hkY => by rw [hrl.out] at hrest ⊢; exact hrest.keep hkY (fun _ h => h))
           go_upto_region 27 with (fail)
           have hz7 : b8 + 2 ≤ w7.heap.size := by have := hI7.keep.size; omega
           have d2 : w7.cell? ⟨b8 + 1, 2, none⟩ = some vb := by simp [hI7.blk.cell]
           have d2a := fun ob => (World.cell?_alloc_some w7 ⟨b8 + 1, 2, none⟩ ob (by simp [d2])).trans d2
           obtain ⟨bk, hbk⟩ : ∃ bk, bk = BK.length := ⟨_, rfl⟩
           have htl8 : (bk + 1) * 8 ≤ 140737488355328 := by omega
           have hbl : w7.ownsRow (b8 + 2) 3 1 vb bk (icells4 BK) := by have := hI7.bl; unfold IOwn at this; rw [← hbk] at this; exact this
           have hblk := fun (w9 : World) (tmp : Obj) (g cap : Nat) => hI7.block (w7 := w9) (b := a) (tmp := tmp) (g := g) (cap := cap) (by omega)
           simp only [← hbk] at hblk
           replace hblk := Lib.hid hblk
           replace hbk := Lib.hid hbk
           have hkw7 : Keep (fun z => z < D0) wr w7 := (Keep.of_below (fp := fun z => z < D0) (hbd.trans (b6.mono hbd.size)) (fun _ _ hl => hl)).trans (keep_app hgrow7) (fun z hz _ e => by have := (hrow6.lt z e).1; omega)
           have hfin8 := Lib.hid (fun (Y : World) (kY : Keep (fun z => z < D0) w7 Y) => hrest7.out Y (hkw7.trans kY (fun _ h _ => h)))
           clear hI hId hI6 hrow6 hB6 kA hres hown7 hgrow7 hat7 hrest7 hgf hgl hcf b6 hbd hz6 hkw7
           refine wp_region_held_drew (S := fun W' => W'.cell? ⟨gf, of', none⟩ = some (.int .i64 a) ∧ True) (by kernel_rfl) ⟨kA7, trivial⟩ (fun hHeld => ?_)
           refine wpAnyH_take (i := 0) (v := ?_) rfl (by kernel_rfl) (by kernel_rfl) (by kernel_rfl) (fun _ _ _ h => h) (Or.inl ⟨by rfl, ?_⟩) (by assumption) ?_
           rotate_left 1
           ·intro w hSw
            try dsimp only at hSw
            obtain ⟨hs1, hs2⟩ := hSw
            go_simp
            try with_reducible rfl
           try simp only [Act.put, List.getElem_toArray, List.getElem_cons_zero, List.getElem_cons_succ, List.setIfInBounds_toArray, List.set_cons_zero, List.set_cons_succ]
           refine wpAnyH_take (i := 2) (v := ?_) rfl (by kernel_rfl) (by kernel_rfl) (by kernel_rfl) (fun _ _ _ h => h) (Or.inl ⟨by rfl, ?_⟩) (by assumption) ?_
           rotate_left 1
           ·intro w hSw
            try dsimp only at hSw
            obtain ⟨hs1, hs2⟩ := hSw
            go_simp
            try with_reducible rfl
           try simp only [Act.put, List.getElem_toArray, List.getElem_cons_zero, List.getElem_cons_succ, List.setIfInBounds_toArray, List.set_cons_zero, List.set_cons_succ]
           refine wpAnyH_take (i := 3) (v := ?_) rfl (by kernel_rfl) (by kernel_rfl) (by kernel_rfl) (fun _ _ _ h => h) (Or.inl ⟨by rfl, ?_⟩) (by assumption) ?_
           rotate_left 1
           ·intro w hSw
            try dsimp only at hSw
            obtain ⟨hs1, hs2⟩ := hSw
            go_simp
            try with_reducible rfl
           try simp only [Act.put, List.getElem_toArray, List.getElem_cons_zero, List.getElem_cons_succ, List.setIfInBounds_toArray, List.set_cons_zero, List.set_cons_succ]
           refine wpAnyH_take (i := 4) (v := ?_) rfl (by kernel_rfl) (by kernel_rfl) (by kernel_rfl) (fun _ _ _ h => h) (Or.inl ⟨by rfl, ?_⟩) (by assumption) ?_
           rotate_left 1
           ·intro w hSw
            try dsimp only at hSw
            obtain ⟨hs1, hs2⟩ := hSw
            go_simp
            try with_reducible rfl
           try simp only [Act.put, List.getElem_toArray, List.getElem_cons_zero, List.getElem_cons_succ, List.setIfInBounds_toArray, List.set_cons_zero, List.set_cons_succ]
           apply via
           ·intro hG
            refine wpAnyH_ready (rs := [1, 5]) (by kernel_rfl) (by simp) ?_
            refine AllReadyH.cons rfl (fun K hK => ?_) (AllReadyH.cons rfl (fun K hK => ?_) AllReadyH.nil)
            ·go_simp
             refine hK.out _ _ (by first | exact ⟨kA7, trivial⟩ | go_keep) (fun hHeld2 => ?_)
             clear hK K
             try simp only [Act.put, List.getElem_toArray, List.getElem_cons_zero, List.getElem_cons_succ, List.setIfInBounds_toArray, List.set_cons_zero, List.set_cons_succ]
             refine wpAnyH_ready (rs := [5]) (by kernel_rfl) (by simp) ?_
             refine AllReadyH.cons rfl (fun K hK => ?_) AllReadyH.nil
             go_simp
             refine hK.out _ _ (by go_keep) (fun hHeld3 => ?_)
             clear hK K
             try simp only [Act.put, List.getElem_toArray, List.getElem_cons_zero, List.getElem_cons_succ, List.setIfInBounds_toArray, List.set_cons_zero, List.set_cons_succ]
             exact hG
            ·go_simp
             refine hK.out _ _ (by go_keep) (fun hHeld2 => ?_)
             clear hK K
             try simp only [Act.put, List.getElem_toArray, List.getElem_cons_zero, List.getElem_cons_succ, List.setIfInBounds_toArray, List.set_cons_zero, List.set_cons_succ]
             refine wpAnyH_ready (rs := [1]) (by kernel_rfl) (by simp) ?_
             refine AllReadyH.cons rfl (fun K hK => ?_) AllReadyH.nil
             go_simp
             refine hK.out _ _ (by go_keep) (fun hHeld3 => ?_)
             clear hK K
             try simp only [Act.put, List.getElem_toArray, List.getElem_cons_zero, List.getElem_cons_succ, List.setIfInBounds_toArray, List.set_cons_zero, List.set_cons_succ]
             exact hG
           refine wpAnyH_ready (rs := [6]) (by kernel_rfl) (by simp) ?_
           refine AllReadyH.cons rfl (fun K hK => ?_) AllReadyH.nil
           refine step_app1 (by rfl) _ _ 74 (by rfl) (b8 + 2) 3 (.int .i64 0) 1 8 Tryz.underlying74 info_int4 rfl (by decide) vb bk (icells4 BK) w7 hbl hz7 (by rfl) #[.int .i64 a] 3 (by rfl) rfl (by simp [Value.oneCell']) htl8 (by decide) ?_
           intro g8 cap8 w8 hown8 hgrow8 hat8 hg8
           obtain ⟨hB8, hI8⟩ := hblk.out w8 _ g8 cap8 hown8 hgrow8
           have kg8 : Keep (fun z => vb.ownBlock ≠ some z) w7 w8 := keep_app hgrow8
           have q0 : w8.cell? ⟨gf, of', none⟩ = some (.int .i64 a) := kg8.cell (b := gf) (fun e => by have := (World.ownsRow.lt hbl gf e).1; omega) kA7
           have k98 := keep_set w8 (b8 + 1) 2 (.slice (some ⟨g8, 0, none⟩) (bk + 1) cap8)
           have t0 := k98.cell (b := gf) (by omega) q0
           have hI9f := hfin8.out _ ((kg8.mono (fp' := fun z => z < D0) (fun z hz _ e => by have := (World.ownsRow.lt hbl z e).1; omega)).trans k98 (fun z hz _ => by omega))
           have f8 := hB8.frozen 2
           have l8 := hB8.lt
           have d8 : w8.cell? ⟨b8 + 1, 2, none⟩ = some vb := by simp [hB8.cell]
           refine hK.out _ _ ⟨q0, trivial⟩ (fun hHeld7 => ?_)
           clear hK K
           try simp only [Act.put, List.getElem_toArray, List.getElem_cons_zero, List.getElem_cons_succ, List.setIfInBounds_toArray, List.set_cons_zero, List.set_cons_succ]
           refine wpAnyH_take (i := 7) (v := ?_) rfl (by kernel_rfl) (by kernel_rfl) (by kernel_rfl) (fun _ _ _ h => h) (Or.inl ⟨by rfl, ?_⟩) (by assumption) ?_
           rotate_left 1
           ·intro w hSw
            try dsimp only at hSw
            obtain ⟨hs1, hs2⟩ := hSw
            go_simp
            try with_reducible rfl
           try simp only [Act.put, List.getElem_toArray, List.getElem_cons_zero, List.getElem_cons_succ, List.setIfInBounds_toArray, List.set_cons_zero, List.set_cons_succ]
           refine wpAnyH_ready (rs := [8]) (by kernel_rfl) (by simp) ?_
           refine AllReadyH.cons rfl (fun K hK => ?_) AllReadyH.nil
           go_simp
           refine hK.out _ _ ⟨t0, trivial⟩ (fun hHeld8 => ?_)
           clear hK K
           refine wpAnyH_done (by kernel_rfl) ?_ _
           generalize hYY : w8.setCell ⟨b8 + 1, 2, none⟩ (.slice (some ⟨g8, 0, none⟩) (bk + 1) cap8) = w9 at hI8 hI9f ⊢
           clear hI7 hblk d2 d2a hbl hB8 hown8 hgrow8 q0 k98 t0 f8 l8 d8 hYY hfin8 kA7 hgfw kg8
           have hcp1 : (1 : Int) ≤ (rl : Int) + 1 := by omega
           have hcp2 : (rl : Int) + 1 ≤ (fc : Int) := by omega
           have hcp3 : (1 : Int) ≤ ((rl + 1 : Nat) : Int) := by omega
           have hcp4 : ((rl + 1 : Nat) : Int) ≤ (fc : Int) := by omega
           go_wp2_with fail
           all_goals
            go_roundw
            case rel =>
             refine ⟨j + 1, _, by omega, by omega, by rw [e2.out], ?_, by rw [hzip.out, ← List.append_assoc, hLW.out, htk.out, ← List.append_assoc, hBK.out]; exact hI8⟩
             first
             | exact hI9f
             | (have hfc : ¬ fc = 1 := by assumption
                rw [if_neg hfc] at hI9f
                exact hI9f)
             | (have hfc : fc = 1 := by assumption
                rw [if_pos hfc, show fc - 1 = 0 by omega] at hI9f
                exact hI9f)
            case measure =>
             simp only [strLen]
             have := hTlt.out
             omega
         ·-- {5
          have hje : j = Pl.pieceN E.size := by omega
          have hT0 : ¬ (0 : Int) < (T.size : Int) := by omega
          have hplen : (Pl.piecesOf E).take j = Pl.piecesOf E := by rw [hje, ← hPl, List.take_length]
          rw [hplen] at hI
          have hst2 : Hid (Pl.pK FR ((hh.take (i + 1)).map (·.1)) = some ⟨st.fr.drop j, st.l ++ Pl.zipB st.fr (Pl.piecesOf E), st.fs ++ [⟨zn, (zd.size : Int), zb.take kp ++ st.fr.take j⟩]⟩) := Lib.hid (by
           rw [hsn.out]
           unfold Pl.pStep
           rw [Option.bind_some, if_neg (by simp only; omega), hPP.out, hPl, ← hje, if_neg (by omega), hkp.out])
          have hBKl : (zb.take kp ++ st.fr.take j).length ≤ 32768 := by
           have h1 := (Pl.pK_len _ _ hst).2
           have h2 := hzo.out
           rw [List.length_append, List.length_take, List.length_take]
           omega
          generalize hLW : st.l ++ Pl.zipB st.fr (Pl.piecesOf E) = LW at hI hst2
          generalize hBK : zb.take kp ++ st.fr.take j = BK at hI hst2 hBKl
          clear hLW hBK hplen
          obtain ⟨va, vc, rfl⟩ := ownsRow_form (show wr.ownsRow (b8 + 2) 3 1 vb BK.length (icells4 BK) from hI.bl)
          obtain ⟨bk, hbk⟩ : ∃ bk, bk = BK.length := ⟨_, rfl⟩
          rw [← hbk] at hI
          obtain ⟨hCZ, hfZ, hyZ⟩ := CmW.ofI hCA hI hzA (Nat.le_refl _) (by omega) (by omega) (fun e => by have := hv59 _ e; omega) (fun e => by have := hfzl _ e; omega) (fun z hz => by have := hrpl z hz; omega) (st.fr.drop j)
          have hap := Lib.hid (fun (w5 : World) (ob : Obj) (gn cp : Nat) hown hgrow hat => hCZ.app (fz2 := fun q => fz q ∨ (Value.slice va bk vc).ownBlock = some q) (w1 := w5) (tmp := ob) (g := gn) (cap := cp) (Nat.le_refl _) (fun _ h => .inl h) hfZ ⟨zn, (zd.size : Int), BK⟩ (.slice va bk vc) hyZ hown hgrow hat (st.fr.drop j))
          have hfr := hCZ.frow
          have hDX1 : D0 ≤ wr.heap.size := by omega
          have m1 : wr.cell? ⟨D0, 1, none⟩ = some (.slice v5a fl.length v5c) := by simp [hCZ.root.cell]
          have s0 : wr.cell? ⟨b8 + 1, 0, none⟩ = some (.string zn) := by simp [hI.blk.cell]
          have s1 : wr.cell? ⟨b8 + 1, 1, none⟩ = some (.int .i64 (zd.size : Int)) := by simp [hI.blk.cell]
          have s2 : wr.cell? ⟨b8 + 1, 2, none⟩ = some (.slice va bk vc) := by simp [hI.blk.cell]
          have hfl2 : (fl.length + 1) * 48 ≤ 140737488355328 := by omega
          have hkf : Hid (∀ w5, Keep (fun z => z < D0) wr w5 → IntsF (fun z => z < D0) w5 u4 (st.fr.drop j)) := Lib.hid (fun w5 hk5 => hf.keep hk5 (fun _ h => h))
          replace hfll := Lib.hid hfll
          replace hzA := Lib.hid hzA
          replace hje := Lib.hid hje
          replace hTz := Lib.hid hTz
          replace hPN := Lib.hid hPN
          replace hPl := Lib.hid hPl
          replace hbk := Lib.hid hbk
          rw [← hT]
          replace hT := Lib.hid hT
          clear hCZ hfZ hyZ hI p1 p3 huY hf hst hsn hCA
          go_wp2_with (at_builtin; go_must (refine wpList_app1 (by rfl) _ _ 69 (by rfl) D0 76 (.agg #[.string .empty, .int .i64 0, .slice none 0 0]) 3 48 Tryz.underlying69 info_file4 rfl (by decide) (.slice v5a fl.length v5c) fl.length (fcells4 fl) wr hfr hDX1 (by rfl) #[.string zn, .int .i64 (zd.size : Int), .slice va bk vc] 76 (by rfl) rfl (by simp [Value.oneCell']) hfl2 (by decide) ?_; intro g6 cap6 w6 hown6 hgrow6 hat6 hg6; have ⟨hB6, hC6⟩ := hap.out w6 _ g6 cap6 hown6 hgrow6 hat6; have f6 := hB6.frozen 1; have l6 := hB6.lt; have m6 : w6.cell? ⟨D0, 1, none⟩ = some (.slice v5a fl.length v5c) := (by simp [hB6.cell])))
          go_roundw
          case rel =>
           refine ⟨i + 1, _, _, _, _, by omega, by go_num, hst2.out, hkf.out _ ?_, hC6⟩
           have kg : Keep (fun z => (Value.slice v5a fl.length v5c).ownBlock ≠ some z) wr w6 := keep_app hgrow6
           exact Keep.trans (fp := fun z => z < D0) (kg.mono (fun z hz _ e => by have := (hfr.lt z e).1; omega)) (keep_set w6 D0 1 (.slice (some ⟨g6, 0, none⟩) (fl.length + 1) cap6)) (fun z hz _ => by omega)
          case measure => simp [intOf]; omega
    ·have hie : i = hh.length := by omega
     have hi2 : ¬ (i : Int) < (hh.length : Int) := by omega
     rw [hie, List.take_length, ← hxh.out] at hst
     obtain ⟨hfine, hll, hlb⟩ := hplan st hst
     obtain ⟨v5a, v5c, rfl⟩ := ownsRow_form hC.frow
     have hfll : fl.length = st.fs.length := by rw [← hC.files, List.length_map]
     obtain ⟨fz2, hfz2⟩ : ∃ fz2 : Nat → Prop, fz2 = fun z => fz z ∨ (Value.slice v5a fl.length v5c).ownBlock = some z := ⟨_, rfl⟩
     have hFF : FilesF fz2 wr (.slice v5a fl.length v5c) st.fs := by rw [← hC.files, hfz2]; exact FilesF.of_row hC.frow hC.ints (fun _ h => .inl h) (fun _ h => .inr h)
     have hfn : ∀ z, fz2 z → z < wr.heap.size ∧ (rp z ∨ D0 ≤ z) := fun z hz => by
      rw [hfz2] at hz
      rcases hz with hz | hz
      ·exact ⟨(hC.fzs z hz).1, (hC.fzs z hz).2.1⟩
      ·exact ⟨(hC.frow.lt z hz).2, .inr (hC.frow.lt z hz).1⟩
     have hsub : ∀ z, rp z → fz2 z := fun z hz => by rw [hfz2]; exact .inl (hC.sub z hz)
     have hrW : ∀ z, fpr z → z < W.heap.size := fun z hz => hr.lt z hz
     have hhW : ∀ z, (Value.slice ha hh.length hc).ownBlock = some z → z < W.heap.size := fun z hz => ho.fpLt z (.inr (.inl hz))
     have hdj2 : ∀ z, rfFp q (.slice ha hh.length hc) fz2 z → ¬ fpr z := by
      rintro z (hz | hz | hz) hf
      ·exact hdj z (.inl hz) hf
      ·exact hdj z (.inr (.inl hz)) hf
      ·rcases (hfn z hz).2 with h1 | h1
       ·exact hdj z (.inr (.inr h1)) hf
       ·have := hrW z hf; omega
     have hr2 : ∀ z, fz2 z → B ≤ z ∧ z ≠ q ∧ (Value.slice ha hh.length hc).ownBlock ≠ some z := fun z hz => by
      rcases (hfn z hz).2 with h1 | h1
      ·exact ⟨ho.low z h1, fun e => ho.nq (e ▸ h1), fun e => (ho.nh z e).1 h1⟩
      ·exact ⟨by omega, by omega, fun e => by have := hhW z e; omega⟩
     rw [hst] at hE1
     simp only at hE1
     have hrow0 := hC.lrow
     obtain ⟨sv, wv, hd0⟩ := id hrX
     obtain ⟨sa, sc, rfl⟩ := ownsRow_form hd0.safe
     have d0 : wr.cell? ⟨r, 0, none⟩ = some (.slice sa s.safe.length sc) := by simp [hd0.blk.cell]
     have hrl : r < wr.heap.size := hd0.blk.lt
     have hsl := Lib.hid hO.len
     have hDl : D0 < wr.heap.size := hC.root.lt
     have x0 : wr.cell? ⟨D0, 0, none⟩ = some (.int .u64 (G : Int)) := by simp [hC.root.cell]
     have x1 : wr.cell? ⟨D0, 1, none⟩ = some (.slice v5a fl.length v5c) := by simp [hC.root.cell]
     rw [hfll] at hFF x1
     have hbdr : Below wr.heap.size wr wr.drew := (Below.refl _ _).drew
     have PE := Lib.hid (refEncRt_any ⟨G, st.fs⟩ v5a v5c (s.safe.length : Int) wr.drew hfine (hFF.at.below hbdr) (by omega) (by have := hsl.out; omega))
     have hcl := Lib.hid (fun (w : World) (hb : Below wr.heap.size wr w) => (⟨(hb.cell (p := ⟨q, 0, none⟩) (show q < wr.heap.size by omega)).trans c0, (hb.cell (p := ⟨r, 0, none⟩) hrl).trans d0, (hb.cell (p := ⟨D0, 0, none⟩) hC.root.lt).trans x0, (hb.cell (p := ⟨D0, 1, none⟩) hC.root.lt).trans x1⟩ : w.cell? ⟨q, 0, none⟩ = some (.pointer (some ⟨r, 0, none⟩)) ∧ w.cell? ⟨r, 0, none⟩ = some (.slice sa s.safe.length sc) ∧ w.cell? ⟨D0, 0, none⟩ = some (.int .u64 (G : Int)) ∧ w.cell? ⟨D0, 1, none⟩ = some (.slice v5a st.fs.length v5c)))
     clear hd0
     replace hst := Lib.hid hst
     replace hfz2 := Lib.hid hfz2
     replace hfll := Lib.hid hfll
     replace hie := Lib.hid hie
     have hslN : (s.safe.length : Int) ≤ 16384 := by have := hsl.out; omega
     go_upto_region 31 with (fail)
     go_region_held3 (fun W' => W'.cell? ⟨q, 0, none⟩ = some (.pointer (some ⟨r, 0, none⟩)) ∧ W'.cell? ⟨r, 0, none⟩ = some (.slice sa s.safe.length sc) ∧ W'.cell? ⟨D0, 0, none⟩ = some (.int .u64 (G : Int)) ∧ W'.cell? ⟨D0, 1, none⟩ = some (.slice v5a st.fs.length v5c)) (first | exact kA | exact ⟨c0, d0, x0, x1⟩ | go_keep)
      ((go_at_call 76; refine PE.out.mono ?_; rintro e wE ⟨rfl, bE⟩; have bA := hbdr.trans (bE.mono hbdr.size); have kA := hcl.out wE bA))
     obtain ⟨SS, hSS⟩ : ∃ SS, SS = (⟨(Pl.encRt (min (s.safe.length : Int) 16384) ⟨G, st.fs⟩).1.toArray⟩ : ByteArray) := ⟨_, rfl⟩
     obtain ⟨ee, hee⟩ : ∃ ee, ee = (Pl.encRt (min (s.safe.length : Int) 16384) ⟨G, st.fs⟩).2 := ⟨_, rfl⟩
     rw [← hSS, ← hee]
     rw [← hee] at hE1
     obtain ⟨k0, k1, k2, k3⟩ := kA
     clear hSS PE hcl c0 d0 x0 x1
     have hkE : Keep (fun z => z < wr.heap.size) wr wE := Keep.of_below bA (fun _ h _ => h)
     have hkWE : Keep (fun z => z < W.heap.size) W wE := hkX.trans hkE (fun z hz hl => Nat.lt_of_lt_of_le hl hkX.size)
     by_cases he0 : ee = 0
     case neg =>
      have hne : (ee != 0) = true := by simpa using he0
      have hfin := Lib.hid (hsame.out 5 wE (by rw [hE1.out, if_pos he0]) hkWE)
      clear hE1 hee
      go_wp2
      go_ret
      exact hfin.out
     case pos =>
      subst he0
      have hmay : Pl.May (min (s.safe.length : Int) 16384) ⟨G, st.fs⟩ := (encRt_yes hee.symm).1
      clear hee
      have hoE := hoX.keep (hkE.mono (fun z hz _ => hoX.fpLt z hz))
      have hrE := hrX.keep (hkE.mono (fun z hz _ => hrX.lt z hz))
      have hrowE := hkE.ownsRow hrow0 (fun z e => (hrow0.lt z e).2)
      have hFFE := hFF.keep (hkE.mono (fun z hz _ => (hfn z hz).1)) (fun _ h => h)
      have hEsz := hkE.size
      have hWsz := hkX.size
      have PP := Lib.hid (rput_any hoE hrE hO hk hN1 hN2 hdj2 (by omega) st.l hrowE hll hlb ⟨G, st.fs⟩ hfine hFFE hsub (fun z hz => ⟨Nat.lt_of_lt_of_le (hfn z hz).1 hEsz, hr2 z hz⟩))
      have hF2 := Pl.wrRoot_fine hO st.l ⟨G, st.fs⟩
      have hputE : x.putE s st.l ⟨G, st.fs⟩ = if (Pl.wrRoot s st.l ⟨G, st.fs⟩).2 = 0 then { x with safe := ⟨G, st.fs⟩ } else x := rfl
      generalize Pl.wrRoot s st.l ⟨G, st.fs⟩ = WR at PP hE1 hF2 hputE
      obtain ⟨s2, er⟩ := WR
      simp only at PP hE1 hF2 hputE
      have hdone := Lib.hid (fun (wP : World) hPe => PutEnds.done (B := B) (Br := Br) (q := q) (r := r) (vh := .slice ha hh.length hc) (rp := rp) (rp2 := fz2) (fpr := fpr) (hh := hh) (s := s2) (x := x.putE s st.l ⟨G, st.fs⟩) (W := W) (W1 := wE) (W2 := wP) hPe hkWE (fun z hz => ⟨Nat.lt_of_lt_of_le (hfn z hz).1 hEsz, (hfn z hz).2.imp id (fun h => by omega)⟩) hql hhW hdj2)
      have hE2 := hE1.out
      rw [if_neg (by decide)] at hE2
      clear hE1 hrE hoE hFFE hrowE hFF hrX hoX hC hrow0 hst
      by_cases her : er = 0
      case neg =>
       rw [if_pos her] at hE2
       rw [if_neg her] at hputE
       rw [hputE] at hdone PP
       have hne : (er == 0) = false := by simpa using her
       replace hE2 := Lib.hid hE2
       clear hputE
       go_wp2_with (go_at_call 59; refine PP.out.mono ?_; rintro e wP ⟨rfl, hPe⟩)
       obtain ⟨fpr', hxP, hrP, hdjP, hstP⟩ := hdone.out wP hPe
       go_ret
       rw [hE2.out]
       exact ⟨rfl, _, fpr', hxP, hrP, hdjP, hstP⟩
      case pos =>
       subst her
       rw [if_neg (by decide)] at hE2
       rw [if_pos rfl] at hputE
       rw [hputE] at hdone PP
       replace hE2 := Lib.hid hE2
       have hwS : s2.wait.length ≤ 9223372036854775807 := by have := hF2.wait; omega
       have hNS : s2.safe.length ≤ 16384 := by rw [hF2.len]; exact hN2
       have hmS : Pl.May (s2.safe.length : Int) ⟨G, st.fs⟩ := by
        rw [show min (s.safe.length : Int) 16384 = (s2.safe.length : Int) by rw [hF2.len, hO.len]; omega] at hmay
        exact hmay
       have PR := Lib.hid (fun (wP : World) (fpr' : Nat → Prop) hxP hrP hdjP (hBP : B ≤ wP.heap.size) => rrevert_any (B := B) (Br := Br) (q := q) (r := r) (x := { x with safe := ⟨G, st.fs⟩ }) (s := s2) (fp := rfFp q (.slice ha hh.length hc) fz2) (fpr := fpr') (W := wP) hxP hrP hdjP hBP hwS hNS hmS)
       clear hputE hmS hNS hwS hF2
       go_wp2_with (first
        | (go_at_call 59; refine PP.out.mono ?_; rintro e wP ⟨rfl, hPe⟩; have ⟨fpr', hxP, hrP, hdjP, hstP⟩ := hdone.out wP hPe; have hBP : B ≤ wP.heap.size := (by have := hstP.keep.size; omega))
        | (go_at_call 43; refine (PR.out wP fpr' hxP hrP hdjP hBP).mono ?_; rintro e wQ ⟨⟨v, rfl⟩, f2, hx2, hst2⟩))
       go_ret
       rw [hE2.out]
       exact ⟨rfl, ComR.over hrP hdjP hstP hx2 hst2⟩
end
end Go.Proofs.YtogblcdefbnbeaaGreat
