
/- Plain: what a commit is to write. Condition: none. -/
import Derived.Test.YtogblcdefbnbeaaGreatQGk
import Derived.Test.YtogblcdefbnbeaaGreatQWWr
import Derived.Test.YtogblcdefbnbeaaGreatQRound
import Derived.Test.YtogblcdefbnbeaaGreatQGu
import Derived.Outline
import Derived.Deep.RegionHeld3
set_option maxRecDepth 100000
namespace Go.Proofs.YtogblcdefbnbeaaGreat
namespace Pl
def zipB (fr : List Int) (ps : List ByteArray) : List (Nat × ByteArray) := (fr.zip ps).map fun q => (q.1.toNat, q.2)
theorem zipB_nil (fr : List Int) : zipB fr [] = [] := by simp [zipB]
theorem zip_snoc : ∀ (fr : List Int) (ps : List ByteArray) (p : ByteArray) (h : ps.length < fr.length), fr.zip (ps ++ [p]) = fr.zip ps ++ [(fr[ps.length], p)]
 | a :: fr, [], p, _ => by simp
 | a :: fr, q :: ps, p, h => by simp [zip_snoc fr ps p (by simpa using h)]
theorem zipB_snoc {fr : List Int} {ps : List ByteArray} (h : ps.length < fr.length) (p : ByteArray) : zipB fr (ps ++ [p]) = zipB fr ps ++ [(fr[ps.length].toNat, p)] := by
 unfold zipB
 rw [zip_snoc fr ps p h, List.map_append]
 rfl
theorem zipB_length {fr : List Int} {ps : List ByteArray} (h : ps.length ≤ fr.length) : (zipB fr ps).length = ps.length := by simp [zipB]; omega
structure PlSt where
 fr : List Int
 l : List (Nat × ByteArray)
 fs : List FileP
def newOf (s : Dv) (y : HF) : List ByteArray := piecesOf (bytesOf s y (y.old / 256) y.blocks.length ++ y.added)
def planStep (s : Dv) (st : Option PlSt) (p : ByteArray × HF) : Option PlSt :=
 st.bind fun st => if p.2.added.size = 0 then some ⟨st.fr, st.l, st.fs ++ [⟨p.1, p.2.size, p.2.blocks⟩]⟩ else
  if st.fr.length < (newOf s p.2).length then none else
   some ⟨st.fr.drop (newOf s p.2).length, st.l ++ zipB st.fr (newOf s p.2), st.fs ++ [⟨p.1, p.2.size, p.2.blocks.take (p.2.old / 256) ++ st.fr.take (newOf s p.2).length⟩]⟩
def planK (s : Dv) (fr : List Int) (l : List (ByteArray × HF)) : Option PlSt := l.foldl (planStep s) (some ⟨fr, [], []⟩)
theorem planK_succ {s : Dv} {fr : List Int} {l : List (ByteArray × HF)} {k : Nat} (h : k < l.length) : planK s fr (l.take (k + 1)) = planStep s (planK s fr (l.take k)) l[k] := by
 unfold planK
 rw [List.take_succ_eq_append_getElem h, List.foldl_append]
 rfl
theorem planK_none (s : Dv) : ∀ l : List (ByteArray × HF), l.foldl (planStep s) none = none
 | [] => rfl
 | p :: l => by rw [List.foldl_cons]; exact planK_none s l
theorem planK_stop {s : Dv} {fr : List Int} {l : List (ByteArray × HF)} {k : Nat} (h : planK s fr (l.take k) = none) : planK s fr l = none := by
 have e : planK s fr l = (l.drop k).foldl (planStep s) (planK s fr (l.take k)) := by
  unfold planK
  rw [← List.foldl_append, List.take_append_drop]
 rw [e, h, planK_none]
theorem planK_len {s : Dv} {fr : List Int} : ∀ (l : List (ByteArray × HF)) (st : PlSt), planK s fr l = some st → st.fs.length = l.length ∧ st.l.length + st.fr.length = fr.length := by
 refine snoc_ind (P := fun l => ∀ st : PlSt, planK s fr l = some st → st.fs.length = l.length ∧ st.l.length + st.fr.length = fr.length) ?_ ?_
 ·rintro st h
  obtain rfl := Option.some.inj h
  exact ⟨rfl, by simp⟩
 ·intro l p ih st h
  have e : planK s fr (l ++ [p]) = planStep s (planK s fr l) p := by unfold planK; rw [List.foldl_append]; rfl
  rw [e] at h
  cases hp : planK s fr l with
  | none => rw [hp] at h; cases h
  | some st0 =>
   rw [hp] at h
   obtain ⟨i1, i2⟩ := ih st0 hp
   unfold planStep at h
   simp only [Option.bind_some] at h
   split at h
   ·obtain rfl := Option.some.inj h
    exact ⟨by simp [i1], i2⟩
   ·split at h
    ·cases h
    ·rename_i hn
     obtain rfl := Option.some.inj h
     refine ⟨by simp [i1], ?_⟩
     simp only [List.length_append, List.length_drop]
     rw [zipB_length (by omega)]
     omega
noncomputable def Fs.planE (x : Fs) (s : Dv) : Option (List (Nat × ByteArray) × RootP) :=
 (planK s (freeU x.safe s.safe.length) x.hand).bind fun st => if (encRt (min (s.safe.length : Int) 16384) ⟨x.safe.gen + 1, st.fs⟩).2 = 0 then some (st.l, ⟨x.safe.gen + 1, st.fs⟩) else none
structure HandOk (N : Nat) (l : List (ByteArray × HF)) : Prop where
 many : l.length ≤ 16384
 name : ∀ p ∈ l, p.1.size ≤ 4294967296
 blocks : ∀ p ∈ l, p.2.blocks.length = (p.2.old + 255) / 256
 old : ∀ p ∈ l, p.2.old ≤ 4194304
 inner : ∀ p ∈ l, ∀ q ∈ p.2.blocks, 32 ≤ q ∧ q < (N : Int)
 added : ∀ p ∈ l, p.2.added.size ≤ 4611686018427387904
theorem hget_rising {l : List (ByteArray × HF)} (h : l.Pairwise (fun p q => bytesBefore p.1.data.toList q.1.data.toList = true)) {k : Nat} (hk : k < l.length) : hget l l[k].1 = some l[k].2 := by
 have hirr : ∀ a : List UInt8, bytesBefore a a = false := by
  intro a
  induction a with
  | nil => rfl
  | cons c a ih => simp [bytesBefore, ih]
 unfold hget
 have hf : l.find? (fun p => p.1.data.toList == l[k].1.data.toList) = some l[k] := by
  rw [List.find?_eq_some_iff_getElem]
  refine ⟨by simp, k, hk, rfl, fun j hj => ?_⟩
  have h1 := (List.pairwise_iff_getElem.1 h) j k (by omega) hk hj
  have h2 : l[j].1.data.toList ≠ l[k].1.data.toList := fun e => by rw [e, hirr] at h1; cases h1
  simpa using h2
 rw [hf]
 rfl
end Pl
section
open Go.RowKit Go.Shelf
variable {D0 b6 b7 b11 base : Nat} {fz : Nat → Prop} {v0l v0b : Value} {nm : ByteArray} {sz : Int} {W2 X : World} {fr : List Int} {l : List (Nat × ByteArray)} {bl : List Int} {fp : Nat → Prop}
theorem via {p q : Prop} (h : p → q) (g : p) : q := h g
theorem Pl.freeU_pos {r : Pl.RootP} {n : Nat} {q : Int} (h : q ∈ Pl.freeU r n) : 32 ≤ q ∧ q < (n : Int) ∧ q ∉ Pl.flatB r.files := by
 unfold Pl.freeU at h
 obtain ⟨b, hb, rfl⟩ := List.mem_map.1 h
 obtain ⟨h1, h2⟩ := List.mem_filter.1 hb
 unfold Pl.okF at h2
 simp only [Bool.and_eq_true, decide_eq_true_eq, Bool.not_eq_true', decide_eq_false_iff_not] at h2
 have h3 := List.mem_range.1 h1
 exact ⟨by omega, by omega, h2.2⟩
theorem Pl.planK_fr {s : Pl.Dv} {fr : List Int} : ∀ (l : List (ByteArray × Pl.HF)) (st : Pl.PlSt), Pl.planK s fr l = some st → st.fr = fr.drop (fr.length - st.fr.length) := by
 refine Pl.snoc_ind (P := fun l => ∀ st : Pl.PlSt, Pl.planK s fr l = some st → st.fr = fr.drop (fr.length - st.fr.length)) ?_ ?_
 ·rintro st h
  obtain rfl := Option.some.inj h
  simp
 ·intro l p ih st h
  have e : Pl.planK s fr (l ++ [p]) = Pl.planStep s (Pl.planK s fr l) p := by unfold Pl.planK; rw [List.foldl_append]; rfl
  rw [e] at h
  cases hp : Pl.planK s fr l with
  | none => rw [hp] at h; cases h
  | some st0 =>
   rw [hp] at h
   have i1 := ih st0 hp
   have i2 := (Pl.planK_len _ _ hp).2
   unfold Pl.planStep at h
   simp only [Option.bind_some] at h
   split at h
   ·obtain rfl := Option.some.inj h
    exact i1
   ·split at h
    ·cases h
    ·rename_i hn
     obtain rfl := Option.some.inj h
     simp only [List.length_drop]
     conv => lhs; rw [i1]
     rw [List.drop_drop]
     congr 1
     omega
theorem step_app1 {P : Program} {ops : Array Oper} {o : Oper} {a : Act} {K : Act → World → Prop} {Q : Exit → Act → World → Prop} {E : Prop} (hgd : o.guard = none) (s x : Operand) (t : TypeId)
  (ho : o.op = .call { callee := .builtin .append, args := #[s, x], argTypes := #[t, t] })
  (B : Nat) (e : TypeId) (z : Value) (size bytes : Nat) (ht : P.underlying t = some (.slice e)) (hi : (P.info? e).map (fun i => (i.zero, i.size, i.bytes)) = some (some z, size, bytes)) (hzs : z.cells.size = size) (hsz : 0 < size)
  (v : Value) (k : Nat) (xs : List Value) (w0 : World) (hr : w0.ownsRow B e size v k xs) (hB : B ≤ w0.heap.size) (hs : a.eval s = v) (cs : Array Value) (et : TypeId)
  (hx : a.eval x = .slice (some ⟨w0.heap.size, 0, none⟩) 1 1) (hl : cs.size = size) (h1 : ∀ u ∈ cs.toList, u.oneCell' = true) (h63 : (k + 1) * bytes ≤ 140737488355328) (hb0 : 0 < bytes)
  (h : ∀ g cap w', w'.ownsRow B e size (.slice (some ⟨g, 0, none⟩) (k + 1) cap) (k + 1) (xs ++ cs.toList) → (w0.alloc (.cells cs et)).grownBy w' v.ownBlock → (v.ownBlock = some g ∨ w0.heap.size ≤ g) → g < w'.heap.size →
   K (a.put o.dst (.slice (some ⟨g, 0, none⟩) (k + 1) cap)) w') : if Region.wanted o (yielded ops a.tmps) = true then Oper.wp P o a (w0.alloc (.cells cs et)).drew K Q else E := by
 have hw : Region.wanted o (yielded ops a.tmps) = true := by simp [Region.wanted, hgd]
 rw [if_pos hw]
 obtain ⟨i, hi', hz0, hz1, hz2⟩ := info_parts hi
 have hk : k + 1 ≤ 140737488355328 := Nat.le_trans (Nat.le_mul_of_pos_right (k + 1) hb0) h63
 obtain ⟨v', w', hr', hown', hgrow, _, hat⟩ := run_append_own_at (P := P) (w0.alloc (.cells cs et)).drew B t o.type e i z size bytes ht hi' hz0 hz1 hz2 hzs hsz v k xs ((hr.alloc _).drew) ⟨w0.heap.size, 0, none⟩ 1 1 cs.toList (by simpa using hl) (by
  intro j u hj
  have hw : (w0.alloc (.cells cs et)).drew.cell? ⟨w0.heap.size, j, none⟩ = cs[j]? := World.cell?_alloc_mark w0 cs et (0, 0) j
  have ha : (⟨w0.heap.size, 0, none⟩ : Addr).add j = ⟨w0.heap.size, j, none⟩ := by rw [Addr.add_lit]; simp
  rw [ha, hw, ← Array.getElem?_toList]; exact hj) h1 (by unfold maxLen; omega) h63 (by simp; omega)
 unfold Oper.wp execOp
 simp only [ho, resolve, invoke, builtin, Sem.run_bind, Sem.run_pure, Result.andThen_ok, List.map_toArray, List.map_cons, List.map_nil, hs, hx, hr']
 obtain ⟨g, cap, rfl⟩ := ownsRow_succ hown'
 refine h g cap w' hown' ⟨hgrow.os, hgrow.tape, hgrow.output, hgrow.size, hgrow.block⟩ ?_ (hown'.lt g rfl).2
 rcases hat with hat | hat
 ·exact .inl hat.symm
 ·right
  have : g = (w0.alloc (.cells cs et)).drew.heap.size := by simpa [Value.ownBlock] using hat
  simp at this
  omega
structure PlC (D0 b6 b7 b11 : Nat) (fz : Nat → Prop) (v0l v0b : Value) : Prop where
 l6 : b6 < D0
 l7 : b7 < D0
 l11 : b11 < D0
 n67 : b6 ≠ b7
 n6 : b6 ≠ b11
 n7 : b7 ≠ b11
 fz : ∀ z, fz z → z < D0 ∧ z ≠ b6 ∧ z ≠ b7 ∧ z ≠ b11 ∧ v0l.ownBlock ≠ some z ∧ v0b.ownBlock ≠ some z
def PlI (D0 b6 b7 b11 base : Nat) (fz : Nat → Prop) (v0l v0b : Value) (nm : ByteArray) (sz : Int) (W2 : World) (fr : List Int) (l : List (Nat × ByteArray)) (bl : List Int) (fp : Nat → Prop) (X : World) : Prop :=
 (∀ z, z < D0 → fp z) ∧ (∃ v6, Boxed X b6 74 v6 ∧ IntsF fz X v6 fr) ∧
 (∃ vl, Boxed X b7 122 vl ∧ X.ownsRow base 140 2 vl l.length (wcells l) ∧ ∀ q, vl.ownBlock = some q → fp q ∧ (v0l.ownBlock = some q ∨ D0 ≤ q)) ∧
 (∃ vb, Blk X b11 #[.string nm, .int .i64 sz, vb] 76 ∧ X.ownsRow base 3 1 vb bl.length (icells4 bl) ∧ ∀ q, vb.ownBlock = some q → fp q ∧ (v0b.ownBlock = some q ∨ D0 ≤ q)) ∧
 Keep (fun z => z < D0 ∧ z ≠ b6 ∧ z ≠ b7 ∧ z ≠ b11 ∧ v0l.ownBlock ≠ some z ∧ v0b.ownBlock ≠ some z) W2 X
theorem PlI.keep (hC : PlC D0 b6 b7 b11 fz v0l v0b) (h : PlI D0 b6 b7 b11 base fz v0l v0b nm sz W2 fr l bl fp X) {X' : World} (hk : Keep fp X X') : PlI D0 b6 b7 b11 base fz v0l v0b nm sz W2 fr l bl fp X' := by
 obtain ⟨hf, ⟨v6, h6, hi⟩, ⟨vl, h7, hl, hql⟩, ⟨vb, h11, hb, hqb⟩, hkp⟩ := h
 exact ⟨hf, ⟨v6, hk.boxed (hf _ hC.l6) h6, hi.keep (hk.mono (fun q hq _ => hf q (hC.fz q hq).1)) (fun _ h => h)⟩, ⟨vl, hk.boxed (hf _ hC.l7) h7, hk.ownsRow hl (fun q e => (hql q e).1), hql⟩, ⟨vb, h11.keep hk (hf _ hC.l11), hk.ownsRow hb (fun q e => (hqb q e).1), hqb⟩, hkp.trans hk (fun z hz _ => hf z hz.1)⟩
theorem PlI.putL (hC : PlC D0 b6 b7 b11 fz v0l v0b) (hlt : ∀ z, fp z → z < X.heap.size) (hD : D0 ≤ X.heap.size) {v6 vl vb : Value} (hf : ∀ z, z < D0 → fp z) (h6 : Boxed X b6 74 v6) (hi : IntsF fz X v6 fr) (h7 : Boxed X b7 122 vl)
  (hl : X.ownsRow base 140 2 vl l.length (wcells l)) (hql : ∀ q, vl.ownBlock = some q → fp q ∧ (v0l.ownBlock = some q ∨ D0 ≤ q)) (h11 : Blk X b11 #[.string nm, .int .i64 sz, vb] 76) (hb : X.ownsRow base 3 1 vb bl.length (icells4 bl))
  (hqb : ∀ q, vb.ownBlock = some q → fp q ∧ (v0b.ownBlock = some q ∨ D0 ≤ q)) (hkp : Keep (fun z => z < D0 ∧ z ≠ b6 ∧ z ≠ b7 ∧ z ≠ b11 ∧ v0l.ownBlock ≠ some z ∧ v0b.ownBlock ≠ some z) W2 X)
  {w1 : World} {tmp : Obj} {g cap : Nat} (p : Nat × ByteArray) (hown : w1.ownsRow base 140 2 (.slice (some ⟨g, 0, none⟩) (l.length + 1) cap) (l.length + 1) (wcells l ++ (#[.int .i64 (p.1 : Int), .string p.2] : Array Value).toList))
  (hgrow : (X.alloc tmp).grownBy w1 vl.ownBlock) (hat : vl.ownBlock = some g ∨ X.heap.size ≤ g) (hg : g < w1.heap.size) :
  Boxed w1 b7 122 vl ∧ ∀ X2, X2 = w1.setCell ⟨b7, 0, none⟩ (.slice (some ⟨g, 0, none⟩) (l.length + 1) cap) → PlI D0 b6 b7 b11 base fz v0l v0b nm sz W2 fr (l ++ [p]) bl (fun z => fp z ∨ z = g) X2 ∧ Step fp (fun z => fp z ∨ z = g) X X2 := by
 have n6 := h6.not_row (by decide) hl
 have n7 := h7.not_row (by decide) hl
 have n11 := h11.not_row (by decide) hl
 have kg : Keep (fun q => vl.ownBlock ≠ some q) X w1 := keep_app hgrow
 have v1 : Boxed w1 b7 122 vl := kg.boxed (fun e => n7 e.symm) h7
 refine ⟨v1, ?_⟩
 rintro X2 rfl
 have hg7 : g ≠ b7 := fun e => v1.not_row (by decide) hown (by rw [e]; rfl)
 have k7 := keep_set w1 b7 0 (.slice (some ⟨g, 0, none⟩) (l.length + 1) cap)
 have kX : Keep (fun z => z ≠ b7 ∧ vl.ownBlock ≠ some z) X (w1.setCell ⟨b7, 0, none⟩ (.slice (some ⟨g, 0, none⟩) (l.length + 1) cap)) :=
  (kg.mono (fun z hz _ => hz.2)).trans k7 (fun z hz _ => hz.1)
 have hnl : ∀ q, v0l.ownBlock ≠ some q → q < D0 → vl.ownBlock ≠ some q := fun q h1 h2 e => by
  rcases (hql q e).2 with h | h
  ·exact h1 h
  ·omega
 have hz : (w1.setCell ⟨b7, 0, none⟩ (.slice (some ⟨g, 0, none⟩) (l.length + 1) cap)).heap.size = w1.heap.size := by simp [World.setCell]
 have hsz : X.heap.size ≤ w1.heap.size := kg.size
 refine ⟨⟨fun z hz => .inl (hf z hz), ⟨v6, kX.boxed ⟨hC.n67, fun e => n6 e.symm⟩ h6, hi.keep (kX.mono (fun q hq _ => ⟨(hC.fz q hq).2.2.1, hnl q (hC.fz q hq).2.2.2.2.1 (hC.fz q hq).1⟩)) (fun _ h => h)⟩, ⟨_, v1.set _, ?_, ?_⟩,
  ⟨vb, h11.keep kX ⟨hC.n7.symm, fun e => n11 e.symm⟩, kX.ownsRow hb (fun q e => ⟨fun e2 => h7.not_row (by decide) hb (by rw [← e2, e]), fun e2 => rows_apart hl hb (by decide) e2 e⟩), fun q e => ⟨.inl (hqb q e).1, (hqb q e).2⟩⟩, ?_⟩, ⟨?_, ?_, ?_⟩⟩
 ·have := k7.ownsRow hown (fun q e => (show g = q by simpa [Value.ownBlock] using e) ▸ hg7)
  rw [List.length_append, List.length_singleton, wcells_append]
  exact this
 ·intro q e
  have e2 : g = q := by simpa [Value.ownBlock] using e
  subst e2
  refine ⟨.inr rfl, ?_⟩
  rcases hat with h | h
  ·exact (hql g h).2
  ·right; omega
 ·exact hkp.trans kX (fun z hz _ => ⟨hz.2.2.1, hnl z hz.2.2.2.2.1 hz.1⟩)
 ·exact kX.mono (fun z hz _ => ⟨fun e => hz (e ▸ hf _ hC.l7), fun e => hz (hql z e).1⟩)
 ·rintro z (h | rfl)
  ·exact .inl h
  ·rcases hat with h | h
   ·exact .inl (hql z h).1
   ·exact .inr h
 ·rintro z (h | rfl)
  ·rw [hz]; have := hlt z h; omega
  ·rw [hz]; exact hg
theorem PlI.putB (hC : PlC D0 b6 b7 b11 fz v0l v0b) (hlt : ∀ z, fp z → z < X.heap.size) (hD : D0 ≤ X.heap.size) {v6 vl vb : Value} (hf : ∀ z, z < D0 → fp z) (h6 : Boxed X b6 74 v6) (hi : IntsF fz X v6 fr) (h7 : Boxed X b7 122 vl)
  (hl : X.ownsRow base 140 2 vl l.length (wcells l)) (hql : ∀ q, vl.ownBlock = some q → fp q ∧ (v0l.ownBlock = some q ∨ D0 ≤ q)) (h11 : Blk X b11 #[.string nm, .int .i64 sz, vb] 76) (hb : X.ownsRow base 3 1 vb bl.length (icells4 bl))
  (hqb : ∀ q, vb.ownBlock = some q → fp q ∧ (v0b.ownBlock = some q ∨ D0 ≤ q)) (hkp : Keep (fun z => z < D0 ∧ z ≠ b6 ∧ z ≠ b7 ∧ z ≠ b11 ∧ v0l.ownBlock ≠ some z ∧ v0b.ownBlock ≠ some z) W2 X)
  {w1 : World} {tmp : Obj} {g cap : Nat} (p : Int) (hown : w1.ownsRow base 3 1 (.slice (some ⟨g, 0, none⟩) (bl.length + 1) cap) (bl.length + 1) (icells4 bl ++ (#[.int .i64 p] : Array Value).toList))
  (hgrow : (X.alloc tmp).grownBy w1 vb.ownBlock) (hat : vb.ownBlock = some g ∨ X.heap.size ≤ g) (hg : g < w1.heap.size) :
  Blk w1 b11 #[.string nm, .int .i64 sz, vb] 76 ∧ ∀ X2, X2 = w1.setCell ⟨b11, 2, none⟩ (.slice (some ⟨g, 0, none⟩) (bl.length + 1) cap) → PlI D0 b6 b7 b11 base fz v0l v0b nm sz W2 fr l (bl ++ [p]) (fun z => fp z ∨ z = g) X2 ∧ Step fp (fun z => fp z ∨ z = g) X X2 := by
 have n6 := h6.not_row (by decide) hb
 have n7 := h7.not_row (by decide) hb
 have n11 := h11.not_row (by decide) hb
 have kg : Keep (fun q => vb.ownBlock ≠ some q) X w1 := keep_app hgrow
 have v1 : Blk w1 b11 #[.string nm, .int .i64 sz, vb] 76 := h11.keep kg (fun e => n11 e.symm)
 refine ⟨v1, ?_⟩
 rintro X2 rfl
 have hg11 : g ≠ b11 := fun e => v1.not_row (by decide) hown (by rw [e]; rfl)
 have k11 := keep_set w1 b11 2 (.slice (some ⟨g, 0, none⟩) (bl.length + 1) cap)
 have kX : Keep (fun z => z ≠ b11 ∧ vb.ownBlock ≠ some z) X (w1.setCell ⟨b11, 2, none⟩ (.slice (some ⟨g, 0, none⟩) (bl.length + 1) cap)) :=
  (kg.mono (fun z hz _ => hz.2)).trans k11 (fun z hz _ => hz.1)
 have hnl : ∀ q, v0b.ownBlock ≠ some q → q < D0 → vb.ownBlock ≠ some q := fun q h1 h2 e => by
  rcases (hqb q e).2 with h | h
  ·exact h1 h
  ·omega
 have hz : (w1.setCell ⟨b11, 2, none⟩ (.slice (some ⟨g, 0, none⟩) (bl.length + 1) cap)).heap.size = w1.heap.size := by simp [World.setCell]
 have hsz : X.heap.size ≤ w1.heap.size := kg.size
 refine ⟨⟨fun z hz => .inl (hf z hz), ⟨v6, kX.boxed ⟨hC.n6, fun e => n6 e.symm⟩ h6, hi.keep (kX.mono (fun q hq _ => ⟨(hC.fz q hq).2.2.2.1, hnl q (hC.fz q hq).2.2.2.2.2 (hC.fz q hq).1⟩)) (fun _ h => h)⟩,
  ⟨vl, kX.boxed ⟨hC.n7, fun e => n7 e.symm⟩ h7, kX.ownsRow hl (fun q e => ⟨fun e2 => h11.not_row (by decide) hl (by rw [← e2, e]), fun e2 => rows_apart hb hl (by decide) e2 e⟩), fun q e => ⟨.inl (hql q e).1, (hql q e).2⟩⟩, ⟨.slice (some ⟨g, 0, none⟩) (bl.length + 1) cap, ?_, ?_, ?_⟩, ?_⟩, ⟨?_, ?_, ?_⟩⟩
 ·have := v1.set 2 (.slice (some ⟨g, 0, none⟩) (bl.length + 1) cap)
  simpa using this
 ·have := k11.ownsRow hown (fun q e => (show g = q by simpa [Value.ownBlock] using e) ▸ hg11)
  rw [List.length_append, List.length_singleton, ← icells4_snoc]
  exact this
 ·intro q e
  have e2 : g = q := by simpa [Value.ownBlock] using e
  subst e2
  refine ⟨.inr rfl, ?_⟩
  rcases hat with h | h
  ·exact (hqb g h).2
  ·right; omega
 ·exact hkp.trans kX (fun z hz _ => ⟨hz.2.2.2.1, hnl z hz.2.2.2.2.2 hz.1⟩)
 ·exact kX.mono (fun z hz _ => ⟨fun e => hz (e ▸ hf _ hC.l11), fun e => hz (hqb z e).1⟩)
 ·rintro z (h | rfl)
  ·exact .inl h
  ·rcases hat with h | h
   ·exact .inl (hqb z h).1
   ·exact .inr h
 ·rintro z (h | rfl)
  ·rw [hz]; have := hlt z h; omega
  ·rw [hz]; exact hg
theorem PlI.cut (hC : PlC D0 b6 b7 b11 fz v0l v0b) (hlt : ∀ z, fp z → z < X.heap.size) {a : Int} {v6' : Value} (h : PlI D0 b6 b7 b11 base fz v0l v0b nm sz W2 (a :: fr) l bl fp X) (hi : IntsF fz X v6' fr) :
  PlI D0 b6 b7 b11 base fz v0l v0b nm sz W2 fr l bl fp (X.setCell ⟨b6, 0, none⟩ v6') ∧ Step fp fp X (X.setCell ⟨b6, 0, none⟩ v6') := by
 obtain ⟨hf, ⟨v6, h6, hi0⟩, ⟨vl, h7, hl, hql⟩, ⟨vb, h11, hb, hqb⟩, hkp⟩ := h
 have k6 := keep_set X b6 0 v6'
 have hz : (X.setCell ⟨b6, 0, none⟩ v6').heap.size = X.heap.size := by simp [World.setCell]
 exact ⟨⟨hf, ⟨v6', h6.set _, hi.keep (k6.mono (fun q hq _ => (hC.fz q hq).2.1)) (fun _ h => h)⟩, ⟨vl, k6.boxed hC.n67.symm h7, k6.ownsRow hl (fun q e e2 => h6.not_row (by decide) hl (by rw [← e2, e])), hql⟩, ⟨vb, h11.keep k6 hC.n6.symm, k6.ownsRow hb (fun q e e2 => h6.not_row (by decide) hb (by rw [← e2, e])), hqb⟩, hkp.trans k6 (fun z hz _ => hz.2.1)⟩,
  ⟨k6.mono (fun z hz _ e => hz (e ▸ hf _ hC.l6)), fun z hz => .inl hz, fun z h2 => by rw [hz]; exact hlt z h2⟩⟩
theorem IntsF.rest {fpz : Nat → Prop} {a : Int} {r : List Int} {ao : Option Addr} {cap : Nat} (h : IntsF fpz X (.slice ao (a :: r).length cap) (a :: r)) :
  ∃ g off, ao = some ⟨g, off, none⟩ ∧ fpz g ∧ g < X.heap.size ∧ X.cell? ⟨g, off, none⟩ = some (.int .i64 a) ∧ (a :: r).length ≤ cap ∧ cap ≤ 9223372036854775807 ∧
   IntsF fpz X (.slice (if cap = 1 then some ⟨g, off, none⟩ else some ⟨g, off + 1, none⟩) r.length (cap - 1)) r := by
 obtain ⟨⟨ao', cap', e, h1, h2, hc⟩, hf⟩ := h
 injection e with e _ e3
 subst e e3
 obtain ⟨g, off, rfl, hg, hx⟩ := hc (by simp)
 have h0 := hx 0 (by simp)
 refine ⟨g, off, rfl, hf (by simp) g rfl, hg, by simpa using h0, h1, h2, ?_⟩
 have hl : r.length + 1 ≤ cap := by simpa using h1
 refine ⟨⟨_, cap - 1, rfl, by omega, by omega, fun hr => ?_⟩, fun hr q e => ?_⟩
 ·have hc1 : ¬ cap = 1 := by omega
  rw [if_neg hc1]
  refine ⟨g, off + 1, rfl, hg, fun i hi => ?_⟩
  have := hx (i + 1) (by simpa using hi)
  rw [show off + 1 + i = off + (i + 1) by omega]
  simpa using this
 ·have hc1 : ¬ cap = 1 := by omega
  rw [if_neg hc1] at e
  have e2 : g = q := by simpa [Value.ownBlock] using e
  exact e2 ▸ hf (by simp) g rfl
end
section
open Go.RowKit Go.Shelf
attribute [local go_sem] Oper.semAt_some
variable {B Bd Bl f d m : Nat} {vf vl vr : Value} {x : Pl.Fs} {s : Pl.Dv} {rp rp2 fp fpd : Nat → Prop} {W W' : World}
theorem ownsRow_form {W : World} {Bq : Nat} {e : TypeId} {sz n : Nat} {v : Value} {xs : List Value} (h : W.ownsRow Bq e sz v n xs) : ∃ a c, v = .slice a n c := by
 rcases h.2 with ⟨e, h0⟩ | ⟨g, cap, cur, e, _⟩
 ·exact ⟨none, 0, by rw [e, h0]⟩
 ·exact ⟨_, _, e⟩
open Go.Maps in
theorem hand_at {l : List (ByteArray × Pl.HF)} (h : HandAt rp W m l) {nm : ByteArray} (hs : nm.size ≤ maxLen) {y : Pl.HF} (hg : Pl.hget l nm = some y) :
  ∃ (a : Option Addr) (c : Nat), (Instr.lookup 84 (.map (some m)) (.string nm) false).run Tryz.prog W = .ok (.agg #[.slice a y.blocks.length c, .int .i64 (y.old : Int), .string y.added]) W ∧ IntsF rp W (.slice a y.blocks.length c) y.blocks := by
 obtain ⟨v, ps, hrun, hv⟩ := World.ownsMap.lookup h str_law Tryz.underlying84 (zero_file W) (RF_mk (FileV.zero rp W)) (key_of hs)
 rw [Pl.toD_at, hg] at hv
 obtain ⟨y', ⟨u, rfl, hu⟩, e⟩ := RF_inv hv
 injection e with e _
 injection e with e
 simp only [Option.getD_some] at e
 subst e
 obtain ⟨a, c, rfl, h1, h2, h3⟩ := id hu.1
 exact ⟨a, c, hrun, hu⟩
structure PlanW (B5 b6 b7 base : Nat) (gen : Int) (rp0 : Nat → Prop) (w6 : World) (st : Pl.PlSt) (fz : Nat → Prop) (v6 vl vfs : Value) (fl : List (Pl.FileP × Value)) (X : World) : Prop where
 box6 : Boxed X b6 74 v6
 free : IntsF fz X v6 st.fr
 box7 : Boxed X b7 122 vl
 lrow : X.ownsRow base 140 2 vl st.l.length (wcells st.l)
 root : Blk X B5 #[.int .u64 gen, vfs] 71
 frow : X.ownsRow base 76 3 vfs fl.length (fcells4 fl)
 files : fl.map (·.1) = st.fs
 ints : ∀ y ∈ fl, IntsF fz X y.2 y.1.blocks
 keep : Keep (fun q => q < base ∧ q ≠ b6 ∧ q ≠ b7 ∧ q ≠ B5) w6 X
 fzs : ∀ q, fz q → q < X.heap.size ∧ q ≠ b6 ∧ q ≠ b7 ∧ q ≠ B5 ∧ vl.ownBlock ≠ some q ∧ vfs.ownBlock ≠ some q
 sub : ∀ q, rp0 q → fz q
 new : ∀ q, fz q → rp0 q ∨ B5 < q
theorem PlanW.keepAll {B5 b6 b7 base : Nat} {gen : Int} {rp0 : Nat → Prop} {w6 : World} {st : Pl.PlSt} {fz : Nat → Prop} {v6 vl vfs : Value} {fl : List (Pl.FileP × Value)} {X X' : World} (h : PlanW B5 b6 b7 base gen rp0 w6 st fz v6 vl vfs fl X) (hk : Keep (fun q => q < X.heap.size) X X') :
  PlanW B5 b6 b7 base gen rp0 w6 st fz v6 vl vfs fl X' :=
 ⟨hk.boxed h.box6.lt h.box6, h.free.keep (hk.mono (fun q _ hl => hl)) (fun _ h => h), hk.boxed h.box7.lt h.box7, hk.ownsRow h.lrow (fun q e => (h.lrow.lt q e).2), h.root.keep hk h.root.lt, hk.ownsRow h.frow (fun q e => (h.frow.lt q e).2), h.files, fun y hy => (h.ints y hy).keep (hk.mono (fun q _ hl => hl)) (fun _ h => h), h.keep.trans hk (fun q hq hl => Nat.lt_of_lt_of_le hl h.keep.size), fun q hq => ⟨Nat.lt_of_lt_of_le (h.fzs q hq).1 hk.size, (h.fzs q hq).2⟩, h.sub, h.new⟩
theorem PlanW.app {B5 b6 b7 base : Nat} {gen : Int} {rp0 : Nat → Prop} {w6 : World} {st : Pl.PlSt} {fz fz2 : Nat → Prop} {v6 vl vfs : Value} {fl : List (Pl.FileP × Value)} {X w1 : World} (h : PlanW B5 b6 b7 base gen rp0 w6 st fz v6 vl vfs fl X) (h56 : B5 ≠ b6) (h57 : B5 ≠ b7) (hb5 : base ≤ X.heap.size)
  (hs : ∀ q, fz q → fz2 q) (hn2 : ∀ q, fz2 q → rp0 q ∨ B5 < q) (hf2 : ∀ q, fz2 q → q < X.heap.size ∧ q ≠ b6 ∧ q ≠ b7 ∧ q ≠ B5 ∧ vl.ownBlock ≠ some q ∧ vfs.ownBlock ≠ some q) (y : Pl.FileP) (vb : Value) (hy : IntsF fz2 X vb y.blocks) {tmp : Obj} {g cap : Nat}
  (hown : w1.ownsRow base 76 3 (.slice (some ⟨g, 0, none⟩) (fl.length + 1) cap) (fl.length + 1) (fcells4 fl ++ (#[.string y.name, .int .i64 y.size, vb] : Array Value).toList)) (hgrow : (X.alloc tmp).grownBy w1 vfs.ownBlock) (hat : vfs.ownBlock = some g ∨ X.heap.size ≤ g) (hg : g < w1.heap.size) :
  Blk w1 B5 #[.int .u64 gen, vfs] 71 ∧ ∀ X2, X2 = w1.setCell ⟨B5, 1, none⟩ (.slice (some ⟨g, 0, none⟩) (fl.length + 1) cap) → PlanW B5 b6 b7 base gen rp0 w6 ⟨st.fr, st.l, st.fs ++ [y]⟩ fz2 v6 vl (.slice (some ⟨g, 0, none⟩) (fl.length + 1) cap) (fl ++ [(y, vb)]) X2 ∧ Keep (fun q => q ≠ B5 ∧ vfs.ownBlock ≠ some q) X X2 := by
 have n5 := h.root.not_row (by decide) h.frow
 have n6 := h.box6.not_row (by decide) h.frow
 have n7 := h.box7.not_row (by decide) h.frow
 have kg : Keep (fun q => vfs.ownBlock ≠ some q) X w1 := keep_app hgrow
 have v1 : Blk w1 B5 #[.int .u64 gen, vfs] 71 := h.root.keep kg (fun e => n5 e.symm)
 refine ⟨v1, ?_⟩
 rintro X2 rfl
 have hg5 : g ≠ B5 := fun e => v1.not_row (by decide) hown (by rw [e]; rfl)
 have k5 := keep_set w1 B5 1 (.slice (some ⟨g, 0, none⟩) (fl.length + 1) cap)
 have kX : Keep (fun z => z ≠ B5 ∧ vfs.ownBlock ≠ some z) X (w1.setCell ⟨B5, 1, none⟩ (.slice (some ⟨g, 0, none⟩) (fl.length + 1) cap)) :=
  (kg.mono (fun z hz _ => hz.2)).trans k5 (fun z hz _ => hz.1)
 have kf := kX.mono (fp' := fz2) (fun q hq _ => ⟨(hf2 q hq).2.2.2.1, (hf2 q hq).2.2.2.2.2⟩)
 have hy2 := hy.keep kf (fun _ h => h)
 refine ⟨⟨kX.boxed ⟨h56.symm, fun e => n6 e.symm⟩ h.box6, h.free.keep (kf.mono (fun q hq _ => hs q hq)) hs, kX.boxed ⟨h57.symm, fun e => n7 e.symm⟩ h.box7, kX.ownsRow h.lrow (fun q e => ⟨fun e2 => h.root.not_row (by decide) h.lrow (by rw [← e2, e]), fun e2 => rows_apart h.frow h.lrow (by decide) e2 e⟩), ?_, ?_, by rw [List.map_append, h.files]; rfl, ?_, ?_, ?_, fun q hq => hs q (h.sub q hq), hn2⟩, kX⟩
 ·have := v1.set 1 (.slice (some ⟨g, 0, none⟩) (fl.length + 1) cap)
  simpa using this
 ·have := k5.ownsRow hown (fun q e => (show g = q by simpa [Value.ownBlock] using e) ▸ hg5)
  rw [List.length_append, List.length_singleton, fcells4_append]
  exact this
 ·intro z hz
  rcases List.mem_append.1 hz with hz | hz
  ·exact (h.ints z hz).keep (kf.mono (fun q hq _ => hs q hq)) hs
  ·obtain rfl := List.mem_singleton.1 hz
   exact hy2
 ·exact h.keep.trans kX (fun q hq _ => ⟨hq.2.2.2, fun e => by have := (h.frow.lt q e).1; omega⟩)
 ·intro q hq
  obtain ⟨a1, a2, a3, a4, a5, a6⟩ := hf2 q hq
  refine ⟨Nat.lt_of_lt_of_le a1 kX.size, a2, a3, a4, a5, fun e => ?_⟩
  have e2 : g = q := by simpa [Value.ownBlock] using e
  rcases hat with h1 | h1
  ·exact a6 (e2 ▸ h1)
  ·omega
theorem IntsAt.upto {X : World} {a : Option Addr} {c : Nat} {l : List Int} (h : IntsAt X (.slice a l.length c) l) {q : Nat} (hq : q ≤ l.length) : IntsAt X (.slice a q c) (l.take q) := by
 obtain ⟨ao, cap, e, h1, h2, hc⟩ := h
 injection e with e _ e3
 subst e e3
 have hl : (l.take q).length = q := by rw [List.length_take]; omega
 refine ⟨a, c, by rw [hl], by omega, h2, fun h0 => ?_⟩
 obtain ⟨b, off, rfl, hb, hx⟩ := hc (by omega)
 exact ⟨b, off, rfl, hb, fun i hi => by rw [List.getElem_take]; exact hx i (by omega)⟩
theorem mark_not_row {X : World} {D : Nat} (h : X.heap[D]? = some (.deferred (some []))) {Bq sz n : Nat} {e : TypeId} {v : Value} {xs : List Value} (hr : X.ownsRow Bq e sz v n xs) : v.ownBlock ≠ some D := by
 intro hv
 rcases hr.2 with ⟨rfl, _⟩ | ⟨g, cap, cur, rfl, _, hg, _⟩
 ·cases hv
 ·have : g = D := by simpa [Value.ownBlock] using hv
  rw [this, h] at hg
  cases hg
theorem PlanW.ofI {B5 b6 b7 b11 D0 base : Nat} {gen : Int} {rp0 : Nat → Prop} {w6 : World} {st : Pl.PlSt} {fz fp : Nat → Prop} {v6 v0l v0b vfs : Value} {fl : List (Pl.FileP × Value)} {XF Z : World} {nm : ByteArray} {sz : Int} {fr bl : List Int} {l : List (Nat × ByteArray)}
  (h : PlanW B5 b6 b7 base gen rp0 w6 st fz v6 v0l vfs fl XF) (hC : PlC D0 b6 b7 b11 fz v0l v0b) (hI : PlI D0 b6 b7 b11 base fz v0l v0b nm sz XF fr l bl fp Z) (hD0 : D0 ≤ XF.heap.size) (h56 : B5 ≠ b6) (h57 : B5 ≠ b7) (hB5 : B5 < base) (hb11 : base ≤ b11) (hfr : ∀ q, vfs.ownBlock = some q → q < b11) (hvb : ∀ q, v0b.ownBlock = some q → b11 < q) :
  ∃ v6' vl vb, PlanW B5 b6 b7 base gen rp0 w6 ⟨fr, l, st.fs⟩ fz v6' vl vfs fl Z ∧ Blk Z b11 #[.string nm, .int .i64 sz, vb] 76 ∧ Z.ownsRow base 3 1 vb bl.length (icells4 bl) ∧ (∀ q, vb.ownBlock = some q → fp q) ∧
   (∀ q, (fz q ∨ vb.ownBlock = some q) → q < Z.heap.size ∧ q ≠ b6 ∧ q ≠ b7 ∧ q ≠ B5 ∧ vl.ownBlock ≠ some q ∧ vfs.ownBlock ≠ some q) ∧ IntsF (fun q => fz q ∨ vb.ownBlock = some q) Z vb bl ∧ (∀ D, D < b11 → w6.heap.size ≤ D → base ≤ w6.heap.size → b6 < base → b7 < base → XF.heap[D]? = some (.deferred (some [])) → Z.heap[D]? = some (.deferred (some []))) := by
 obtain ⟨hf, ⟨v6', h6, hi⟩, ⟨vl, h7, hl, hql⟩, ⟨vb, h11, hb, hqb⟩, hkp⟩ := hI
 have hzz := hkp.size
 have hl11 := hC.l11
 have n6 := h.box6.not_row (by decide) h.frow
 have n7 := h.box7.not_row (by decide) h.frow
 have hfrow : Z.ownsRow base 76 3 vfs fl.length (fcells4 fl) := hkp.ownsRow h.frow (fun q e => by
  have := hfr q e
  refine ⟨by omega, fun e2 => n6 (by rw [← e2, e]), fun e2 => n7 (by rw [← e2, e]), by omega, fun e2 => rows_apart h.frow h.lrow (by decide) e e2, fun e2 => by have := hvb q e2; omega⟩)
 have hroot : Blk Z B5 #[.int .u64 gen, vfs] 71 := h.root.keep hkp ⟨by omega, h56, h57, by omega, fun e => by have := (h.lrow.lt B5 e).1; omega, fun e => by have := hvb B5 e; omega⟩
 have hfz : ∀ q, fz q → q < Z.heap.size ∧ q ≠ b6 ∧ q ≠ b7 ∧ q ≠ B5 ∧ vl.ownBlock ≠ some q ∧ vfs.ownBlock ≠ some q := fun q hq => by
  obtain ⟨a1, a2, a3, a4, a5, a6⟩ := hC.fz q hq
  refine ⟨by omega, a2, a3, (h.fzs q hq).2.2.2.1, fun e => ?_, (h.fzs q hq).2.2.2.2.2⟩
  rcases (hql q e).2 with h1 | h1
  ·exact a5 h1
  ·omega
 refine ⟨v6', vl, vb, ⟨h6, hi, h7, hl, hroot, hfrow, h.files, ?_, ?_, hfz, h.sub, h.new⟩, h11, hb, fun q e => (hqb q e).1, ?_, ⟨IOwn.at hb, fun _ q e => .inr e⟩, ?_⟩
 ·intro y hy
  exact (h.ints y hy).keep (hkp.mono (fun q hq _ => by
   obtain ⟨a1, a2, a3, a4, a5, a6⟩ := hC.fz q hq
   exact ⟨a1, a2, a3, a4, a5, a6⟩)) (fun _ h => h)
 ·exact h.keep.trans hkp (fun q hq _ => ⟨by omega, hq.2.1, hq.2.2.1, by omega, fun e => by have := (h.lrow.lt q e).1; omega, fun e => by have := hvb q e; omega⟩)
 ·rintro q (hq | hq)
  ·exact hfz q hq
  ·exact ⟨(hb.lt q hq).2, fun e => h6.not_row (by decide) hb (by rw [← e, hq]), fun e => h7.not_row (by decide) hb (by rw [← e, hq]), fun e => hroot.not_row (by decide) hb (by rw [← e, hq]), fun e => rows_apart hb hl (by decide) hq e, fun e => rows_apart hb hfrow (by decide) hq e⟩
 ·intro D hD1 hD2 hD3 hD4 hD5 hD
  exact (hkp.block D ⟨by omega, by omega, by omega, by omega, mark_not_row hD h.lrow, fun e => by have := hvb D e; omega⟩ (Array.getElem?_eq_some_iff.1 hD).1).trans hD
theorem FilesF.of_row {X : World} {base : Nat} {vfs : Value} {fl : List (Pl.FileP × Value)} {fz rp2 : Nat → Prop} (hr : X.ownsRow base 76 3 vfs fl.length (fcells4 fl)) (hi : ∀ y ∈ fl, IntsF fz X y.2 y.1.blocks) (hs : ∀ q, fz q → rp2 q) (ho : ∀ q, vfs.ownBlock = some q → rp2 q) :
  FilesF rp2 X vfs (fl.map (·.1)) := by
 rcases id hr.2 with ⟨rfl, h0⟩ | ⟨g, cap, cur, rfl, hB, hg, hnc, hcm, hcs, ht⟩
 ·exact ⟨none, 0, by rw [List.length_map, h0], by rw [List.length_map]; omega, by omega, fun h => by rw [List.length_map] at h; omega⟩
 ·refine ⟨some ⟨g, 0, none⟩, cap, by rw [List.length_map], by rw [List.length_map]; exact hnc, by unfold maxLen at hcm; exact hcm, fun _ => ⟨g, 0, rfl, (Array.getElem?_eq_some_iff.1 hg).1, ho g rfl, fun i hi' => ?_⟩⟩
  have hi2 : i < fl.length := by simpa using hi'
  obtain ⟨g0, g1, g2⟩ := fcells4_get fl i hi2
  have k0 := hr.cells (g := g) rfl _ _ g0
  have k1 := hr.cells (g := g) rfl _ _ g1
  have k2 := hr.cells (g := g) rfl _ _ g2
  rw [Addr.add_lit] at k0 k1 k2
  rw [List.getElem_map]
  refine ⟨k0, by rw [show 0 + i * 3 + 1 = 0 + (i * 3 + 1) by omega]; exact k1, fl[i].2, by rw [show 0 + i * 3 + 2 = 0 + (i * 3 + 2) by omega]; exact k2, (hi _ (List.getElem_mem hi2)).keep (Keep.refl _ _) hs⟩
theorem plan_loadVar {W : World} {b : Nat} {v : Value} (hc : W.heap[b]? = some (.cells #[v] 122 (0, 0))) : (loadVar 122 ⟨b, 0, none⟩).run Tryz.prog W = .ok v W := by
 have c0 : W.cell? ⟨b, 0, none⟩ = some v := by simp [World.cell?, hc]
 simp [loadVar, go_sem, c0]
theorem bool_loadVar {W : World} {b : Nat} {v : Value} (hc : W.heap[b]? = some (.cells #[v] 4 (0, 0))) : (loadVar 4 ⟨b, 0, none⟩).run Tryz.prog W = .ok v W := by
 have c0 : W.cell? ⟨b, 0, none⟩ = some v := by simp [World.cell?, hc]
 simp [loadVar, go_sem, c0]
theorem results_plan {fn : Func} (h : fn.results = #[.cell 2 122, .cell 3 71, .cell 4 4]) {tmps : Array Value} {b c e : Nat} {g : Int} {vl v vb : Value} {w : World} (h2 : tmps.getD 2 undef = .pointer (some ⟨b, 0, none⟩)) (h3 : tmps.getD 3 undef = .pointer (some ⟨c, 0, none⟩)) (h4 : tmps.getD 4 undef = .pointer (some ⟨e, 0, none⟩))
  (hb : w.heap[b]? = some (.cells #[vl] 122 (0, 0))) (hc : w.heap[c]? = some (.cells #[.int .u64 g, v] 71 (0, 0))) (he : w.heap[e]? = some (.cells #[vb] 4 (0, 0))) :
  (results fn tmps).run Tryz.prog w = .ok (.tuple #[vl, .agg #[.int .u64 g, v], vb]) w := by
 have h2' : tmps[2]?.getD undef = .pointer (some ⟨b, 0, none⟩) := by simpa using h2
 have h3' : tmps[3]?.getD undef = .pointer (some ⟨c, 0, none⟩) := by simpa using h3
 have h4' : tmps[4]?.getD undef = .pointer (some ⟨e, 0, none⟩) := by simpa using h4
 simp [results, h, h2', h3', h4', asAddr, plan_loadVar hb, root_loadVar hc, bool_loadVar he]
def PlanEnds (W : World) (rp : Nat → Prop) (o : Option (List (Nat × ByteArray) × Pl.RootP)) (e : Ending) (w' : World) : Prop :=
 Below W.heap.size W w' ∧ ∃ (vl : Value) (va : Option Addr) (vn vc : Nat) (gen : Int), e = .returned (.tuple #[vl, .agg #[.int .u64 gen, .slice va vn vc], .bool o.isSome]) ∧ ∀ l r, o = some (l, r) → gen = (r.gen : Int) ∧ w'.ownsRow W.heap.size 140 2 vl l.length (wcells l) ∧
  ∃ rp2 : Nat → Prop, (∀ q, rp q → rp2 q) ∧ (∀ q, rp2 q → (rp q ∨ W.heap.size ≤ q) ∧ q < w'.heap.size ∧ vl.ownBlock ≠ some q) ∧ FilesF rp2 w' (.slice va vn vc) r.files
theorem Pl.planK_inv {s : Pl.Dv} {fr : List Int} {N : Nat} (hfr : ∀ q ∈ fr, 32 ≤ q ∧ q < (N : Int)) : ∀ (l : List (ByteArray × Pl.HF)) (st : Pl.PlSt), Pl.HandOk N l → Pl.planK s fr l = some st →
  (∀ p ∈ st.l, ((p.1 : Nat) : Int) ∈ fr ∧ p.2.size = 256) ∧ ∀ y ∈ st.fs, 0 ≤ y.size ∧ y.size ≤ 9223372036854775807 ∧ ∀ q ∈ y.blocks, 32 ≤ q ∧ q < (N : Int) := by
 refine Pl.snoc_ind (P := fun l => ∀ st : Pl.PlSt, Pl.HandOk N l → Pl.planK s fr l = some st → (∀ p ∈ st.l, ((p.1 : Nat) : Int) ∈ fr ∧ p.2.size = 256) ∧ ∀ y ∈ st.fs, 0 ≤ y.size ∧ y.size ≤ 9223372036854775807 ∧ ∀ q ∈ y.blocks, 32 ≤ q ∧ q < (N : Int)) ?_ ?_
 ·rintro st _ h
  obtain rfl := Option.some.inj h
  exact ⟨fun _ h => (List.not_mem_nil h).elim, fun _ h => (List.not_mem_nil h).elim⟩
 ·intro l p ih st hh h
  have e : Pl.planK s fr (l ++ [p]) = Pl.planStep s (Pl.planK s fr l) p := by unfold Pl.planK; rw [List.foldl_append]; rfl
  rw [e] at h
  have hml : ∀ z, z ∈ l → z ∈ l ++ [p] := fun z hz => List.mem_append_left _ hz
  have hpl : p ∈ l ++ [p] := List.mem_append_right _ List.mem_cons_self
  have hhl : Pl.HandOk N l := ⟨by have := hh.many; rw [List.length_append] at this; omega, fun z hz => hh.name z (hml z hz), fun z hz => hh.blocks z (hml z hz), fun z hz => hh.old z (hml z hz), fun z hz => hh.inner z (hml z hz), fun z hz => hh.added z (hml z hz)⟩
  have ho := hh.old p hpl
  have ha := hh.added p hpl
  have hi := hh.inner p hpl
  cases hp : Pl.planK s fr l with
  | none => rw [hp] at h; cases h
  | some st0 =>
   rw [hp] at h
   have hfs := Pl.planK_fr _ _ hp
   have hsub : ∀ q ∈ st0.fr, q ∈ fr := fun q hq => by rw [hfs] at hq; exact List.mem_of_mem_drop hq
   obtain ⟨i1, i2⟩ := ih st0 hhl hp
   have hz : 0 ≤ (p.2.size : Int) ∧ (p.2.size : Int) ≤ 9223372036854775807 := by unfold Pl.HF.size; omega
   unfold Pl.planStep at h
   simp only [Option.bind_some] at h
   split at h
   ·obtain rfl := Option.some.inj h
    refine ⟨i1, fun y hy => ?_⟩
    rcases List.mem_append.1 hy with hy | hy
    ·exact i2 y hy
    ·obtain rfl := List.mem_singleton.1 hy
     exact ⟨hz.1, hz.2, hi⟩
   ·split at h
    ·cases h
    ·obtain rfl := Option.some.inj h
     refine ⟨fun y hy => ?_, fun y hy => ?_⟩
     ·rcases List.mem_append.1 hy with hy | hy
      ·exact i1 y hy
      ·unfold Pl.zipB at hy
       obtain ⟨z, hz, rfl⟩ := List.mem_map.1 hy
       have h1 := List.of_mem_zip hz
       have h2 := hsub _ h1.1
       have h3 := hfr _ h2
       refine ⟨?_, Pl.piecesOf_mem h1.2⟩
       show ((z.1.toNat : Nat) : Int) ∈ fr
       rw [Int.toNat_of_nonneg (by omega)]
       exact h2
     ·rcases List.mem_append.1 hy with hy | hy
      ·exact i2 y hy
      ·obtain rfl := List.mem_singleton.1 hy
       refine ⟨hz.1, hz.2, fun q hq => ?_⟩
       rcases List.mem_append.1 hq with hq | hq
       ·exact hi q (List.mem_of_mem_take hq)
       ·exact hfr q (hsub q (List.mem_of_mem_take hq))
end
end Go.Proofs.YtogblcdefbnbeaaGreat
