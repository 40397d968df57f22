
/- Walks: the groups of a row, as a sequence of lists. Condition: rows whose bytes fit. -/
import Derived.Test.YtiogjebekadmcaaWSeqG
import Derived.Test.YtiogjebekadmcaaWColl9
import Derived.Test.YtiogjebekadmcaaWRef9
import Derived.Test.YtiogjebekadmcaaPlainGr
import Derived.Test.YtiogjebekadmcaaFk
import Derived.Test.YtiogjebekadmcaaRoundQ
namespace Go.Proofs.Ytiogjebekadmcaa
open Go.RowKit Go.Shelf

attribute [local go_sem] Oper.semAt_some

theorem mgroups_any (f : Nat) (fl : Array Value) (w : World) :
    Calls Try.prog 38 #[.func (.func f) #[] fl] w fun e w' =>
      e = .returned (.func (.func 63) #[] #[.pointer (some ⟨w.heap.size, 0, none⟩)]) ∧ w' = w.alloc (.cells #[.func (.func f) #[] fl] 30) := by
  go_enter Try.func38, Try.ntmps38
  go_wp2
  go_ret
  exact ⟨rfl, rfl⟩

/-- a list that lies in a row of its own -/
def ElV (x : List Ver) (v : Value) (ef : Nat → Prop) (W : World) : Prop := W.ownsRow 0 44 4 v x.length (vcells x) ∧ x ≠ [] ∧ ∀ k, v.ownBlock = some k → ef k

/-- what the caller has, and what stands of the iterator's own -/
def EndSt {α : Type} (J : List α → (Nat → Prop) → World → Prop) (U : Nat → Prop) (W0 : World) (out : List α) (fp : Nat → Prop) (W : World) : Prop :=
  (∀ k, U k → fp k) ∧ Keep U W0 W ∧ ∃ fj : Nat → Prop, J out fj W ∧ (∀ k, fj k → fp k) ∧ (∀ k, fj k → k < W.heap.size) ∧ ∀ k, U k → ¬ fj k
theorem EndSt.abide {α : Type} {J : List α → (Nat → Prop) → World → Prop} {U : Nat → Prop} {W0 : World} {out : List α} {fp : Nat → Prop} {W W' : World} (hJ : Abide J) (h : EndSt J U W0 out fp W) (hkp : Keep fp W W') : EndSt J U W0 out fp W' := by
  obtain ⟨hU, hk, fj, hj, j1, j2, j4⟩ := h
  exact ⟨hU, hk.trans hkp (fun i hi _ => hU i hi), fj, hJ _ _ _ _ hj (hkp.mono (fun i h _ => j1 i h)), j1, fun k h => Nat.lt_of_lt_of_le (j2 k h) hkp.size, j4⟩
theorem Keep.or {f g : Nat → Prop} {A B : World} (h : Keep f A B) (k : Keep g A B) : Keep (fun i => f i ∨ g i) A B :=
  ⟨h.os, h.tape, h.output, h.size, fun i hi hl => hi.elim (fun e => h.block i e hl) (fun e => k.block i e hl)⟩
/-- behind the range: the mark is taken away -/
theorem EndSt.finish {α : Type} {J : List α → (Nat → Prop) → World → Prop} {U : Nat → Prop} {W0 : World} {out : List α} (hJ : Abide J) {R fp0 fp2 : Nat → Prop} {Wi W2 : World} {D : Nat} (hk0 : ∀ f : Nat → Prop, Keep f Wi W0) (hRw : ∀ k, R k → k < Wi.heap.size) (hUw : ∀ k, U k → k < Wi.heap.size)
    (hkT : Keep R W0 W2) (hD : Wi.heap.size ≤ D) (hnD : ¬ fp2 D) (hnew : ∀ k, fp2 k → U k ∨ fp0 k ∨ Wi.heap.size ≤ k) (h : EndSt J U W0 out fp2 W2) :
    ∃ fj : Nat → Prop, J out fj (W2.putObj D (.deferred none)) ∧ Keep (fun k => R k ∨ U k) Wi (W2.putObj D (.deferred none)) ∧ (∀ k, fj k → fp0 k ∨ Wi.heap.size ≤ k) ∧ (∀ k, fj k → k < (W2.putObj D (.deferred none)).heap.size) := by
  obtain ⟨hU, hk, fj, hj, j1, j2, j4⟩ := h
  refine ⟨fj, hJ _ _ _ _ hj ((Keep.refl _ _).putObj _ _ (fun h _ => hnD (j1 _ h))), ?_, ?_, ?_⟩
  · refine ((hk0 _).trans (hkT.or hk) (fun i hi _ => hi)).putObj _ _ (fun h _ => ?_)
    rcases h with h | h
    · have := hRw _ h; omega
    · have := hUw _ h; omega
  · intro k hk
    rcases hnew k (j1 k hk) with h | h
    · exact absurd hk (j4 k h)
    · exact h
  · intro k hk
    have := j2 k hk
    simpa using this

/-- the variables of the range, what the caller has, and blocks (E) that are the round's -/
def GrpSt (J : List (List Ver) → (Nat → Prop) → World → Prop) (U E : Nat → Prop) (W0 : World) (B lp : Nat) (out : List (List Ver)) (g : List Ver) (v : Value) (fp : Nat → Prop) (W : World) : Prop :=
  Boxed W B 67 (.func (.yield lp) #[] #[]) ∧ Boxed W (B + 1) 22 v ∧ W.ownsRow (B + 2) 44 4 v g.length (vcells g) ∧
    (fp B ∧ fp (B + 1) ∧ ∀ k, v.ownBlock = some k → fp k) ∧ (∀ k, U k → fp k ∧ k < B) ∧ Keep U W0 W ∧
    ∃ fj : Nat → Prop, J out fj W ∧ (∀ k, fj k → fp k) ∧ (∀ k, fj k → k < W.heap.size) ∧ (¬ fj B ∧ ¬ fj (B + 1) ∧ ∀ k, v.ownBlock = some k → ¬ fj k) ∧ (∀ k, U k → ¬ fj k) ∧ ∀ k, E k → fp k ∧ k ≠ B ∧ k ≠ B + 1 ∧ ¬ (v.ownBlock = some k) ∧ ¬ fj k

variable {J : List (List Ver) → (Nat → Prop) → World → Prop} {U E : Nat → Prop} {W0 : World} {B lp : Nat} {out : List (List Ver)} {g : List Ver} {v : Value} {fp : Nat → Prop} {W : World}

theorem GrpSt.abide (hJ : Abide J) {W' : World} (h : GrpSt J U E W0 B lp out g v fp W) (hkp : Keep fp W W') : GrpSt J U E W0 B lp out g v fp W' := by
  obtain ⟨h0, h1, h2, ⟨f0, f1, f2⟩, hU, hk, fj, hj, j1, j2, j3, j4, j5⟩ := h
  exact ⟨hkp.boxed f0 h0, hkp.boxed f1 h1, hkp.ownsRow h2 f2, ⟨f0, f1, f2⟩, hU, hk.trans hkp (fun i hi _ => (hU i hi).1), fj, hJ _ _ _ _ hj (hkp.mono (fun i h _ => j1 i h)), j1, fun k h => Nat.lt_of_lt_of_le (j2 k h) hkp.size, j3, j4, j5⟩
theorem GrpSt.more (h : GrpSt J U E W0 B lp out g v fp W) {fp' : Nat → Prop} (hs : ∀ k, fp k → fp' k) : GrpSt J U E W0 B lp out g v fp' W := by
  obtain ⟨h0, h1, h2, ⟨f0, f1, f2⟩, hU, hk, fj, hj, j1, j2, j3, j4, j5⟩ := h
  exact ⟨h0, h1, h2, ⟨hs _ f0, hs _ f1, fun k e => hs _ (f2 k e)⟩, fun k h => ⟨hs k (hU k h).1, (hU k h).2⟩, hk, fj, hj, fun k h => hs k (j1 k h), j2, j3, j4, fun k h => ⟨hs _ (j5 k h).1, (j5 k h).2⟩⟩
/-- a block that the round has laid -/
theorem GrpSt.lay (h : GrpSt J U (fun _ => False) W0 B lp out g v fp W) (hJ : Abide J) (hlt : ∀ k, fp k → k < W.heap.size) (o : Obj) : GrpSt J U (fun k => k = W.heap.size) W0 B lp out g v (fun k => fp k ∨ k = W.heap.size) (W.alloc o) := by
  obtain ⟨h0, h1, h2, ⟨f0, f1, f2⟩, hU, hk, fj, hj, j1, j2, j3, j4, _⟩ := h
  have hkp := (Keep.refl fp W).alloc o
  refine ⟨hkp.boxed f0 h0, hkp.boxed f1 h1, hkp.ownsRow h2 f2, ⟨.inl f0, .inl f1, fun k e => .inl (f2 k e)⟩, fun k h => ⟨.inl (hU k h).1, (hU k h).2⟩, hk.trans hkp (fun i hi _ => (hU i hi).1), fj, hJ _ _ _ _ hj (hkp.mono (fun i h _ => j1 i h)), fun k h => .inl (j1 k h), fun k h => Nat.lt_of_lt_of_le (j2 k h) hkp.size, j3, j4, ?_⟩
  rintro k rfl
  exact ⟨.inr rfl, fun e => by have := hlt _ f0; omega, fun e => by have := hlt _ f1; omega, fun e => by have := hlt _ (f2 _ e); omega, fun e => by have := j2 _ e; omega⟩
theorem GrpSt.drewN (h : GrpSt J U E W0 B lp out g v fp W) (hJ : Abide J) (n : Nat) : GrpSt J U E W0 B lp out g v fp (W.drewN n) := h.abide hJ ((Keep.refl fp W).drewN n)
theorem GrpSt.toEnd (h : GrpSt J U E W0 B lp out g v fp W) : EndSt J U W0 out fp W := by
  obtain ⟨_, _, _, _, hU, hk, fj, hj, j1, j2, _, j4, _⟩ := h
  exact ⟨fun k h => (hU k h).1, hk, fj, hj, j1, j2, j4⟩
theorem keep_cell {f : Nat → Prop} (W : World) (b : Nat) (v : Value) (h : ¬ f b) : Keep f W (W.setCell ⟨b, 0, none⟩ v) := (Keep.refl f W).setCell _ _ _ (fun e _ => h e)
theorem size_cell (W : World) (b : Nat) (v : Value) : (W.setCell ⟨b, 0, none⟩ v).heap.size = W.heap.size := by simp [World.setCell]

/-- the list at hand is handed out -/
theorem GrpSt.yield (h : GrpSt J U E W0 B lp out g v fp W) (hlt : ∀ k, fp k → k < W.heap.size) (hg : g ≠ []) :
    ∃ (fj ef : Nat → Prop), J out fj W ∧ (∀ k, fj k → k < W.heap.size) ∧ ElV g v ef W ∧ (∀ k, ef k → ¬ fj k ∧ B + 2 ≤ k ∧ k < W.heap.size) ∧
    ∀ (J' : List (List Ver) → (Nat → Prop) → World → Prop) out' fj' W', J' out' fj' W' → Step (fun k => fj k ∨ ef k) fj' W W' →
      EndSt J' U W0 out' (fun k => fp k ∨ fj' k) W' ∧ Step fp (fun k => fp k ∨ fj' k) W W' ∧ Boxed W' (B + 1) 22 v ∧
      Keep E W (W'.setCell ⟨B + 1, 0, none⟩ (.slice none 0 0)) ∧
      (Abide J' → GrpSt J' U (fun _ => False) W0 B lp out' [] (.slice none 0 0) (fun k => fp k ∨ fj' k) (W'.setCell ⟨B + 1, 0, none⟩ (.slice none 0 0)) ∧ Step fp (fun k => fp k ∨ fj' k) W (W'.setCell ⟨B + 1, 0, none⟩ (.slice none 0 0))) := by
  obtain ⟨h0, h1, h2, ⟨f0, f1, f2⟩, hU, hk, fj, hj, j1, j2, j3, j4, j5⟩ := h
  refine ⟨fj, fun k => v.ownBlock = some k, hj, j2, ⟨⟨h2.1, ?_⟩, hg, fun _ e => e⟩, fun k e => ⟨j3.2.2 k e, (h2.lt k e).1, (h2.lt k e).2⟩, ?_⟩
  · rcases h2.2 with h | ⟨b, cap, cur, e1, e2, e3⟩
    · exact .inl h
    · exact .inr ⟨b, cap, cur, e1, Nat.zero_le _, e3⟩
  · intro J' out' fj' W' hj' st
    have hB : ¬ (v.ownBlock = some B) := fun e => by have := (h2.lt _ e).1; omega
    have hB1 : ¬ (v.ownBlock = some (B + 1)) := fun e => by have := (h2.lt _ e).1; omega
    have kN : ∀ k, ¬ fj k → ¬ (v.ownBlock = some k) → k < W.heap.size → ¬ fj' k := fun k a b c => st.other (fun h => h.elim a b) c
    have hUe : ∀ k, U k → ¬ (v.ownBlock = some k) := fun k h e => by have := (h2.lt _ e).1; have := (hU k h).2; omega
    have hUn : ∀ k, U k → ¬ fj' k := fun k h => kN k (j4 k h) (hUe k h) (hlt k (hU k h).1)
    have hb0 := st.keep.boxed (b := B) (fun h => h.elim j3.1 hB) h0
    have hb1 := st.keep.boxed (b := B + 1) (fun h => h.elim j3.2.1 hB1) h1
    have hk2 : Keep U W0 W' := hk.trans st.keep (fun i h _ hh => hh.elim (j4 i h) (hUe i h))
    have s1 : Step fp (fun k => fp k ∨ fj' k) W W' := by
      refine ⟨st.keep.mono (fun i h _ e => h (e.elim (j1 i) (f2 i))), ?_, ?_⟩
      · rintro k (h | h)
        · exact .inl h
        · rcases st.new k h with (h | h) | h
          · exact .inl (j1 k h)
          · exact .inl (f2 k h)
          · exact .inr h
      · rintro k (h | h)
        · exact Nat.lt_of_lt_of_le (hlt k h) st.keep.size
        · exact st.lt k h
    have n0 := kN B j3.1 hB (h0.lt)
    have n1 := kN (B + 1) j3.2.1 hB1 (h1.lt)
    have hE : Keep E W (W'.setCell ⟨B + 1, 0, none⟩ (.slice none 0 0)) := (st.keep.mono (fun i h _ hh => hh.elim (j5 i h).2.2.2.2 (j5 i h).2.2.2.1)).setCell _ _ _ (fun h _ => (j5 _ h).2.2.1 rfl)
    refine ⟨⟨fun k h => .inl (hU k h).1, hk2, fj', hj', fun _ h => .inr h, st.lt, hUn⟩, s1, hb1, hE, fun hJ' => ⟨⟨hb0.other (by omega) _, hb1.set _, World.ownsRow_nil _ _ _ _, ⟨.inl f0, .inl f1, fun k e => by cases e⟩, fun k h => ⟨.inl (hU k h).1, (hU k h).2⟩, hk2.trans (keep_cell _ _ _ (fun h => by have := (hU _ h).2; omega)) (fun i h _ => h), fj', hJ' _ _ _ _ hj' (keep_cell _ _ _ n1), fun _ h => .inr h, fun k h => by rw [size_cell]; exact st.lt k h, ⟨n0, n1, fun k e => by cases e⟩, hUn, fun k h => h.elim⟩, ?_⟩⟩
    exact ⟨s1.keep.trans (keep_cell (f := fun k => ¬ fp k) _ _ _ (fun h => h f1)) (fun _ h _ => h), s1.new, fun k h => by rw [size_cell]; exact s1.lt k h⟩

/-- one more in the list at hand -/
theorem GrpSt.append (hJ : Abide J) (h : GrpSt J U E W0 B lp out g v fp W) (hlt : ∀ k, fp k → k < W.heap.size) {tmp : Obj} {w1 : World} {x : Ver} {g0 cap : Nat}
    (hown' : w1.ownsRow (B + 2) 44 4 (.slice (some ⟨g0, 0, none⟩) (g.length + 1) cap) (g.length + 1) (vcells g ++ vcells [x])) (hgrow : (W.alloc tmp).grownBy w1 v.ownBlock) (hat : v.ownBlock = some g0 ∨ W.heap.size ≤ g0) (hg0 : g0 < w1.heap.size) :
    Boxed w1 (B + 1) 22 v ∧ ∀ W2, W2 = w1.setCell ⟨B + 1, 0, none⟩ (.slice (some ⟨g0, 0, none⟩) (g.length + 1) cap) →
      GrpSt J U (fun _ => False) W0 B lp out (g ++ [x]) (.slice (some ⟨g0, 0, none⟩) (g.length + 1) cap) (fun k => fp k ∨ k = g0) W2 ∧ Step fp (fun k => fp k ∨ k = g0) W W2 := by
  obtain ⟨h0, h1, h2, ⟨f0, f1, f2⟩, hU, hk, fj, hj, j1, j2, j3, j4, j5⟩ := h
  have hB : ¬ (v.ownBlock = some B) := fun e => by have := (h2.lt _ e).1; omega
  have hB1 : ¬ (v.ownBlock = some (B + 1)) := fun e => by have := (h2.lt _ e).1; omega
  have b0 := (h0.alloc tmp).kept hgrow (fun e => hB e.symm)
  have b1 := (h1.alloc tmp).kept hgrow (fun e => hB1 e.symm)
  refine ⟨b1, ?_⟩
  rintro W2 rfl
  have hsz : W.heap.size ≤ w1.heap.size := by have := hgrow.size; simp at this; omega
  have hg1 : g0 ≠ B + 1 := fun e => by have := (hown'.lt g0 rfl).1; omega
  have hg2 : g0 ≠ B := fun e => by have := (hown'.lt g0 rfl).1; omega
  have hUe : ∀ k, U k → ¬ (v.ownBlock = some k) := fun k h e => by have := (h2.lt _ e).1; have := (hU k h).2; omega
  have kp : ∀ f : Nat → Prop, (∀ k, v.ownBlock = some k → ¬ f k) → ¬ f (B + 1) → Keep f W (w1.setCell ⟨B + 1, 0, none⟩ (.slice (some ⟨g0, 0, none⟩) (g.length + 1) cap)) := fun f ha hb =>
    (((Keep.refl f W).alloc tmp).grown hgrow (fun k e h _ => ha k e h)).setCell _ _ _ (fun h _ => hb h)
  have hr2 := hown'.kept (grownBy_setCell' w1 (B + 1) (.slice (some ⟨g0, 0, none⟩) (g.length + 1) cap)) (.inr (by simpa [Value.ownBlock] using hg1))
  have jg : ¬ fj g0 := fun h => by
    rcases hat with e | e
    · exact j3.2.2 _ e h
    · have := j2 _ h; omega
  refine ⟨⟨b0.other (by omega) _, b1.set _, ?_, ⟨.inl f0, .inl f1, fun k e => .inr (by simpa [Value.ownBlock] using e.symm)⟩, fun k h => ⟨.inl (hU k h).1, (hU k h).2⟩, hk.trans (kp U (fun k e h => hUe k h e) (fun h => by have := (hU _ h).2; omega)) (fun i h _ => h), fj, hJ _ _ _ _ hj (kp fj j3.2.2 j3.2.1), fun k h => .inl (j1 k h), fun k h => by rw [size_cell]; have := j2 k h; omega, ⟨j3.1, j3.2.1, fun k e => by rw [show k = g0 from by simpa [Value.ownBlock] using e.symm]; exact jg⟩, j4, fun k h => h.elim⟩, ?_, ?_, ?_⟩
  · rw [List.length_append, List.length_singleton, vcells_append]
    exact hr2
  · exact kp _ (fun k e h => h (f2 k e)) (fun h => h f1)
  · rintro k (h | rfl)
    · exact .inl h
    · exact hat.imp (f2 _) id
  · rintro k (h | rfl)
    · rw [size_cell]; have := hlt k h; omega
    · rw [size_cell]; exact hg0
end Go.Proofs.Ytiogjebekadmcaa
