
/- Iterators that range over iterators: what is the round's own (fo), what the caller has (fj), what the range may not touch (U). Condition: none. -/
import Derived.Test.YtiogjebekadmcaaWGroups
namespace Go.Proofs.Ytiogjebekadmcaa
open Go.RowKit Go.Shelf

/-- what is told of own blocks holds as long as these stay -/
def AbideO (O : (Nat → Prop) → World → Prop) : Prop := ∀ fo W W', O fo W → Keep fo W W' → O fo W'

structure ItS {α : Type} (J : List α → (Nat → Prop) → World → Prop) (U : Nat → Prop) (W0 : World) (out : List α) (fo fj : Nat → Prop) (W : World) : Prop where
  j : J out fj W
  keep : Keep U W0 W
  ult : ∀ k, U k → k < W0.heap.size
  olt : ∀ k, fo k → k < W.heap.size
  jlt : ∀ k, fj k → k < W.heap.size
  oj : ∀ k, fo k → ¬ fj k
  uo : ∀ k, U k → ¬ fo k
  uj : ∀ k, U k → ¬ fj k

/-- all that the round has -/
def uni (U fo fj : Nat → Prop) : Nat → Prop := fun k => U k ∨ fo k ∨ fj k

variable {α : Type} {J J' : List α → (Nat → Prop) → World → Prop} {U fo fo' fj fj' f1 ef : Nat → Prop} {W0 W W' : World} {out out' : List α}

theorem ItS.lt (h : ItS J U W0 out fo fj W) : ∀ k, uni U fo fj k → k < W.heap.size := fun k hk => by
  rcases hk with hk | hk | hk
  · have := h.ult k hk; have := h.keep.size; omega
  · exact h.olt k hk
  · exact h.jlt k hk
theorem ItS.abide (h : ItS J U W0 out fo fj W) (hJ : Abide J) (hk : Keep (uni U fo fj) W W') : ItS J U W0 out fo fj W' :=
  ⟨hJ _ _ _ _ h.j (hk.mono (fun _ h _ => .inr (.inr h))), h.keep.trans hk (fun _ h _ => .inl h), h.ult, fun k hk' => Nat.lt_of_lt_of_le (h.olt k hk') hk.size, fun k hk' => Nat.lt_of_lt_of_le (h.jlt k hk') hk.size, h.oj, h.uo, h.uj⟩
/-- a step of the round's own -/
theorem ItS.step (h : ItS J U W0 out fo fj W) (hJ : Abide J) (st : Step fo fo' W W') : ItS J U W0 out fo' fj W' ∧ Step (uni U fo fj) (uni U fo' fj) W W' := by
  have hU : ∀ k, U k → k < W.heap.size := fun k hk => Nat.lt_of_lt_of_le (h.ult k hk) h.keep.size
  have hn : ∀ k, k < W.heap.size → ¬ fo k → ¬ fo' k := fun k a b => st.other b a
  refine ⟨⟨hJ _ _ _ _ h.j (st.keep.mono (fun k hk _ e => h.oj k e hk)), h.keep.trans st.keep (fun k hk _ => h.uo k hk), h.ult, st.lt, fun k hk => Nat.lt_of_lt_of_le (h.jlt k hk) st.keep.size, ?_, fun k hk => hn k (hU k hk) (h.uo k hk), h.uj⟩, ?_⟩
  · intro k hk hj
    exact hn k (h.jlt k hj) (fun e => h.oj k e hj) hk
  · refine ⟨st.keep.mono (fun k hk _ e => hk (.inr (.inl e))), ?_, ?_⟩
    · rintro k (hk | hk | hk)
      · exact .inl (.inl hk)
      · exact (st.new k hk).imp (fun e => .inr (.inl e)) id
      · exact .inl (.inr (.inr hk))
    · rintro k (hk | hk | hk)
      · exact Nat.lt_of_lt_of_le (hU k hk) st.keep.size
      · exact st.lt k hk
      · exact Nat.lt_of_lt_of_le (h.jlt k hk) st.keep.size
/-- the caller's step: the blocks ef pass to it -/
theorem ItS.yield (h : ItS J U W0 out fo fj W) (hs : ∀ k, fo k ↔ f1 k ∨ ef k) (hd : ∀ k, f1 k → ¬ ef k) (st : Step (fun k => fj k ∨ ef k) fj' W W') (hj : J' out' fj' W') :
    ItS J' U W0 out' f1 fj' W' ∧ Keep f1 W W' ∧ Step (uni U fo fj) (uni U f1 fj') W W' := by
  have hU : ∀ k, U k → k < W.heap.size := fun k hk => Nat.lt_of_lt_of_le (h.ult k hk) h.keep.size
  have hUn : ∀ k, U k → ¬ (fj k ∨ ef k) := fun k hk e => e.elim (h.uj k hk) (fun e => h.uo k hk ((hs k).2 (.inr e)))
  have h1n : ∀ k, f1 k → ¬ (fj k ∨ ef k) := fun k hk e => e.elim (h.oj k ((hs k).2 (.inl hk))) (hd k hk)
  have h1l : ∀ k, f1 k → k < W.heap.size := fun k hk => h.olt k ((hs k).2 (.inl hk))
  refine ⟨⟨hj, h.keep.trans st.keep (fun k hk _ => hUn k hk), h.ult, fun k hk => Nat.lt_of_lt_of_le (h1l k hk) st.keep.size, st.lt, fun k hk => st.other (h1n k hk) (h1l k hk), fun k hk e => h.uo k hk ((hs k).2 (.inl e)), fun k hk => st.other (hUn k hk) (hU k hk)⟩, st.keep.mono (fun k hk _ => h1n k hk), ?_, ?_, ?_⟩
  · exact st.keep.mono (fun k hk _ e => hk (e.elim (fun e => .inr (.inr e)) (fun e => .inr (.inl ((hs k).2 (.inr e))))))
  · rintro k (hk | hk | hk)
    · exact .inl (.inl hk)
    · exact .inl (.inr (.inl ((hs k).2 (.inl hk))))
    · rcases st.new k hk with (e | e) | e
      · exact .inl (.inr (.inr e))
      · exact .inl (.inr (.inl ((hs k).2 (.inr e))))
      · exact .inr e
  · rintro k (hk | hk | hk)
    · exact Nat.lt_of_lt_of_le (hU k hk) st.keep.size
    · exact Nat.lt_of_lt_of_le (h1l k hk) st.keep.size
    · exact st.lt k hk
/-- the same, where nothing passes -/
theorem ItS.yieldV (h : ItS J U W0 out fo fj W) (st : Step fj fj' W W') (hj : J' out' fj' W') :
    ItS J' U W0 out' fo fj' W' ∧ Keep fo W W' ∧ Step (uni U fo fj) (uni U fo fj') W W' :=
  h.yield (f1 := fo) (ef := fun _ => False) (fun k => by simp) (fun _ _ e => e) (st.more (fun _ h => .inl h) (fun _ h => h)) hj
/-- what comes is the round's own from here on -/
theorem ItS.take (h : ItS J U W0 out fo fj W) (he : ∀ k, ef k → ¬ uni U fo fj k) (hl : ∀ k, ef k → k < W.heap.size) : ItS J U W0 out (fun k => fo k ∨ ef k) fj W :=
  ⟨h.j, h.keep, h.ult, fun k hk => hk.elim (h.olt k) (hl k), h.jlt, fun k hk e => hk.elim (fun a => h.oj k a e) (fun a => he k a (.inr (.inr e))), fun k hk e => e.elim (h.uo k hk) (fun a => he k a (.inl hk)), h.uj⟩
/-- some of the round's own is forgotten -/
theorem ItS.less (h : ItS J U W0 out fo fj W) (hs : ∀ k, f1 k → fo k) : ItS J U W0 out f1 fj W :=
  ⟨h.j, h.keep, h.ult, fun k hk => h.olt k (hs k hk), h.jlt, fun k hk => h.oj k (hs k hk), fun k hk e => h.uo k hk (hs k e), h.uj⟩
theorem uni_more {U fo f1 fj : Nat → Prop} (hs : ∀ k, f1 k → fo k) : ∀ k, uni U f1 fj k → uni U fo fj k := fun k hk => hk.imp id (fun h => h.imp (hs k) id)
theorem ItS.toEnd (h : ItS J U W0 out fo fj W) : EndSt J U W0 out (uni U fo fj) W :=
  ⟨fun _ hk => .inl hk, h.keep, fj, h.j, fun _ hk => .inr (.inr hk), h.jlt, h.uj⟩
theorem EndSt.wider {fp fp' : Nat → Prop} (h : EndSt J U W0 out fp W) (hs : ∀ k, fp k → fp' k) : EndSt J U W0 out fp' W := by
  obtain ⟨hU, hk, fj, hj, j1, j2, j4⟩ := h
  exact ⟨fun k h => hs k (hU k h), hk, fj, hj, fun k h => hs k (j1 k h), j2, j4⟩

/-- own blocks and an element's -/
def WithEl {β : Type} (O : (Nat → Prop) → World → Prop) (El : β → Value → (Nat → Prop) → World → Prop) (x : β) (v : Value) (fo : Nat → Prop) (W : World) : Prop :=
  ∃ f1 ef, (∀ k, fo k ↔ f1 k ∨ ef k) ∧ (∀ k, f1 k → ¬ ef k) ∧ O f1 W ∧ El x v ef W

/-- an iterator's state: it abides -/
def It {α : Type} (J : List α → (Nat → Prop) → World → Prop) (U : Nat → Prop) (W0 : World) (O : (Nat → Prop) → World → Prop) (out : List α) (fp : Nat → Prop) (W : World) : Prop :=
  ∃ fo fj, fp = uni U fo fj ∧ O fo W ∧ ItS J U W0 out fo fj W
theorem It.abide {O : (Nat → Prop) → World → Prop} {fp : Nat → Prop} (h : It J U W0 O out fp W) (hO : AbideO O) (hJ : Abide J) (hk : Keep fp W W') : It J U W0 O out fp W' := by
  obtain ⟨fo, fj, rfl, ho, hs⟩ := h
  exact ⟨fo, fj, rfl, hO _ _ _ ho (hk.mono (fun _ h _ => .inr (.inl h))), hs.abide hJ hk⟩
theorem withEl_abide {β : Type} {O : (Nat → Prop) → World → Prop} {El : β → Value → (Nat → Prop) → World → Prop} (hO : AbideO O) (hE : ∀ x v, AbideO (El x v)) (x : β) (v : Value) : AbideO (WithEl O El x v) := by
  rintro fo W W' ⟨f1, ef, hs, hd, h1, h2⟩ hk
  exact ⟨f1, ef, hs, hd, hO _ _ _ h1 (hk.mono (fun k h _ => (hs k).2 (.inl h))), hE _ _ _ _ _ h2 (hk.mono (fun k h _ => (hs k).2 (.inr h)))⟩
theorem elV_abide (x : List Ver) (v : Value) : AbideO (ElV x v) := by
  rintro fo W W' ⟨h1, h2, h3⟩ hk
  exact ⟨hk.ownsRow h1 h3, h2, h3⟩
end Go.Proofs.Ytiogjebekadmcaa
