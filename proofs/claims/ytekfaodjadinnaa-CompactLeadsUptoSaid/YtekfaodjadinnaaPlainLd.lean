/- Plain law: the tables of each level are of that level; what lies from the least key to the greatest. Condition: none. -/
import Derived.Test.YtekfaodjadinnaaWMade
import Derived.Test.YtekfaodjadinnaaWPk1
namespace Go.Proofs.Ytekfaodjadinnaa.Pl
open Go.Op (bytesLess)

def Lvl (L : Lv) : Prop := ∀ k x, x ∈ L.t k → x.level = (k : Int)
theorem Lvl.zero : Lvl Lv.zero := fun _ _ h => by cases h
theorem addOne_lvl {nx : Nat} {o o' : Lv} {x : Tb} (h : addOne nx o x = some o') (ho : Lvl o) (hx : 0 ≤ x.level) : Lvl o' := by
  unfold addOne at h
  split at h
  · cases h
  · split at h
    · cases h
    · simp only [Option.some.injEq] at h
      subst h
      intro k y hy
      replace hy : y ∈ (if k = x.level.toNat then put (o.t k) x else o.t k) := hy
      split at hy
      · rename_i e
        rcases mem_put hy with h | rfl
        · exact ho k y h
        · omega
      · exact ho k y hy
theorem addAll_lvl {nx : Nat} : ∀ {r : List Tb} {o o' : Lv}, addAll nx o r = some o' → Lvl o → (∀ x ∈ r, 0 ≤ x.level) → Lvl o'
  | [], o, o', h, ho, _ => by
    simp only [addAll, Option.some.injEq] at h
    subst h; exact ho
  | x :: r, o, o', h, ho, hr => by
    simp only [addAll] at h
    cases h1 : addOne nx o x with
    | none => rw [h1] at h; cases h
    | some o2 =>
      rw [h1] at h
      exact addAll_lvl (o := o2) h (addOne_lvl h1 ho (hr x (by simp))) (fun y hy => hr y (by simp [hy]))
theorem tK_mem {L : Lv} {drop : List Nat} {k : Nat} {x : Tb} (h : x ∈ tK L drop 4 0 k) : x ∈ L.t k := by
  unfold tK at h
  split at h
  · exact (List.mem_filter.1 h).1
  · split at h
    · simp at h
    · cases h
theorem apply_lvl {L L' : Lv} {e : Ed} (h : apply L e = some L') (hL : Lvl L) : Lvl L' := by
  unfold apply at h
  split at h
  · cases h
  · rename_i hm
    split at h
    · cases h
    · split at h
      · cases h
      · have hm : mayE e = true := by
          cases he : mayE e with
          | true => rfl
          | false => exact absurd he hm
        unfold mayE at hm
        have hm := of_decide_eq_true hm
        refine addAll_lvl h (fun k x hx => hL k x (tK_mem hx)) (fun x hx => ?_)
        have h1 := hm.2.2.2.2.2.1 x hx
        unfold mayT at h1
        exact (of_decide_eq_true h1).2.2.1
theorem made_lvl (l : List Ed) : Lvl (made l) := by
  have h : ∀ i, i ≤ l.length → Lvl (made (l.take i)) := by
    intro i
    induction i with
    | zero => intro _; exact Lvl.zero
    | succ i ih =>
      intro hi
      rw [made_succ l i hi]
      unfold madeOne
      cases h : apply (made (l.take i)) l[i] with
      | none => exact ih (by omega)
      | some L' => exact apply_lvl h (ih (by omega))
  have h := h l.length (Nat.le_refl _)
  rwa [List.take_length] at h

theorem leS_refl (p : ByteArray) : leS p p = true := by unfold leS; rw [lt_irrefl]; rfl
theorem leS_iff {p q : ByteArray} : leS p q = true ↔ bytesLess q.toList p.toList = false := by unfold leS; simp
theorem leS_total (p q : ByteArray) : leS p q = true ∨ leS q p = true := by
  rw [leS_iff, leS_iff]
  cases h : bytesLess q.toList p.toList with
  | false => exact .inl rfl
  | true => exact .inr (lt_asymm h)
theorem leS_trans {p q r : ByteArray} (h1 : leS p q = true) (h2 : leS q r = true) : leS p r = true := by
  rw [leS_iff] at *
  cases h : bytesLess r.toList p.toList with
  | false => rfl
  | true =>
    by_cases e : r.toList = q.toList
    · rw [e, h1] at h; cases h
    · have h3 := lt_total h2 e
      have h4 := lt_trans h3 h
      rw [h1] at h4; cases h4
theorem toList_inj {p q : ByteArray} (h : p.toList = q.toList) : p = q := by
  rw [Lib.toList_data, Lib.toList_data] at h
  cases p; cases q
  simp only at h
  congr
  exact Array.toList_inj.1 h
theorem leS_antisymm {p q : ByteArray} (h1 : leS p q = true) (h2 : leS q p = true) : p = q := by
  rw [leS_iff] at *
  by_cases e : q.toList = p.toList
  · exact (toList_inj e).symm
  · have h3 := lt_total h1 e
    rw [h2] at h3; cases h3
theorem minS_eq (p q : ByteArray) : Lib.minS p q = if leS p q = true then p else q := by
  unfold Lib.minS
  have e := leS_or p q
  rw [Proofs.bytesLess_eq, Lib.toList_data, Lib.toList_data] at e
  by_cases h : p.data.toList < q.data.toList ∨ p.data.toList = q.data.toList
  · rw [if_pos h, if_pos]
    rw [← e]
    simpa using h
  · rw [if_neg h, if_neg]
    rw [← e]
    simpa using h
theorem maxS_eq (p q : ByteArray) : Lib.maxS p q = if leS q p = true then p else q := by
  unfold Lib.maxS
  have e : leS q p = !bytesLess p.toList q.toList := rfl
  rw [Proofs.bytesLess_eq, Lib.toList_data, Lib.toList_data] at e
  by_cases h : p.data.toList < q.data.toList
  · rw [if_pos h, if_neg]
    rw [e]
    simpa using h
  · rw [if_neg h, if_pos]
    rw [e]
    simpa using h
theorem minS_l (p q : ByteArray) : leS (Lib.minS p q) p = true := by
  rw [minS_eq]
  split
  · exact leS_refl p
  · rename_i h
    rcases leS_total p q with h1 | h1
    · exact absurd h1 h
    · exact h1
theorem minS_r (p q : ByteArray) : leS (Lib.minS p q) q = true := by
  rw [minS_eq]
  split
  · rename_i h; exact h
  · exact leS_refl q
theorem maxS_l (p q : ByteArray) : leS p (Lib.maxS p q) = true := by
  rw [maxS_eq]
  split
  · exact leS_refl p
  · rename_i h
    rcases leS_total p q with h1 | h1
    · exact h1
    · exact absurd h1 h
theorem maxS_r (p q : ByteArray) : leS q (Lib.maxS p q) = true := by
  rw [maxS_eq]
  split
  · rename_i h; exact h
  · exact leS_refl q
theorem minS_or (p q : ByteArray) : Lib.minS p q = p ∨ Lib.minS p q = q := by
  rw [minS_eq]; split <;> simp
theorem maxS_or (p q : ByteArray) : Lib.maxS p q = p ∨ Lib.maxS p q = q := by
  rw [maxS_eq]; split <;> simp
theorem spanLo_snoc {l : List Tb} (h : l ≠ []) (y : Tb) : spanLo (l ++ [y]) = Lib.minS (spanLo l) y.least := by
  cases l with
  | nil => exact absurd rfl h
  | cons x l =>
    show (l ++ [y]).foldl _ x.least = _
    rw [List.foldl_append]; rfl
theorem spanHi_snoc {l : List Tb} (h : l ≠ []) (y : Tb) : spanHi (l ++ [y]) = Lib.maxS (spanHi l) y.greatest := by
  cases l with
  | nil => exact absurd rfl h
  | cons x l =>
    show (l ++ [y]).foldl _ x.greatest = _
    rw [List.foldl_append]; rfl
theorem lo_fold (l : List Tb) : ∀ p : ByteArray, leS (l.foldl (fun p t => Lib.minS p t.least) p) p = true ∧ (∀ x ∈ l, leS (l.foldl (fun p t => Lib.minS p t.least) p) x.least = true) ∧ (l.foldl (fun p t => Lib.minS p t.least) p = p ∨ ∃ x ∈ l, l.foldl (fun p t => Lib.minS p t.least) p = x.least) := by
  induction l with
  | nil => intro p; exact ⟨leS_refl p, fun _ h => (by cases h), .inl rfl⟩
  | cons x l ih =>
    intro p
    obtain ⟨h1, h2, h3⟩ := ih (Lib.minS p x.least)
    simp only [List.foldl_cons]
    refine ⟨leS_trans h1 (minS_l _ _), fun y hy => ?_, ?_⟩
    · rcases List.mem_cons.1 hy with rfl | hy
      · exact leS_trans h1 (minS_r _ _)
      · exact h2 y hy
    · rcases h3 with h3 | ⟨y, hy, h3⟩
      · rcases minS_or p x.least with h | h
        · exact .inl (by rw [h3, h])
        · exact .inr ⟨x, by simp, by rw [h3, h]⟩
      · exact .inr ⟨y, by simp [hy], h3⟩
theorem hi_fold (l : List Tb) : ∀ p : ByteArray, leS p (l.foldl (fun p t => Lib.maxS p t.greatest) p) = true ∧ (∀ x ∈ l, leS x.greatest (l.foldl (fun p t => Lib.maxS p t.greatest) p) = true) ∧ (l.foldl (fun p t => Lib.maxS p t.greatest) p = p ∨ ∃ x ∈ l, l.foldl (fun p t => Lib.maxS p t.greatest) p = x.greatest) := by
  induction l with
  | nil => intro p; exact ⟨leS_refl p, fun _ h => (by cases h), .inl rfl⟩
  | cons x l ih =>
    intro p
    obtain ⟨h1, h2, h3⟩ := ih (Lib.maxS p x.greatest)
    simp only [List.foldl_cons]
    refine ⟨leS_trans (maxS_l _ _) h1, fun y hy => ?_, ?_⟩
    · rcases List.mem_cons.1 hy with rfl | hy
      · exact leS_trans (maxS_r _ _) h1
      · exact h2 y hy
    · rcases h3 with h3 | ⟨y, hy, h3⟩
      · rcases maxS_or p x.greatest with h | h
        · exact .inl (by rw [h3, h])
        · exact .inr ⟨x, by simp, by rw [h3, h]⟩
      · exact .inr ⟨y, by simp [hy], h3⟩
theorem spanLo_le {l : List Tb} {x : Tb} (h : x ∈ l) : leS (spanLo l) x.least = true := by
  cases l with
  | nil => cases h
  | cons y l =>
    obtain ⟨h1, h2, _⟩ := lo_fold l y.least
    rcases List.mem_cons.1 h with rfl | h
    · exact h1
    · exact h2 x h
theorem spanHi_le {l : List Tb} {x : Tb} (h : x ∈ l) : leS x.greatest (spanHi l) = true := by
  cases l with
  | nil => cases h
  | cons y l =>
    obtain ⟨h1, h2, _⟩ := hi_fold l y.greatest
    rcases List.mem_cons.1 h with rfl | h
    · exact h1
    · exact h2 x h
theorem spanLo_is {l : List Tb} (h : l ≠ []) : ∃ x ∈ l, spanLo l = x.least := by
  cases l with
  | nil => exact absurd rfl h
  | cons y l =>
    rcases (lo_fold l y.least).2.2 with h | ⟨x, hx, h⟩
    · exact ⟨y, by simp, h⟩
    · exact ⟨x, by simp [hx], h⟩
theorem spanHi_is {l : List Tb} (h : l ≠ []) : ∃ x ∈ l, spanHi l = x.greatest := by
  cases l with
  | nil => exact absurd rfl h
  | cons y l =>
    rcases (hi_fold l y.greatest).2.2 with h | ⟨x, hx, h⟩
    · exact ⟨y, by simp, h⟩
    · exact ⟨x, by simp [hx], h⟩
theorem spanLo_same {l r : List Tb} (h : ∀ x, x ∈ l ↔ x ∈ r) (h0 : l ≠ []) : spanLo l = spanLo r := by
  have h1 : r ≠ [] := by
    intro e; subst e
    cases l with
    | nil => exact h0 rfl
    | cons x l => have := (h x).1 (by simp); cases this
  obtain ⟨x, hx, ex⟩ := spanLo_is h0
  obtain ⟨y, hy, ey⟩ := spanLo_is h1
  refine leS_antisymm ?_ ?_
  · rw [ey]; exact spanLo_le ((h y).2 hy)
  · rw [ex]; exact spanLo_le ((h x).1 hx)
theorem spanHi_same {l r : List Tb} (h : ∀ x, x ∈ l ↔ x ∈ r) (h0 : l ≠ []) : spanHi l = spanHi r := by
  have h1 : r ≠ [] := by
    intro e; subst e
    cases l with
    | nil => exact h0 rfl
    | cons x l => have := (h x).1 (by simp); cases this
  obtain ⟨x, hx, ex⟩ := spanHi_is h0
  obtain ⟨y, hy, ey⟩ := spanHi_is h1
  refine leS_antisymm ?_ ?_
  · rw [ex]; exact spanHi_le ((h x).1 hx)
  · rw [ey]; exact spanHi_le ((h y).2 hy)
theorem fromOf_mem {L : Lv} {af : Nat → ByteArray} {k : Nat} {x : Tb} (h : x ∈ fromOf L af k) : x ∈ L.t k := by
  unfold fromOf at h
  split at h
  · rename_i e; rw [e]; exact h
  · exact List.mem_of_mem_drop (List.mem_of_mem_take h)
theorem noneDeep_iff (L : Lv) (A : List Tb) (k : Nat) : ∀ n, noneDeep L A k n = true ↔ ∀ j, j < n → ∀ x ∈ L.t (k + 2 + j), overB x (spanLo A) (spanHi A) = false
  | 0 => by simp [noneDeep]
  | n + 1 => by
    have ih := noneDeep_iff L A k n
    simp only [noneDeep, Bool.and_eq_true, decide_eq_true_eq]
    rw [ih]
    constructor
    · rintro ⟨h1, h2⟩ j hj x hx
      rcases Nat.lt_succ_iff_lt_or_eq.1 hj with h | rfl
      · exact h1 j h x hx
      · cases hb : overB x (spanLo A) (spanHi A) with
        | false => rfl
        | true =>
          have : x ∈ overs (L.t (k + 2 + j)) (spanLo A) (spanHi A) := List.mem_filter.2 ⟨hx, hb⟩
          rw [List.eq_nil_of_length_eq_zero h2] at this
          cases this
    · intro h
      refine ⟨fun j hj => h j (by omega), ?_⟩
      unfold overs
      rw [List.length_eq_zero_iff, List.filter_eq_nil_iff]
      intro x hx
      rw [h n (by omega) x hx]
      exact Bool.false_ne_true
end Go.Proofs.Ytekfaodjadinnaa.Pl
