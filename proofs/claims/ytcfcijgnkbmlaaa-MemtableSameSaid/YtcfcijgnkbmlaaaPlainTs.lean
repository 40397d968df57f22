
/- Plain law: two tables of the same versions are the same. Condition: none. -/
import Derived.Test.YtcfcijgnkbmlaaaPlainTb
import Derived.Test.YtcfcijgnkbmlaaaMActs
namespace Go.Proofs.Ytcfcijgnkbmlaaa.Pl

theorem vlt_irrefl {a : Ver} (h : vlt a a) : False := by
  rcases vlt_cases h with h | ⟨_, h⟩
  · rw [lt_irrefl] at h; cases h
  · omega
theorem ris_ext : ∀ {xs ys : List Ver}, Ris xs → Ris ys → (∀ x, x ∈ xs ↔ x ∈ ys) → xs = ys
  | [], [], _, _, _ => rfl
  | [], y :: ys, _, _, h => by have := (h y).2 List.mem_cons_self; cases this
  | x :: xs, [], _, _, h => by have := (h x).1 List.mem_cons_self; cases this
  | x :: xs, y :: ys, hx, hy, h => by
    have hx' := List.pairwise_cons.1 hx
    have hy' := List.pairwise_cons.1 hy
    have e : x = y := by
      rcases List.mem_cons.1 ((h x).1 List.mem_cons_self) with h1 | h1
      · exact h1
      · rcases List.mem_cons.1 ((h y).2 List.mem_cons_self) with h2 | h2
        · exact h2.symm
        · exact (vlt_irrefl (vlt_trans (hy'.1 x h1) (hx'.1 y h2))).elim
    subst e
    refine congrArg (List.cons x) (ris_ext hx'.2 hy'.2 (fun z => ⟨fun hz => ?_, fun hz => ?_⟩))
    · rcases List.mem_cons.1 ((h z).1 (List.mem_cons_of_mem _ hz)) with h1 | h1
      · subst h1; exact (vlt_irrefl (hx'.1 z hz)).elim
      · exact h1
    · rcases List.mem_cons.1 ((h z).2 (List.mem_cons_of_mem _ hz)) with h1 | h1
      · subst h1; exact (vlt_irrefl (hy'.1 z hz)).elim
      · exact h1
theorem place_less {a b v : Ver} (h : vlt a b) (hp : placeV b.key b.seq v.key v.seq = true) : vlt a v := by
  unfold placeV at hp
  rw [Bool.and_eq_true, beq_iff_eq, beq_iff_eq] at hp
  unfold vlt lessV at *
  rw [← hp.1, ← hp.2]; exact h
theorem there_all {xs : List Ver} (hr : Ris xs) {v : Ver} (h : thereV xs v = false) : ∀ x ∈ xs, placeV x.key x.seq v.key v.seq = false := by
  intro x hx
  cases hp : placeV x.key x.seq v.key v.seq
  · rfl
  · exfalso
    obtain ⟨i, hi, rfl⟩ := List.getElem_of_mem hx
    have hA := ahead_less hr v
    have hki : kOf xs v ≤ i := by
      rcases Nat.lt_or_ge i (kOf xs v) with h1 | h1
      · have h2 := hA.yes i hi h1
        have h3 := lessV_total xs[i].key xs[i].seq v.key v.seq
        rw [h2, hp] at h3; cases h3
      · exact h1
    have hk : kOf xs v < xs.length := by omega
    have hn := there_no h hk
    rcases Nat.lt_or_eq_of_le hki with h1 | h1
    · have h2 := List.pairwise_iff_getElem.1 hr _ _ hk hi h1
      have h3 := place_less h2 hp
      have h4 := hA.no _ hk (Nat.le_refl _)
      rw [show lessV _ _ _ _ = true from h3] at h4; cases h4
    · simp only [h1] at hn
      rw [hn] at hp; cases hp
theorem there_none {xs : List Ver} {v : Ver} (h : ∀ x ∈ xs, placeV x.key x.seq v.key v.seq = false) : thereV xs v = false := by
  cases ht : thereV xs v
  · rfl
  · obtain ⟨hk, hp⟩ := there_yes ht
    rw [h _ (List.getElem_mem hk)] at hp; cases hp
theorem mem_ins2 {α : Type} {l : List α} {k : Nat} {a b : α} : b ∈ ins l k a ↔ b = a ∨ b ∈ l := by
  refine ⟨mem_ins', fun h => ?_⟩
  unfold ins
  rw [List.mem_append, List.mem_cons]
  rcases h with h | h
  · exact .inr (.inl h)
  · rw [← List.take_append_drop k l] at h
    rcases List.mem_append.1 h with h | h
    · exact .inl h
    · exact .inr (.inr h)
/-- what was put into the first table, in order, and what it holds -/
structure Put (put : List MAct) (xs : List Ver) : Prop where
  mem : ∀ x, x ∈ xs ↔ x ∈ put.map MAct.v
  apart : put.Pairwise (fun a b => placeV a.v.key a.v.seq b.v.key b.v.seq = false)
  len : put.length = xs.length
  may : ∀ a ∈ put, mayM a.v.key a.v.seq a.v.del a.v.val = true ∧ 1 ≤ a.n ∧ a.n ≤ 8
theorem Put.nil : Put [] [] := ⟨fun x => by simp, List.Pairwise.nil, rfl, fun a h => by cases h⟩
theorem Put.add {put : List MAct} {xs : List Ver} (h : Put put xs) (hr : Ris xs) (a : MAct) (hs : List Nat) (hc : (addT xs hs a.v a.n).2.2 = 0) : Put (put ++ [a]) (addT xs hs a.v a.n).1 := by
  unfold addT at hc ⊢
  split at hc
  · exact absurd hc (by show ¬ (1 : Int) = 0; decide)
  · rename_i hn
    split at hc
    · exact absurd hc (by show ¬ (7 : Int) = 0; decide)
    · rename_i ht
      rw [if_neg hn, if_neg ht]
      have hall := there_all hr (by simpa using ht)
      refine ⟨fun x => ?_, ?_, ?_, fun b hb => ?_⟩
      · show x ∈ ins xs _ a.v ↔ _
        rw [mem_ins2, h.mem x, List.map_append, List.mem_append]
        simp only [List.map_cons, List.map_nil, List.mem_singleton]
        exact ⟨fun h => h.symm, fun h => h.symm⟩
      · rw [List.pairwise_append]
        refine ⟨h.apart, List.pairwise_singleton _ _, fun b hb c hc => ?_⟩
        obtain rfl := List.mem_singleton.1 hc
        exact hall b.v ((h.mem _).2 (List.mem_map_of_mem hb))
      · show _ = (ins xs _ a.v).length
        rw [ins_length, List.length_append, h.len]; rfl
      · rcases List.mem_append.1 hb with hb | hb
        · exact h.may b hb
        · obtain rfl := List.mem_singleton.1 hb
          refine ⟨?_, by omega, by omega⟩
          cases hm : mayM b.v.key b.v.seq b.v.del b.v.val
          · exact absurd (.inl hm) hn
          · rfl
theorem place_symm {a b : Ver} (h : placeV a.key a.seq b.key b.seq = false) : placeV b.key b.seq a.key a.seq = false := by
  cases hp : placeV b.key b.seq a.key a.seq
  · rfl
  · unfold placeV at h hp
    rw [Bool.and_eq_true, beq_iff_eq, beq_iff_eq] at hp
    rw [hp.1, hp.2] at h; simp at h
/-- and the second table, into which they are put from the last one on -/
structure Back (put : List MAct) (i : Nat) (ys : List Ver) : Prop where
  mem : ∀ x, x ∈ ys ↔ x ∈ (put.drop i).map MAct.v
  len : ys.length + i = put.length
theorem Back.add {put : List MAct} {xs ys : List Ver} {i : Nat} (hP : Put put xs) (h : Back put (i + 1) ys) (hi : i < put.length) (hs : List Nat) : (addT ys hs put[i].v (9 - put[i].n)).2.2 = 0 ∧ Back put i (addT ys hs put[i].v (9 - put[i].n)).1 := by
  have hm := hP.may put[i] (List.getElem_mem hi)
  have ht : thereV ys put[i].v = false := there_none (fun y hy => by
    obtain ⟨b, hb, rfl⟩ := List.mem_map.1 ((h.mem y).1 hy)
    obtain ⟨j, hj, rfl⟩ := List.getElem_of_mem hb
    rw [List.length_drop] at hj
    rw [List.getElem_drop]
    exact place_symm (List.pairwise_iff_getElem.1 hP.apart i (i + 1 + j) hi (by omega) (by omega)))
  have e : addT ys hs put[i].v (9 - put[i].n) = (ins ys (kOf ys put[i].v) put[i].v, ins hs (kOf ys put[i].v) (9 - put[i].n).toNat, 0) := by
    unfold addT
    rw [if_neg (by rintro (h | h | h); rw [hm.1] at h; cases h; omega; omega), if_neg (by rw [ht]; exact Bool.false_ne_true)]
  rw [e]
  refine ⟨rfl, fun x => ?_, ?_⟩
  · show x ∈ ins ys _ _ ↔ _
    rw [mem_ins2, h.mem x, List.drop_eq_getElem_cons hi, List.map_cons, List.mem_cons]
  · show (ins ys _ _).length + i = _
    rw [ins_length]
    have := h.len
    omega
theorem addT_codes (xs : List Ver) (hs : List Nat) (v : Ver) (h : Int) : ((mayM v.key v.seq v.del v.val = false ∨ h < 1 ∨ 8 < h) ∧ (addT xs hs v h).2.2 = 1) ∨ (¬ (mayM v.key v.seq v.del v.val = false ∨ h < 1 ∨ 8 < h) ∧ ((addT xs hs v h).2.2 = 0 ∨ ((addT xs hs v h).2.2 = 7 ∧ (addT xs hs v h).1 = xs))) := by
  unfold addT
  split
  · rename_i hc; exact .inl ⟨hc, rfl⟩
  · rename_i hc
    refine .inr ⟨hc, ?_⟩
    split
    · exact .inr ⟨rfl, rfl⟩
    · exact .inl rfl
theorem addT_bad {xs : List Ver} {hs : List Nat} {v : Ver} {h : Int} (hc : mayM v.key v.seq v.del v.val = false ∨ h < 1 ∨ 8 < h) : (addT xs hs v h).1 = xs := by
  unfold addT; rw [if_pos hc]
end Go.Proofs.Ytcfcijgnkbmlaaa.Pl
