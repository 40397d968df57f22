
/- Plain law: frames one behind the other. Condition: none. -/
import Derived.Test.YtlchkpmmemdjcaaPlainFr
import Derived.Test.YtlchkpmmemdjcaaPlainL
namespace Go.Proofs.Ytlchkpmmemdjcaa.Pl

/-- frames as bytes, one behind the other -/
def fcat (P : List (UInt8 × List UInt8)) : List UInt8 := P.flatMap fun x => frame x.1 x.2
theorem fcat_append (P R : List (UInt8 × List UInt8)) : fcat (P ++ R) = fcat P ++ fcat R := by simp [fcat]
theorem fcat_one (x : UInt8 × List UInt8) : fcat [x] = frame x.1 x.2 := by simp [fcat]
def good (x : UInt8 × List UInt8) : Prop := x.1 ≠ 0 ∧ x.2.length ≤ 262144

theorem rows_at (P : List (UInt8 × List UInt8)) (r : List UInt8) (hg : ∀ x ∈ P, good x) : ∀ i, i ≤ P.length → pos (fcat P ++ r) i = (fcat (P.take i)).length ∧ ∀ h : i < P.length, takeFrame ((fcat P ++ r).drop (pos (fcat P ++ r) i)) = (P[i], (frame P[i].1 P[i].2).length, 0)
  | 0, _ => by
    refine ⟨rfl, fun h => ?_⟩
    show takeFrame ((fcat P ++ r).drop 0) = _
    obtain ⟨h0, h1⟩ := hg _ (List.getElem_mem h)
    match P, h with
    | x :: P, _ =>
      show takeFrame (fcat ([x] ++ P) ++ r) = _
      rw [fcat_append, fcat_one, List.append_assoc]
      exact takeFrame_back _ _ _ h0 h1
  | i + 1, hi => by
    obtain ⟨h1, h2⟩ := rows_at P r hg i (by omega)
    have h3 := h2 (by omega)
    have hp : pos (fcat P ++ r) (i + 1) = (fcat (P.take (i + 1))).length := by
      show pos (fcat P ++ r) i + (takeFrame ((fcat P ++ r).drop (pos (fcat P ++ r) i))).2.1 = _
      rw [h3, h1, List.take_succ_eq_append_getElem (by omega), fcat_append, fcat_one, List.length_append]
    refine ⟨hp, fun h => ?_⟩
    rw [hp]
    obtain ⟨g0, g1⟩ := hg _ (List.getElem_mem h)
    have e : fcat P = fcat (P.take (i + 1)) ++ (frame P[i + 1].1 P[i + 1].2 ++ fcat (P.drop (i + 2))) := by
      conv => lhs; rw [← List.take_append_drop (i + 1) P, List.drop_eq_getElem_cons h]
      rw [fcat_append, show P[i + 1] :: P.drop (i + 1 + 1) = [P[i + 1]] ++ P.drop (i + 2) from rfl, fcat_append, fcat_one]
    rw [e, List.append_assoc, List.drop_left, List.append_assoc]
    exact takeFrame_back _ _ _ g0 g1
theorem rows_run (P : List (UInt8 × List UInt8)) (r : List UInt8) (hg : ∀ x ∈ P, good x) : Run (fcat P ++ r) P.length ∧ pos (fcat P ++ r) P.length = (fcat P).length ∧ ∀ i (h : i < P.length), (frameAt (fcat P ++ r) i).2 = P[i] := by
  refine ⟨fun j hj => ?_, ?_, fun i h => ?_⟩
  · have := (rows_at P r hg j (by omega)).2 hj
    unfold okF; rw [this]
  · have := (rows_at P r hg P.length (Nat.le_refl _)).1
    rwa [List.take_length] at this
  · have := (rows_at P r hg i (by omega)).2 h
    unfold frameAt; rw [this]
theorem pos_mono (s : List UInt8) {i j : Nat} (h : i ≤ j) : pos s i ≤ pos s j := by
  induction j with
  | zero => obtain rfl : i = 0 := by omega
            exact Nat.le_refl _
  | succ j ih =>
    by_cases e : i = j + 1
    · subst e; exact Nat.le_refl _
    · exact Nat.le_trans (ih (by omega)) (Nat.le_add_right _ _)
/-- what the law asks of where the frames end -/
theorem rows_ends (P : List (UInt8 × List UInt8)) (r : List UInt8) (hg : ∀ x ∈ P, good x) {K : Nat} (hK : Ends (fcat P ++ r) K) : P.length ≤ K ∧ (fcat P).length ≤ pos (fcat P ++ r) K ∧ (r = [] → K = P.length ∧ pos (fcat P ++ r) K = (fcat P).length) := by
  obtain ⟨h1, h2, _⟩ := rows_run P r hg
  have hle := hK.run_le h1
  refine ⟨hle, by rw [← h2]; exact pos_mono _ hle, fun hr => ?_⟩
  subst hr
  have he : Ends (fcat P ++ []) P.length := ⟨h1, end_pos (by rw [h2]; simp)⟩
  have := hK.unique he
  subst this
  exact ⟨rfl, h2⟩
end Go.Proofs.Ytlchkpmmemdjcaa.Pl
