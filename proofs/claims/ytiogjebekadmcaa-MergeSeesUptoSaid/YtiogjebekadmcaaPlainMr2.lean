
/- Plain law: rows merged, told by the places at which each row stands. Condition: none. -/
import Derived.Test.YtiogjebekadmcaaPlainMr
namespace Go.Proofs.Ytiogjebekadmcaa.Pl

/-- what is left of rows behind these places -/
def rsOf (ls : List (List Ver)) (ps : List Nat) : List (List Ver) := List.zipWith (fun l p => l.drop p) ls ps
structure Pos (ls : List (List Ver)) (ps : List Nat) : Prop where
  len : ps.length = ls.length
  le : ∀ i (h : i < ps.length) (h2 : i < ls.length), ps[i] ≤ ls[i].length
variable {ls : List (List Ver)} {ps : List Nat}
theorem Pos.length (h : Pos ls ps) : (rsOf ls ps).length = ls.length := by
  unfold rsOf; rw [List.length_zipWith, h.len, Nat.min_self]
theorem Pos.get (h : Pos ls ps) {i : Nat} (hi : i < (rsOf ls ps).length) : (rsOf ls ps)[i] = (ls[i]'(by rw [← h.length]; exact hi)).drop (ps[i]'(by rw [h.len, ← h.length]; exact hi)) := by
  exact List.getElem_zipWith ..
theorem Pos.zero (ls : List (List Ver)) : Pos ls (List.replicate ls.length 0) := ⟨by simp, fun i _ _ => by simp⟩
theorem rsOf_zero (ls : List (List Ver)) : rsOf ls (List.replicate ls.length 0) = ls := by
  have h := Pos.zero ls
  refine List.ext_getElem h.length (fun i h1 h2 => ?_)
  rw [h.get h1]; simp
/-- a row's head -/
theorem Pos.some (h : Pos ls ps) {i : Nat} (h1 : i < ls.length) (h2 : i < ps.length) (hr : i < (rsOf ls ps).length) (hl : ps[i] < ls[i].length) : (rsOf ls ps)[i] = ls[i][ps[i]] :: ls[i].drop (ps[i] + 1) := by
  rw [h.get hr, List.drop_eq_getElem_cons hl]
theorem Pos.none (h : Pos ls ps) {i : Nat} (h1 : i < ls.length) (h2 : i < ps.length) (hr : i < (rsOf ls ps).length) (hl : ¬ ps[i] < ls[i].length) : (rsOf ls ps)[i] = [] := by
  rw [h.get hr]; exact List.drop_eq_nil_of_le (by omega)
theorem Pos.head (h : Pos ls ps) {j : Nat} (hj : j < (rsOf ls ps).length) {y : Ver} {q : List Ver} (e : (rsOf ls ps)[j] = y :: q) : ∃ (h1 : j < ls.length) (h2 : j < ps.length) (hl : ps[j] < ls[j].length), ls[j][ps[j]] = y ∧ q = ls[j].drop (ps[j] + 1) := by
  have h1 : j < ls.length := by rw [← h.length]; exact hj
  have h2 : j < ps.length := by rw [h.len]; exact h1
  by_cases hl : ps[j] < ls[j].length
  · rw [h.some h1 h2 hj hl] at e
    exact ⟨h1, h2, hl, (List.cons.inj e).1, (List.cons.inj e).2.symm⟩
  · rw [h.none h1 h2 hj hl] at e; cases e
/-- one row goes on -/
theorem Pos.set (h : Pos ls ps) {i : Nat} (h1 : i < ls.length) (h2 : i < ps.length) (hl : ps[i] < ls[i].length) : Pos ls (ps.set i (ps[i] + 1)) ∧ rsOf ls (ps.set i (ps[i] + 1)) = (rsOf ls ps).set i (ls[i].drop (ps[i] + 1)) := by
  have hp : Pos ls (ps.set i (ps[i] + 1)) := by
    refine ⟨by rw [List.length_set]; exact h.len, fun j g1 g2 => ?_⟩
    by_cases e : j = i
    · subst e; rw [List.getElem_set_self]; omega
    · rw [List.getElem_set_ne (by omega)]
      exact h.le j (by rw [List.length_set] at g1; exact g1) g2
  refine ⟨hp, List.ext_getElem (by rw [hp.length, List.length_set, h.length]) (fun j g1 g2 => ?_)⟩
  rw [hp.get g1]
  have g3 : j < (rsOf ls ps).length := by rw [List.length_set] at g2; exact g2
  by_cases e : j = i
  · subst e
    rw [List.getElem_set_self]
    simp only [List.getElem_set_self]
  · simp only [List.getElem_set_ne (show i ≠ j by omega)]
    exact (h.get g3).symm
end Go.Proofs.Ytiogjebekadmcaa.Pl
