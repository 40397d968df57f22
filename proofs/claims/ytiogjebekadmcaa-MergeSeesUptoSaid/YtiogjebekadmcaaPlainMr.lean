
/- Plain law: rows merged. Condition: none. -/
import Derived.Test.YtiogjebekadmcaaVers
namespace Go.Proofs.Ytiogjebekadmcaa.Pl

/-- the least head so far -/
def hd1 (b : Option Ver) (R : List Ver) : Option Ver := match R with
  | [] => b
  | x :: _ => match b with
    | none => some x
    | some y => if lessV x.key x.seq y.key y.seq then some x else some y
def best (Rs : List (List Ver)) : Option Ver := Rs.foldl hd1 none
/-- a row of which the head goes, if it has this place -/
def pop1 (v : Ver) (R : List Ver) : List Ver := match R with
  | [] => []
  | x :: r => if placeV x.key x.seq v.key v.seq then r else x :: r
def pop (v : Ver) (Rs : List (List Ver)) : List (List Ver) := Rs.map (pop1 v)
def total (Rs : List (List Ver)) : Nat := Rs.foldr (fun R n => R.length + n) 0
def mergeN : Nat → List (List Ver) → List Ver
  | 0, _ => []
  | n + 1, Rs => match best Rs with
    | none => []
    | some v => v :: mergeN n (pop v Rs)
def mergeOf (Rs : List (List Ver)) : List Ver := mergeN (total Rs) Rs

theorem placeV_self (v : Ver) : placeV v.key v.seq v.key v.seq = true := by unfold placeV; simp
theorem pop1_length (v : Ver) (R : List Ver) : (pop1 v R).length ≤ R.length := by
  unfold pop1; split
  · simp
  · split <;> simp
theorem fold_head (Rs : List (List Ver)) : ∀ b : Option Ver, (Rs.foldl hd1 b = b) ∨ ∃ v, Rs.foldl hd1 b = some v ∧ ∃ R ∈ Rs, ∃ r, R = v :: r := by
  induction Rs with
  | nil => intro b; exact .inl rfl
  | cons R Rs ih =>
    intro b
    rw [List.foldl_cons]
    have h1 : hd1 b R = b ∨ ∃ v r, hd1 b R = some v ∧ R = v :: r := by
      unfold hd1
      cases R with
      | nil => exact .inl rfl
      | cons x r =>
        cases b with
        | none => exact .inr ⟨x, r, rfl, rfl⟩
        | some y =>
          show (if _ then some x else some y) = some y ∨ _
          cases h : lessV x.key x.seq y.key y.seq
          · left; simp
          · right; exact ⟨x, r, by simp [h], rfl⟩
    rcases ih (hd1 b R) with h | ⟨v, h, R', hR, r, e⟩
    · rw [h]
      rcases h1 with h1 | ⟨v, r, h1, e⟩
      · rw [h1]; exact .inl rfl
      · rw [h1]; exact .inr ⟨v, rfl, R, by simp, r, e⟩
    · exact .inr ⟨v, h, R', by simp [hR], r, e⟩
theorem best_mem {Rs : List (List Ver)} {v : Ver} (h : best Rs = some v) : ∃ R ∈ Rs, ∃ r, R = v :: r := by
  rcases fold_head Rs none with h1 | ⟨u, h1, h2⟩
  · unfold best at h; rw [h1] at h; cases h
  · unfold best at h; rw [h1] at h; cases h; exact h2
theorem total_cons (R : List Ver) (Rs : List (List Ver)) : total (R :: Rs) = R.length + total Rs := rfl
theorem total_pop_le (v : Ver) (Rs : List (List Ver)) : total (pop v Rs) ≤ total Rs := by
  induction Rs with
  | nil => exact Nat.le_refl _
  | cons R Rs ih =>
    show (pop1 v R).length + total (pop v Rs) ≤ R.length + total Rs
    have := pop1_length v R
    omega
theorem total_pop {Rs : List (List Ver)} {v : Ver} {r : List Ver} (h : v :: r ∈ Rs) : total (pop v Rs) < total Rs := by
  induction Rs with
  | nil => cases h
  | cons R Rs ih =>
    show (pop1 v R).length + total (pop v Rs) < R.length + total Rs
    rcases List.mem_cons.1 h with e | e
    · subst e
      have : pop1 v (v :: r) = r := by unfold pop1; simp [placeV_self]
      rw [this]
      have := total_pop_le v Rs
      simp only [List.length_cons]
      omega
    · have := ih e
      have := pop1_length v R
      omega
theorem total_best {Rs : List (List Ver)} {v : Ver} (h : best Rs = some v) : total (pop v Rs) < total Rs := by
  obtain ⟨R, hR, r, rfl⟩ := best_mem h
  exact total_pop hR
theorem mergeN_more : ∀ (n m : Nat) (Rs : List (List Ver)), total Rs ≤ n → total Rs ≤ m → mergeN n Rs = mergeN m Rs := by
  intro n
  induction n with
  | zero =>
    intro m Rs h _
    cases m with
    | zero => rfl
    | succ m =>
      unfold mergeN
      cases hb : best Rs with
      | none => rfl
      | some v => have := total_best hb; omega
  | succ n ih =>
    intro m Rs h1 h2
    cases m with
    | zero =>
      unfold mergeN
      cases hb : best Rs with
      | none => rfl
      | some v => have := total_best hb; omega
    | succ m =>
      unfold mergeN
      cases hb : best Rs with
      | none => rfl
      | some v =>
        have := total_best hb
        show v :: mergeN n _ = v :: mergeN m _
        rw [ih m (pop v Rs) (by omega) (by omega)]
theorem mergeOf_none {Rs : List (List Ver)} (h : best Rs = none) : mergeOf Rs = [] := by
  unfold mergeOf
  rw [mergeN_more _ (total Rs + 1) _ (Nat.le_refl _) (by omega)]
  show (match best Rs with | none => [] | some v => v :: mergeN (total Rs) (pop v Rs)) = []
  rw [h]
theorem mergeOf_some {Rs : List (List Ver)} {v : Ver} (h : best Rs = some v) : mergeOf Rs = v :: mergeOf (pop v Rs) := by
  have ht := total_best h
  have e : mergeOf Rs = mergeN (total Rs + 1) Rs := mergeN_more _ _ _ (Nat.le_refl _) (by omega)
  rw [e]
  show (match best Rs with | none => [] | some v => v :: mergeN (total Rs) (pop v Rs)) = _
  rw [h]
  show v :: mergeN (total Rs) (pop v Rs) = _
  rw [mergeN_more (total Rs) (total (pop v Rs)) _ (by omega) (Nat.le_refl _)]
  rfl
theorem mergeN_length : ∀ (n : Nat) (Rs : List (List Ver)), (mergeN n Rs).length ≤ n
  | 0, _ => Nat.le_refl _
  | n + 1, Rs => by
    unfold mergeN
    split
    · simp
    · have := mergeN_length n (pop (by assumption) Rs)
      simp only [List.length_cons]; omega
theorem mergeOf_length (Rs : List (List Ver)) : (mergeOf Rs).length ≤ total Rs := mergeN_length _ _

/-- the rows that have something -/
def nz (Rs : List (List Ver)) : List (List Ver) := Rs.filter fun R => !R.isEmpty
theorem fold_nz (Rs : List (List Ver)) : ∀ b : Option Ver, (nz Rs).foldl hd1 b = Rs.foldl hd1 b := by
  induction Rs with
  | nil => intro b; rfl
  | cons R Rs ih =>
    intro b
    cases R with
    | nil => exact ih b
    | cons x r => exact ih (hd1 b (x :: r))
theorem best_nz (Rs : List (List Ver)) : best (nz Rs) = best Rs := fold_nz Rs none
theorem nz_pop (v : Ver) (Rs : List (List Ver)) : nz (pop v (nz Rs)) = nz (pop v Rs) := by
  induction Rs with
  | nil => rfl
  | cons R Rs ih =>
    cases R with
    | nil => exact ih
    | cons x r =>
      show nz (pop1 v (x :: r) :: pop v (nz Rs)) = nz (pop1 v (x :: r) :: pop v Rs)
      generalize pop1 v (x :: r) = q
      cases q with
      | nil => exact ih
      | cons y s => exact congrArg (List.cons (y :: s)) ih
theorem mergeN_nz : ∀ (n : Nat) (Rs Rs' : List (List Ver)), nz Rs = nz Rs' → mergeN n Rs = mergeN n Rs'
  | 0, _, _, _ => rfl
  | n + 1, Rs, Rs', h => by
    unfold mergeN
    have hb : best Rs = best Rs' := by rw [← best_nz, h, best_nz]
    rw [hb]
    cases best Rs' with
    | none => rfl
    | some v =>
      show v :: _ = v :: _
      rw [mergeN_nz n (pop v Rs) (pop v Rs') (by rw [← nz_pop, h, nz_pop])]
theorem total_nz (Rs : List (List Ver)) : total (nz Rs) = total Rs := by
  induction Rs with
  | nil => rfl
  | cons R Rs ih =>
    cases R with
    | nil => show total (nz Rs) = 0 + total Rs; omega
    | cons x r => show (x :: r).length + total (nz Rs) = _ + total Rs; rw [ih]
theorem mergeOf_nz {Rs Rs' : List (List Ver)} (h : nz Rs = nz Rs') : mergeOf Rs = mergeOf Rs' := by
  unfold mergeOf
  rw [← total_nz Rs, h, total_nz]
  exact mergeN_nz _ _ _ h
theorem nz_append (a b : List (List Ver)) : nz (a ++ b) = nz a ++ nz b := List.filter_append ..
/-- one more row is asked -/
theorem best_take {Rs : List (List Ver)} {i : Nat} (h : i < Rs.length) : best (Rs.take (i + 1)) = hd1 (best (Rs.take i)) Rs[i] := by
  unfold best
  rw [List.take_succ_eq_append_getElem h, List.foldl_append]; rfl
/-- one more row is popped -/
def popN (v : Ver) (Rs : List (List Ver)) (i : Nat) : List (List Ver) := (Rs.take i).map (pop1 v) ++ Rs.drop i
theorem popN_zero (v : Ver) (Rs : List (List Ver)) : popN v Rs 0 = Rs := by simp [popN]
theorem popN_all (v : Ver) (Rs : List (List Ver)) : popN v Rs Rs.length = pop v Rs := by simp [popN, pop]
theorem popN_length (v : Ver) (Rs : List (List Ver)) (i : Nat) : (popN v Rs i).length = Rs.length := by simp [popN]; omega
theorem popN_set {v : Ver} {Rs : List (List Ver)} {i : Nat} (h : i < Rs.length) : popN v Rs (i + 1) = (popN v Rs i).set i (pop1 v Rs[i]) := by
  unfold popN
  rw [List.take_succ_eq_append_getElem h, List.map_append, List.drop_eq_getElem_cons h]
  rw [List.set_append_right _ _ (by simp; omega)]
  have e : i - ((Rs.take i).map (pop1 v)).length = 0 := by simp; omega
  rw [e, List.append_assoc]
  rfl
theorem popN_at {v : Ver} {Rs : List (List Ver)} {i : Nat} (h : i < Rs.length) : (popN v Rs i)[i]'(by rw [popN_length]; exact h) = Rs[i] := by
  unfold popN
  rw [List.getElem_append_right (by simp; omega)]
  simp [Nat.min_eq_left (Nat.le_of_lt h)]
theorem popN_skip {v : Ver} {Rs : List (List Ver)} {i : Nat} (h : i < Rs.length) (e : pop1 v Rs[i] = Rs[i]) : popN v Rs (i + 1) = popN v Rs i := by
  rw [popN_set h, e]
  have := popN_at (v := v) h
  conv => lhs; rw [← this]
  exact List.set_getElem_self _
theorem pop1_no {v x : Ver} {r : List Ver} (h : placeV x.key x.seq v.key v.seq = false) : pop1 v (x :: r) = x :: r := by
  show (if _ then _ else _) = _
  rw [h]; rfl
theorem pop1_yes {v x : Ver} {r : List Ver} (h : placeV x.key x.seq v.key v.seq = true) : pop1 v (x :: r) = r := by
  show (if _ then _ else _) = _
  rw [h]; rfl
end Go.Proofs.Ytiogjebekadmcaa.Pl
