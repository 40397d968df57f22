
/- Plain law: towers: where a link leads, which towers stand last ahead of a place, what a new tower changes. Condition: none. -/
import Derived.Test.YtcfcijgnkbmlaaaVer
namespace Go.Proofs.Ytcfcijgnkbmlaaa.Pl

/-- of towers from p on, the first one that is higher than a level -/
def nx (hs : List Nat) (p lv : Nat) : Nat := p + (hs.drop p).findIdx (fun h => decide (lv < h))
/-- of the first k places, the last one whose tower is higher than a level (0: ahead of all) -/
def pd (hs : List Nat) (lv : Nat) : Nat → Nat
  | 0 => 0
  | k + 1 => if lv < hs.getD k 0 then k + 1 else pd hs lv k
/-- how high the tower at a place is -/
def hof (hs : List Nat) : Nat → Nat
  | 0 => 8
  | p + 1 => hs.getD p 0
theorem nx_ge (hs : List Nat) (p lv : Nat) : p ≤ nx hs p lv := Nat.le_add_right _ _
theorem nx_le {hs : List Nat} {p : Nat} (h : p ≤ hs.length) (lv : Nat) : nx hs p lv ≤ hs.length := by
  unfold nx
  have := List.findIdx_le_length (xs := hs.drop p) (p := fun h => decide (lv < h))
  rw [List.length_drop] at this
  omega
theorem nx_hit {hs : List Nat} {p lv : Nat} (h : nx hs p lv < hs.length) : lv < hs.getD (nx hs p lv) 0 := by
  have hl : (hs.drop p).findIdx (fun h => decide (lv < h)) < (hs.drop p).length := by
    rw [List.length_drop]; unfold nx at h; omega
  have := List.findIdx_getElem (w := hl)
  rw [List.getElem_drop, decide_eq_true_eq] at this
  rw [List.getD_eq_getElem?_getD, List.getElem?_eq_getElem h]
  exact this
theorem nx_miss {hs : List Nat} {p lv i : Nat} (h1 : p ≤ i) (h2 : i < nx hs p lv) : hs.getD i 0 ≤ lv := by
  have hl : i - p < (hs.drop p).findIdx (fun h => decide (lv < h)) := by unfold nx at h2; omega
  have := List.not_of_lt_findIdx hl
  rw [List.getElem_drop, decide_eq_false_iff_not] at this
  have hi : i < hs.length := by
    have := List.findIdx_le_length (xs := hs.drop p) (p := fun h => decide (lv < h))
    rw [List.length_drop] at this
    omega
  rw [List.getD_eq_getElem?_getD, List.getElem?_eq_getElem hi]
  have e : p + (i - p) = i := by omega
  simp only [e] at this
  simpa using this
theorem nx_eq {hs : List Nat} {p lv j : Nat} (h1 : p ≤ j) (h2 : j ≤ hs.length) (h3 : j < hs.length → lv < hs.getD j 0) (h4 : ∀ i, p ≤ i → i < j → hs.getD i 0 ≤ lv) : nx hs p lv = j := by
  rcases Nat.lt_trichotomy (nx hs p lv) j with h | h | h
  · have := nx_hit (show nx hs p lv < hs.length by omega)
    have := h4 _ (nx_ge hs p lv) h
    omega
  · exact h
  · have hj : j < hs.length := by have := nx_le (show p ≤ hs.length by omega) lv; omega
    have := h3 hj
    have := nx_miss h1 h
    omega
theorem pd_le (hs : List Nat) (lv k : Nat) : pd hs lv k ≤ k := by
  induction k with
  | zero => exact Nat.le_refl _
  | succ k ih => unfold pd; split <;> omega
theorem pd_hit (hs : List Nat) (lv k : Nat) (h8 : lv < 8) : lv < hof hs (pd hs lv k) := by
  induction k with
  | zero => exact h8
  | succ k ih =>
    unfold pd
    split
    · assumption
    · exact ih
theorem pd_miss (hs : List Nat) (lv : Nat) : ∀ k i, pd hs lv k ≤ i → i < k → hs.getD i 0 ≤ lv
  | 0, _, _, h => by omega
  | k + 1, i, h1, h2 => by
    unfold pd at h1
    split at h1
    · omega
    · by_cases e : i = k
      · subst e; omega
      · exact pd_miss hs lv k i h1 (by omega)
theorem pd_eq {hs : List Nat} {lv k p : Nat} (h8 : lv < 8) (h1 : p ≤ k) (h2 : lv < hof hs p) (h3 : ∀ i, p ≤ i → i < k → hs.getD i 0 ≤ lv) : pd hs lv k = p := by
  rcases Nat.lt_trichotomy (pd hs lv k) p with h | h | h
  · cases p with
    | zero => omega
    | succ p =>
      have := pd_miss hs lv k p (by omega) (by omega)
      have h2' : lv < hs.getD p 0 := h2
      omega
  · exact h
  · have hh := pd_hit hs lv k h8
    have hl := pd_le hs lv k
    cases e : pd hs lv k with
    | zero => omega
    | succ q =>
      rw [e] at hh hl h
      have := h3 q (by omega) (by omega)
      have hh' : lv < hs.getD q 0 := hh
      omega
/-- from the place of the level above on -/
theorem pd_above (hs : List Nat) {lv k : Nat} (h8 : lv < 7) : pd hs (lv + 1) k ≤ pd hs lv k := by
  rcases Nat.lt_or_ge (pd hs lv k) (pd hs (lv + 1) k) with h | h
  · exfalso
    have h1 := pd_hit hs (lv + 1) k (by omega)
    have h2 := pd_le hs (lv + 1) k
    cases e : pd hs (lv + 1) k with
    | zero => omega
    | succ q =>
      rw [e] at h1 h2 h
      have := pd_miss hs lv k q (by omega) (by omega)
      have h1' : lv + 1 < hs.getD q 0 := h1
      omega
  · exact h

/-- one more, ahead of the k-th -/
def ins {α : Type} (l : List α) (k : Nat) (a : α) : List α := l.take k ++ a :: l.drop k
theorem ins_length {α : Type} (l : List α) (k : Nat) (a : α) : (ins l k a).length = l.length + 1 := by
  unfold ins; simp; omega
theorem ins_lt {α : Type} {l : List α} {k i : Nat} {a : α} (hk : k ≤ l.length) (h : i < k) : (ins l k a)[i]? = l[i]? := by
  unfold ins
  rw [List.getElem?_append_left (by simp; omega), List.getElem?_take_of_lt h]
theorem ins_at {α : Type} {l : List α} {k : Nat} {a : α} (hk : k ≤ l.length) : (ins l k a)[k]? = some a := by
  unfold ins
  rw [List.getElem?_append_right (by simp; omega), List.length_take, Nat.min_eq_left hk, Nat.sub_self]; rfl
theorem ins_gt {α : Type} {l : List α} {k i : Nat} {a : α} (hk : k ≤ l.length) (h : k ≤ i) : (ins l k a)[i + 1]? = l[i]? := by
  unfold ins
  rw [List.getElem?_append_right (by simp; omega), List.length_take, Nat.min_eq_left hk, show i + 1 - k = (i - k) + 1 by omega, List.getElem?_cons_succ, List.getElem?_drop]
  congr 1; omega
theorem insD_lt {l : List Nat} {k i a : Nat} (hk : k ≤ l.length) (h : i < k) : (ins l k a).getD i 0 = l.getD i 0 := by
  rw [List.getD_eq_getElem?_getD, List.getD_eq_getElem?_getD, ins_lt hk h]
theorem insD_at {l : List Nat} {k a : Nat} (hk : k ≤ l.length) : (ins l k a).getD k 0 = a := by
  rw [List.getD_eq_getElem?_getD, ins_at hk]; rfl
theorem insD_gt {l : List Nat} {k i a : Nat} (hk : k ≤ l.length) (h : k ≤ i) : (ins l k a).getD (i + 1) 0 = l.getD i 0 := by
  rw [List.getD_eq_getElem?_getD, List.getD_eq_getElem?_getD, ins_gt hk h]

/-- a block, or none -/
def ptrO : Option Nat → Value
  | none => .pointer none
  | some b => .pointer (some ⟨b, 0, none⟩)
/-- where the link of a place leads, at a level -/
def lnk (hs bs : List Nat) (p lv : Nat) : Value := ptrO (if lv < hof hs p then bs[nx hs p lv]? else none)

variable {hs bs : List Nat} {k : Nat}
/-- a new tower without any height -/
theorem lnk_new (hk : k ≤ hs.length) (b lv : Nat) : lnk (ins hs k 0) (ins bs k b) (k + 1) lv = .pointer none := by
  unfold lnk
  rw [if_neg (by show ¬ lv < (ins hs k 0).getD k 0; rw [insD_at hk]; omega)]; rfl
theorem nx_zero {p : Nat} (hk : k ≤ hs.length) (hp : p ≤ k) (lv : Nat) : nx (ins hs k 0) p lv = if nx hs p lv < k then nx hs p lv else nx hs p lv + 1 := by
  have hle := nx_le (show p ≤ hs.length by omega) lv
  have hge := nx_ge hs p lv
  have hm : ∀ i, p ≤ i → i < nx hs p lv → hs.getD i 0 ≤ lv := fun i => nx_miss
  have hh : nx hs p lv < hs.length → lv < hs.getD (nx hs p lv) 0 := nx_hit
  generalize nx hs p lv = j at *
  split
  · refine nx_eq hge (by rw [ins_length]; omega) (fun h => ?_) (fun i h1 h2 => ?_)
    · rw [insD_lt hk (by assumption)]; exact hh (by omega)
    · rw [insD_lt hk (by omega)]; exact hm i h1 h2
  · refine nx_eq (by omega) (by rw [ins_length]; omega) (fun h => ?_) (fun i h1 h2 => ?_)
    · rw [ins_length] at h; rw [insD_gt hk (by omega)]; exact hh (by omega)
    · rcases Nat.lt_trichotomy i k with h | h | h
      · rw [insD_lt hk h]; exact hm i h1 (by omega)
      · subst h; rw [insD_at hk]; omega
      · obtain ⟨m, rfl⟩ : ∃ m, i = m + 1 := ⟨i - 1, by omega⟩
        rw [insD_gt hk (by omega)]; exact hm m (by omega) (by omega)
theorem nx_beyond {p : Nat} (hk : k ≤ hs.length) (hp : k ≤ p) (hpl : p ≤ hs.length) (a lv : Nat) : nx (ins hs k a) (p + 1) lv = nx hs p lv + 1 := by
  have hle := nx_le hpl lv
  have hge := nx_ge hs p lv
  have hm : ∀ i, p ≤ i → i < nx hs p lv → hs.getD i 0 ≤ lv := fun i => nx_miss
  have hh : nx hs p lv < hs.length → lv < hs.getD (nx hs p lv) 0 := nx_hit
  generalize nx hs p lv = j at *
  refine nx_eq (by omega) (by rw [ins_length]; omega) (fun h => ?_) (fun i h1 h2 => ?_)
  · rw [ins_length] at h; rw [insD_gt hk (by omega)]; exact hh (by omega)
  · obtain ⟨m, rfl⟩ : ∃ m, i = m + 1 := ⟨i - 1, by omega⟩
    rw [insD_gt hk (by omega)]; exact hm m (by omega) (by omega)
theorem hof_low {p : Nat} (hk : k ≤ hs.length) (hp : p ≤ k) (a : Nat) : hof (ins hs k a) p = hof hs p := by
  cases p with
  | zero => rfl
  | succ p => exact insD_lt hk (by omega)
theorem hof_high {p : Nat} (hk : k ≤ hs.length) (hp : k < p) (a : Nat) : hof (ins hs k a) (p + 1) = hof hs p := by
  cases p with
  | zero => omega
  | succ p => exact insD_gt hk (by omega)
theorem lnk_low {p : Nat} (hk : k ≤ hs.length) (hb : bs.length = hs.length) (hp : p ≤ k) (b lv : Nat) : lnk (ins hs k 0) (ins bs k b) p lv = lnk hs bs p lv := by
  unfold lnk
  rw [hof_low hk hp]
  split
  · rw [nx_zero hk hp]
    split
    · rw [ins_lt (by omega) (by assumption)]
    · rw [ins_gt (by omega) (by omega)]
  · rfl
theorem lnk_high {p : Nat} (hk : k ≤ hs.length) (hb : bs.length = hs.length) (hp : k < p) (hpl : p ≤ hs.length) (a b lv : Nat) : lnk (ins hs k a) (ins bs k b) (p + 1) lv = lnk hs bs p lv := by
  unfold lnk
  rw [hof_high hk hp]
  split
  · rw [nx_beyond hk (by omega) hpl, ins_gt (by omega) (by have := nx_ge hs p lv; omega)]
  · rfl
/-- a new tower grows by one: no other level's links change -/
theorem lnk_other {p m lv : Nat} (hk : k ≤ hs.length) (cs : List Nat) (hne : lv ≠ m) (hp : p ≤ hs.length + 1) : lnk (ins hs k (m + 1)) cs p lv = lnk (ins hs k m) cs p lv := by
  have hD : ∀ i, (lv < (ins hs k (m + 1)).getD i 0) ↔ (lv < (ins hs k m).getD i 0) := fun i => by
    rcases Nat.lt_trichotomy i k with h | h | h
    · rw [insD_lt hk h, insD_lt hk h]
    · subst h; rw [insD_at hk, insD_at hk]; omega
    · obtain ⟨q, rfl⟩ : ∃ q, i = q + 1 := ⟨i - 1, by omega⟩
      rw [insD_gt hk (by omega), insD_gt hk (by omega)]
  have hn : nx (ins hs k (m + 1)) p lv = nx (ins hs k m) p lv := by
    refine nx_eq (nx_ge _ _ _) (by rw [ins_length, ← ins_length hs k m]; exact nx_le (by rw [ins_length]; exact hp) lv) (fun h => ?_) (fun i h1 h2 => ?_)
    · exact (hD _).2 (nx_hit (by rw [ins_length] at h ⊢; exact h))
    · have h3 := nx_miss h1 h2
      have := hD i
      omega
  have hh : (lv < hof (ins hs k (m + 1)) p) ↔ (lv < hof (ins hs k m) p) := by
    cases p with
    | zero => exact Iff.rfl
    | succ p => exact hD p
  unfold lnk
  rw [hn]
  by_cases h : lv < hof (ins hs k m) p
  · rw [if_pos h, if_pos (hh.2 h)]
  · rw [if_neg h, if_neg (fun h' => h (hh.1 h'))]
/-- at its own level: those that stand neither ahead of it nor are it -/
theorem lnk_same {p m : Nat} (hk : k ≤ hs.length) (cs : List Nat) (h8 : m < 8) (hp : p ≤ hs.length + 1) (h1 : p ≠ pd hs m k) (h2 : p ≠ k + 1) : lnk (ins hs k (m + 1)) cs p m = lnk (ins hs k m) cs p m := by
  have hh := pd_hit hs m k h8
  have hm := pd_miss hs m k
  have hl := pd_le hs m k
  generalize pd hs m k = q at *
  unfold lnk
  rcases Nat.lt_trichotomy p (k + 1) with h | h | h
  · rw [hof_low hk (by omega), hof_low hk (by omega)]
    by_cases hpq : p < q
    · cases q with
      | zero => omega
      | succ q =>
        have hq' : m < hs.getD q 0 := hh
        have key : ∀ a, nx (ins hs k a) p m = nx hs p m := fun a => by
          have hle := nx_le (show p ≤ hs.length by omega) m
          have h0 : nx hs p m ≤ q := by
            rcases Nat.lt_or_ge q (nx hs p m) with h3 | h3
            · have := nx_miss (show p ≤ q by omega) h3; omega
            · exact h3
          refine nx_eq (nx_ge _ _ _) (by rw [ins_length]; omega) (fun h3 => ?_) (fun i g1 g2 => ?_)
          · rw [insD_lt hk (by omega)]; exact nx_hit (by omega)
          · rw [insD_lt hk (by omega)]; exact nx_miss g1 g2
        rw [key, key]
    · cases p with
      | zero => omega
      | succ p =>
        have := hm p (by omega) (by omega)
        have hno : ¬ m < hof hs (p + 1) := by show ¬ m < hs.getD p 0; omega
        rw [if_neg hno, if_neg hno]
  · exact absurd h h2
  · obtain ⟨p, rfl⟩ : ∃ r, p = r + 1 := ⟨p - 1, by omega⟩
    rw [hof_high hk (by omega), hof_high hk (by omega), nx_beyond hk (by omega) (by omega), nx_beyond hk (by omega) (by omega)]
/-- the one ahead leads to it -/
theorem lnk_ahead {m b : Nat} (hk : k ≤ hs.length) (hb : bs.length = hs.length) (h8 : m < 8) : lnk (ins hs k (m + 1)) (ins bs k b) (pd hs m k) m = .pointer (some ⟨b, 0, none⟩) := by
  have hh := pd_hit hs m k h8
  have hm := pd_miss hs m k
  have hl := pd_le hs m k
  generalize pd hs m k = q at *
  have hn : nx (ins hs k (m + 1)) q m = k := by
    refine nx_eq hl (by rw [ins_length]; omega) (fun _ => by rw [insD_at hk]; omega) (fun i h1 h2 => ?_)
    rw [insD_lt hk h2]; exact hm i h1 h2
  unfold lnk
  rw [hof_low hk hl, if_pos hh, hn, ins_at (by omega)]; rfl
/-- and it leads on to where that one led -/
theorem lnk_on {m : Nat} (hk : k ≤ hs.length) (cs : List Nat) (h8 : m < 8) : lnk (ins hs k (m + 1)) cs (k + 1) m = lnk (ins hs k m) cs (pd hs m k) m := by
  have hh := pd_hit hs m k h8
  have hm := pd_miss hs m k
  have hl := pd_le hs m k
  generalize pd hs m k = q at *
  have hn : nx (ins hs k m) q m = nx hs k m + 1 := by
    have hle := nx_le hk m
    have hge := nx_ge hs k m
    refine nx_eq (by omega) (by rw [ins_length]; omega) (fun h => ?_) (fun i h1 h2 => ?_)
    · rw [ins_length] at h; rw [insD_gt hk hge]; exact nx_hit (by omega)
    · rcases Nat.lt_trichotomy i k with h | h | h
      · rw [insD_lt hk h]; exact hm i h1 h
      · subst h; rw [insD_at hk]; exact Nat.le_refl _
      · obtain ⟨r, rfl⟩ : ∃ r, i = r + 1 := ⟨i - 1, by omega⟩
        rw [insD_gt hk (by omega)]; exact nx_miss (by omega) (show r < nx hs k m by omega)
  unfold lnk
  rw [hof_low hk hl, if_pos hh, hn, if_pos (by show m < (ins hs k (m + 1)).getD k 0; rw [insD_at hk]; omega), nx_beyond hk (Nat.le_refl _) hk]
/-- where a look stands: the place at a level, the next one there -/
theorem lnk_step {p lv j : Nat} (h : lv < hof hs p) (hj : nx hs p lv = j) : lnk hs bs p lv = ptrO bs[j]? := by
  unfold lnk; rw [if_pos h, hj]
end Go.Proofs.Ytcfcijgnkbmlaaa.Pl
