
/- Plain law: which versions of a group somebody may still see. Condition: none. -/
import Derived.Test.YtiogjebekadmcaaPlainGr
import Derived.Test.YtiogjebekadmcaaPlainMg
namespace Go.Proofs.Ytiogjebekadmcaa.Pl

/-- does a floor stand between a version and the one ahead? -/
def needAt (fs : List Nat) (p x : Ver) : Bool := fs.any fun f => decide (x.seq ≤ f) && decide (f < p.seq)
/-- is the i-th one of a group needed? -/
def needI (fs : List Nat) (g : List Ver) (i : Nat) : Bool := match i with
  | 0 => true
  | j + 1 => match g[j]?, g[j + 1]? with
    | some p, some x => needAt fs p x
    | _, _ => false
/-- of the first n of a group, those that are needed -/
def needN (fs : List Nat) (g : List Ver) : Nat → List Ver
  | 0 => []
  | n + 1 => needN fs g n ++ (if needI fs g n then (g[n]?).toList else [])
def need (fs : List Nat) (g : List Ver) : List Ver := needN fs g g.length
theorem needN_length (fs : List Nat) (g : List Ver) (n : Nat) : (needN fs g n).length ≤ n := by
  induction n with
  | zero => simp [needN]
  | succ n ih =>
    unfold needN
    rw [List.length_append]
    have : (if needI fs g n then (g[n]?).toList else []).length ≤ 1 := by
      split
      · cases g[n]? <;> simp
      · simp
    omega
theorem needN_yes {fs : List Nat} {g : List Ver} {n : Nat} (h : n < g.length) (hn : needI fs g n = true) : needN fs g (n + 1) = needN fs g n ++ [g[n]] := by
  conv => lhs; unfold needN
  rw [if_pos hn, List.getElem?_eq_getElem h]; rfl
theorem needN_no {fs : List Nat} {g : List Ver} {n : Nat} (hn : needI fs g n = false) : needN fs g (n + 1) = needN fs g n := by
  conv => lhs; unfold needN
  rw [if_neg (by rw [hn]; exact Bool.false_ne_true), List.append_nil]
theorem needI_succ {fs : List Nat} {g : List Ver} {j : Nat} (h : j + 1 < g.length) : needI fs g (j + 1) = needAt fs (g[j]'(by omega)) g[j + 1] := by
  unfold needI
  simp only [List.getElem?_eq_getElem h, List.getElem?_eq_getElem (show j < g.length by omega)]

/-- with bottom: without the last ones that are gone -/
def trimN (bot : Bool) (l : List Ver) : Nat → List Ver
  | 0 => []
  | n + 1 => if bot && ((l[n]?).map Ver.del).getD false then trimN bot l n else l.take (n + 1)
def trim (bot : Bool) (l : List Ver) : List Ver := trimN bot l l.length
theorem trimN_on {bot : Bool} {l : List Ver} {n : Nat} (h : n < l.length) (hb : bot = true) (hd : l[n].del = true) : trimN bot l (n + 1) = trimN bot l n := by
  conv => lhs; unfold trimN
  rw [if_pos (by rw [hb, List.getElem?_eq_getElem h]; exact hd)]
theorem trimN_end {bot : Bool} {l : List Ver} {n : Nat} (hn : n ≤ l.length) (h : n = 0 ∨ bot = false ∨ ∃ m, ∃ hm : m < l.length, n = m + 1 ∧ l[m].del = false) : trimN bot l n = l.take n := by
  cases n with
  | zero => simp [trimN]
  | succ n =>
    unfold trimN
    rw [if_neg]
    rw [List.getElem?_eq_getElem (by omega)]
    rcases h with h | h | ⟨m, hm, e, h⟩
    · omega
    · rw [h]; simp
    · obtain rfl : m = n := by omega
      simp [h]
/-- what is kept of one group -/
def keep1 (fs : List Nat) (bot : Bool) (g : List Ver) : List Ver := trim bot (need fs g)
theorem trimN_length (bot : Bool) (l : List Ver) (n : Nat) : (trimN bot l n).length ≤ n := by
  induction n with
  | zero => simp [trimN]
  | succ n ih =>
    unfold trimN
    split
    · omega
    · simp; omega
theorem keep1_length (fs : List Nat) (bot : Bool) (g : List Ver) : (keep1 fs bot g).length ≤ g.length :=
  Nat.le_trans (trimN_length _ _ _) (needN_length _ _ _)
/-- what is kept of a row -/
def keepG (fs : List Nat) (bot : Bool) (gs : List (List Ver)) : List Ver := gs.foldr (fun g l => keep1 fs bot g ++ l) []
def keepOf (fs : List Nat) (bot : Bool) (l : List Ver) : List Ver := keepG fs bot (grps l)
theorem keepG_append (fs : List Nat) (bot : Bool) (a b : List (List Ver)) : keepG fs bot (a ++ b) = keepG fs bot a ++ keepG fs bot b := by
  induction a with
  | nil => rfl
  | cons x a ih => show keep1 fs bot x ++ keepG fs bot (a ++ b) = _; rw [ih, ← List.append_assoc]; rfl
theorem keepG_snoc (fs : List Nat) (bot : Bool) (a : List (List Ver)) (g : List Ver) : keepG fs bot (a ++ [g]) = keepG fs bot a ++ keep1 fs bot g := by
  rw [keepG_append]; simp [keepG]
theorem keepG_prefix {fs : List Nat} {bot : Bool} {a b : List (List Ver)} (h : a <+: b) : keepG fs bot a <+: keepG fs bot b := by
  obtain ⟨r, rfl⟩ := h
  rw [keepG_append]; exact List.prefix_append _ _
/-- part of a group's -/
theorem keepG_part {fs : List Nat} {bot : Bool} {a : List (List Ver)} {g l : List Ver} (h : a ++ [g] <+: grps l) (n : Nat) : keepG fs bot a ++ (keep1 fs bot g).take n <+: keepOf fs bot l := by
  have h1 := keepG_prefix (fs := fs) (bot := bot) h
  rw [keepG_snoc] at h1
  refine List.IsPrefix.trans ?_ h1
  obtain ⟨r, hr⟩ := List.take_prefix n (keep1 fs bot g)
  exact ⟨r, by rw [List.append_assoc, hr]⟩
theorem keepG_length (fs : List Nat) (bot : Bool) (gs : List (List Ver)) : (keepG fs bot gs).length ≤ (gs.foldr (fun g l => g ++ l) []).length := by
  induction gs with
  | nil => simp [keepG]
  | cons g gs ih =>
    have := keep1_length fs bot g
    show (keep1 fs bot g ++ keepG fs bot gs).length ≤ (g ++ gs.foldr (fun g l => g ++ l) []).length
    simp only [List.length_append]
    omega
theorem needN_ne {fs : List Nat} {g : List Ver} {n : Nat} (h : n + 1 ≤ g.length) : 0 < (needN fs g (n + 1)).length := by
  induction n with
  | zero => rw [needN_yes (by omega) rfl]; simp
  | succ n ih =>
    have := ih (by omega)
    rw [needN, List.length_append]
    omega
theorem take_two {α : Type} {l : List α} {m k : Nat} (h : k < m) (h2 : k < l.length) : (l.take m).take (k + 1) = (l.take m).take k ++ [l[k]] := by
  rw [List.take_take, List.take_take, Nat.min_eq_left (by omega), Nat.min_eq_left (by omega), List.take_succ_eq_append_getElem h2]
/-- part of a group's, wherever it stands -/
theorem part_of {fs : List Nat} {bot : Bool} {a : List (List Ver)} {g : List Ver} {r L : List Ver} (h : keepG fs bot (a ++ [g]) <+: L) (e : keepG fs bot (a ++ [g]) = keepG fs bot a ++ r) (n : Nat) : keepG fs bot a ++ r.take n <+: L := by
  rw [e] at h
  refine List.IsPrefix.trans ?_ h
  obtain ⟨t, ht⟩ := List.take_prefix n r
  exact ⟨t, by rw [List.append_assoc, ht]⟩
end Go.Proofs.Ytiogjebekadmcaa.Pl
