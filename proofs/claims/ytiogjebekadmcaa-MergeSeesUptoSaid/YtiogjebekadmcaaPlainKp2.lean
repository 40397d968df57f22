
/- Plain law: what is kept, told by the places at which groups begin. Condition: none. -/
import Derived.Test.YtiogjebekadmcaaPlainKp
import Derived.Test.YtiogjebekadmcaaPlainCt
namespace Go.Proofs.Ytiogjebekadmcaa.Pl

theorem mem_fl {gs : List (List Ver)} {g : List Ver} (h : g ∈ gs) : g.length ≤ (fl gs).length := by
  induction gs with
  | nil => cases h
  | cons x gs ih =>
    rw [fl_cons, List.length_append]
    rcases List.mem_cons.1 h with h | h
    · subst h; omega
    · have := ih h; omega
theorem grps_mem {l g : List Ver} (h : g ∈ grps l) : g.length ≤ l.length := by
  have := mem_fl h
  rwa [grps_fl] at this
theorem keepOf_length (fs : List Nat) (bot : Bool) (l : List Ver) : (keepOf fs bot l).length ≤ l.length := by
  have h := keepG_length fs bot (grps l)
  have e : (grps l).foldr (fun g l => g ++ l) [] = l := grps_fl l
  rw [e] at h
  exact h

theorem gst1_fresh {s : List (List Ver) × List Ver} {x : Ver} (h : s.2 = [] ∨ gnew s.2 x = true) : gst1 s x = (gend s, [x]) := by
  rcases h with h | h
  · rw [gst1_old (by rw [h]; rfl), gend_none h, h]; rfl
  · rw [gst1_new h, gend_some (by intro e; rw [e] at h; cases h)]
theorem fold_same {k : List UInt8} : ∀ (r : List Ver) (G : List (List Ver)) (x : Ver) (m : List Ver), x.key.toList = k → (∀ y ∈ r, y.key.toList = k) → r.foldl gst1 (G, x :: m) = (G, x :: m ++ r)
  | [], G, x, m, _, _ => by simp
  | y :: r, G, x, m, hx, h => by
    rw [List.foldl_cons, gst1_old (s := (G, x :: m)) (x := y) (by show (!(x.key.toList == y.key.toList)) = false; rw [hx, h y (by simp)]; simp)]
    show List.foldl gst1 (G, x :: (m ++ [y])) r = _
    rw [fold_same r G x (m ++ [y]) hx (fun z hz => h z (by simp [hz]))]
    simp
theorem gst_last (q : List Ver) (y : Ver) : ∃ z m, (gst (q ++ [y])).2 = z :: m ∧ z.key.toList = y.key.toList := by
  rw [gst_snoc]
  cases h : gnew (gst q).2 y
  · rw [gst1_old h]
    cases h2 : (gst q).2 with
    | nil => exact ⟨y, [], rfl, rfl⟩
    | cons z m =>
      rw [h2] at h
      exact ⟨z, m ++ [y], rfl, by simpa [gnew] using h⟩
  · rw [gst1_new h]; exact ⟨y, [], rfl, rfl⟩
/-- one more group -/
theorem grps_seg {l : List Ver} {a b : Nat} (hab : a < b) (hb : b ≤ l.length) (hs : isStart l a) (hin : ∀ j, a < j → j < b → ¬ isStart l j) : grps (l.take b) = grps (l.take a) ++ [seg l a b] := by
  have h1 := group_one hab hb hin
  have h2 : seg l a b = (l[a]'(by omega)) :: seg l (a + 1) b := by
    have := seg_split l (Nat.le_refl a) hab hb
    rw [this]
    have : seg l a a = [] := List.eq_nil_of_length_eq_zero (by rw [seg_length l (by omega)]; omega)
    rw [this]; rfl
  have hf : (gst (l.take a)).2 = [] ∨ gnew (gst (l.take a)).2 (l[a]'(by omega)) = true := by
    rcases hs with h0 | ⟨h, h3, hne⟩
    · subst h0; exact .inl rfl
    · by_cases h0 : a = 0
      · subst h0; exact .inl rfl
      · obtain ⟨p, rfl⟩ : ∃ p, a = p + 1 := ⟨a - 1, by omega⟩
        right
        rw [List.take_succ_eq_append_getElem (by omega)]
        obtain ⟨z, m, e, hz⟩ := gst_last (l.take p) (l[p]'(by omega))
        rw [e]
        show (!(z.key.toList == _)) = true
        rw [hz]
        simp only [Nat.add_sub_cancel] at hne
        rw [Bool.not_eq_true', beq_eq_false_iff_ne]
        exact fun e => hne e.symm
  unfold grps
  rw [take_seg l (Nat.le_of_lt hab)]
  have e : gst (l.take a ++ seg l a b) = (gend (gst (l.take a)), seg l a b) := by
    rw [h2]
    show List.foldl gst1 ([], []) (l.take a ++ l[a] :: seg l (a + 1) b) = _
    rw [List.foldl_append, List.foldl_cons]
    show List.foldl gst1 (gst1 (gst (l.take a)) _) _ = _
    rw [gst1_fresh hf, fold_same (k := (l[a]'(by omega)).key.toList) _ _ _ _ rfl]
    · rfl
    · intro y hy
      exact h1 y (by rw [h2]; exact List.mem_cons_of_mem _ hy)
  rw [e, gend_some (by rw [h2]; simp)]
theorem keepOf_seg {fs : List Nat} {bot : Bool} {l : List Ver} {a b : Nat} (hab : a < b) (hb : b ≤ l.length) (hs : isStart l a) (hin : ∀ j, a < j → j < b → ¬ isStart l j) : keepOf fs bot (l.take b) = keepOf fs bot (l.take a) ++ keep1 fs bot (seg l a b) := by
  unfold keepOf
  rw [grps_seg hab hb hs hin, keepG_snoc]
/-- some of the floors asked -/
theorem any_take {fs : List Nat} {p : Nat → Bool} {j : Nat} (h : j < fs.length) : (fs.take (j + 1)).any p = ((fs.take j).any p || p fs[j]) := by
  rw [List.take_succ_eq_append_getElem h, List.any_append]; simp
theorem any_all {fs : List Nat} {p : Nat → Bool} : (fs.take fs.length).any p = fs.any p := by rw [List.take_length]
/-- is the i-th one of a row needed, whose group begins at a? -/
def needB (fs : List Nat) (l : List Ver) (a i : Nat) (h : i < l.length) : Bool := decide (i = a) || fs.any fun f => decide (l[i].seq ≤ f) && decide (f < (l[i - 1]'(by omega)).seq)
theorem needI_seg {fs : List Nat} {l : List Ver} {a b i : Nat} (h1 : a ≤ i) (h2 : i < b) (h3 : b ≤ l.length) : needI fs (seg l a b) (i - a) = needB fs l a i (by omega) := by
  unfold needB
  by_cases e : i = a
  · subst e; simp [needI]
  · obtain ⟨j, rfl⟩ : ∃ j, i = a + j + 1 := ⟨i - a - 1, by omega⟩
    have hl := seg_length l (a := a) h3
    rw [show a + j + 1 - a = j + 1 by omega, needI_succ (by omega), seg_get l h3, seg_get l h3]
    unfold needAt
    rw [decide_eq_false (by omega), Bool.false_or]
    rfl
theorem needN_seg {fs : List Nat} {l : List Ver} {a b i : Nat} (h1 : a ≤ i) (h2 : i < b) (h3 : b ≤ l.length) : needN fs (seg l a b) (i + 1 - a) = needN fs (seg l a b) (i - a) ++ (if needB fs l a i (by omega) then [l[i]'(by omega)] else []) := by
  rw [show i + 1 - a = (i - a) + 1 by omega, ← needI_seg h1 h2 h3]
  have hl := seg_length l (a := a) h3
  conv => lhs; unfold needN
  rw [List.getElem?_eq_getElem (show i - a < (seg l a b).length by omega), seg_get l h3]
  simp only [show a + (i - a) = i by omega]
  rfl
end Go.Proofs.Ytiogjebekadmcaa.Pl
