
/- Plain law: a row cut into lists. Condition: none. -/
import Derived.Test.YtiogjebekadmcaaPlainGr
namespace Go.Proofs.Ytiogjebekadmcaa.Pl

/-- how many bytes versions have -/
def vsz (x : Ver) : Nat := x.key.size + x.val.size + 16
def vsum : List Ver → Nat
  | [] => 0
  | x :: l => vsz x + vsum l
theorem vsum_append : ∀ l r : List Ver, vsum (l ++ r) = vsum l + vsum r
  | [], _ => by simp [vsum]
  | x :: l, r => by simp only [List.cons_append, vsum, vsum_append l r]; omega
theorem vsum_one (x : Ver) : vsum [x] = vsz x := by simp [vsum]

/-- the lists that are closed, and the one at hand, behind one more group (big: has a list enough bytes?) -/
def cst1 (big : List Ver → Bool) (s : List (List Ver) × List Ver) (g : List Ver) : List (List Ver) × List Ver := if big (s.2 ++ g) then (s.1 ++ [s.2 ++ g], []) else (s.1, s.2 ++ g)
def cst (big : List Ver → Bool) (gs : List (List Ver)) : List (List Ver) × List Ver := gs.foldl (cst1 big) ([], [])
def cutsOf (big : List Ver → Bool) (l : List Ver) : List (List Ver) := gend (cst big (grps l))

variable {big : List Ver → Bool}
theorem cst_snoc (gs : List (List Ver)) (g : List Ver) : cst big (gs ++ [g]) = cst1 big (cst big gs) g := by simp [cst]
theorem cst1_big {s : List (List Ver) × List Ver} {g : List Ver} (h : big (s.2 ++ g) = true) : cst1 big s g = (s.1 ++ [s.2 ++ g], []) := by unfold cst1; rw [if_pos h]
theorem cst1_small {s : List (List Ver) × List Ver} {g : List Ver} (h : big (s.2 ++ g) = false) : cst1 big s g = (s.1, s.2 ++ g) := by unfold cst1; rw [if_neg (by rw [h]; exact Bool.false_ne_true)]
theorem cst1_prefix (s : List (List Ver) × List Ver) (g : List Ver) : s.1 <+: (cst1 big s g).1 := by
  unfold cst1; split
  · exact ⟨[_], rfl⟩
  · exact ⟨[], by simp⟩
theorem cfold_prefix (r : List (List Ver)) : ∀ s : List (List Ver) × List Ver, s.1 <+: (r.foldl (cst1 big) s).1 := by
  induction r with
  | nil => intro s; exact List.prefix_refl _
  | cons x r ih => intro s; exact (cst1_prefix s x).trans (ih (cst1 big s x))
theorem cst_prefix {p : List (List Ver)} {l : List Ver} (h : p <+: grps l) : (cst big p).1 <+: cutsOf big l := by
  obtain ⟨r, hr⟩ := h
  have h1 := cfold_prefix (big := big) r (cst big p)
  rw [show List.foldl (cst1 big) (cst big p) r = cst big (p ++ r) from by simp [cst], hr] at h1
  exact h1.trans ⟨_, rfl⟩
/-- what a list that has enough yields -/
theorem cst_yield {p : List (List Ver)} {g l : List Ver} (h : p ++ [g] <+: grps l) (hb : big ((cst big p).2 ++ g) = true) : (cst big p).1 ++ [(cst big p).2 ++ g] <+: cutsOf big l := by
  have := cst_prefix (big := big) h
  rwa [cst_snoc, cst1_big hb] at this

/-- all versions of lists -/
def fl (ls : List (List Ver)) : List Ver := ls.foldr (· ++ ·) []
theorem fl_nil : fl [] = [] := rfl
theorem fl_cons (x : List Ver) (ls : List (List Ver)) : fl (x :: ls) = x ++ fl ls := rfl
theorem fl_append (a b : List (List Ver)) : fl (a ++ b) = fl a ++ fl b := by
  induction a with
  | nil => rfl
  | cons x a ih => rw [List.cons_append, fl_cons, fl_cons, ih, List.append_assoc]
theorem fl_snoc (a : List (List Ver)) (x : List Ver) : fl (a ++ [x]) = fl a ++ x := by rw [fl_append]; simp [fl]
theorem gst_fl (l : List Ver) : ∀ s : List (List Ver) × List Ver, fl (l.foldl gst1 s).1 ++ (l.foldl gst1 s).2 = fl s.1 ++ s.2 ++ l := by
  induction l with
  | nil => intro s; simp
  | cons x l ih =>
    intro s
    rw [List.foldl_cons, ih]
    unfold gst1
    split
    · simp [fl_snoc]
    · simp
theorem gend_fl (s : List (List Ver) × List Ver) : fl (gend s) = fl s.1 ++ s.2 := by
  unfold gend
  split
  · rename_i h; rw [List.append_nil, show s.2 = [] from by simpa using h, List.append_nil]
  · rw [fl_snoc]
theorem grps_fl (l : List Ver) : fl (grps l) = l := by
  unfold grps
  rw [gend_fl]
  have := gst_fl l ([], [])
  simpa [gst, fl] using this
theorem cfold_fl (gs : List (List Ver)) : ∀ s : List (List Ver) × List Ver, fl (gs.foldl (cst1 big) s).1 ++ (gs.foldl (cst1 big) s).2 = fl s.1 ++ s.2 ++ fl gs := by
  induction gs with
  | nil => intro s; simp [fl]
  | cons g gs ih =>
    intro s
    rw [List.foldl_cons, ih]
    unfold cst1
    split
    · simp [fl_snoc, fl_cons]
    · simp [fl_cons]
theorem cuts_fl (l : List Ver) : fl (cutsOf big l) = l := by
  unfold cutsOf
  rw [gend_fl]
  have := cfold_fl (big := big) (grps l) ([], [])
  rw [grps_fl] at this
  simpa [cst, fl] using this
theorem cst_length (p : List (List Ver)) (g l : List Ver) (h : p ++ [g] <+: grps l) : (cst big p).2.length + g.length ≤ l.length := by
  have h1 := cfold_fl (big := big) p ([], [])
  have h2 : (fl (p ++ [g])).length ≤ (fl (grps l)).length := by
    obtain ⟨r, hr⟩ := h
    rw [← hr, fl_append (p ++ [g]) r, List.length_append]; omega
  rw [grps_fl, fl_snoc] at h2
  have h3 := congrArg List.length h1
  simp only [List.length_append, fl_nil, List.length_nil, Nat.zero_add] at h3 h2
  unfold cst
  omega

/-- the same told from the rest of the row -/
def pc (big : List Ver → Bool) : List Ver → List Ver → List Ver → List (List Ver)
  | cur, g, [] => if (cur ++ g).isEmpty then [] else [cur ++ g]
  | cur, g, x :: r => if gnew g x then (if big (cur ++ g) then (cur ++ g) :: pc big [] [x] r else pc big (cur ++ g) [x] r) else pc big cur (g ++ [x]) r
theorem pc_of (r : List Ver) : ∀ (G : List (List Ver)) (g : List Ver), gend (cst big (gend (r.foldl gst1 (G, g)))) = (cst big G).1 ++ pc big (cst big G).2 g r := by
  induction r with
  | nil =>
    intro G g
    show gend (cst big (gend (G, g))) = _
    unfold pc
    by_cases hg : g = []
    · subst hg
      rw [gend_none (s := (G, [])) rfl]
      unfold gend
      simp
    · rw [gend_some (s := (G, g)) hg, cst_snoc]
      have hne : (cst big G).2 ++ g ≠ [] := by simp [hg]
      have hie : ((cst big G).2 ++ g).isEmpty = false := by simpa using fun _ => hg
      rw [hie]
      cases hb : big ((cst big G).2 ++ g)
      · rw [cst1_small hb, gend_some hne]; rfl
      · rw [cst1_big hb, gend_none rfl]; rfl
  | cons x r ih =>
    intro G g
    rw [List.foldl_cons]
    unfold pc
    cases hn : gnew g x
    · rw [gst1_old hn, ih]; simp
    · rw [gst1_new hn, ih, cst_snoc]
      cases hb : big ((cst big G).2 ++ g)
      · rw [cst1_small hb]; simp
      · rw [cst1_big hb]; simp
theorem cuts_pc (l : List Ver) : cutsOf big l = pc big [] [] l := by
  have := pc_of (big := big) l [] []
  simpa [cst, cutsOf, grps, gst] using this

/-- the document's: a version is looked at with the one behind it -/
def lastOf (x : Ver) : List Ver → Bool
  | [] => true
  | y :: _ => !(y.key.toList == x.key.toList)
def rc (big : List Ver → Bool) : List Ver → List Ver → List (List Ver)
  | _, [] => []
  | c, x :: r => if r.isEmpty || (lastOf x r && big (c ++ [x])) then (c ++ [x]) :: rc big [] r else rc big (c ++ [x]) r
theorem pc_rc (r : List Ver) : ∀ (cur g : List Ver) (y : Ver), (∀ x, gnew (g ++ [y]) x = !(x.key.toList == y.key.toList)) → pc big cur (g ++ [y]) r = rc big (cur ++ g) (y :: r) := by
  induction r with
  | nil =>
    intro cur g y _
    unfold pc rc
    simp [rc]
  | cons x r ih =>
    intro cur g y hg
    unfold pc
    rw [rc, hg x]
    have e1 : ∀ z : Ver, gnew ([] ++ [x]) z = !(z.key.toList == x.key.toList) := fun z => by
      show (!(x.key.toList == z.key.toList)) = _
      rw [Bool.beq_comm]
    cases hk : x.key.toList == y.key.toList
    · have hl : lastOf y (x :: r) = true := by show (!(x.key.toList == y.key.toList)) = true; rw [hk]; rfl
      rw [hl]
      have ih1 := ih [] [] x e1
      have ih2 := ih (cur ++ (g ++ [y])) [] x e1
      simp only [List.nil_append, List.append_nil] at ih1 ih2
      cases hb : big (cur ++ (g ++ [y]))
      · have hb' : big (cur ++ g ++ [y]) = false := by rw [List.append_assoc]; exact hb
        rw [hb', ih2]
        simp
      · have hb' : big (cur ++ g ++ [y]) = true := by rw [List.append_assoc]; exact hb
        rw [hb', ih1]
        simp
    · have hl : lastOf y (x :: r) = false := by show (!(x.key.toList == y.key.toList)) = false; rw [hk]; rfl
      rw [hl]
      have e2 : ∀ z : Ver, gnew ((g ++ [y]) ++ [x]) z = !(z.key.toList == x.key.toList) := fun z => by
        have h1 := hg z
        have : gnew (g ++ [y] ++ [x]) z = gnew (g ++ [y]) z := by
          cases g <;> rfl
        rw [this, h1]
        rw [beq_iff_eq.1 hk]
      have ih3 := ih cur (g ++ [y]) x e2
      rw [List.append_assoc g [y] [x]] at ih3 ⊢
      simp only [Bool.not_true, Bool.false_eq_true, if_false]
      rw [ih3]
      simp [List.append_assoc]
theorem cuts_rc (l : List Ver) : cutsOf big l = rc big [] l := by
  rw [cuts_pc]
  cases l with
  | nil => rfl
  | cons x r =>
    have h : pc big [] [] (x :: r) = pc big [] ([] ++ [x]) r := by
      conv => lhs; unfold pc
      rfl
    rw [h]
    exact pc_rc r [] [] x (fun z => by
      show (!(x.key.toList == z.key.toList)) = _
      rw [Bool.beq_comm])
theorem rc_ne (r : List Ver) : ∀ c : List Ver, ∀ x ∈ rc big c r, x ≠ [] := by
  induction r with
  | nil => intro c x h; cases h
  | cons y r ih =>
    intro c x h
    unfold rc at h
    split at h
    · rcases List.mem_cons.1 h with rfl | h
      · simp
      · exact ih _ _ h
    · exact ih _ _ h
theorem rc_length (r : List Ver) : ∀ c : List Ver, (rc big c r).length ≤ r.length := by
  induction r with
  | nil => intro c; simp [rc]
  | cons y r ih =>
    intro c
    unfold rc
    split
    · have := ih []; simp; omega
    · have := ih (c ++ [y]); simp; omega
end Go.Proofs.Ytiogjebekadmcaa.Pl
