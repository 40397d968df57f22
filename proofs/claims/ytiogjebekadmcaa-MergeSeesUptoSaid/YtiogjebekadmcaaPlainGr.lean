
/- Plain law: the groups of a row. Condition: none. -/
import Derived.Test.YtiogjebekadmcaaVers
namespace Go.Proofs.Ytiogjebekadmcaa.Pl

/-- does another key begin behind this group? -/
def gnew : List Ver → Ver → Bool
  | [], _ => false
  | a :: _, x => !(a.key.toList == x.key.toList)
/-- the groups that are closed, and the one at hand -/
def gst1 (s : List (List Ver) × List Ver) (x : Ver) : List (List Ver) × List Ver := if gnew s.2 x then (s.1 ++ [s.2], [x]) else (s.1, s.2 ++ [x])
def gst (l : List Ver) : List (List Ver) × List Ver := l.foldl gst1 ([], [])
def gend (s : List (List Ver) × List Ver) : List (List Ver) := s.1 ++ (if s.2.isEmpty then [] else [s.2])
def grps (l : List Ver) : List (List Ver) := gend (gst l)

theorem gst_snoc (l : List Ver) (x : Ver) : gst (l ++ [x]) = gst1 (gst l) x := by simp [gst]
theorem gst1_new {s : List (List Ver) × List Ver} {x : Ver} (h : gnew s.2 x = true) : gst1 s x = (s.1 ++ [s.2], [x]) := by unfold gst1; rw [if_pos h]
theorem gst1_old {s : List (List Ver) × List Ver} {x : Ver} (h : gnew s.2 x = false) : gst1 s x = (s.1, s.2 ++ [x]) := by unfold gst1; rw [if_neg (by rw [h]; exact Bool.false_ne_true)]
theorem gst1_prefix (s : List (List Ver) × List Ver) (x : Ver) : s.1 <+: (gst1 s x).1 := by
  unfold gst1; split
  · exact ⟨[s.2], rfl⟩
  · exact ⟨[], by simp⟩
theorem fold_prefix (r : List Ver) : ∀ s : List (List Ver) × List Ver, s.1 <+: (r.foldl gst1 s).1 := by
  induction r with
  | nil => intro s; exact List.prefix_refl _
  | cons x r ih => intro s; exact (gst1_prefix s x).trans (ih (gst1 s x))
theorem gst_prefix {p l : List Ver} (h : p <+: l) : (gst p).1 <+: grps l := by
  obtain ⟨r, rfl⟩ := h
  have h1 := fold_prefix r (gst p)
  rw [show List.foldl gst1 (gst p) r = gst (p ++ r) from by simp [gst]] at h1
  exact h1.trans ⟨_, rfl⟩
/-- what a group's first round yields -/
theorem gst_yield {p l : List Ver} {x : Ver} (h : p ++ [x] <+: l) (hn : gnew (gst p).2 x = true) : (gst p).1 ++ [(gst p).2] <+: grps l := by
  have := gst_prefix h
  rwa [gst_snoc, gst1_new hn] at this
theorem gend_some {s : List (List Ver) × List Ver} (h : s.2 ≠ []) : gend s = s.1 ++ [s.2] := by
  unfold gend; rw [if_neg (by simpa using h)]
theorem gend_none {s : List (List Ver) × List Ver} (h : s.2 = []) : gend s = s.1 := by
  unfold gend; rw [h]; simp
theorem gst_length (l : List Ver) : (gst l).2.length ≤ l.length := by
  suffices h : ∀ (l : List Ver) (s : List (List Ver) × List Ver), (l.foldl gst1 s).2.length ≤ s.2.length + l.length by
    have := h l ([], [])
    simpa [gst] using this
  intro l
  induction l with
  | nil => intro s; simp
  | cons x l ih =>
    intro s
    have := ih (gst1 s x)
    have h2 : (gst1 s x).2.length ≤ s.2.length + 1 := by unfold gst1; split <;> simp
    simp only [List.foldl_cons, List.length_cons]
    omega
theorem gst_lt {p l : List Ver} {x : Ver} (h : p ++ [x] <+: l) : (gst p).2.length < l.length := by
  have := gst_length p
  have := h.length_le
  simp at this
  omega
end Go.Proofs.Ytiogjebekadmcaa.Pl
