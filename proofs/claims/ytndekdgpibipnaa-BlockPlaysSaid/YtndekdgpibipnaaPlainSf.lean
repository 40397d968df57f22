
/- Plain law: what a Sync has made safe stays. Condition: none. -/
import Derived.Test.YtndekdgpibipnaaWDevW
namespace Go.Proofs.Ytndekdgpibipnaa

/-- the first k of n laid -/
def Pl.upTo {α : Type} (n k : Nat) (f : Nat → α) (z : α) : List α := (List.range k).map f ++ List.replicate (n - k) z
theorem Pl.upTo_zero {α : Type} (n : Nat) (f : Nat → α) (z : α) : Pl.upTo n 0 f z = List.replicate n z := by simp [Pl.upTo]
theorem Pl.upTo_length {α : Type} {n k : Nat} (f : Nat → α) (z : α) (h : k ≤ n) : (Pl.upTo n k f z).length = n := by simp [Pl.upTo]; omega
theorem Pl.upTo_set {α : Type} {n k : Nat} (f : Nat → α) (z : α) (h : k < n) : (Pl.upTo n k f z).set k (f k) = Pl.upTo n (k + 1) f z := by
  obtain ⟨r, hr⟩ : ∃ r, n - k = r + 1 := ⟨n - k - 1, by omega⟩
  have hr' : n - (k + 1) = r := by omega
  unfold Pl.upTo
  rw [hr, hr', List.set_append, if_neg (by simp), List.range_succ, List.map_append, List.append_assoc]
  simp [List.replicate_succ]
theorem Pl.upTo_get {α : Type} {n : Nat} (f : Nat → α) (z : α) {i : Nat} (h : i < n) : (Pl.upTo n n f z)[i]'(by rw [Pl.upTo_length f z (Nat.le_refl _)]; exact h) = f i := by simp [Pl.upTo]

/-- writes one behind the other -/
def Pl.wrs (s : Pl.Dv) (l : List AcT) : Pl.Dv := l.foldl (fun s a => s.wr a.at' (Pl.filled a.num 256)) s
theorem Pl.wrs_snoc (s : Pl.Dv) (l : List AcT) (a : AcT) : Pl.wrs s (l ++ [a]) = (Pl.wrs s l).wr a.at' (Pl.filled a.num 256) := by simp [Pl.wrs]
theorem Pl.wrs_safe (l : List AcT) : ∀ s : Pl.Dv, (Pl.wrs s l).safe = s.safe := by
  refine Pl.snoc_ind (P := fun l => ∀ s : Pl.Dv, (Pl.wrs s l).safe = s.safe) (fun _ => rfl) (fun l a ih s => ?_) l
  rw [Pl.wrs_snoc, Pl.wr_safe, ih]
theorem Pl.wrs_wait (l : List AcT) : ∀ (s : Pl.Dv) (p : Nat × ByteArray), p ∈ (Pl.wrs s l).wait → p ∈ s.wait ∨ ∃ a ∈ l, (p.1 : Int) = a.at' ∧ p.2 = Pl.filled a.num 256 ∧ a.at' < (s.safe.length : Int) := by
  refine Pl.snoc_ind (P := fun l => ∀ (s : Pl.Dv) (p : Nat × ByteArray), p ∈ (Pl.wrs s l).wait → p ∈ s.wait ∨ ∃ a ∈ l, (p.1 : Int) = a.at' ∧ p.2 = Pl.filled a.num 256 ∧ a.at' < (s.safe.length : Int)) (fun _ _ h => .inl h) (fun l a ih s p h => ?_) l
  rw [Pl.wrs_snoc] at h
  rcases Pl.wr_wait h with h | ⟨h1, h2, h3⟩
  · rcases ih s p h with h | ⟨b, hb, h4⟩
    · exact .inl h
    · exact .inr ⟨b, List.mem_append_left _ hb, h4⟩
  · exact .inr ⟨a, by simp, h1, h2, by rw [Pl.wrs_safe] at h3; exact h3⟩
theorem Pl.Un.wrs (l : List AcT) : ∀ {k : Nat} {s : Pl.Dv}, Pl.Un k s → Pl.Un (k + l.length) (Pl.wrs s l) := by
  refine Pl.snoc_ind (P := fun l => ∀ {k : Nat} {s : Pl.Dv}, Pl.Un k s → Pl.Un (k + l.length) (Pl.wrs s l)) (fun h => h) (fun l a ih k s h => ?_) l
  rw [Pl.wrs_snoc, List.length_append, List.length_singleton, ← Nat.add_assoc]
  exact (ih h).wr _ _
/-- is a block written to? -/
def Pl.wrote (l : List AcT) : List Bool := (List.range 40).map fun (k : Nat) => l.any fun a => a.at' == (k : Int)
theorem Pl.wrote_length (l : List AcT) : (Pl.wrote l).length = 40 := by simp [Pl.wrote]
theorem Pl.wrote_nil : Pl.wrote [] = List.replicate 40 false := rfl
theorem Pl.wrote_in {l : List AcT} {a : AcT} (k : Nat) (h : a.at' = (k : Int)) : (Pl.wrote l).set k true = Pl.wrote (l ++ [a]) := by
  apply List.ext_getElem
  · simp [Pl.wrote]
  · intro i h1 h2
    have hi : i < 40 := by simpa [Pl.wrote] using h2
    rw [List.getElem_set]
    by_cases e : k = i
    · subst e; simp [Pl.wrote, h]
    · rw [if_neg e]
      have : (a.at' == (i : Int)) = false := by simp; omega
      simp [Pl.wrote, this]
theorem Pl.wrote_out {l : List AcT} {a : AcT} (h : ¬ (0 ≤ a.at' ∧ a.at' < 40)) : Pl.wrote (l ++ [a]) = Pl.wrote l := by
  unfold Pl.wrote
  refine List.map_congr_left (fun i hi => ?_)
  have hi' := List.mem_range.1 hi
  have : (a.at' == (i : Int)) = false := by simp; omega
  simp [this]
/-- a block to which nothing was written holds what it held -/
theorem Pl.safe_held {s : Pl.Dv} {l : List AcT} {i : Nat} (hi : i < 40) (hw : s.wait = []) (hn : (Pl.wrote l)[i]'(by rw [Pl.wrote_length]; exact hi) = false) (keep : List Bool) (torn : Int) (n : Nat) : ((Pl.wrs s l).crash keep torn n).read i = s.read i := by
  unfold Pl.Dv.read
  rw [hw]
  show (Pl.crashN keep torn n (Pl.wrs s l).wait (Pl.wrs s l).wait.length (Pl.wrs s l).safe).getD i .empty = s.safe.getD i .empty
  rw [Pl.crashN_get, Pl.wrs_safe]
  intro p hp e
  rcases Pl.wrs_wait l s p hp with h | ⟨a, ha, h1, _⟩
  · rw [hw] at h; cases h
  · simp only [Pl.wrote, List.getElem_map, List.getElem_range] at hn
    have := List.any_eq_false.1 hn a ha
    simp at this
    omega
end Go.Proofs.Ytndekdgpibipnaa
