
/- Plain law: a disk of blocks: what is read of it. Condition: none. -/
import Derived.Test.YtndekdgpibipnaaPlainDv
namespace Go.Proofs.Ytndekdgpibipnaa.Pl

theorem snoc_ind {α : Type} {P : List α → Prop} (h0 : P []) (h1 : ∀ l x, P l → P (l ++ [x])) (l : List α) : P l := by
  suffices h : ∀ n (l : List α), l.length = n → P l from h _ l rfl
  intro n
  induction n with
  | zero => intro l hl; rw [List.length_eq_zero_iff.1 hl]; exact h0
  | succ n ih =>
    intro l hl
    have hne : l ≠ [] := fun e => by rw [e] at hl; cases hl
    rw [← List.dropLast_concat_getLast hne]
    exact h1 _ _ (ih _ (by simp [hl]))

/-- the errno behind an act -/
def Dv.err (s : Dv) : Int := if s.down = true then 4 else 0
theorem Dv.err_down {s : Dv} (h : s.down = true) : s.err = 4 := by unfold Dv.err; rw [if_pos h]
theorem Dv.err_up {s : Dv} (h : s.down = false) : s.err = 0 := by unfold Dv.err; rw [if_neg (by rw [h]; exact Bool.false_ne_true)]
theorem lastW_nil (i : Nat) : lastW [] i = none := rfl
theorem lastW_snoc (w : List (Nat × ByteArray)) (p : Nat × ByteArray) (i : Nat) : lastW (w ++ [p]) i = if p.1 = i then some p.2 else lastW w i := by
  unfold lastW
  rw [List.reverse_append]
  by_cases h : p.1 = i
  · simp [h]
  · have : (p.1 == i) = false := by simpa using h
    simp [h, this]
theorem lastW_mem {w : List (Nat × ByteArray)} {i : Nat} {x : ByteArray} (h : lastW w i = some x) : (i, x) ∈ w := by
  unfold lastW at h
  cases hf : w.reverse.find? fun p => p.1 == i with
  | none => rw [hf] at h; cases h
  | some p =>
    rw [hf] at h
    have h1 := List.find?_some hf
    have h2 := List.mem_of_find?_eq_some hf
    simp at h h1 h2
    obtain ⟨a, b⟩ := p
    simp at h h1
    subst h h1
    exact h2
/-- what is read of a block -/
def Dv.read (s : Dv) (i : Nat) : ByteArray := (lastW s.wait i).getD (s.safe.getD i .empty)
theorem setAll_get (w : List (Nat × ByteArray)) : ∀ (l : List ByteArray) (i : Nat), i < l.length → (setAll l w).getD i .empty = (lastW w i).getD (l.getD i .empty) := by
  refine snoc_ind (P := fun w => ∀ (l : List ByteArray) (i : Nat), i < l.length → (setAll l w).getD i .empty = (lastW w i).getD (l.getD i .empty)) ?_ ?_ w
  · intro l i _; rfl
  · intro w p ih l i hi
    rw [setAll_snoc, lastW_snoc]
    have h1 := ih l i hi
    have hl := setAll_length w l
    by_cases h : p.1 = i
    · rw [if_pos h, h]
      simp [List.getD_eq_getElem?_getD, hl, hi]
    · rw [if_neg h, ← h1]
      simp [List.getD_eq_getElem?_getD, h]
theorem Dv.WF.read {s : Dv} (h : s.WF) {i : Nat} (hi : i < s.safe.length) : (s.read i).size = 256 := by
  unfold Dv.read
  cases hl : lastW s.wait i with
  | none =>
    simp only [Option.getD_none, List.getD_eq_getElem?_getD, List.getElem?_eq_getElem hi, Option.getD_some]
    exact h.size _ (List.getElem_mem hi)
  | some x => exact (h.wait _ (lastW_mem hl)).2
theorem read_flush (s : Dv) {i : Nat} (hi : i < s.safe.length) : s.flush.read i = s.read i := by
  unfold Dv.read Dv.flush
  simp only [lastW_nil, Option.getD_none]
  exact setAll_get s.wait s.safe i hi
/-- a block to which nothing was written is as it was -/
theorem crash1_get {keep : List Bool} {torn : Int} {n k : Nat} {l : List ByteArray} {p : Nat × ByteArray} {i : Nat} (hp : p.1 ≠ i) : (crash1 keep torn n k l p).getD i .empty = l.getD i .empty := by
  unfold crash1
  split
  · simp [List.getD_eq_getElem?_getD, hp]
  · split
    · simp [List.getD_eq_getElem?_getD, hp]
    · rfl
theorem crashN_get {keep : List Bool} {torn : Int} {n : Nat} {w : List (Nat × ByteArray)} {l : List ByteArray} {i : Nat} (h : ∀ p ∈ w, p.1 ≠ i) (m : Nat) : (crashN keep torn n w m l).getD i .empty = l.getD i .empty := by
  induction m with
  | zero => rfl
  | succ m ih =>
    unfold crashN
    split
    · rename_i p hp
      rw [crash1_get (h p (List.mem_of_getElem? hp)), ih]
    · exact ih
/-- behind a loss of power each block but the torn one's is what was safe or what was written -/
theorem crashN_mix {keep : List Bool} {torn : Int} {n : Nat} {w : List (Nat × ByteArray)} {l : List ByteArray} {i : Nat} (hi : i < l.length) (h : ∀ (k : Nat) p, w[k]? = some p → (k : Int) = torn → p.1 ≠ i) (m : Nat) :
    (crashN keep torn n w m l).getD i .empty = l.getD i .empty ∨ ∃ p ∈ w, p.1 = i ∧ (crashN keep torn n w m l).getD i .empty = p.2 := by
  induction m with
  | zero => exact .inl rfl
  | succ m ih =>
    have hu : ∀ p, w[m]? = some p → crashN keep torn n w (m + 1) l = crash1 keep torn n m (crashN keep torn n w m l) p := fun p hp => by
      conv => lhs; unfold crashN
      rw [hp]
    have hu0 : w[m]? = none → crashN keep torn n w (m + 1) l = crashN keep torn n w m l := fun hp => by
      conv => lhs; unfold crashN
      rw [hp]
    cases hp : w[m]? with
    | none => rw [hu0 hp]; exact ih
    | some p =>
      rw [hu p hp]
      by_cases hpi : p.1 = i
      · have ht : ¬ (m : Int) = torn := fun e => h m p hp e hpi
        unfold crash1
        rw [if_neg ht]
        split
        · refine .inr ⟨p, List.mem_of_getElem? hp, hpi, ?_⟩
          rw [hpi]
          simp [List.getD_eq_getElem?_getD, crashN_length, hi]
        · exact ih
      · rw [crash1_get hpi]; exact ih
/-- the block that may be torn -/
theorem crash_one (keep : List Bool) (torn : Int) (n : Nat) (w : List (Nat × ByteArray)) (l : List ByteArray) (m : Nat) : ∃ b, ∀ i, i < l.length → i ≠ b →
    (crashN keep torn n w m l).getD i .empty = l.getD i .empty ∨ ∃ p ∈ w, p.1 = i ∧ (crashN keep torn n w m l).getD i .empty = p.2 := by
  by_cases h : ∃ k : Nat, (k : Int) = torn ∧ k < w.length
  · obtain ⟨k, hk, hl⟩ := h
    refine ⟨(w[k]).1, fun i hi hne => crashN_mix hi (fun k' p hp he => ?_) m⟩
    obtain rfl : k' = k := by omega
    rw [List.getElem?_eq_getElem hl] at hp
    cases hp
    exact fun e => hne e.symm
  · refine ⟨0, fun i hi _ => crashN_mix hi (fun k p hp he => ?_) m⟩
    exact absurd ⟨k, he, (List.getElem?_eq_some_iff.1 hp).1⟩ h
end Go.Proofs.Ytndekdgpibipnaa.Pl
