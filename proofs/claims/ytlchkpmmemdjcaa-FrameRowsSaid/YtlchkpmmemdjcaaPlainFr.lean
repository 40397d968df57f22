
/- Plain law: the frames of bytes, one by one. Condition: none. -/
import Derived.Test.YtlchkpmmemdjcaaPlainK
namespace Go.Proofs.Ytlchkpmmemdjcaa.Pl

/-- a frame, and its place -/
abbrev AtF := Nat × UInt8 × List UInt8
/-- where the k-th frame begins, if all ahead of it are frames -/
def pos (s : List UInt8) : Nat → Nat
  | 0 => 0
  | k + 1 => pos s k + (takeFrame (s.drop (pos s k))).2.1
def okF (s : List UInt8) (k : Nat) : Prop := (takeFrame (s.drop (pos s k))).2.2 = 0
def frameAt (s : List UInt8) (k : Nat) : AtF := (pos s k, (takeFrame (s.drop (pos s k))).1)
/-- the first k ones -/
def frames (s : List UInt8) (k : Nat) : List AtF := (List.range k).map (frameAt s)
theorem frames_length (s : List UInt8) (k : Nat) : (frames s k).length = k := by simp [frames]
theorem frames_succ (s : List UInt8) (k : Nat) : frames s (k + 1) = frames s k ++ [frameAt s k] := by simp [frames, List.range_succ]
theorem frames_get (s : List UInt8) (k i : Nat) (h : i < (frames s k).length) : (frames s k)[i] = frameAt s i := by simp [frames]
/-- all up to the k-th one are frames -/
def Run (s : List UInt8) (k : Nat) : Prop := ∀ j, j < k → okF s j
/-- .. and no more -/
def Ends (s : List UInt8) (k : Nat) : Prop := Run s k ∧ ¬ okF s k
theorem Run.zero (s : List UInt8) : Run s 0 := fun j h => by omega
theorem Run.succ {s : List UInt8} {k : Nat} (h : Run s k) (h2 : okF s k) : Run s (k + 1) := fun j hj => by
  by_cases e : j = k
  · rw [e]; exact h2
  · exact h j (by omega)
theorem Ends.unique {s : List UInt8} {k m : Nat} (h : Ends s k) (h2 : Ends s m) : k = m := by
  rcases Nat.lt_trichotomy k m with h1 | h1 | h1
  · exact absurd (h2.1 k h1) h.2
  · exact h1
  · exact absurd (h.1 m h1) h2.2
theorem Ends.run_le {s : List UInt8} {k m : Nat} (h : Ends s k) (h2 : Run s m) : m ≤ k := by
  rcases Nat.lt_or_ge k m with h1 | h1
  · exact absurd (h2 k h1) h.2
  · exact h1
theorem take_size {l : List UInt8} (h : (takeFrame l).2.2 = 0) : 6 ≤ (takeFrame l).2.1 + 1 ∧ 5 ≤ (takeFrame l).2.1 ∧ (takeFrame l).2.1 ≤ l.length := by
  by_cases h1 : l.length < 5
  · rw [takeFrame_short h1] at h; cases h
  by_cases h2 : l.getD 4 0 = 0
  · rw [takeFrame_zero h1 h2] at h; cases h
  by_cases h3 : (takeText (l.drop 5) 262144).2.2 ≠ 0
  · rw [takeFrame_bad h1 h2 h3] at h; exact absurd h h3
  by_cases h4 : little (sum ((l.take (5 + (takeText (l.drop 5) 262144).2.1)).drop 4)) ≠ l.take 4
  · rw [takeFrame_sum h1 h2 h3 h4] at h; cases h
  rw [takeFrame_ok h1 h2 h3 h4]
  have := takeText_fits (l.drop 5) 262144
  rw [List.length_drop] at this
  show 6 ≤ 5 + _ + 1 ∧ 5 ≤ 5 + _ ∧ 5 + _ ≤ l.length
  omega
theorem take_code (l : List UInt8) (h : (takeFrame l).2.2 ≠ 0) : (takeFrame l).1 = (0, []) ∧ (takeFrame l).2.1 = 0 := by
  by_cases h1 : l.length < 5
  · rw [takeFrame_short h1]; exact ⟨rfl, rfl⟩
  by_cases h2 : l.getD 4 0 = 0
  · rw [takeFrame_zero h1 h2]; exact ⟨rfl, rfl⟩
  by_cases h3 : (takeText (l.drop 5) 262144).2.2 ≠ 0
  · rw [takeFrame_bad h1 h2 h3]; exact ⟨rfl, rfl⟩
  by_cases h4 : little (sum ((l.take (5 + (takeText (l.drop 5) 262144).2.1)).drop 4)) ≠ l.take 4
  · rw [takeFrame_sum h1 h2 h3 h4]; exact ⟨rfl, rfl⟩
  rw [takeFrame_ok h1 h2 h3 h4] at h
  exact absurd rfl h
theorem pos_le {s : List UInt8} {k : Nat} (h : Run s k) : 5 * k ≤ pos s k ∧ pos s k ≤ s.length := by
  induction k with
  | zero => exact ⟨by simp, by simp [pos]⟩
  | succ k ih =>
    obtain ⟨h1, h2⟩ := ih (fun j hj => h j (by omega))
    obtain ⟨_, h3, h4⟩ := take_size (h k (by omega))
    rw [List.length_drop] at h4
    show 5 * (k + 1) ≤ pos s k + _ ∧ pos s k + _ ≤ s.length
    omega
/-- behind all bytes there is none -/
theorem end_pos {s : List UInt8} {k : Nat} (h : s.length ≤ pos s k) : ¬ okF s k := by
  unfold okF
  rw [List.drop_eq_nil_of_le h, takeFrame_short (by simp)]
  decide
end Go.Proofs.Ytlchkpmmemdjcaa.Pl
