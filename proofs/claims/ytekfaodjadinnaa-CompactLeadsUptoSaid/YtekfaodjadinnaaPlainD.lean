
/- Plain law: the text behind a text. Condition: none. -/
import Derived.Test.YtekfaodjadinnaaPlainA
namespace Go.Proofs.Ytekfaodjadinnaa.Pl

/-- of the first n bytes of a text, how many are left when the greatest bytes at their end are struck -/
def strip (l : List UInt8) : Nat → Nat
  | 0 => 0
  | n + 1 => if l[n]? = some 255 then strip l n else n + 1

/-- the text behind a text -/
def behind (l : List UInt8) : List UInt8 :=
  let n := strip l l.length
  if n = 0 then [] else l.take (n - 1) ++ [(l[n - 1]?).getD 0 + 1]

theorem strip_le (l : List UInt8) : ∀ n, strip l n ≤ n
  | 0 => Nat.le_refl _
  | n + 1 => by
    unfold strip
    split
    · have := strip_le l n; omega
    · omega
theorem strip_eq {l : List UInt8} {n : Nat} (h : l[n]? = some 255) : strip l (n + 1) = strip l n := by simp [strip, h]
theorem strip_ne {l : List UInt8} {n : Nat} (h : l[n]? ≠ some 255) : strip l (n + 1) = n + 1 := by simp [strip, h]

theorem strip_last (l : List UInt8) : ∀ n, strip l n ≠ 0 → l[strip l n - 1]? ≠ some 255
  | 0, h => absurd rfl h
  | n + 1, h => by
    unfold strip at h ⊢
    split
    · rename_i h1
      rw [if_pos h1] at h
      exact strip_last l n h
    · rename_i h1
      simpa using h1
theorem strip_all (l : List UInt8) : ∀ n k, strip l n ≤ k → k < n → l[k]? = some 255
  | 0, k, _, h2 => absurd h2 (Nat.not_lt_zero _)
  | n + 1, k, h1, h2 => by
    unfold strip at h1
    split at h1
    · rename_i h
      by_cases e : k = n
      · rw [e]; exact h
      · exact strip_all l n k h1 (by omega)
    · omega
theorem behind_nil {l : List UInt8} (h : strip l l.length = 0) : behind l = [] := by simp [behind, h]
theorem behind_some {l : List UInt8} (h : strip l l.length ≠ 0) : behind l = l.take (strip l l.length - 1) ++ [(l[strip l l.length - 1]?).getD 0 + 1] := by simp [behind, h]
theorem behind_ne {l : List UInt8} (h : strip l l.length ≠ 0) : behind l ≠ [] := by rw [behind_some h]; simp

/-- is there a byte that is not the greatest one? -/
def low : List UInt8 → Bool
  | [] => false
  | c :: l => if c = 255 then low l else true
theorem low_end {l : List UInt8} {k : Nat} (h : l.length ≤ k) : low (l.drop k) = false := by rw [List.drop_eq_nil_of_le h]; rfl
theorem low_yes {l : List UInt8} {k : Nat} (hk : k < l.length) (h : l[k] ≠ 255) : low (l.drop k) = true := by
  rw [List.drop_eq_getElem_cons hk]; simp [low, h]
theorem low_no {l : List UInt8} {k : Nat} (hk : k < l.length) (h : l[k] = 255) : low (l.drop k) = low (l.drop (k + 1)) := by
  rw [List.drop_eq_getElem_cons hk]; simp [low, h]
theorem strip_zero_low (l : List UInt8) (h : strip l l.length = 0) : low l = false := by
  have H : ∀ k, k ≤ l.length → low (l.drop (l.length - k)) = false := by
    intro k
    induction k with
    | zero => intro _; exact low_end (by omega)
    | succ k ih =>
      intro hk
      have hlt : l.length - (k + 1) < l.length := by omega
      have h1 := strip_all l l.length (l.length - (k + 1)) (by omega) hlt
      rw [List.getElem?_eq_getElem hlt] at h1
      rw [low_no hlt (by simpa using h1), show l.length - (k + 1) + 1 = l.length - k from by omega]
      exact ih (by omega)
  simpa using H l.length (Nat.le_refl _)
theorem low_zero_strip (l : List UInt8) (h : low l = false) : strip l l.length = 0 := by
  have H : ∀ n, n ≤ l.length → strip l n = 0 := by
    intro n
    induction n with
    | zero => intro _; rfl
    | succ n ih =>
      intro hn
      have hlt : n < l.length := by omega
      have hall : ∀ k, k ≤ l.length → low (l.drop k) = false := by
        intro k
        induction k with
        | zero => intro _; simpa using h
        | succ k ihk =>
          intro hk
          have hkl : k < l.length := by omega
          by_cases e : l[k] = 255
          · rw [← low_no hkl e]; exact ihk (by omega)
          · have := low_yes hkl e; rw [ihk (by omega)] at this; cases this
      by_cases e : l[n] = 255
      · rw [strip_eq (by rw [List.getElem?_eq_getElem hlt, e])]; exact ih (by omega)
      · have := low_yes hlt e; rw [hall n (by omega)] at this; cases this
  exact H _ (Nat.le_refl _)
end Go.Proofs.Ytekfaodjadinnaa.Pl
