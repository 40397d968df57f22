
/- Plain law: texts as keys. Condition: none. -/
import Derived.Test.YtndekdgpibipnaaPlainF
namespace Go.Proofs.Ytndekdgpibipnaa.Pl

/-- a text as bytes that rise as it does: without the end -/
def esc : List UInt8 → List UInt8
  | [] => []
  | c :: l => if c = 0 then 0 :: 255 :: esc l else c :: esc l
def keyText (l : List UInt8) : List UInt8 := esc l ++ [0, 1]

theorem esc_length : ∀ l : List UInt8, (esc l).length ≤ 2 * l.length
  | [] => by simp [esc]
  | c :: l => by
    have := esc_length l
    unfold esc
    split <;> simp <;> omega

/-- what reading it answers: i bytes are read already, they made acc -/
def tkey (acc : List UInt8) (i : Nat) : List UInt8 → List UInt8 × Nat × Nat
  | [] => ([], 0, 2)
  | c :: l => if c ≠ 0 then tkey (acc ++ [c]) (i + 1) l else
    match l with
    | [] => ([], 0, 2)
    | d :: r => if d = 1 then (acc, i + 2, 0) else if d = 255 then tkey (acc ++ [0]) (i + 2) r else ([], 0, 3)
def takeKey (l : List UInt8) : List UInt8 × Nat × Nat := tkey [] 0 l

theorem tkey_end {acc l : List UInt8} {i k : Nat} (h : l.length ≤ k) : tkey acc i (l.drop k) = ([], 0, 2) := by rw [List.drop_eq_nil_of_le h]; simp [tkey]
section
variable {acc l : List UInt8} {i k : Nat} (hk : k < l.length)
include hk
theorem tkey_plain (h : l[k] ≠ 0) : tkey acc i (l.drop k) = tkey (acc ++ [l[k]]) (i + 1) (l.drop (k + 1)) := by
  rw [List.drop_eq_getElem_cons hk]; conv => lhs; unfold tkey
  rw [if_pos h]
theorem tkey_last (h : l[k] = 0) (h2 : k + 1 = l.length) : tkey acc i (l.drop k) = ([], 0, 2) := by
  rw [List.drop_eq_getElem_cons hk, List.drop_eq_nil_of_le (by omega)]; unfold tkey
  rw [if_neg (by simp [h])]
theorem tkey_done (h : l[k] = 0) (h2 : k + 1 < l.length) (h3 : l[k + 1] = 1) : tkey acc i (l.drop k) = (acc, i + 2, 0) := by
  rw [List.drop_eq_getElem_cons hk, List.drop_eq_getElem_cons h2]; unfold tkey
  rw [if_neg (by simp [h])]
  simp [h3]
theorem tkey_zero (h : l[k] = 0) (h2 : k + 1 < l.length) (h3 : l[k + 1] = 255) : tkey acc i (l.drop k) = tkey (acc ++ [0]) (i + 2) (l.drop (k + 2)) := by
  rw [List.drop_eq_getElem_cons hk, List.drop_eq_getElem_cons h2]; conv => lhs; unfold tkey
  rw [if_neg (by simp [h])]
  simp [h3]
theorem tkey_bad (h : l[k] = 0) (h2 : k + 1 < l.length) (h3 : l[k + 1] ≠ 1) (h4 : l[k + 1] ≠ 255) : tkey acc i (l.drop k) = ([], 0, 3) := by
  rw [List.drop_eq_getElem_cons hk, List.drop_eq_getElem_cons h2]; unfold tkey
  rw [if_neg (by simp [h])]
  simp [h3, h4]
end
theorem tkey_length : ∀ (l acc : List UInt8) (i : Nat), (tkey acc i l).1.length ≤ acc.length + l.length ∧ (tkey acc i l).2.1 ≤ i + l.length
  | [], _, _ => by simp [tkey]
  | [c], acc, i => by
    unfold tkey
    split
    · simp [tkey]
    · simp
  | c :: d :: r, acc, i => by
    unfold tkey
    split
    · have := tkey_length (d :: r) (acc ++ [c]) (i + 1)
      simp only [List.length_append, List.length_cons, List.length_nil] at this ⊢
      omega
    · dsimp only
      split
      · simp only [List.length_cons]; omega
      · split
        · have := tkey_length r (acc ++ [0]) (i + 2)
          simp only [List.length_append, List.length_cons, List.length_nil] at this ⊢
          omega
        · simp
end Go.Proofs.Ytndekdgpibipnaa.Pl
