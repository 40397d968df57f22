
/- Plain law: the order of texts as bytes; where the text behind a text stands. Condition: none. -/
import Derived.Test.YtekfaodjadinnaaPlainD
namespace Go.Proofs.Ytekfaodjadinnaa.Pl
open Go.Op (bytesLess)

theorem lt_append (p x y : List UInt8) : bytesLess (p ++ x) (p ++ y) = bytesLess x y := by
  induction p with
  | nil => rfl
  | cons a p ih => simp [bytesLess, ih]
theorem lt_nil (x : List UInt8) : bytesLess x [] = false := by cases x <;> rfl
theorem lt_cons (p : List UInt8) {a b : UInt8} (x y : List UInt8) (h : a ≠ b) : bytesLess (p ++ a :: x) (p ++ b :: y) = decide (a < b) := by
  rw [lt_append]; simp [bytesLess, h]
theorem lt_irrefl (x : List UInt8) : bytesLess x x = false := by
  induction x with
  | nil => rfl
  | cons a x ih => simp [bytesLess, ih]
theorem lt_trans : ∀ {x y z : List UInt8}, bytesLess x y = true → bytesLess y z = true → bytesLess x z = true
  | [], [], _, h, _ => by simp [bytesLess] at h
  | [], _ :: _, [], _, h => by simp [bytesLess] at h
  | [], _ :: _, _ :: _, _, _ => rfl
  | _ :: _, [], _, h, _ => by simp [bytesLess] at h
  | _ :: _, _ :: _, [], _, h => by simp [bytesLess] at h
  | a :: x, b :: y, c :: z, h1, h2 => by
    simp only [bytesLess, Bool.or_eq_true, decide_eq_true_eq, Bool.and_eq_true, beq_iff_eq] at h1 h2 ⊢
    rcases h1 with h1 | ⟨rfl, h1⟩
    · rcases h2 with h2 | ⟨rfl, _⟩
      · left; rw [UInt8.lt_iff_toNat_lt] at *; omega
      · left; exact h1
    · rcases h2 with h2 | ⟨rfl, h2⟩
      · left; exact h2
      · right; exact ⟨rfl, lt_trans h1 h2⟩
theorem lt_total : ∀ {x y : List UInt8}, bytesLess x y = false → x ≠ y → bytesLess y x = true
  | [], [], _, h => absurd rfl h
  | [], _ :: _, h, _ => by simp [bytesLess] at h
  | _ :: _, [], _, _ => rfl
  | a :: x, b :: y, h1, h2 => by
    simp only [bytesLess, Bool.or_eq_false_iff, decide_eq_false_iff_not, Bool.and_eq_false_iff, Bool.or_eq_true, decide_eq_true_eq, Bool.and_eq_true, beq_iff_eq] at h1 ⊢
    by_cases e : a = b
    · subst e
      right
      refine ⟨rfl, lt_total ?_ (by intro e; exact h2 (by rw [e]))⟩
      rcases h1.2 with h | h
      · simp at h
      · exact h
    · left
      have h := h1.1
      have he : a.toNat ≠ b.toNat := fun e' => e (UInt8.toNat_inj.1 e')
      rw [UInt8.lt_iff_toNat_lt] at *
      omega
theorem lt_asymm {x y : List UInt8} (h : bytesLess x y = true) : bytesLess y x = false := by
  cases hh : bytesLess y x with
  | false => rfl
  | true => have := lt_trans h hh; rw [lt_irrefl] at this; cases this

/-- where two texts part -/
theorem common_split : ∀ (s t : List UInt8), s.take (common s t) = t.take (common s t) ∧ (common s t = s.length ∨ common s t = t.length ∨ ∃ a b x y, a ≠ b ∧ s = s.take (common s t) ++ a :: x ∧ t = s.take (common s t) ++ b :: y ∧ s[common s t]? = some a)
  | [], _ => by simp [common]
  | _ :: _, [] => by simp [common]
  | a :: s, b :: t => by
    unfold common
    by_cases e : a = b
    · subst e
      obtain ⟨h1, h2⟩ := common_split s t
      rw [if_pos rfl]
      refine ⟨by simp [h1], ?_⟩
      rcases h2 with h2 | h2 | ⟨c, d, x, y, hne, hs, ht, hg⟩
      · left; simp [h2]
      · right; left; simp [h2]
      · right; right
        refine ⟨c, d, x, y, hne, ?_, ?_, by simpa using hg⟩
        · simp only [List.take_succ_cons, List.cons_append]; rw [← hs]
        · simp only [List.take_succ_cons, List.cons_append]; rw [← ht]
    · rw [if_neg e]
      exact ⟨by simp, .inr (.inr ⟨a, b, s, t, e, by simp, by simp, by simp⟩)⟩

theorem common_self (s : List UInt8) : common s s = s.length := by
  induction s with
  | nil => rfl
  | cons a s ih => simp [common, ih]

theorem split_at {s : List UInt8} {m : Nat} (h : m < s.length) : s = s.take m ++ s[m] :: s.drop (m + 1) := by
  rw [← List.drop_eq_getElem_cons h, List.take_append_drop]

theorem u8_succ {c : UInt8} (h : c ≠ 255) : (c + 1).toNat = c.toNat + 1 := by
  have h1 : c.toNat ≠ 255 := fun e => h (UInt8.toNat_inj.1 e)
  have h2 := c.toNat_lt
  rw [UInt8.toNat_add]
  show (c.toNat + 1) % 256 = _
  omega

section
variable {s t : List UInt8} (h0 : strip s s.length ≠ 0)
include h0

theorem behind_form : ∃ (m : Nat) (hm : m < s.length), s[m] ≠ 255 ∧ behind s = s.take m ++ [s[m] + 1] ∧ ∀ k, m < k → k < s.length → s[k]? = some 255 := by
  have hle := strip_le s s.length
  have hm : strip s s.length - 1 < s.length := by omega
  refine ⟨strip s s.length - 1, hm, ?_, ?_, ?_⟩
  · intro e
    apply strip_last s s.length h0
    rw [List.getElem?_eq_getElem hm, e]
  · rw [behind_some h0, List.getElem?_eq_getElem hm]; rfl
  · intro k h1 h2
    exact strip_all s s.length k (by omega) h2

theorem begins_below (h : common s t = s.length) : bytesLess t (behind s) = true := by
  obtain ⟨m, hm, hne, hb, _⟩ := behind_form h0
  have hp := (common_split s t).1
  rw [h, List.take_length] at hp
  have ht : t = s.take m ++ s[m] :: (s.drop (m + 1) ++ t.drop s.length) := by
    rw [← List.cons_append, ← List.append_assoc, ← split_at hm]
    have h3 := List.take_append_drop s.length t
    rw [← hp] at h3
    exact h3.symm
  have hs1 := u8_succ hne
  rw [ht, hb, lt_cons _ _ _ (by intro e; have := congrArg UInt8.toNat e; omega)]
  simp only [decide_eq_true_eq, UInt8.lt_iff_toNat_lt]
  omega

theorem above_not_below (h : common s t ≠ s.length) (h1 : bytesLess t s = false) (h2 : t ≠ s) : bytesLess t (behind s) = false := by
  obtain ⟨m, hm, hne, hb, hall⟩ := behind_form h0
  have hlt := lt_total h1 h2
  obtain ⟨hp, hc⟩ := common_split s t
  have hkl := common_le_left s t
  rcases hc with hc | hc | ⟨a, b, x, y, hab, hs, ht, hg⟩
  · exact absurd hc h
  · exfalso
    rw [hc, List.take_length] at hp
    have hs : s = t ++ s.drop t.length := by conv => lhs; rw [← List.take_append_drop t.length s, hp]
    have hl2 := lt_append t (s.drop t.length) []
    rw [List.append_nil, ← hs, hlt, lt_nil] at hl2
    cases hl2
  · have hab' : a < b := by
      have h3 : bytesLess (s.take (common s t) ++ a :: x) (s.take (common s t) ++ b :: y) = true := by rw [← hs, ← ht]; exact hlt
      rw [lt_cons _ _ _ hab] at h3
      simpa using h3
    rw [UInt8.lt_iff_toNat_lt] at hab'
    have hb255 := b.toNat_lt
    have hk : common s t < s.length := by omega
    have hkm : common s t ≤ m := by
      rcases Nat.lt_or_ge m (common s t) with hlt' | hge
      · have := hall _ hlt' hk
        rw [hg] at this
        have : a = 255 := by simpa using this
        rw [this] at hab'
        have : (255 : UInt8).toNat = 255 := rfl
        omega
      · exact hge
    clear h1 hlt hp
    generalize common s t = k at *
    have hga : s[k] = a := by rw [List.getElem?_eq_getElem hk] at hg; simpa using hg
    have hlk : (s.take k).length = k := by rw [List.length_take]; omega
    rcases Nat.lt_or_ge k m with hkm' | hkm'
    · have hb' : behind s = s.take k ++ a :: ((s.drop (k + 1)).take (m - (k + 1)) ++ [s[m] + 1]) := by
        rw [hb, ← hga, ← List.cons_append, ← List.append_assoc]
        congr 1
        obtain ⟨d, rfl⟩ : ∃ d, m = k + (d + 1) := ⟨m - k - 1, by omega⟩
        rw [List.take_add, List.drop_eq_getElem_cons hk, show k + (d + 1) - (k + 1) = d from by omega]
        rfl
      rw [ht, hb', lt_cons _ _ _ (fun e => hab e.symm)]
      simp only [decide_eq_false_iff_not, UInt8.lt_iff_toNat_lt]
      omega
    · obtain rfl : k = m := by omega
      rw [ht, hb, lt_append]
      have hs1 := u8_succ hne
      rw [hga] at hs1 ⊢
      by_cases e : b = a + 1
      · subst e; simp [bytesLess, lt_nil]
      · have he : b.toNat ≠ (a + 1).toNat := fun e' => e (UInt8.toNat_inj.1 e')
        simp only [bytesLess, Bool.or_eq_false_iff, decide_eq_false_iff_not, UInt8.lt_iff_toNat_lt, Bool.and_eq_false_iff]
        exact ⟨by omega, .inl (by simpa using e)⟩

theorem below_below (h : bytesLess t s = true) : bytesLess t (behind s) = true := lt_trans h (begins_below h0 (common_self s))
end
end Go.Proofs.Ytekfaodjadinnaa.Pl
