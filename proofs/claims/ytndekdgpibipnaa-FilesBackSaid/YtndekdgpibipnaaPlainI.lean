
/- Plain law: what was written is read again; keys rise as what they are keys of. Condition: none. -/
import Derived.Test.YtndekdgpibipnaaPlainG
import Derived.Test.YtndekdgpibipnaaPlainH
import Derived.Test.YtndekdgpibipnaaPlainE
namespace Go.Proofs.Ytndekdgpibipnaa.Pl
open Go.Op (bytesLess)

theorem takeFrom_put (r : List UInt8) : ∀ (n acc i : Nat), n * 128 ^ i < 18446744073709551616 → (0 < i → 0 < n) → i ≤ 9 →
    takeFrom acc i (putUint n ++ r) = (acc + n * 128 ^ i, i + (putUint n).length, 0) := by
  intro n
  induction n using Nat.strongRecOn with
  | ind n ih =>
    intro acc i hb hp hi
    by_cases h : n < 128
    · rw [putUint_last h]
      have hn : (UInt8.ofNat n).toNat = n := by rw [UInt8.toNat_ofNat']; omega
      have h1 : ¬ ((i = 9 ∧ 1 < (UInt8.ofNat n).toNat) ∨ (0 < i ∧ UInt8.ofNat n = 0)) := by
        rw [hn]
        rintro (⟨rfl, h9⟩ | ⟨h0, hz⟩)
        · have : 2 * 128 ^ 9 ≤ n * 128 ^ 9 := Nat.mul_le_mul_right _ h9
          omega
        · have := hp h0
          have hz' := congrArg UInt8.toNat hz
          rw [hn] at hz'
          have : (0 : UInt8).toNat = 0 := rfl
          omega
      simp only [List.singleton_append, takeFrom]
      rw [if_neg h1, if_pos (by rw [hn]; exact h), hn]
      simp
    · rw [putUint_more h]
      have hn : (UInt8.ofNat (n % 128 + 128)).toNat = n % 128 + 128 := by rw [UInt8.toNat_ofNat']; omega
      have hi9 : i < 9 := by
        rcases Nat.lt_or_ge i 9 with h9 | h9
        · exact h9
        · obtain rfl : i = 9 := by omega
          have : 128 * 128 ^ 9 ≤ n * 128 ^ 9 := Nat.mul_le_mul_right _ (by omega)
          omega
      have h1 : ¬ ((i = 9 ∧ 1 < (UInt8.ofNat (n % 128 + 128)).toNat) ∨ (0 < i ∧ UInt8.ofNat (n % 128 + 128) = 0)) := by
        rintro (⟨h9, _⟩ | ⟨_, hz⟩)
        · omega
        · have hz' := congrArg UInt8.toNat hz
          rw [hn] at hz'
          have : (0 : UInt8).toNat = 0 := rfl
          omega
      simp only [List.cons_append, takeFrom]
      rw [if_neg h1, if_neg (by rw [hn]; omega), hn]
      have e : n % 128 * 128 ^ i + n / 128 * 128 ^ (i + 1) = n * 128 ^ i := by
        rw [Nat.pow_succ, Nat.mul_comm (128 ^ i) 128, ← Nat.mul_assoc, ← Nat.add_mul]
        congr 1; omega
      have hd : n / 128 * 128 ^ (i + 1) < 18446744073709551616 := by omega
      rw [ih (n / 128) (by omega) _ (i + 1) hd (fun _ => by omega) (by omega)]
      have e2 : (n % 128 + 128) % 128 = n % 128 := by omega
      rw [e2]
      refine Prod.ext ?_ (Prod.ext ?_ rfl)
      · show acc + n % 128 * 128 ^ i + n / 128 * 128 ^ (i + 1) = acc + n * 128 ^ i
        omega
      · simp; omega

theorem take_put (n : Nat) (r : List UInt8) (h : n ≤ 18446744073709551615) : takeUint (putUint n ++ r) = (n, (putUint n).length, 0) := by
  unfold takeUint
  rw [takeFrom_put r n 0 0 (by omega) (by omega) (by omega)]
  simp

theorem zag_zig (m : Int) : zag (zig m) = m := by
  unfold zag zig
  split
  · split <;> omega
  · split <;> omega

theorem text_back (l r : List UInt8) (h : l.length ≤ 18446744073709551615) : takeText (putText l ++ r) l.length = (l, (putText l).length, 0) := by
  unfold takeText putText
  rw [List.append_assoc, take_put _ _ h]
  simp only [ne_eq, not_true_eq_false, ↓reduceIte, Nat.lt_irrefl, List.length_append]
  rw [if_neg (by omega)]
  simp

theorem big_length (n : Nat) : (big n).length = 8 := rfl
theorem word_big (n : Nat) (h : n ≤ 18446744073709551615) : word (big n) = n := by
  simp only [word, big, List.foldl_cons, List.foldl_nil, UInt8.toNat_ofNat']
  omega
theorem down_up (m : Int) (h0 : -9223372036854775808 ≤ m) : down (up m) = m := by unfold down up; omega

theorem tkey_cons {acc l : List UInt8} {i : Nat} {c : UInt8} (h : c ≠ 0) : tkey acc i (c :: l) = tkey (acc ++ [c]) (i + 1) l := by
  conv => lhs; unfold tkey
  rw [if_pos h]
theorem esc_back (r : List UInt8) : ∀ (l acc : List UInt8) (i : Nat), tkey acc i (esc l ++ 0 :: 1 :: r) = (acc ++ l, i + (esc l).length + 2, 0)
  | [], acc, i => by simp [esc, tkey]
  | c :: l, acc, i => by
    unfold esc
    by_cases hc : c = 0
    · rw [if_pos hc]
      subst hc
      have := esc_back r l (acc ++ [0]) (i + 2)
      simp only [List.cons_append, tkey, ne_eq, not_true_eq_false, ↓reduceIte]
      rw [if_neg (by decide), this]
      simp; omega
    · rw [if_neg hc]
      have := esc_back r l (acc ++ [c]) (i + 1)
      rw [List.cons_append, tkey_cons hc, this]
      simp; omega
theorem key_back (l r : List UInt8) : takeKey (keyText l ++ r) = (l, (keyText l).length, 0) := by
  unfold takeKey keyText
  rw [List.append_assoc]
  have := esc_back r l [] 0
  simp only [List.cons_append, List.nil_append] at this ⊢
  rw [this]
  simp

/-- a word as bytes rises -/
theorem word_cons (c : UInt8) (l : List UInt8) : word (c :: l) = c.toNat * 256 ^ l.length + word l := by
  have h : ∀ (l : List UInt8) (n : Nat), l.foldl (fun n b => n * 256 + b.toNat) n = n * 256 ^ l.length + l.foldl (fun n b => n * 256 + b.toNat) 0 := by
    intro l
    induction l with
    | nil => intro n; simp
    | cons b l ih =>
      intro n
      simp only [List.foldl_cons, List.length_cons]
      rw [ih (n * 256 + b.toNat), ih (0 * 256 + b.toNat), Nat.pow_succ, Nat.add_mul, Nat.mul_assoc, Nat.mul_comm 256]
      simp [Nat.add_assoc]
  unfold word
  rw [List.foldl_cons, h]
  simp
theorem less_word (x y : List UInt8) : ∀ (a b : List UInt8), a.length = b.length → word a ≠ word b → bytesLess (a ++ x) (b ++ y) = decide (word a < word b)
  | [], [], _, h => absurd rfl h
  | [], _ :: _, h, _ => by simp at h
  | _ :: _, [], h, _ => by simp at h
  | c :: a, d :: b, hl, hne => by
    have hl' : a.length = b.length := by simpa using hl
    rw [word_cons, word_cons, hl'] at hne ⊢
    by_cases e : c = d
    · subst e
      have := less_word x y a b hl' (fun e => hne (by rw [e]))
      simp only [List.cons_append, bytesLess, this]
      simp
    · have h1 := lt_cons [] (a ++ x) (b ++ y) e
      simp only [List.nil_append] at h1
      simp only [List.cons_append]
      rw [h1]
      have wa := word_lt b.length a (by omega)
      have wb := word_lt b.length b (Nat.le_refl _)
      have hn : c.toNat ≠ d.toNat := fun e' => e (UInt8.toNat_inj.1 e')
      rw [Bool.eq_iff_iff]
      simp only [decide_eq_true_eq, UInt8.lt_iff_toNat_lt]
      generalize 256 ^ b.length = P at *
      constructor
      · intro h
        have := Nat.mul_le_mul_right P (show c.toNat + 1 ≤ d.toNat from h)
        rw [Nat.add_mul] at this
        omega
      · intro h
        rcases Nat.lt_or_ge c.toNat d.toNat with h2 | h2
        · exact h2
        · have := Nat.mul_le_mul_right P (show d.toNat + 1 ≤ c.toNat by omega)
          rw [Nat.add_mul] at this
          omega
theorem big_less (m n : Nat) (x y : List UInt8) (hm : m ≤ 18446744073709551615) (hn : n ≤ 18446744073709551615) (hne : m ≠ n) : bytesLess (big m ++ x) (big n ++ y) = decide (m < n) := by
  have h := less_word x y (big m) (big n) rfl (by rw [word_big m hm, word_big n hn]; exact hne)
  rwa [word_big m hm, word_big n hn] at h

/-- a text as a key rises, whatever stands behind it; where two of them part -/
theorem esc_less (x y : List UInt8) : ∀ (s t : List UInt8), s ≠ t → bytesLess (esc s ++ 0 :: 1 :: x) (esc t ++ 0 :: 1 :: y) = bytesLess s t ∧
    common (esc s ++ [0, 1]) (esc t ++ [0, 1]) < (esc s ++ [0, 1]).length ∧ common (esc s ++ [0, 1]) (esc t ++ [0, 1]) < (esc t ++ [0, 1]).length
  | [], [], h => absurd rfl h
  | [], d :: t, _ => by
    by_cases e : d = 0
    · subst e; simp [esc, bytesLess, common]
    · have h0 : (0 : UInt8) < d := by
        rw [UInt8.lt_iff_toNat_lt]
        have : d.toNat ≠ 0 := fun e' => e (UInt8.toNat_inj.1 e')
        have h00 : (0 : UInt8).toNat = 0 := rfl
        omega
      have e' : ¬ (0 : UInt8) = d := fun h => e h.symm
      simp [esc, e, e', bytesLess, common, h0]
  | c :: s, [], _ => by
    by_cases e : c = 0
    · subst e; simp [esc, bytesLess, common]
    · have h0 : ¬ c < (0 : UInt8) := by
        rw [UInt8.lt_iff_toNat_lt]
        have h00 : (0 : UInt8).toNat = 0 := rfl
        omega
      simp [esc, e, bytesLess, common, h0]
  | c :: s, d :: t, h => by
    by_cases e : c = d
    · subst e
      have ih := esc_less x y s t (fun e => h (by rw [e]))
      by_cases hz : c = 0
      · subst hz; simpa [esc, bytesLess, common] using ih
      · simpa [esc, hz, bytesLess, common] using ih
    · by_cases hz : c = 0
      · subst hz
        have hd : d ≠ 0 := fun h => e h.symm
        have h0 : (0 : UInt8) < d := by
          rw [UInt8.lt_iff_toNat_lt]
          have : d.toNat ≠ 0 := fun e' => hd (UInt8.toNat_inj.1 e')
          have h00 : (0 : UInt8).toNat = 0 := rfl
          omega
        have e' : ¬ (0 : UInt8) = d := e
        simp [esc, hd, e', bytesLess, common, h0]
      · by_cases hd : d = 0
        · subst hd
          have h0 : ¬ c < (0 : UInt8) := by
            rw [UInt8.lt_iff_toNat_lt]
            have h00 : (0 : UInt8).toNat = 0 := rfl
            omega
          have eb : (c == (0 : UInt8)) = false := by simpa using e
          simp [esc, hz, bytesLess, common, h0, eb]
        · have eb : (c == d) = false := by simpa using e
          simp [esc, hz, hd, e, bytesLess, common, eb]
end Go.Proofs.Ytndekdgpibipnaa.Pl
