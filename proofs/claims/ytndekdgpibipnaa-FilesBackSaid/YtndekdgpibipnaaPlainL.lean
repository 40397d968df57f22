
/- Plain law: a frame is taken again; no beginning of it is one; one that is turned is refused. Condition: none. -/
import Derived.Test.YtndekdgpibipnaaPlainK
import Derived.Test.YtndekdgpibipnaaPlainI
namespace Go.Proofs.Ytndekdgpibipnaa.Pl

theorem takeFrom_cut : ∀ (n acc i j : Nat), n * 128 ^ i < 18446744073709551616 → (0 < i → 0 < n) → i ≤ 9 → j < (putUint n).length → takeFrom acc i ((putUint n).take j) = (0, 0, 2) := by
  intro n
  induction n using Nat.strongRecOn with
  | ind n ih =>
    intro acc i j hb hp hi hj
    cases j with
    | zero => rfl
    | succ j =>
      by_cases h : n < 128
      · rw [putUint_last h] at hj
        simp at hj
      · rw [putUint_more h] at hj ⊢
        have hn : (UInt8.ofNat (n % 128 + 128)).toNat = n % 128 + 128 := by rw [UInt8.toNat_ofNat']; omega
        have hi9 : i < 9 := by
          rcases Nat.lt_or_ge i 9 with h9 | h9
          · exact h9
          · obtain rfl : i = 9 := by omega
            have : 128 * 128 ^ 9 ≤ n * 128 ^ 9 := Nat.mul_le_mul_right _ (by omega)
            omega
        have h1 : ¬ ((i = 9 ∧ 1 < (UInt8.ofNat (n % 128 + 128)).toNat) ∨ (0 < i ∧ UInt8.ofNat (n % 128 + 128) = 0)) := by
          rintro (⟨h9, _⟩ | ⟨_, hz⟩)
          · omega
          · have hz' := congrArg UInt8.toNat hz
            rw [hn] at hz'
            have : (0 : UInt8).toNat = 0 := rfl
            omega
        simp only [List.take_succ_cons, takeFrom]
        rw [if_neg h1, if_neg (by rw [hn]; omega)]
        have e : n % 128 * 128 ^ i + n / 128 * 128 ^ (i + 1) = n * 128 ^ i := by
          rw [Nat.pow_succ, Nat.mul_comm (128 ^ i) 128, ← Nat.mul_assoc, ← Nat.add_mul]
          congr 1; omega
        exact ih (n / 128) (by omega) _ (i + 1) j (by omega) (fun _ => by omega) (by omega) (by simpa using hj)

theorem takeUint_cut {n j : Nat} (hn : n ≤ 18446744073709551615) (h : j < (putUint n).length) : takeUint ((putUint n).take j) = (0, 0, 2) :=
  takeFrom_cut n 0 0 j (by omega) (by omega) (by omega) h

theorem text_back' (l r : List UInt8) (most : Nat) (h : l.length ≤ most) (hm : l.length ≤ 18446744073709551615) : takeText (putText l ++ r) most = (l, (putText l).length, 0) := by
  unfold takeText putText
  rw [List.append_assoc, take_put _ _ hm]
  simp only [ne_eq, not_true_eq_false, ↓reduceIte, List.length_append]
  rw [if_neg (by omega), if_neg (by omega)]
  simp

theorem text_cut (l : List UInt8) (most j : Nat) (h : l.length ≤ most) (hm : l.length ≤ 18446744073709551615) (hj : j < (putText l).length) : takeText ((putText l).take j) most = ([], 0, 2) := by
  by_cases hc : j < (putUint l.length).length
  · unfold takeText putText
    rw [List.take_append_of_le_length (by omega), takeUint_cut hm hc]
    simp
  · have e : (putText l).take j = putUint l.length ++ l.take (j - (putUint l.length).length) := by
      unfold putText
      rw [List.take_append, List.take_of_length_le (by omega)]
    have hl : (putText l).length = (putUint l.length).length + l.length := by simp [putText]
    unfold takeText
    rw [e, take_put _ _ hm]
    simp only [ne_eq, not_true_eq_false, ↓reduceIte, List.length_append, List.length_take]
    rw [if_neg (by omega), if_pos (by omega)]

theorem little_length (n : Nat) : (little n).length = 4 := rfl

/-- a frame whose sum is another one's, or its own -/
theorem takeFrame_form (s : List UInt8) (k : UInt8) (l r : List UInt8) (hs : s.length = 4) (hk : k ≠ 0) (hl : l.length ≤ 262144) :
    takeFrame (s ++ k :: (putText l ++ r)) = if little (sum (k :: putText l)) = s then ((k, l), 5 + (putText l).length, 0) else ((0, []), 0, 3) := by
  have e1 : (s ++ k :: (putText l ++ r)).drop 5 = putText l ++ r := by
    rw [List.drop_append, List.drop_of_length_le (by omega), hs]; rfl
  have e2 : (s ++ k :: (putText l ++ r)).getD 4 0 = k := by
    rw [List.getD, List.getElem?_append_right (by omega), hs]; rfl
  have e3 : (s ++ k :: (putText l ++ r)).take 4 = s := by rw [List.take_append, List.take_of_length_le (by omega), hs]; simp
  have e4 : ((s ++ k :: (putText l ++ r)).take (5 + (putText l).length)).drop 4 = k :: putText l := by
    rw [List.drop_take, List.drop_append, List.drop_of_length_le (by omega), hs]
    rw [show 5 + (putText l).length - 4 = (putText l).length + 1 from by omega]
    simp
  have e5 : ¬ (s ++ k :: (putText l ++ r)).length < 5 := by simp; omega
  have ht := text_back' l r 262144 hl (by omega)
  unfold takeFrame
  rw [if_neg e5, e2, if_neg hk, e1, ht]
  simp only [ne_eq, not_true_eq_false, ↓reduceIte]
  rw [e3, e4]
  by_cases h : little (sum (k :: putText l)) = s
  · rw [if_neg (by simp [h]), if_pos h]
  · rw [if_pos (by simp [h]), if_neg h]

theorem takeFrame_text (s : List UInt8) (k : UInt8) (t : List UInt8) (hs : s.length = 4) (hk : k ≠ 0) (ht : (takeText t 262144).2.2 ≠ 0) : takeFrame (s ++ k :: t) = ((0, []), 0, (takeText t 262144).2.2) := by
  have e1 : (s ++ k :: t).drop 5 = t := by rw [List.drop_append, List.drop_of_length_le (by omega), hs]; rfl
  have e2 : (s ++ k :: t).getD 4 0 = k := by rw [List.getD, List.getElem?_append_right (by omega), hs]; rfl
  have e5 : ¬ (s ++ k :: t).length < 5 := by simp; omega
  rw [takeFrame_bad e5 (by rw [e2]; exact hk) (by rw [e1]; exact ht), e1]

theorem frame_length (k : UInt8) (l : List UInt8) : (frame k l).length = 5 + (putText l).length := by simp [frame, little_length]; omega
theorem takeFrame_back (k : UInt8) (l r : List UInt8) (hk : k ≠ 0) (hl : l.length ≤ 262144) : takeFrame (frame k l ++ r) = ((k, l), (frame k l).length, 0) := by
  have h := takeFrame_form (little (sum (k :: putText l))) k l r rfl hk hl
  rw [if_pos rfl] at h
  rw [frame_length, frame, List.append_assoc, List.cons_append, h]

theorem takeFrame_cut (k : UInt8) (l : List UInt8) (j : Nat) (hk : k ≠ 0) (hl : l.length ≤ 262144) (hj : j < (frame k l).length) : takeFrame ((frame k l).take j) = ((0, []), 0, 2) := by
  by_cases h5 : j < 5
  · exact takeFrame_short (by rw [List.length_take]; omega)
  · rw [frame_length] at hj
    have e : (frame k l).take j = little (sum (k :: putText l)) ++ k :: (putText l).take (j - 5) := by
      unfold frame
      rw [List.take_append, List.take_of_length_le (by rw [little_length]; omega), little_length, show j - 4 = (j - 5) + 1 from by omega, List.take_succ_cons]
    have ht := text_cut l 262144 (j - 5) hl (by omega) (by omega)
    rw [e, takeFrame_text _ k _ rfl hk (by rw [ht]; decide), ht]

/-! a bit that is turned -/
theorem crc1_inj {n m : Nat} (hn : n < 4294967296) (hm : m < 4294967296) (h : crc1 n = crc1 m) : n = m := by
  have hx : ∀ a b : Nat, a < 2147483648 → b < 2147483648 → a ^^^ 3988292384 ≠ b := by
    intro a b ha hb e
    have e2 : a ^^^ b = 3988292384 := by rw [← e, ← Nat.xor_assoc, Nat.xor_self, Nat.zero_xor]
    have h3 : a ^^^ b < 2 ^ 31 := Nat.xor_lt_two_pow (by omega) (by omega)
    omega
  unfold crc1 at h
  by_cases h1 : n % 2 = 1 <;> by_cases h2 : m % 2 = 1
  · rw [if_pos h1, if_pos h2] at h
    have h3 : n / 2 = m / 2 := by
      have := congrArg (· ^^^ 3988292384) h
      simpa [Nat.xor_assoc] using this
    omega
  · rw [if_pos h1, if_neg h2] at h
    exact absurd h (hx _ _ (by omega) (by omega))
  · rw [if_neg h1, if_pos h2] at h
    exact absurd h.symm (hx _ _ (by omega) (by omega))
  · rw [if_neg h1, if_neg h2] at h
    omega
theorem crcs_inj : ∀ (k : Nat) {n m : Nat}, n < 4294967296 → m < 4294967296 → crcs k n = crcs k m → n = m
  | 0, _, _, _, _, h => h
  | k + 1, _, _, hn, hm, h => crc1_inj hn hm (crcs_inj k (crc1_lt hn) (crc1_lt hm) h)
theorem xor_cancel {a b c : Nat} (h : a ^^^ b = a ^^^ c) : b = c := by
  have := congrArg (a ^^^ ·) h
  simpa [← Nat.xor_assoc] using this
theorem crcB_inj {n m : Nat} (b : UInt8) (hn : n < 4294967296) (hm : m < 4294967296) (h : crcB n b = crcB m b) : n = m := by
  have h1 := crcs_inj 8 (xor_byte_lt b hn) (xor_byte_lt b hm) h
  rw [Nat.xor_comm n, Nat.xor_comm m] at h1
  exact xor_cancel h1
theorem crcB_inj' {n : Nat} (b c : UInt8) (hn : n < 4294967296) (h : crcB n b = crcB n c) : b = c :=
  UInt8.toNat_inj.mp (xor_cancel (crcs_inj 8 (xor_byte_lt b hn) (xor_byte_lt c hn) h))
theorem crcL_inj : ∀ (l : List UInt8) {n m : Nat}, n < 4294967296 → m < 4294967296 → crcL n l = crcL m l → n = m
  | [], _, _, _, _, h => h
  | b :: l, _, _, hn, hm, h => crcB_inj b hn hm (crcL_inj l (crcB_lt b hn) (crcB_lt b hm) h)
theorem crcL_append (n : Nat) (l r : List UInt8) : crcL n (l ++ r) = crcL (crcL n l) r := by simp [crcL]
theorem crc_part (a r : List UInt8) (b c : UInt8) (h : sum (a ++ b :: r) = sum (a ++ c :: r)) : b = c := by
  unfold sum at h
  have h1 := crcL_lt (a ++ b :: r) (n := 4294967295) (by omega)
  have h2 := crcL_lt (a ++ c :: r) (n := 4294967295) (by omega)
  have h3 : crcL 4294967295 (a ++ b :: r) = crcL 4294967295 (a ++ c :: r) := by omega
  have h0 := crcL_lt a (n := 4294967295) (by omega)
  rw [crcL_append, crcL_append] at h3
  exact crcB_inj' b c h0 (crcL_inj r (crcB_lt b h0) (crcB_lt c h0) h3)
theorem little_inj {n m : Nat} (hn : n ≤ 4294967295) (hm : m ≤ 4294967295) (h : little n = little m) : n = m := by
  simp only [little, List.cons.injEq, and_true] at h
  obtain ⟨a, b, c, d⟩ := h
  have a := congrArg UInt8.toNat a
  have b := congrArg UInt8.toNat b
  have c := congrArg UInt8.toNat c
  have d := congrArg UInt8.toNat d
  rw [UInt8.toNat_ofNat', UInt8.toNat_ofNat'] at a b c d
  omega
theorem split_set (l : List UInt8) (p : Nat) (c : UInt8) (hp : p < l.length) : l = l.take p ++ l[p] :: l.drop (p + 1) ∧ l.set p c = l.take p ++ c :: l.drop (p + 1) := by
  refine ⟨?_, ?_⟩
  · rw [List.getElem_cons_drop, List.take_append_drop]
  · rw [List.set_eq_take_append_cons_drop, if_pos hp]
theorem sum_set (l : List UInt8) (p : Nat) (c : UInt8) (hp : p < l.length) (hc : c ≠ l[p]) : sum (l.set p c) ≠ sum l := by
  obtain ⟨e1, e2⟩ := split_set l p c hp
  intro h
  rw [e2] at h
  have h2 : sum (l.take p ++ c :: l.drop (p + 1)) = sum (l.take p ++ l[p] :: l.drop (p + 1)) := h.trans (congrArg sum e1)
  exact hc (crc_part _ _ _ _ h2)

/-- a frame of which one byte is another one, in its sum, its kind or its load, is refused -/
theorem takeFrame_turned (k : UInt8) (l : List UInt8) (p : Nat) (c : UInt8) (hk : k ≠ 0) (hl : l.length ≤ 262144) (hp : p < (frame k l).length) (hw : p ≤ 4 ∨ (frame k l).length - l.length ≤ p) (hc : c ≠ (frame k l)[p]) :
    (takeFrame ((frame k l).set p c)).2.2 = 3 := by
  have hlen := frame_length k l
  have hpt : (putText l).length = (putUint l.length).length + l.length := by simp [putText]
  by_cases h1 : p < 4
  · have e : (frame k l).set p c = (little (sum (k :: putText l))).set p c ++ k :: (putText l ++ []) := by
      unfold frame
      rw [List.set_append_left _ _ (by rw [little_length]; omega), List.append_nil]
    have e2 : (frame k l)[p] = (little (sum (k :: putText l)))[p]'(by rw [little_length]; omega) := by
      simp only [frame]
      rw [List.getElem_append_left (by rw [little_length]; omega)]
    rw [e, takeFrame_form _ k l [] (by rw [List.length_set]; rfl) hk hl, if_neg]
    intro h
    have h3 : (little (sum (k :: putText l)))[p]'(by rw [little_length]; omega) = c := by
      have := congrArg (fun x : List UInt8 => x[p]?) h
      simp only [List.getElem?_set_self (show p < (little (sum (k :: putText l))).length by rw [little_length]; omega)] at this
      rw [List.getElem?_eq_getElem (by rw [little_length]; omega)] at this
      simpa using this
    exact hc (h3.symm.trans e2.symm)
  · have e0 : (frame k l).set p c = little (sum (k :: putText l)) ++ (k :: putText l).set (p - 4) c := by
      unfold frame
      rw [List.set_append_right _ _ (by rw [little_length]; omega), little_length]
    have e2 : (frame k l)[p] = (k :: putText l)[p - 4]'(by simp; omega) := by
      simp only [frame]
      rw [List.getElem_append_right (by rw [little_length]; omega)]
      simp only [little_length]
    have hs := sum_set (k :: putText l) (p - 4) c (by simp; omega) (by rw [← e2]; exact hc)
    have hn : little (sum ((k :: putText l).set (p - 4) c)) ≠ little (sum (k :: putText l)) := fun h => hs (little_inj (sum_le _) (sum_le _) h)
    by_cases h4 : p = 4
    · subst h4
      rw [e0]
      simp only [Nat.sub_self, List.set_cons_zero] at hn ⊢
      by_cases hc0 : c = 0
      · rw [takeFrame_zero (by simp [little_length]; omega) (by rw [List.getD, List.getElem?_append_right (by rw [little_length]; omega), little_length]; exact hc0)]
      · have h := takeFrame_form (little (sum (k :: putText l))) c l [] rfl hc0 hl
        rw [List.append_nil, if_neg hn] at h
        rw [h]
    · have hq : 5 + (putUint l.length).length ≤ p := by omega
      have e3 : (k :: putText l).set (p - 4) c = k :: putText (l.set (p - 5 - (putUint l.length).length) c) := by
        rw [show p - 4 = (p - 5) + 1 from by omega, List.set_cons_succ]
        unfold putText
        rw [List.set_append_right _ _ (by omega), List.length_set]
      rw [e0, e3]
      rw [e3] at hn
      have h := takeFrame_form (little (sum (k :: putText l))) k (l.set (p - 5 - (putUint l.length).length) c) [] rfl hk (by rw [List.length_set]; exact hl)
      rw [List.append_nil, if_neg hn] at h
      rw [h]
theorem putUint_ne (n : Nat) : 0 < (putUint n).length := by
  by_cases h : n < 128
  · rw [putUint_last h]; simp
  · rw [putUint_more (by omega)]; simp
end Go.Proofs.Ytndekdgpibipnaa.Pl
