
/- Plain law: a version's place as bytes. Condition: none. -/
import Derived.Test.YtiogjebekadmcaaPlainI
import Derived.Test.YtiogjebekadmcaaVer
namespace Go.Proofs.Ytiogjebekadmcaa.Pl

/-- may such a version be? -/
def mayV (k v : List UInt8) (s : Nat) (d : Bool) : Bool := decide (k ≠ []) && decide (k.length ≤ 96) && decide (1 ≤ s) && decide (s ≤ 1125899906842624) && decide (v.length ≤ 16384) && (!d || decide (v = []))
def numV (s : Nat) (d : Bool) : Nat := 2 * s + d.toNat
/-- its place as bytes -/
def encKey (k v : List UInt8) (s : Nat) (d : Bool) : List UInt8 := if mayV k v s d = true then keyText k ++ big (18446744073709551615 - numV s d) else []
/-- what is read, but for whether it may be -/
def decNum (l : List UInt8) : Nat := 18446744073709551615 - word (l.drop (takeKey l).2.1)
def decKey (l : List UInt8) : (List UInt8 × Nat × Bool) × Nat :=
  if (takeKey l).2.2 ≠ 0 ∨ l.length ≠ (takeKey l).2.1 + 8 then (([], 0, false), 3)
  else if mayV (takeKey l).1 [] (decNum l / 2) (decNum l % 2 == 1) = true then (((takeKey l).1, decNum l / 2, decNum l % 2 == 1), 0) else (([], 0, false), 3)

theorem tkey_canon : ∀ (l acc : List UInt8) (i : Nat) (r : List UInt8) (j : Nat), tkey acc i l = (r, j, 0) → ∃ a rest, r = acc ++ a ∧ l = esc a ++ 0 :: 1 :: rest ∧ j = i + (esc a).length + 2
  | [], acc, i, r, j, h => by simp [tkey] at h
  | c :: l, acc, i, r, j, h => by
    unfold tkey at h
    by_cases hc : c ≠ 0
    · rw [if_pos hc] at h
      obtain ⟨a, rest, h1, h2, h3⟩ := tkey_canon l _ _ _ _ h
      refine ⟨c :: a, rest, by rw [h1]; simp, ?_, ?_⟩
      · unfold esc; rw [if_neg hc, h2]; rfl
      · unfold esc; rw [if_neg hc, h3]; simp; omega
    · rw [if_neg hc] at h
      have hc0 : c = 0 := by simpa using hc
      match l, h with
      | [], h => simp at h
      | d :: r', h =>
        simp only at h
        by_cases h1 : d = 1
        · rw [if_pos h1] at h
          simp only [Prod.mk.injEq] at h
          exact ⟨[], r', by simp [h.1], by simp [esc, hc0, h1], by simp [esc]; omega⟩
        · rw [if_neg h1] at h
          by_cases h2 : d = 255
          · rw [if_pos h2] at h
            obtain ⟨a, rest, g1, g2, g3⟩ := tkey_canon r' _ _ _ _ h
            refine ⟨0 :: a, rest, by rw [g1]; simp, ?_, ?_⟩
            · unfold esc; rw [if_pos rfl, hc0, h2, g2]; rfl
            · unfold esc; rw [if_pos rfl, g3]; simp; omega
          · rw [if_neg h2] at h
            simp at h
theorem takeKey_canon {l r : List UInt8} {j : Nat} (h : takeKey l = (r, j, 0)) : ∃ rest, l = keyText r ++ rest ∧ j = (keyText r).length := by
  obtain ⟨a, rest, h1, h2, h3⟩ := tkey_canon l [] 0 r j h
  rw [List.nil_append] at h1
  subst h1
  exact ⟨rest, by rw [h2, keyText]; simp, by rw [h3, keyText]; simp⟩
theorem big_word (l : List UInt8) (h : l.length = 8) : big (word l) = l := by
  match l, h with
  | [a, b, c, d, e, f, g, i], _ =>
    have ha := a.toNat_lt; have hb := b.toNat_lt; have hc := c.toNat_lt; have hd := d.toNat_lt
    have he := e.toNat_lt; have hf := f.toNat_lt; have hg := g.toNat_lt; have hi := i.toNat_lt
    have hw : word [a, b, c, d, e, f, g, i] = a.toNat * 72057594037927936 + b.toNat * 281474976710656 + c.toNat * 1099511627776 + d.toNat * 4294967296 + e.toNat * 16777216 + f.toNat * 65536 + g.toNat * 256 + i.toNat := by
      simp only [word, List.foldl_cons, List.foldl_nil]; omega
    rw [hw]
    have ex : ∀ (n : Nat) (x : UInt8), n % 256 = x.toNat → UInt8.ofNat n = x := fun n x h => by
      apply UInt8.toNat_inj.1
      rw [UInt8.toNat_ofNat']; exact h
    unfold big
    rw [ex _ a (by omega), ex _ b (by omega), ex _ c (by omega), ex _ d (by omega), ex _ e (by omega), ex _ f (by omega), ex _ g (by omega), ex _ i (by omega)]
theorem word_lt8 (l : List UInt8) (h : l.length = 8) : word l < 18446744073709551616 := by
  have := word_lt 8 l (by omega)
  simpa using this
theorem numV_half (n : Nat) : numV (n / 2) (n % 2 == 1) = n := by
  unfold numV
  by_cases h : n % 2 = 1
  · rw [h]; simp; omega
  · have : (n % 2 == 1) = false := by simpa using h
    rw [this]; simp; omega
/-- reading it by writing it again -/
theorem dec_enc (l : List UInt8) (h : ¬ ((takeKey l).2.2 ≠ 0 ∨ l.length ≠ (takeKey l).2.1 + 8)) : encKey (takeKey l).1 [] (decNum l / 2) (decNum l % 2 == 1) = l ↔ mayV (takeKey l).1 [] (decNum l / 2) (decNum l % 2 == 1) = true := by
  have h1 : (takeKey l).2.2 = 0 := by
    by_cases e : (takeKey l).2.2 = 0
    · exact e
    · exact absurd (.inl e) h
  have h2 : l.length = (takeKey l).2.1 + 8 := by
    by_cases e : l.length = (takeKey l).2.1 + 8
    · exact e
    · exact absurd (.inr e) h
  unfold encKey
  constructor
  · intro e
    by_cases hm : mayV (takeKey l).1 [] (decNum l / 2) (decNum l % 2 == 1) = true
    · exact hm
    · rw [if_neg hm] at e
      have h3 := congrArg List.length e
      rw [List.length_nil] at h3
      omega
  · intro hm
    rw [if_pos hm, numV_half]
    obtain ⟨rest, e1, e2⟩ := takeKey_canon (l := l) (r := (takeKey l).1) (j := (takeKey l).2.1) (by rw [← h1])
    have hd : l.drop (takeKey l).2.1 = rest := by
      rw [e2]
      generalize (takeKey l).1 = r at e1
      rw [e1, List.drop_left]
    have hl8 : rest.length = 8 := by rw [← hd, List.length_drop]; omega
    have hw := word_lt8 rest hl8
    unfold decNum
    rw [hd, show 18446744073709551615 - (18446744073709551615 - word rest) = word rest from by omega, big_word rest hl8]
    exact e1.symm
theorem encKey_ne {k v : List UInt8} {s : Nat} {d : Bool} (h : encKey k v s d ≠ []) : mayV k v s d = true ∧ encKey k v s d = keyText k ++ big (18446744073709551615 - numV s d) := by
  unfold encKey at h ⊢
  by_cases hm : mayV k v s d = true
  · rw [if_pos hm]; exact ⟨hm, rfl⟩
  · rw [if_neg hm] at h; exact absurd rfl h
theorem mayV_seq {k v : List UInt8} {s : Nat} {d : Bool} (h : mayV k v s d = true) : 1 ≤ s ∧ s ≤ 1125899906842624 := by
  simp only [mayV, Bool.and_eq_true, decide_eq_true_eq] at h
  exact ⟨h.1.1.1.2, h.1.1.2⟩
theorem mayV_len {k v : List UInt8} {s : Nat} {d : Bool} (h : mayV k v s d = true) : k.length ≤ 96 := by
  simp only [mayV, Bool.and_eq_true, decide_eq_true_eq] at h
  exact h.1.1.1.1.2
theorem bool_le (d : Bool) : d.toNat ≤ 1 := by cases d <;> simp
end Go.Proofs.Ytiogjebekadmcaa.Pl
namespace Go.Proofs.Ytiogjebekadmcaa
/-- places as bytes stand as versions do -/
theorem enc_less (ka kb : ByteArray) (va vb : List UInt8) (sa sb : Nat) (da db : Bool) (ha : Pl.encKey ka.data.toList va sa da ≠ []) (hb : Pl.encKey kb.data.toList vb sb db ≠ []) (hne : placeV ka sa kb sb = false) :
    Op.bytesLess (Pl.encKey ka.data.toList va sa da) (Pl.encKey kb.data.toList vb sb db) = lessV ka sa kb sb := by
  obtain ⟨ma, ea⟩ := Pl.encKey_ne ha
  obtain ⟨mb, eb⟩ := Pl.encKey_ne hb
  have qa := Pl.mayV_seq ma
  have qb := Pl.mayV_seq mb
  have da1 := Pl.bool_le da
  have db1 := Pl.bool_le db
  rw [ea, eb]
  unfold lessV
  rw [ByteArray.toList_eq, ByteArray.toList_eq]
  by_cases e : ka.data.toList = kb.data.toList
  · rw [e, Pl.lt_irrefl]
    have hs : sa ≠ sb := by
      intro h
      unfold placeV at hne
      rw [ByteArray.toList_eq, ByteArray.toList_eq, e, h] at hne
      simp at hne
    have hn : Pl.numV sa da ≠ Pl.numV sb db := by unfold Pl.numV; omega
    have hna : Pl.numV sa da ≤ 18446744073709551615 := by unfold Pl.numV; omega
    have hnb : Pl.numV sb db ≤ 18446744073709551615 := by unfold Pl.numV; omega
    rw [Pl.lt_append, ← List.append_nil (Pl.big (18446744073709551615 - Pl.numV sa da)), ← List.append_nil (Pl.big (18446744073709551615 - Pl.numV sb db)), Pl.big_less _ _ _ _ (by omega) (by omega) (by omega)]
    have : (18446744073709551615 - Pl.numV sa da < 18446744073709551615 - Pl.numV sb db) ↔ sb < sa := by unfold Pl.numV at *; omega
    simp [this]
  · have h1 : (ka.data.toList == kb.data.toList) = false := by simpa using e
    rw [h1]
    have := (Pl.esc_less (Pl.big (18446744073709551615 - Pl.numV sa da)) (Pl.big (18446744073709551615 - Pl.numV sb db)) _ _ e).1
    rw [Pl.keyText, Pl.keyText, List.append_assoc, List.append_assoc]
    simpa using this
end Go.Proofs.Ytiogjebekadmcaa
