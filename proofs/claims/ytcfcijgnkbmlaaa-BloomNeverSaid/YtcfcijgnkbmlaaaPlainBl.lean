/- Plain law: filters: hashes, places, bits. Condition: none. -/
import Derived.Test.YtcfcijgnkbmlaaaPlainC
namespace Go.Proofs.Ytcfcijgnkbmlaaa.Pl

/-- a hash, one byte further -/
def hashStep (h : Nat) (c : UInt8) : Nat := ((h ^^^ c.toNat) * 1099511628211) % 18446744073709551616
def hashStart : Nat := 14695981039346656037
theorem hashStart_lt : hashStart < 18446744073709551616 := by unfold hashStart; omega
def hashFrom (h : Nat) : List UInt8 → Nat
  | [] => h
  | c :: l => hashFrom (hashStep h c) l
def hash0 (l : List UInt8) : Nat := hashFrom hashStart l
theorem hashFrom_append : ∀ (l r : List UInt8) (h : Nat), hashFrom h (l ++ r) = hashFrom (hashFrom h l) r
  | [], _, _ => rfl
  | c :: l, r, h => hashFrom_append l r (hashStep h c)
theorem hashFrom_lt : ∀ (l : List UInt8) {h : Nat}, h < 18446744073709551616 → hashFrom h l < 18446744073709551616
  | [], _, h => h
  | c :: l, _, _ => hashFrom_lt l (Nat.mod_lt _ (by omega))
def hash (l : List UInt8) : Nat := mix (hash0 l)
theorem hashStep_lt (h : Nat) (c : UInt8) : hashStep h c < 18446744073709551616 := Nat.mod_lt _ (by omega)
theorem hash_lt (l : List UInt8) : hash l < 18446744073709551616 := mix_lt _
theorem hash0_take {l : List UInt8} {k : Nat} (h : k < l.length) : hash0 (l.take (k + 1)) = hashStep (hash0 (l.take k)) l[k] := by
  unfold hash0
  rw [List.take_succ_eq_append_getElem h, hashFrom_append]
  simp only [hashFrom]
theorem hash0_lt (l : List UInt8) : hash0 l < 18446744073709551616 := hashFrom_lt l hashStart_lt
theorem hashStep_eq (h : Nat) (c : UInt8) (hh : h < 18446744073709551616) : IntKind.u64.wrap (bits .xor .u64 (h : Int) ((c.toNat : Nat) : Int) * 1099511628211) = ((hashStep h c : Nat) : Int) := by
  have hc := c.toNat_lt
  rw [u64_xor_nat _ _ hh (by omega), IntKind.wrap_u64]
  unfold hashStep
  omega

/-- 31 bits round -/
def rot (h : Nat) : Nat := (h * 2147483648 % 18446744073709551616) ||| (h / 8589934592)
theorem rot_lt {h : Nat} (hh : h < 18446744073709551616) : rot h < 18446744073709551616 := by
  unfold rot
  exact Nat.or_lt_two_pow (n := 64) (by omega) (by omega)
theorem rot_eq (h : Nat) (hh : h < 18446744073709551616) : bits .or .u64 (IntKind.u64.wrap ((h : Int) * 2147483648)) ((h : Int) / 8589934592) = ((rot h : Nat) : Int) := by
  rw [IntKind.wrap_u64, show ((h : Int) * 2147483648 % 18446744073709551616) = ((h * 2147483648 % 18446744073709551616 : Nat) : Int) from by omega, show ((h : Int) / 8589934592) = ((h / 8589934592 : Nat) : Int) from by omega, u64_or_nat _ _ (by omega) (by omega)]
  rfl

/-- a key's places: from a hash on, a step, of so many bits, so many -/
def places (h d m : Nat) : Nat → List Nat
  | 0 => []
  | k + 1 => h % m :: places ((h + d) % 18446744073709551616) d m k
def keyPlaces (key : List UInt8) (k m : Nat) : List Nat := places (hash key) (rot (hash key)) m k
theorem places_length (h d m : Nat) : ∀ k, (places h d m k).length = k
  | 0 => rfl
  | k + 1 => by simp [places, places_length]
theorem places_lt {h d m : Nat} (hm : 0 < m) : ∀ k, ∀ x ∈ places h d m k, x < m
  | 0, _, hx => by cases hx
  | k + 1, x, hx => by
    simp only [places, List.mem_cons] at hx
    rcases hx with rfl | hx
    · exact Nat.mod_lt _ hm
    · exact places_lt hm k x hx
/-- the hash behind so many places -/
def stepH (h d : Nat) : Nat → Nat
  | 0 => h
  | k + 1 => (stepH h d k + d) % 18446744073709551616
theorem stepH_front (h d : Nat) : ∀ k, stepH ((h + d) % 18446744073709551616) d k = stepH h d (k + 1)
  | 0 => rfl
  | k + 1 => by rw [stepH, stepH_front h d k]; rfl
theorem stepH_lt {h d : Nat} (hh : h < 18446744073709551616) : ∀ k, stepH h d k < 18446744073709551616
  | 0 => hh
  | k + 1 => Nat.mod_lt _ (by omega)
theorem places_snoc (h d m : Nat) : ∀ k, places h d m (k + 1) = places h d m k ++ [stepH h d k % m]
  | 0 => rfl
  | k + 1 => by
    rw [places, places_snoc _ d m k, stepH_front]
    rfl
theorem places_prefix (h d m : Nat) {j k : Nat} (hjk : j ≤ k) : places h d m j <+: places h d m k := by
  induction hjk with
  | refl => exact List.prefix_rfl
  | step _ ih => rw [places_snoc]; exact ih.trans (List.prefix_append _ _)
theorem places_get (h d m : Nat) : ∀ k j (hj : j < (places h d m k).length), (places h d m k)[j] = stepH h d j % m
  | 0, _, hj => by simp [places] at hj
  | k + 1, 0, _ => rfl
  | k + 1, j + 1, hj => by
    have h2 := places_get ((h + d) % 18446744073709551616) d m k j (by simpa [places] using hj)
    rw [stepH_front] at h2
    simpa [places] using h2
theorem stepH_eq (h d k : Nat) : IntKind.u64.wrap ((stepH h d k : Int) + (d : Int)) = ((stepH h d (k + 1) : Nat) : Int) := by
  rw [IntKind.wrap_u64, stepH]; omega

/-- a bit is set: of bytes, behind the first one -/
def setBit (b : List UInt8) (i : Nat) : List UInt8 := b.set (1 + i / 8) ((b[1 + i / 8]?).getD 0 ||| UInt8.ofNat (2 ^ (i % 8)))
theorem setBit_length (b : List UInt8) (i : Nat) : (setBit b i).length = b.length := by simp [setBit]
/-- is it set? -/
def hasBit (b : List UInt8) (i : Nat) : Bool := ((b[1 + i / 8]?).getD 0).toNat.testBit (i % 8)
theorem ofNat_pow (j : Nat) (h : j < 8) : (UInt8.ofNat (2 ^ j)).toNat = 2 ^ j := by
  rw [UInt8.toNat_ofNat']
  exact Nat.mod_eq_of_lt (Nat.pow_lt_pow_right (by omega) h)
theorem hasBit_setBit (b : List UInt8) (i j : Nat) (hi : 1 + i / 8 < b.length) : hasBit (setBit b i) j = (hasBit b j || decide (i = j)) := by
  unfold hasBit setBit
  by_cases h : 1 + i / 8 = 1 + j / 8
  · rw [← h, List.getElem?_set_self hi, Option.getD_some, UInt8.toNat_or, Nat.testBit_or, ofNat_pow _ (by omega), Nat.testBit_two_pow]
    congr 1
    rw [decide_eq_decide]
    omega
  · rw [List.getElem?_set_ne h]
    have : decide (i = j) = false := by rw [decide_eq_false_iff_not]; intro e; exact h (by rw [e])
    rw [this, Bool.or_false]
def setBits (b : List UInt8) (l : List Nat) : List UInt8 := l.foldl setBit b
theorem setBits_length (b : List UInt8) (l : List Nat) : (setBits b l).length = b.length := by
  induction l generalizing b with
  | nil => rfl
  | cons i l ih => simp only [setBits, List.foldl_cons] at ih ⊢; rw [ih, setBit_length]
theorem setBits_snoc (b : List UInt8) (l : List Nat) (i : Nat) : setBits b (l ++ [i]) = setBit (setBits b l) i := by simp [setBits]
theorem setBits_append (b : List UInt8) (l r : List Nat) : setBits b (l ++ r) = setBits (setBits b l) r := by simp [setBits]
theorem hasBit_setBits (b : List UInt8) (l : List Nat) (j : Nat) (h : ∀ i ∈ l, 1 + i / 8 < b.length) : hasBit (setBits b l) j = (hasBit b j || decide (j ∈ l)) := by
  induction l generalizing b with
  | nil => simp [setBits]
  | cons i l ih =>
    have h1 : 1 + i / 8 < b.length := h i (by simp)
    have h2 := ih (setBit b i) (fun x hx => by rw [setBit_length]; exact h x (by simp [hx]))
    simp only [setBits, List.foldl_cons] at h2 ⊢
    rw [h2, hasBit_setBit b i j h1, Bool.or_assoc]
    congr 1
    rw [← Bool.decide_or]
    rw [decide_eq_decide]
    simp only [List.mem_cons]
    constructor
    · rintro (h | h)
      · exact .inl h.symm
      · exact .inr h
    · rintro (h | h)
      · exact .inl h.symm
      · exact .inr h

/-- how many places a key has, and how many bytes of bits there are -/
def manyPlaces (bits : Nat) : Nat := max (min bits 20 * 69 / 100) 1
def manyBytes (bits n : Nat) : Nat := max ((min bits 20 * n + 7) / 8) 8
/-- the filter without keys -/
def empty (bits n : Nat) : List UInt8 := UInt8.ofNat (manyPlaces bits) :: List.replicate (manyBytes bits n) 0
/-- with some keys -/
def withKeys (bits n : Nat) (keys : List (List UInt8)) : List UInt8 := keys.foldl (fun b key => setBits b (keyPlaces key (manyPlaces bits) (8 * manyBytes bits n))) (empty bits n)
/-- the bits of so many keys, k places each, in q bytes -/
def withPlaces (k q : Nat) (keys : List (List UInt8)) : List UInt8 := keys.foldl (fun b key => setBits b (keyPlaces key k (8 * q))) (UInt8.ofNat k :: List.replicate q 0)
theorem withPlaces_eq (bits n : Nat) (keys : List (List UInt8)) : withPlaces (manyPlaces bits) (manyBytes bits n) keys = withKeys bits n keys := rfl
theorem withPlaces_snoc (k q : Nat) (keys : List (List UInt8)) (key : List UInt8) : withPlaces k q (keys ++ [key]) = setBits (withPlaces k q keys) (keyPlaces key k (8 * q)) := by simp [withPlaces]
theorem withPlaces_length (k q : Nat) (keys : List (List UInt8)) : (withPlaces k q keys).length = 1 + q := by
  unfold withPlaces
  generalize hb : UInt8.ofNat k :: List.replicate q 0 = b
  have h : b.length = 1 + q := by rw [← hb]; simp; omega
  clear hb
  induction keys generalizing b with
  | nil => exact h
  | cons key keys ih => simp only [List.foldl_cons]; exact ih _ (by rw [setBits_length]; exact h)
/-- a filter of keys -/
def build (bits : Int) (keys : List (List UInt8)) : List UInt8 := if bits < 1 ∨ keys = [] then [] else withKeys bits.toNat keys.length keys
theorem withKeys_snoc (bits n : Nat) (keys : List (List UInt8)) (key : List UInt8) : withKeys bits n (keys ++ [key]) = setBits (withKeys bits n keys) (keyPlaces key (manyPlaces bits) (8 * manyBytes bits n)) := by simp [withKeys]
theorem withKeys_length (bits n : Nat) (keys : List (List UInt8)) : (withKeys bits n keys).length = 1 + manyBytes bits n := by
  unfold withKeys
  generalize hb : empty bits n = b
  have h : b.length = 1 + manyBytes bits n := by rw [← hb]; simp [empty]; omega
  clear hb
  induction keys generalizing b with
  | nil => exact h
  | cons key keys ih => simp only [List.foldl_cons]; exact ih _ (by rw [setBits_length]; exact h)
theorem manyPlaces_bd (bits : Nat) : 1 ≤ manyPlaces bits ∧ manyPlaces bits ≤ 13 := by unfold manyPlaces; omega
theorem manyBytes_pos (bits n : Nat) : 8 ≤ manyBytes bits n := by unfold manyBytes; omega

theorem keyPlaces_in {key : List UInt8} {k bits n : Nat} (b : List UInt8) (hb : b.length = 1 + manyBytes bits n) : ∀ i ∈ keyPlaces key k (8 * manyBytes bits n), 1 + i / 8 < b.length := by
  intro i hi
  have h1 := manyBytes_pos bits n
  have h2 := places_lt (by omega) _ i hi
  omega
theorem hasBit_empty (bits n j : Nat) : hasBit (empty bits n) j = false := by
  unfold hasBit empty
  rw [show 1 + j / 8 = (j / 8) + 1 from by omega, List.getElem?_cons_succ, List.getElem?_replicate]
  split <;> simp
/-- the bits of a filter are the places of its keys -/
theorem hasBit_withKeys (bits n : Nat) (keys : List (List UInt8)) (j : Nat) : hasBit (withKeys bits n keys) j = true ↔ ∃ key ∈ keys, j ∈ keyPlaces key (manyPlaces bits) (8 * manyBytes bits n) := by
  have H : ∀ (b : List UInt8), b.length = 1 + manyBytes bits n → (hasBit (keys.foldl (fun b key => setBits b (keyPlaces key (manyPlaces bits) (8 * manyBytes bits n))) b) j = true ↔ (hasBit b j = true ∨ ∃ key ∈ keys, j ∈ keyPlaces key (manyPlaces bits) (8 * manyBytes bits n))) := by
    induction keys with
    | nil => intro b _; simp
    | cons key keys ih =>
      intro b hb
      simp only [List.foldl_cons]
      rw [ih _ (by rw [setBits_length]; exact hb), hasBit_setBits _ _ _ (keyPlaces_in b hb), Bool.or_eq_true, decide_eq_true_eq, or_assoc]
      simp
  unfold withKeys
  rw [H _ (by simp [empty]; omega), hasBit_empty]
  simp
theorem setBits_head (b : List UInt8) (l : List Nat) : (setBits b l)[0]? = b[0]? := by
  induction l generalizing b with
  | nil => rfl
  | cons i l ih => simp only [setBits, List.foldl_cons] at ih ⊢; rw [ih]; unfold setBit; rw [List.getElem?_set_ne (by omega)]
theorem withKeys_head (bits n : Nat) (keys : List (List UInt8)) : (withKeys bits n keys)[0]? = some (UInt8.ofNat (manyPlaces bits)) := by
  have H : ∀ b : List UInt8, (keys.foldl (fun b key => setBits b (keyPlaces key (manyPlaces bits) (8 * manyBytes bits n))) b)[0]? = b[0]? := by
    induction keys with
    | nil => intro b; rfl
    | cons key keys ih => intro b; simp only [List.foldl_cons]; rw [ih, setBits_head]
  unfold withKeys
  rw [H]; rfl
end Go.Proofs.Ytcfcijgnkbmlaaa.Pl
