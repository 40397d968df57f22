
/- Plain law: texts as lists of bytes: the common beginning of two. Condition: none.
   Plain law: numbers as bytes, seven bits each. Condition: none.
   Plain law: numbers with a sign as numbers, texts with their lengths, mixing. Condition: none.
   Plain law: check sums of bytes. Condition: none.
   Plain law: taking numbers from bytes. Condition: none.
   Plain law: taking numbers with a sign, texts and words. Condition: none.
   Plain law: the frame with which bytes begin. Condition: none.
   Plain law: texts as keys. Condition: none.
   Plain law: the text behind a text. Condition: none.
   Plain law: the order of texts as bytes; where the text behind a text stands. Condition: none.
   Plain law: what was written is read again; keys rise as what they are keys of. Condition: none.
   Plain law: a frame is taken again; no beginning of it is one; one that is turned is refused. Condition: none. -/
import Derived.Laws.Strings
import Derived.Laws.BitsAllLaws
import Derived.Laws.Bits64
import Derived.Lib.Zigzag
import Derived.WalkSmall
import Derived.IntWalk

namespace Go.Proofs.Ytndekdgpibipnaa.Pl

/-- how many bytes two texts begin with alike -/
def common : List UInt8 → List UInt8 → Nat
  | a :: s, b :: t => if a = b then common s t + 1 else 0
  | _, _ => 0

theorem common_le_left : ∀ s t : List UInt8, common s t ≤ s.length
  | [], _ => by simp [common]
  | _ :: _, [] => by simp [common]
  | a :: s, b :: t => by
    unfold common
    split
    · have := common_le_left s t; simp; omega
    · simp

theorem common_le_right : ∀ s t : List UInt8, common s t ≤ t.length
  | [], _ => by simp [common]
  | _ :: _, [] => by simp [common]
  | a :: s, b :: t => by
    unfold common
    split
    · have := common_le_right s t; simp; omega
    · simp

theorem common_drop_eq {s t : List UInt8} {k : Nat} (hs : k < s.length) (ht : k < t.length) (h : s[k] = t[k]) :
    common (s.drop k) (t.drop k) = common (s.drop (k + 1)) (t.drop (k + 1)) + 1 := by
  rw [List.drop_eq_getElem_cons hs, List.drop_eq_getElem_cons ht]
  simp [common, h]

theorem common_drop_ne {s t : List UInt8} {k : Nat} (hs : k < s.length) (ht : k < t.length) (h : s[k] ≠ t[k]) :
    common (s.drop k) (t.drop k) = 0 := by
  rw [List.drop_eq_getElem_cons hs, List.drop_eq_getElem_cons ht]
  simp [common, h]

theorem common_drop_end {s t : List UInt8} {k : Nat} (h : s.length ≤ k ∨ t.length ≤ k) : common (s.drop k) (t.drop k) = 0 := by
  rcases h with h | h
  · rw [List.drop_eq_nil_of_le h]; simp [common]
  · rw [List.drop_eq_nil_of_le h]; cases s.drop k <;> simp [common]

theorem size_data (s : ByteArray) : s.data.toList.length = s.size := by rw [Array.length_toList]; rfl
theorem getElem_data (s : ByteArray) (k : Nat) (h : k < s.size) : s.data.toList[k]'(by rw [size_data]; exact h) = s[k] := rfl

theorem extract_mk (s : ByteArray) (a b : Nat) : s.extract a b = ⟨((s.data.toList.take b).drop a).toArray⟩ := by
  apply ByteArray.ext
  rw [ByteArray.data_extract]
  apply Array.toList_inj.1
  simp [List.drop_take]
end Go.Proofs.Ytndekdgpibipnaa.Pl

namespace Go.Proofs.Ytndekdgpibipnaa.Pl

/-- a number as bytes, seven bits each -/
def putUint (n : Nat) : List UInt8 :=
  if n < 128 then [UInt8.ofNat n] else UInt8.ofNat (n % 128 + 128) :: putUint (n / 128)
termination_by n
decreasing_by omega

theorem putUint_last {n : Nat} (h : n < 128) : putUint n = [UInt8.ofNat n] := by rw [putUint, if_pos h]
theorem putUint_more {n : Nat} (h : ¬ n < 128) : putUint n = UInt8.ofNat (n % 128 + 128) :: putUint (n / 128) := by rw [putUint, if_neg h]

theorem putUint_step {n : Nat} (h : ¬ n < 128) (l : List UInt8) : l ++ putUint n = (l ++ [UInt8.ofNat (n % 128 + 128)]) ++ putUint (n / 128) := by
  rw [putUint_more h]; simp

theorem putUint_length (k n : Nat) (h : n < 128 ^ (k + 1)) : (putUint n).length ≤ k + 1 := by
  induction k generalizing n with
  | zero => rw [putUint_last (by simpa using h)]; simp
  | succ k ih =>
    by_cases h1 : n < 128
    · rw [putUint_last h1]; simp
    · rw [putUint_more h1]
      have : n / 128 < 128 ^ (k + 1) := by
        rw [Nat.div_lt_iff_lt_mul (by omega)]
        rw [Nat.pow_succ] at h
        exact h
      have := ih _ this
      simp; omega

theorem putUint_length64 (n : Nat) (h : n < 18446744073709551616) : (putUint n).length ≤ 10 :=
  putUint_length 9 n (by omega)
end Go.Proofs.Ytndekdgpibipnaa.Pl

namespace Go.Proofs.Ytndekdgpibipnaa.Pl

/-- a number with a sign as one without -/
def zig (n : Int) : Nat := if 0 ≤ n then (2 * n).toNat else (-(2 * n) - 1).toNat

theorem zig_nonneg {n : Int} (h : 0 ≤ n) : ((zig n : Nat) : Int) = 2 * n := by unfold zig; rw [if_pos h]; omega
theorem zig_neg {n : Int} (h : n < 0) : ((zig n : Nat) : Int) = 2 * -(n + 1) + 1 := by unfold zig; rw [if_neg (by omega)]; omega
theorem zig_le {n : Int} (h0 : -9223372036854775808 ≤ n) (h1 : n ≤ 9223372036854775807) : zig n ≤ 18446744073709551615 := by
  unfold zig; split <;> omega

theorem xor_ones64 (b : Nat) (hb : b < 2 ^ 64) : b ^^^ (2 ^ 64 - 1) = 2 ^ 64 - 1 - b := by
  apply Nat.eq_of_testBit_eq
  intro i
  rw [Nat.testBit_xor, Nat.testBit_two_pow_sub_one]
  rw [show 2 ^ 64 - 1 - b = 2 ^ 64 - (b + 1) from by omega, Nat.testBit_two_pow_sub_succ hb]
  by_cases h : i < 64
  · simp [h]
  · simp [h]
    exact Nat.testBit_lt_two_pow (Nat.lt_of_lt_of_le hb (Nat.pow_le_pow_right (by omega) (by omega)))

theorem zig_bits (n : Int) (h0 : -9223372036854775808 ≤ n) (h1 : n ≤ 9223372036854775807) :
    bits .xor .u64 (IntKind.u64.wrap (IntKind.u64.wrap n * 2)) (IntKind.u64.wrap (n / 9223372036854775808)) = ((zig n : Nat) : Int) := by
  rw [IntKind.wrap_u64, IntKind.wrap_u64, IntKind.wrap_u64]
  by_cases h : 0 ≤ n
  · have e1 : (n / 9223372036854775808) % 18446744073709551616 = ((0 : Nat) : Int) := by omega
    have e2 : (n % 18446744073709551616 * 2) % 18446744073709551616 = (((2 * n).toNat : Nat) : Int) := by omega
    rw [e1, e2, u64_xor_nat _ _ (by omega) (by omega), Nat.xor_zero]
    unfold zig
    rw [if_pos h]
  · have e1 : (n / 9223372036854775808) % 18446744073709551616 = ((2 ^ 64 - 1 : Nat) : Int) := by omega
    have e2 : (n % 18446744073709551616 * 2) % 18446744073709551616 = (((2 * n + 18446744073709551616).toNat : Nat) : Int) := by omega
    rw [e1, e2, u64_xor_nat _ _ (by omega) (by omega), xor_ones64 _ (by omega)]
    unfold zig
    rw [if_neg h]
    omega

/-- a number's bits mixed -/
def mixA (n : Nat) : Nat := (n + 11400714819323198485) % 18446744073709551616
def mixB (a : Nat) : Nat := ((a ^^^ a / 1073741824) * 13787848793156543929) % 18446744073709551616
def mixC (a : Nat) : Nat := ((a ^^^ a / 134217728) * 10723151780598845931) % 18446744073709551616
def mixD (a : Nat) : Nat := a ^^^ a / 2147483648
def mix (n : Nat) : Nat := mixD (mixC (mixB (mixA n)))

theorem mixA_lt (n : Nat) : mixA n < 18446744073709551616 := Nat.mod_lt _ (by omega)
theorem mixB_lt (n : Nat) : mixB n < 18446744073709551616 := Nat.mod_lt _ (by omega)
theorem mixC_lt (n : Nat) : mixC n < 18446744073709551616 := Nat.mod_lt _ (by omega)
theorem mixD_lt {n : Nat} (h : n < 18446744073709551616) : mixD n < 18446744073709551616 := by
  unfold mixD
  exact Nat.xor_lt_two_pow (n := 64) (by omega) (by omega)
theorem mix_lt (n : Nat) : mix n < 18446744073709551616 := mixD_lt (mixC_lt _)

theorem mixA_eq (n : Nat) : IntKind.u64.wrap ((n : Int) + 11400714819323198485) = ((mixA n : Nat) : Int) := by
  rw [IntKind.wrap_u64]; unfold mixA; omega
theorem mixB_eq (a : Nat) (h : a < 18446744073709551616) : IntKind.u64.wrap (bits .xor .u64 (a : Int) ((a : Int) / 1073741824) * 13787848793156543929) = ((mixB a : Nat) : Int) := by
  rw [show ((a : Int) / 1073741824) = ((a / 1073741824 : Nat) : Int) from by omega, u64_xor_nat _ _ h (by omega), IntKind.wrap_u64]; unfold mixB; omega
theorem mixC_eq (a : Nat) (h : a < 18446744073709551616) : IntKind.u64.wrap (bits .xor .u64 (a : Int) ((a : Int) / 134217728) * 10723151780598845931) = ((mixC a : Nat) : Int) := by
  rw [show ((a : Int) / 134217728) = ((a / 134217728 : Nat) : Int) from by omega, u64_xor_nat _ _ h (by omega), IntKind.wrap_u64]; unfold mixC; omega
theorem mixD_eq (a : Nat) (h : a < 18446744073709551616) : bits .xor .u64 (a : Int) ((a : Int) / 2147483648) = ((mixD a : Nat) : Int) := by
  rw [show ((a : Int) / 2147483648) = ((a / 2147483648 : Nat) : Int) from by omega, u64_xor_nat _ _ h (by omega)]; rfl

/-- a word as eight bytes, the highest one first -/
def big (n : Nat) : List UInt8 :=
  [UInt8.ofNat (n / 72057594037927936), UInt8.ofNat (n / 281474976710656), UInt8.ofNat (n / 1099511627776), UInt8.ofNat (n / 4294967296), UInt8.ofNat (n / 16777216), UInt8.ofNat (n / 65536), UInt8.ofNat (n / 256), UInt8.ofNat n]
theorem byte_mod (m : Nat) : (((UInt8.ofNat m).toNat : Nat) : Int) = (m : Int) % 256 := by rw [UInt8.toNat_ofNat']; omega
/-- a number with a sign as a word that rises as it does -/
def up (n : Int) : Nat := (n + 9223372036854775808).toNat
theorem xor_top (m : Nat) (h : m < 2 ^ 64) : m ^^^ 2 ^ 63 = (m + 2 ^ 63) % 2 ^ 64 := by
  apply Nat.eq_of_testBit_eq
  intro i
  rw [Nat.testBit_xor, Nat.testBit_mod_two_pow, Nat.testBit_two_pow]
  by_cases h63 : i = 63
  · subst h63
    simp only [Nat.testBit_eq_decide_div_mod_eq]
    have : (m + 2 ^ 63) / 2 ^ 63 = m / 2 ^ 63 + 1 := by omega
    rw [this]
    have h2 : m / 2 ^ 63 = 0 ∨ m / 2 ^ 63 = 1 := by omega
    rcases h2 with h2 | h2 <;> simp [h2]
  · by_cases hlt : i < 63
    · have e : (m + 2 ^ 63).testBit i = m.testBit i := by
        have : 2 ^ 63 = 2 ^ (i + 1) * 2 ^ (62 - i) := by rw [← Nat.pow_add]; congr 1; omega
        have h1 : (m + 2 ^ 63) % 2 ^ (i + 1) = m % 2 ^ (i + 1) := by rw [this, Nat.add_mul_mod_self_left]
        have h2 := Nat.testBit_mod_two_pow (m + 2 ^ 63) (i + 1) i
        have h3 := Nat.testBit_mod_two_pow m (i + 1) i
        rw [h1, h3] at h2
        simpa using h2.symm
      have h64 : i < 64 := by omega
      have h63' : ¬ 63 = i := by omega
      simp [e, h64, h63']
    · have h64 : ¬ i < 64 := by omega
      have h63' : ¬ 63 = i := by omega
      have : m.testBit i = false := Nat.testBit_lt_two_pow (Nat.lt_of_lt_of_le h (Nat.pow_le_pow_right (by omega) (by omega)))
      simp [this, h64, h63']
theorem up_bits (n : Int) (h0 : -9223372036854775808 ≤ n) (h1 : n ≤ 9223372036854775807) :
    bits .xor .u64 (IntKind.u64.wrap n) 9223372036854775808 = ((up n : Nat) : Int) := by
  rw [IntKind.wrap_u64]
  have e : n % 18446744073709551616 = (((n % 18446744073709551616).toNat : Nat) : Int) := by omega
  have e2 : (9223372036854775808 : Int) = ((2 ^ 63 : Nat) : Int) := by decide
  rw [e, e2, u64_xor_nat _ _ (by omega) (by decide), xor_top _ (by omega)]
  unfold up
  omega
theorem up_le {n : Int} (h0 : -9223372036854775808 ≤ n) (h1 : n ≤ 9223372036854775807) : up n ≤ 18446744073709551615 := by unfold up; omega

/-- a text with its length ahead -/
def putText (l : List UInt8) : List UInt8 := putUint l.length ++ l

theorem mk_append (l : List UInt8) (s : ByteArray) : (ByteArray.mk l.toArray ++ s) = ByteArray.mk (l ++ s.data.toList).toArray := by
  apply ByteArray.ext
  simp [ByteArray.data_append]
end Go.Proofs.Ytndekdgpibipnaa.Pl

namespace Go.Proofs.Ytndekdgpibipnaa.Pl

/-- one bit of a check sum -/
def crc1 (n : Nat) : Nat := if n % 2 = 1 then (n / 2) ^^^ 3988292384 else n / 2
def crcs : Nat → Nat → Nat
  | 0, n => n
  | k + 1, n => crcs k (crc1 n)
/-- one byte of it -/
def crcB (n : Nat) (b : UInt8) : Nat := crcs 8 (n ^^^ b.toNat)
def crcL (n : Nat) (l : List UInt8) : Nat := l.foldl crcB n
/-- the check sum -/
def sum (l : List UInt8) : Nat := 4294967295 - crcL 4294967295 l
/-- four bytes, the lowest one first -/
def little (n : Nat) : List UInt8 := [UInt8.ofNat n, UInt8.ofNat (n / 256), UInt8.ofNat (n / 65536), UInt8.ofNat (n / 16777216)]
/-- a frame as bytes -/
def frame (k : UInt8) (l : List UInt8) : List UInt8 := little (sum (k :: putText l)) ++ k :: putText l

theorem xor_lt32 {a b : Nat} (ha : a < 4294967296) (hb : b < 4294967296) : a ^^^ b < 4294967296 := Nat.xor_lt_two_pow (n := 32) ha hb
theorem crc1_lt {n : Nat} (h : n < 4294967296) : crc1 n < 4294967296 := by
  unfold crc1
  split
  · exact xor_lt32 (by omega) (by omega)
  · omega
theorem crcs_lt : ∀ (k : Nat) {n : Nat}, n < 4294967296 → crcs k n < 4294967296
  | 0, _, h => h
  | k + 1, _, h => crcs_lt k (crc1_lt h)
theorem crcB_lt {n : Nat} (b : UInt8) (h : n < 4294967296) : crcB n b < 4294967296 := crcs_lt 8 (xor_lt32 h (by have := b.toNat_lt; omega))
theorem crcL_lt : ∀ (l : List UInt8) {n : Nat}, n < 4294967296 → crcL n l < 4294967296
  | [], _, h => h
  | b :: l, _, h => crcL_lt l (crcB_lt b h)
theorem sum_le (l : List UInt8) : sum l ≤ 4294967295 := by unfold sum; omega

theorem half_bits (n : Nat) : bits .and .u32 3988292384 (IntKind.u32.wrap (-(((n % 2 : Nat) : Int)))) = ((if n % 2 = 1 then 3988292384 else 0 : Nat) : Int) := by
  have h : n % 2 = 0 ∨ n % 2 = 1 := by omega
  rcases h with h | h <;> rw [h] <;> decide +kernel
theorem crc1_eq (n : Nat) (h : n < 4294967296) : bits .xor .u32 ((n : Int) / 2) (bits .and .u32 3988292384 (-(bits .and .u32 (n : Int) 1) % 4294967296)) = ((crc1 n : Nat) : Int) := by
  rw [← IntKind.wrap_u32', show (1 : Int) = ((1 : Nat) : Int) from rfl, u32_and_nat n 1 h (by omega), nat_mask1, half_bits, show ((n : Int) / 2) = ((n / 2 : Nat) : Int) from by omega, u32_xor_nat _ _ (by omega) (by split <;> omega)]
  unfold crc1
  split <;> simp
theorem crc1_odd (n : Nat) (h : n < 4294967296) (ho : (n : Int) % 2 = 1) : bits .xor .u32 ((n : Int) / 2) 3988292384 = ((crc1 n : Nat) : Int) := by
  rw [show (3988292384 : Int) = ((3988292384 : Nat) : Int) from rfl, show ((n : Int) / 2) = ((n / 2 : Nat) : Int) from by omega, u32_xor_nat _ _ (by omega) (by omega)]
  unfold crc1
  rw [if_pos (by omega)]
theorem crc1_even (n : Nat) (ho : ¬ (n : Int) % 2 = 1) : (n : Int) / 2 = ((crc1 n : Nat) : Int) := by
  unfold crc1
  rw [if_neg (by omega)]
  omega
theorem byte_xor (n : Nat) (b : UInt8) (h : n < 4294967296) : bits .xor .u32 (n : Int) ((b.toNat : Nat) : Int) = ((n ^^^ b.toNat : Nat) : Int) := u32_xor_nat _ _ h (by have := b.toNat_lt; omega)
theorem byte_xor' (n : Nat) (b : UInt8) (h : n < 4294967296) : bits .xor .u32 (n : Int) (((b.toNat : Nat) : Int) % 4294967296) = ((n ^^^ b.toNat : Nat) : Int) := by
  rw [show (((b.toNat : Nat) : Int) % 4294967296) = ((b.toNat : Nat) : Int) from by have := b.toNat_lt; omega, byte_xor n b h]
theorem xor_byte_lt {n : Nat} (b : UInt8) (h : n < 4294967296) : n ^^^ b.toNat < 4294967296 := xor_lt32 h (by have := b.toNat_lt; omega)
theorem xor_ones32 (b : Nat) (hb : b < 2 ^ 32) : (2 ^ 32 - 1) ^^^ b = 2 ^ 32 - 1 - b := by
  apply Nat.eq_of_testBit_eq
  intro i
  rw [Nat.testBit_xor, Nat.testBit_two_pow_sub_one]
  rw [show 2 ^ 32 - 1 - b = 2 ^ 32 - (b + 1) from by omega, Nat.testBit_two_pow_sub_succ hb]
  by_cases h : i < 32
  · simp [h]
  · simp [h]
    exact Nat.testBit_lt_two_pow (Nat.lt_of_lt_of_le hb (Nat.pow_le_pow_right (by omega) (by omega)))
theorem sum_end {n : Nat} {l : List UInt8} (hn : n < 4294967296) (h : crcL n [] = crcL 4294967295 l) : bits .xor .u32 IntKind.u32.max (n : Int) = ((sum l : Nat) : Int) := by
  rw [show IntKind.u32.max = ((2 ^ 32 - 1 : Nat) : Int) from by decide, u32_xor_nat _ _ (by omega) hn, xor_ones32 _ hn]
  unfold sum
  rw [← h]
  rfl
theorem crcL_next {n k : Nat} {l : List UInt8} (hk : k < l.length) : crcL n (l.drop k) = crcL (crcB n l[k]) (l.drop (k + 1)) := by
  rw [List.drop_eq_getElem_cons hk]
  rfl
end Go.Proofs.Ytndekdgpibipnaa.Pl

namespace Go.Proofs.Ytndekdgpibipnaa.Pl

/-- the number with which bytes begin, behind i bytes that made n: the number, how many bytes it has, what is wrong -/
def takeFrom (n i : Nat) : List UInt8 → Nat × Nat × Nat
  | [] => (0, 0, 2)
  | b :: r => if (i = 9 ∧ 1 < b.toNat) ∨ (0 < i ∧ b = 0) then (0, 0, 3) else if b.toNat < 128 then (n + b.toNat * 128 ^ i, i + 1, 0) else takeFrom (n + b.toNat % 128 * 128 ^ i) (i + 1) r
def takeUint (l : List UInt8) : Nat × Nat × Nat := takeFrom 0 0 l

theorem takeFrom_bound : ∀ (l : List UInt8) (n i : Nat), i ≤ 9 → n < 128 ^ i → (takeFrom n i l).1 ≤ 18446744073709551615 ∧ (takeFrom n i l).2.1 ≤ i + l.length ∧ (takeFrom n i l).2.1 ≤ 10
  | [], _, _, _, _ => by simp [takeFrom]
  | b :: r, n, i, hi, hn => by
    unfold takeFrom
    split
    · simp
    · rename_i h1
      split
      · rename_i h2
        simp only [List.length_cons]
        refine ⟨?_, by omega, by omega⟩
        have h3 : i = 9 ∨ i < 9 := by omega
        rcases h3 with rfl | h3
        · have : b.toNat ≤ 1 := by omega
          have h4 : b.toNat * 128 ^ 9 ≤ 1 * 128 ^ 9 := Nat.mul_le_mul_right _ this
          omega
        · have h4 : b.toNat * 128 ^ i ≤ 127 * 128 ^ i := Nat.mul_le_mul_right _ (by omega)
          have h5 : 128 ^ i ≤ 128 ^ 8 := Nat.pow_le_pow_right (by omega) (by omega)
          omega
      · rename_i h2
        have h3 : i < 9 := by
          rcases Nat.lt_or_ge i 9 with h | h
          · exact h
          · exfalso; apply h1; left; exact ⟨by omega, by omega⟩
        have h4 : n + b.toNat % 128 * 128 ^ i < 128 ^ (i + 1) := by
          have h5 : b.toNat % 128 * 128 ^ i ≤ 127 * 128 ^ i := Nat.mul_le_mul_right _ (by omega)
          rw [Nat.pow_succ]; omega
        have := takeFrom_bound r _ (i + 1) (by omega) h4
        simp only [List.length_cons]
        exact ⟨this.1, by omega, this.2.2⟩
theorem takeUint_bound (l : List UInt8) : (takeUint l).1 ≤ 18446744073709551615 ∧ (takeUint l).2.1 ≤ l.length ∧ (takeUint l).2.1 ≤ 10 := by
  have := takeFrom_bound l 0 0 (by omega) (by simp)
  exact ⟨this.1, by have h := this.2.1; rw [Nat.zero_add] at h; exact h, this.2.2⟩

section
variable {l : List UInt8} {n k : Nat} (hk : k < l.length)
include hk
theorem takeFrom_bad (h : (k = 9 ∧ 1 < (l[k]).toNat) ∨ (0 < k ∧ l[k] = 0)) : takeFrom n k (l.drop k) = (0, 0, 3) := by
  rw [List.drop_eq_getElem_cons hk]; unfold takeFrom; rw [if_pos h]
theorem takeFrom_last (h : ¬ ((k = 9 ∧ 1 < (l[k]).toNat) ∨ (0 < k ∧ l[k] = 0))) (h2 : (l[k]).toNat < 128) : takeFrom n k (l.drop k) = (n + (l[k]).toNat * 128 ^ k, k + 1, 0) := by
  rw [List.drop_eq_getElem_cons hk]; unfold takeFrom; rw [if_neg h, if_pos h2]
theorem takeFrom_more (h : ¬ ((k = 9 ∧ 1 < (l[k]).toNat) ∨ (0 < k ∧ l[k] = 0))) (h2 : ¬ (l[k]).toNat < 128) : takeFrom n k (l.drop k) = takeFrom (n + (l[k]).toNat % 128 * 128 ^ k) (k + 1) (l.drop (k + 1)) := by
  rw [List.drop_eq_getElem_cons hk]; conv => lhs; unfold takeFrom
  rw [if_neg h, if_neg h2]
end
theorem takeFrom_end {l : List UInt8} {n k : Nat} (h : l.length ≤ k) : takeFrom n k (l.drop k) = (0, 0, 2) := by rw [List.drop_eq_nil_of_le h]; rfl
theorem more_bound {n b k : Nat} (hn : n < 128 ^ k) : n + b % 128 * 128 ^ k < 128 ^ (k + 1) := by
  have h5 : b % 128 * 128 ^ k ≤ 127 * 128 ^ k := Nat.mul_le_mul_right _ (by omega)
  rw [Nat.pow_succ]; omega

theorem or_add {n b k : Nat} (hn : n < 128 ^ k) : n ||| b * 128 ^ k = n + b * 128 ^ k := by
  have e : (128 : Nat) ^ k = 2 ^ (7 * k) := by rw [show (128 : Nat) = 2 ^ 7 from rfl, ← Nat.pow_mul]
  rw [e] at hn ⊢
  have h := Nat.two_pow_add_eq_or_of_lt hn b
  rw [Nat.or_comm, Nat.mul_comm b, ← h, Nat.add_comm]
theorem pow_cast (k : Nat) : (2 : Int) ^ (7 * k) = ((128 ^ k : Nat) : Int) := by
  rw [Int.pow_mul]; simp
theorem or_u64 {n b k : Nat} (hn : n < 128 ^ k) (hb : b < 256) (hk : k ≤ 9) (h : k = 9 → b ≤ 1) : bits .or .u64 (n : Int) ((b : Int) * ((128 ^ k : Nat) : Int)) = ((n + b * 128 ^ k : Nat) : Int) ∧ b * 128 ^ k < 18446744073709551616 := by
  have h1 : 128 ^ k ≤ 128 ^ 9 := Nat.pow_le_pow_right (by omega) hk
  have h2 : b * 128 ^ k < 18446744073709551616 := by
    rcases Nat.lt_or_ge k 9 with h9 | h9
    · have h3 : 128 ^ k ≤ 128 ^ 8 := Nat.pow_le_pow_right (by omega) (by omega)
      have h4 : b * 128 ^ k ≤ 255 * 128 ^ 8 := Nat.mul_le_mul (by omega) h3
      omega
    · have h4 : b * 128 ^ k ≤ 1 * 128 ^ 9 := Nat.mul_le_mul (h (by omega)) h1
      omega
  refine ⟨?_, h2⟩
  rw [← Int.natCast_mul, u64_or_nat _ _ (by omega) h2, or_add hn]
theorem or_last {n b k : Nat} (hn : n < 128 ^ k) (hb : b < 256) (hk : k < 9) : bits .or .u64 (n : Int) (IntKind.u64.wrap ((b : Int) * 2 ^ (7 * k))) = ((n + b * 128 ^ k : Nat) : Int) := by
  obtain ⟨h1, h2⟩ := or_u64 hn hb (by omega) (by omega)
  rw [pow_cast, IntKind.wrap_u64, Int.emod_eq_of_lt (by rw [← Int.natCast_mul]; omega) (by rw [← Int.natCast_mul]; omega)]
  exact h1
theorem or_nine {n b : Nat} (hn : n < 128 ^ 9) (hb : b ≤ 1) : bits .or .u64 (n : Int) ((b : Int) * 9223372036854775808) = ((n + b * 128 ^ 9 : Nat) : Int) :=
  (or_u64 hn (by omega) (Nat.le_refl _) (fun _ => hb)).1
theorem and127 (b : Nat) (hb : b < 256) : IntKind.u64.wrap (bits .and .u8 (b : Int) 127) = ((b % 128 : Nat) : Int) := by
  have h : ∀ k : Nat, k < 256 → bits .and .u8 (k : Int) 127 = ((k % 128 : Nat) : Int) := by decide +kernel
  rw [h b hb, IntKind.wrap_u64]
  omega
theorem ref_num {n b P k : Nat} (hP : P = 128 ^ k) (hn : n < 128 ^ k) (hk : k ≤ 9) (h : k = 9 → b ≤ 1) :
    IntKind.u64.wrap ((n : Int) + IntKind.u64.wrap ((b : Int) % 128 * (P : Int))) = ((n + b % 128 * 128 ^ k : Nat) : Int) := by
  subst hP
  obtain ⟨_, h2⟩ := or_u64 (b := b % 128) hn (by omega) hk (by omega)
  have h3 : n + b % 128 * 128 ^ k < 18446744073709551616 := by
    rcases Nat.lt_or_ge k 9 with h9 | h9
    · have h3 : 128 ^ k ≤ 128 ^ 8 := Nat.pow_le_pow_right (by omega) (by omega)
      have h4 : b % 128 * 128 ^ k ≤ 127 * 128 ^ k := Nat.mul_le_mul_right _ (by omega)
      omega
    · obtain rfl : k = 9 := by omega
      have h4 : b % 128 * 128 ^ 9 ≤ 1 * 128 ^ 9 := Nat.mul_le_mul_right _ (by have := h rfl; omega)
      omega
  have e : (b : Int) % 128 * ((128 ^ k : Nat) : Int) = ((b % 128 * 128 ^ k : Nat) : Int) := by rw [Int.natCast_mul]; rfl
  rw [e, IntKind.wrap_u64, IntKind.wrap_u64]
  generalize b % 128 * 128 ^ k = x at *
  omega
theorem ref_place {P k : Nat} (hP : P = 128 ^ k) (hk : k < 9) : IntKind.u64.wrap ((P : Int) * 128) = ((128 ^ (k + 1) : Nat) : Int) := by
  subst hP
  have h3 : 128 ^ k ≤ 128 ^ 8 := Nat.pow_le_pow_right (by omega) (by omega)
  rw [Nat.pow_succ, IntKind.wrap_u64]
  generalize 128 ^ k = x at *
  omega
end Go.Proofs.Ytndekdgpibipnaa.Pl

namespace Go.Proofs.Ytndekdgpibipnaa.Pl
open Go.RowKit (wrap64)

/-- a number without a sign as one with a sign -/
def zag (n : Nat) : Int := if n % 2 = 1 then -((n / 2 : Nat) : Int) - 1 else ((n / 2 : Nat) : Int)

theorem xor_zero_i64 (x : Nat) (hx : x < 9223372036854775808) : bits .xor .i64 (x : Int) 0 = (x : Int) := by
  show IntKind.i64.wrap ((BitVec.ofInt 64 (x : Int) ^^^ BitVec.ofInt 64 0).toNat : Int) = _
  have h2 : (BitVec.ofInt 64 (x : Int)).toNat = x := by
    rw [BitVec.ofInt_natCast, BitVec.toNat_ofNat]; exact Nat.mod_eq_of_lt (by omega)
  have h1 : (BitVec.ofInt 64 0).toNat = 0 := by decide
  rw [BitVec.toNat_xor, h1, h2, Nat.xor_zero, IntKind.wrap_i64]
  omega
theorem xor_comm_i64 (a b : Int) : bits .xor .i64 a b = bits .xor .i64 b a := by
  show IntKind.i64.wrap ((BitVec.ofInt 64 a ^^^ BitVec.ofInt 64 b).toNat : Int) = IntKind.i64.wrap ((BitVec.ofInt 64 b ^^^ BitVec.ofInt 64 a).toNat : Int)
  rw [BitVec.xor_comm]
theorem zag_bits (n : Nat) (h : n ≤ 18446744073709551615) :
    bits .xor .i64 (wrap64 ((n : Int) / 2)) (wrap64 (-wrap64 (bits .and .u64 (n : Int) 1))) = zag n := by
  rw [Lib.u64_and1 _ (by omega) (by omega), IntWalk.wrap64_in ((n : Int) / 2) ⟨by omega, by omega⟩, IntWalk.wrap64_in ((n : Int) % 2) ⟨by omega, by omega⟩, IntWalk.wrap64_in (-((n : Int) % 2)) ⟨by omega, by omega⟩]
  unfold zag
  by_cases h1 : n % 2 = 1
  · rw [if_pos h1, show -((n : Int) % 2) = -1 from by omega, xor_comm_i64, show (n : Int) / 2 = ((n / 2 : Nat) : Int) from by omega, Lib.i64_not _ (by omega)]
  · rw [if_neg h1, show -((n : Int) % 2) = 0 from by omega, show (n : Int) / 2 = ((n / 2 : Nat) : Int) from by omega, xor_zero_i64 _ (by omega)]
theorem zag_odd (n : Nat) (h : n ≤ 18446744073709551615) (h1 : ((n : Int) % 2 == 1) = true) : wrap64 (wrap64 (-wrap64 (IntKind.u64.wrap ((n : Int) / 2))) - 1) = zag n := by
  have h2 : (n : Int) % 2 = 1 := by simpa using h1
  rw [IntWalk.u64_in _ ⟨by omega, by omega⟩, IntWalk.wrap64_in ((n : Int) / 2) ⟨by omega, by omega⟩, IntWalk.wrap64_in (-((n : Int) / 2)) ⟨by omega, by omega⟩, IntWalk.wrap64_in _ ⟨by omega, by omega⟩]
  unfold zag
  rw [if_pos (by omega)]
  omega
theorem zag_even (n : Nat) (h : n ≤ 18446744073709551615) (h1 : ((n : Int) % 2 == 1) = false) : wrap64 (IntKind.u64.wrap ((n : Int) / 2)) = zag n := by
  have h2 : ¬ (n : Int) % 2 = 1 := by simpa using h1
  rw [IntWalk.u64_in _ ⟨by omega, by omega⟩, IntWalk.wrap64_in ((n : Int) / 2) ⟨by omega, by omega⟩]
  unfold zag
  rw [if_neg (by omega)]
  omega

/-- the text with which bytes begin, of at most so many bytes; how many bytes; what is wrong -/
def takeText (l : List UInt8) (most : Nat) : List UInt8 × Nat × Nat :=
  if (takeUint l).2.2 ≠ 0 then ([], 0, (takeUint l).2.2) else if most < (takeUint l).1 then ([], 0, 3)
  else if l.length - (takeUint l).2.1 < (takeUint l).1 then ([], 0, 2) else ((l.drop (takeUint l).2.1).take (takeUint l).1, (takeUint l).2.1 + (takeUint l).1, 0)

/-- eight bytes as a word -/
def word (l : List UInt8) : Nat := l.foldl (fun n b => n * 256 + b.toNat) 0
theorem word_snoc (l : List UInt8) (b : UInt8) : word (l ++ [b]) = word l * 256 + b.toNat := by simp [word]
theorem word_take {l : List UInt8} {k : Nat} (h : k < l.length) : word (l.take (k + 1)) = word (l.take k) * 256 + (l[k]).toNat := by
  rw [List.take_succ_eq_append_getElem h, word_snoc]
theorem word_lt : ∀ (k : Nat) (l : List UInt8), l.length ≤ k → word l < 256 ^ k := by
  intro k
  induction k with
  | zero =>
    intro l h
    have : l = [] := List.length_eq_zero_iff.1 (by omega)
    subst this; simp [word]
  | succ k ih =>
    intro l h
    rcases List.eq_nil_or_concat l with rfl | ⟨r, b, rfl⟩
    · have : 0 < 256 ^ (k + 1) := Nat.pow_pos (by omega)
      simpa [word] using this
    · rw [List.concat_eq_append, word_snoc]
      have h1 := ih r (by simp at h; omega)
      have h2 := b.toNat_lt
      rw [Nat.pow_succ]
      omega
/-- a word as a number with a sign -/
def down (n : Nat) : Int := (n : Int) - 9223372036854775808
theorem down_bits (n : Nat) (h : n < 18446744073709551616) : wrap64 (bits .xor .u64 (n : Int) 9223372036854775808) = down n := by
  have e2 : (9223372036854775808 : Int) = ((2 ^ 63 : Nat) : Int) := by decide
  rw [e2, u64_xor_nat _ _ h (by decide), xor_top _ (by omega)]
  unfold down wrap64
  omega
theorem or_byte (n b : Nat) (hn : n < 72057594037927936) (hb : b < 256) : bits .or .u64 (IntKind.u64.wrap ((n : Int) * 256)) (b : Int) = ((n * 256 + b : Nat) : Int) := by
  have e : IntKind.u64.wrap ((n : Int) * 256) = ((n * 256 : Nat) : Int) := by rw [IntWalk.u64_in _ ⟨by omega, by omega⟩]; omega
  rw [e, u64_or_nat _ _ (by omega) (by omega)]
  have h := Nat.two_pow_add_eq_or_of_lt (i := 8) (b := b) (by omega) n
  rw [Nat.mul_comm n, show (256 : Nat) = 2 ^ 8 from rfl, ← h]
end Go.Proofs.Ytndekdgpibipnaa.Pl

namespace Go.Proofs.Ytndekdgpibipnaa.Pl

/-- the frame with which bytes begin, its length, what is wrong -/
def takeFrame (l : List UInt8) : (UInt8 × List UInt8) × Nat × Nat :=
  if l.length < 5 then ((0, []), 0, 2) else if l.getD 4 0 = 0 then ((0, []), 0, 3)
  else if (takeText (l.drop 5) 262144).2.2 ≠ 0 then ((0, []), 0, (takeText (l.drop 5) 262144).2.2)
  else if little (sum ((l.take (5 + (takeText (l.drop 5) 262144).2.1)).drop 4)) ≠ l.take 4 then ((0, []), 0, 3)
  else ((l.getD 4 0, (takeText (l.drop 5) 262144).1), 5 + (takeText (l.drop 5) 262144).2.1, 0)

theorem takeFrame_short {l : List UInt8} (h : l.length < 5) : takeFrame l = ((0, []), 0, 2) := by unfold takeFrame; rw [if_pos h]
theorem takeFrame_zero {l : List UInt8} (h : ¬ l.length < 5) (h2 : l.getD 4 0 = 0) : takeFrame l = ((0, []), 0, 3) := by unfold takeFrame; rw [if_neg h, if_pos h2]
theorem takeFrame_bad {l : List UInt8} (h : ¬ l.length < 5) (h2 : ¬ l.getD 4 0 = 0) (h3 : (takeText (l.drop 5) 262144).2.2 ≠ 0) : takeFrame l = ((0, []), 0, (takeText (l.drop 5) 262144).2.2) := by
  unfold takeFrame; rw [if_neg h, if_neg h2, if_pos h3]
theorem takeFrame_sum {l : List UInt8} (h : ¬ l.length < 5) (h2 : ¬ l.getD 4 0 = 0) (h3 : ¬ (takeText (l.drop 5) 262144).2.2 ≠ 0)
    (h4 : little (sum ((l.take (5 + (takeText (l.drop 5) 262144).2.1)).drop 4)) ≠ l.take 4) : takeFrame l = ((0, []), 0, 3) := by
  unfold takeFrame; rw [if_neg h, if_neg h2, if_neg h3, if_pos h4]
theorem takeFrame_ok {l : List UInt8} (h : ¬ l.length < 5) (h2 : ¬ l.getD 4 0 = 0) (h3 : ¬ (takeText (l.drop 5) 262144).2.2 ≠ 0)
    (h4 : ¬ little (sum ((l.take (5 + (takeText (l.drop 5) 262144).2.1)).drop 4)) ≠ l.take 4) :
    takeFrame l = ((l.getD 4 0, (takeText (l.drop 5) 262144).1), 5 + (takeText (l.drop 5) 262144).2.1, 0) := by
  unfold takeFrame; rw [if_neg h, if_neg h2, if_neg h3, if_neg h4]
/-- a text that is taken lies in the bytes -/
theorem takeText_fits (l : List UInt8) (most : Nat) : (takeText l most).2.1 ≤ l.length := by
  unfold takeText
  obtain ⟨b1, b2, b3⟩ := takeUint_bound l
  split
  · simp
  · split
    · simp
    · split
      · simp
      · simp; omega
end Go.Proofs.Ytndekdgpibipnaa.Pl

namespace Go.Proofs.Ytndekdgpibipnaa.Pl

/-- a text as bytes that rise as it does: without the end -/
def esc : List UInt8 → List UInt8
  | [] => []
  | c :: l => if c = 0 then 0 :: 255 :: esc l else c :: esc l
def keyText (l : List UInt8) : List UInt8 := esc l ++ [0, 1]

theorem esc_length : ∀ l : List UInt8, (esc l).length ≤ 2 * l.length
  | [] => by simp [esc]
  | c :: l => by
    have := esc_length l
    unfold esc
    split <;> simp <;> omega

/-- what reading it answers: i bytes are read already, they made acc -/
def tkey (acc : List UInt8) (i : Nat) : List UInt8 → List UInt8 × Nat × Nat
  | [] => ([], 0, 2)
  | c :: l => if c ≠ 0 then tkey (acc ++ [c]) (i + 1) l else
    match l with
    | [] => ([], 0, 2)
    | d :: r => if d = 1 then (acc, i + 2, 0) else if d = 255 then tkey (acc ++ [0]) (i + 2) r else ([], 0, 3)
def takeKey (l : List UInt8) : List UInt8 × Nat × Nat := tkey [] 0 l

theorem tkey_end {acc l : List UInt8} {i k : Nat} (h : l.length ≤ k) : tkey acc i (l.drop k) = ([], 0, 2) := by rw [List.drop_eq_nil_of_le h]; simp [tkey]
section
variable {acc l : List UInt8} {i k : Nat} (hk : k < l.length)
include hk
theorem tkey_plain (h : l[k] ≠ 0) : tkey acc i (l.drop k) = tkey (acc ++ [l[k]]) (i + 1) (l.drop (k + 1)) := by
  rw [List.drop_eq_getElem_cons hk]; conv => lhs; unfold tkey
  rw [if_pos h]
theorem tkey_last (h : l[k] = 0) (h2 : k + 1 = l.length) : tkey acc i (l.drop k) = ([], 0, 2) := by
  rw [List.drop_eq_getElem_cons hk, List.drop_eq_nil_of_le (by omega)]; unfold tkey
  rw [if_neg (by simp [h])]
theorem tkey_done (h : l[k] = 0) (h2 : k + 1 < l.length) (h3 : l[k + 1] = 1) : tkey acc i (l.drop k) = (acc, i + 2, 0) := by
  rw [List.drop_eq_getElem_cons hk, List.drop_eq_getElem_cons h2]; unfold tkey
  rw [if_neg (by simp [h])]
  simp [h3]
theorem tkey_zero (h : l[k] = 0) (h2 : k + 1 < l.length) (h3 : l[k + 1] = 255) : tkey acc i (l.drop k) = tkey (acc ++ [0]) (i + 2) (l.drop (k + 2)) := by
  rw [List.drop_eq_getElem_cons hk, List.drop_eq_getElem_cons h2]; conv => lhs; unfold tkey
  rw [if_neg (by simp [h])]
  simp [h3]
theorem tkey_bad (h : l[k] = 0) (h2 : k + 1 < l.length) (h3 : l[k + 1] ≠ 1) (h4 : l[k + 1] ≠ 255) : tkey acc i (l.drop k) = ([], 0, 3) := by
  rw [List.drop_eq_getElem_cons hk, List.drop_eq_getElem_cons h2]; unfold tkey
  rw [if_neg (by simp [h])]
  simp [h3, h4]
end
theorem tkey_length : ∀ (l acc : List UInt8) (i : Nat), (tkey acc i l).1.length ≤ acc.length + l.length ∧ (tkey acc i l).2.1 ≤ i + l.length
  | [], _, _ => by simp [tkey]
  | [c], acc, i => by
    unfold tkey
    split
    · simp [tkey]
    · simp
  | c :: d :: r, acc, i => by
    unfold tkey
    split
    · have := tkey_length (d :: r) (acc ++ [c]) (i + 1)
      simp only [List.length_append, List.length_cons, List.length_nil] at this ⊢
      omega
    · dsimp only
      split
      · simp only [List.length_cons]; omega
      · split
        · have := tkey_length r (acc ++ [0]) (i + 2)
          simp only [List.length_append, List.length_cons, List.length_nil] at this ⊢
          omega
        · simp
end Go.Proofs.Ytndekdgpibipnaa.Pl

namespace Go.Proofs.Ytndekdgpibipnaa.Pl

/-- of the first n bytes of a text, how many are left when the greatest bytes at their end are struck -/
def strip (l : List UInt8) : Nat → Nat
  | 0 => 0
  | n + 1 => if l[n]? = some 255 then strip l n else n + 1

/-- the text behind a text -/
def behind (l : List UInt8) : List UInt8 :=
  let n := strip l l.length
  if n = 0 then [] else l.take (n - 1) ++ [(l[n - 1]?).getD 0 + 1]

theorem strip_le (l : List UInt8) : ∀ n, strip l n ≤ n
  | 0 => Nat.le_refl _
  | n + 1 => by
    unfold strip
    split
    · have := strip_le l n; omega
    · omega
theorem strip_eq {l : List UInt8} {n : Nat} (h : l[n]? = some 255) : strip l (n + 1) = strip l n := by simp [strip, h]
theorem strip_ne {l : List UInt8} {n : Nat} (h : l[n]? ≠ some 255) : strip l (n + 1) = n + 1 := by simp [strip, h]

theorem strip_last (l : List UInt8) : ∀ n, strip l n ≠ 0 → l[strip l n - 1]? ≠ some 255
  | 0, h => absurd rfl h
  | n + 1, h => by
    unfold strip at h ⊢
    split
    · rename_i h1
      rw [if_pos h1] at h
      exact strip_last l n h
    · rename_i h1
      simpa using h1
theorem strip_all (l : List UInt8) : ∀ n k, strip l n ≤ k → k < n → l[k]? = some 255
  | 0, k, _, h2 => absurd h2 (Nat.not_lt_zero _)
  | n + 1, k, h1, h2 => by
    unfold strip at h1
    split at h1
    · rename_i h
      by_cases e : k = n
      · rw [e]; exact h
      · exact strip_all l n k h1 (by omega)
    · omega
theorem behind_nil {l : List UInt8} (h : strip l l.length = 0) : behind l = [] := by simp [behind, h]
theorem behind_some {l : List UInt8} (h : strip l l.length ≠ 0) : behind l = l.take (strip l l.length - 1) ++ [(l[strip l l.length - 1]?).getD 0 + 1] := by simp [behind, h]
theorem behind_ne {l : List UInt8} (h : strip l l.length ≠ 0) : behind l ≠ [] := by rw [behind_some h]; simp

/-- is there a byte that is not the greatest one? -/
def low : List UInt8 → Bool
  | [] => false
  | c :: l => if c = 255 then low l else true
theorem low_end {l : List UInt8} {k : Nat} (h : l.length ≤ k) : low (l.drop k) = false := by rw [List.drop_eq_nil_of_le h]; rfl
theorem low_yes {l : List UInt8} {k : Nat} (hk : k < l.length) (h : l[k] ≠ 255) : low (l.drop k) = true := by
  rw [List.drop_eq_getElem_cons hk]; simp [low, h]
theorem low_no {l : List UInt8} {k : Nat} (hk : k < l.length) (h : l[k] = 255) : low (l.drop k) = low (l.drop (k + 1)) := by
  rw [List.drop_eq_getElem_cons hk]; simp [low, h]
theorem strip_zero_low (l : List UInt8) (h : strip l l.length = 0) : low l = false := by
  have H : ∀ k, k ≤ l.length → low (l.drop (l.length - k)) = false := by
    intro k
    induction k with
    | zero => intro _; exact low_end (by omega)
    | succ k ih =>
      intro hk
      have hlt : l.length - (k + 1) < l.length := by omega
      have h1 := strip_all l l.length (l.length - (k + 1)) (by omega) hlt
      rw [List.getElem?_eq_getElem hlt] at h1
      rw [low_no hlt (by simpa using h1), show l.length - (k + 1) + 1 = l.length - k from by omega]
      exact ih (by omega)
  simpa using H l.length (Nat.le_refl _)
theorem low_zero_strip (l : List UInt8) (h : low l = false) : strip l l.length = 0 := by
  have H : ∀ n, n ≤ l.length → strip l n = 0 := by
    intro n
    induction n with
    | zero => intro _; rfl
    | succ n ih =>
      intro hn
      have hlt : n < l.length := by omega
      have hall : ∀ k, k ≤ l.length → low (l.drop k) = false := by
        intro k
        induction k with
        | zero => intro _; simpa using h
        | succ k ihk =>
          intro hk
          have hkl : k < l.length := by omega
          by_cases e : l[k] = 255
          · rw [← low_no hkl e]; exact ihk (by omega)
          · have := low_yes hkl e; rw [ihk (by omega)] at this; cases this
      by_cases e : l[n] = 255
      · rw [strip_eq (by rw [List.getElem?_eq_getElem hlt, e])]; exact ih (by omega)
      · have := low_yes hlt e; rw [hall n (by omega)] at this; cases this
  exact H _ (Nat.le_refl _)
end Go.Proofs.Ytndekdgpibipnaa.Pl

namespace Go.Proofs.Ytndekdgpibipnaa.Pl
open Go.Op (bytesLess)

theorem lt_append (p x y : List UInt8) : bytesLess (p ++ x) (p ++ y) = bytesLess x y := by
  induction p with
  | nil => rfl
  | cons a p ih => simp [bytesLess, ih]
theorem lt_nil (x : List UInt8) : bytesLess x [] = false := by cases x <;> rfl
theorem lt_cons (p : List UInt8) {a b : UInt8} (x y : List UInt8) (h : a ≠ b) : bytesLess (p ++ a :: x) (p ++ b :: y) = decide (a < b) := by
  rw [lt_append]; simp [bytesLess, h]
theorem lt_irrefl (x : List UInt8) : bytesLess x x = false := by
  induction x with
  | nil => rfl
  | cons a x ih => simp [bytesLess, ih]
theorem lt_trans : ∀ {x y z : List UInt8}, bytesLess x y = true → bytesLess y z = true → bytesLess x z = true
  | [], [], _, h, _ => by simp [bytesLess] at h
  | [], _ :: _, [], _, h => by simp [bytesLess] at h
  | [], _ :: _, _ :: _, _, _ => rfl
  | _ :: _, [], _, h, _ => by simp [bytesLess] at h
  | _ :: _, _ :: _, [], _, h => by simp [bytesLess] at h
  | a :: x, b :: y, c :: z, h1, h2 => by
    simp only [bytesLess, Bool.or_eq_true, decide_eq_true_eq, Bool.and_eq_true, beq_iff_eq] at h1 h2 ⊢
    rcases h1 with h1 | ⟨rfl, h1⟩
    · rcases h2 with h2 | ⟨rfl, _⟩
      · left; rw [UInt8.lt_iff_toNat_lt] at *; omega
      · left; exact h1
    · rcases h2 with h2 | ⟨rfl, h2⟩
      · left; exact h2
      · right; exact ⟨rfl, lt_trans h1 h2⟩
theorem lt_total : ∀ {x y : List UInt8}, bytesLess x y = false → x ≠ y → bytesLess y x = true
  | [], [], _, h => absurd rfl h
  | [], _ :: _, h, _ => by simp [bytesLess] at h
  | _ :: _, [], _, _ => rfl
  | a :: x, b :: y, h1, h2 => by
    simp only [bytesLess, Bool.or_eq_false_iff, decide_eq_false_iff_not, Bool.and_eq_false_iff, Bool.or_eq_true, decide_eq_true_eq, Bool.and_eq_true, beq_iff_eq] at h1 ⊢
    by_cases e : a = b
    · subst e
      right
      refine ⟨rfl, lt_total ?_ (by intro e; exact h2 (by rw [e]))⟩
      rcases h1.2 with h | h
      · simp at h
      · exact h
    · left
      have h := h1.1
      have he : a.toNat ≠ b.toNat := fun e' => e (UInt8.toNat_inj.1 e')
      rw [UInt8.lt_iff_toNat_lt] at *
      omega
theorem lt_asymm {x y : List UInt8} (h : bytesLess x y = true) : bytesLess y x = false := by
  cases hh : bytesLess y x with
  | false => rfl
  | true => have := lt_trans h hh; rw [lt_irrefl] at this; cases this

/-- where two texts part -/
theorem common_split : ∀ (s t : List UInt8), s.take (common s t) = t.take (common s t) ∧ (common s t = s.length ∨ common s t = t.length ∨ ∃ a b x y, a ≠ b ∧ s = s.take (common s t) ++ a :: x ∧ t = s.take (common s t) ++ b :: y ∧ s[common s t]? = some a)
  | [], _ => by simp [common]
  | _ :: _, [] => by simp [common]
  | a :: s, b :: t => by
    unfold common
    by_cases e : a = b
    · subst e
      obtain ⟨h1, h2⟩ := common_split s t
      rw [if_pos rfl]
      refine ⟨by simp [h1], ?_⟩
      rcases h2 with h2 | h2 | ⟨c, d, x, y, hne, hs, ht, hg⟩
      · left; simp [h2]
      · right; left; simp [h2]
      · right; right
        refine ⟨c, d, x, y, hne, ?_, ?_, by simpa using hg⟩
        · simp only [List.take_succ_cons, List.cons_append]; rw [← hs]
        · simp only [List.take_succ_cons, List.cons_append]; rw [← ht]
    · rw [if_neg e]
      exact ⟨by simp, .inr (.inr ⟨a, b, s, t, e, by simp, by simp, by simp⟩)⟩

theorem common_self (s : List UInt8) : common s s = s.length := by
  induction s with
  | nil => rfl
  | cons a s ih => simp [common, ih]

theorem split_at {s : List UInt8} {m : Nat} (h : m < s.length) : s = s.take m ++ s[m] :: s.drop (m + 1) := by
  rw [← List.drop_eq_getElem_cons h, List.take_append_drop]

theorem u8_succ {c : UInt8} (h : c ≠ 255) : (c + 1).toNat = c.toNat + 1 := by
  have h1 : c.toNat ≠ 255 := fun e => h (UInt8.toNat_inj.1 e)
  have h2 := c.toNat_lt
  rw [UInt8.toNat_add]
  show (c.toNat + 1) % 256 = _
  omega

section
variable {s t : List UInt8} (h0 : strip s s.length ≠ 0)
include h0

theorem behind_form : ∃ (m : Nat) (hm : m < s.length), s[m] ≠ 255 ∧ behind s = s.take m ++ [s[m] + 1] ∧ ∀ k, m < k → k < s.length → s[k]? = some 255 := by
  have hle := strip_le s s.length
  have hm : strip s s.length - 1 < s.length := by omega
  refine ⟨strip s s.length - 1, hm, ?_, ?_, ?_⟩
  · intro e
    apply strip_last s s.length h0
    rw [List.getElem?_eq_getElem hm, e]
  · rw [behind_some h0, List.getElem?_eq_getElem hm]; rfl
  · intro k h1 h2
    exact strip_all s s.length k (by omega) h2

theorem begins_below (h : common s t = s.length) : bytesLess t (behind s) = true := by
  obtain ⟨m, hm, hne, hb, _⟩ := behind_form h0
  have hp := (common_split s t).1
  rw [h, List.take_length] at hp
  have ht : t = s.take m ++ s[m] :: (s.drop (m + 1) ++ t.drop s.length) := by
    rw [← List.cons_append, ← List.append_assoc, ← split_at hm]
    have h3 := List.take_append_drop s.length t
    rw [← hp] at h3
    exact h3.symm
  have hs1 := u8_succ hne
  rw [ht, hb, lt_cons _ _ _ (by intro e; have := congrArg UInt8.toNat e; omega)]
  simp only [decide_eq_true_eq, UInt8.lt_iff_toNat_lt]
  omega

theorem above_not_below (h : common s t ≠ s.length) (h1 : bytesLess t s = false) (h2 : t ≠ s) : bytesLess t (behind s) = false := by
  obtain ⟨m, hm, hne, hb, hall⟩ := behind_form h0
  have hlt := lt_total h1 h2
  obtain ⟨hp, hc⟩ := common_split s t
  have hkl := common_le_left s t
  rcases hc with hc | hc | ⟨a, b, x, y, hab, hs, ht, hg⟩
  · exact absurd hc h
  · exfalso
    rw [hc, List.take_length] at hp
    have hs : s = t ++ s.drop t.length := by conv => lhs; rw [← List.take_append_drop t.length s, hp]
    have hl2 := lt_append t (s.drop t.length) []
    rw [List.append_nil, ← hs, hlt, lt_nil] at hl2
    cases hl2
  · have hab' : a < b := by
      have h3 : bytesLess (s.take (common s t) ++ a :: x) (s.take (common s t) ++ b :: y) = true := by rw [← hs, ← ht]; exact hlt
      rw [lt_cons _ _ _ hab] at h3
      simpa using h3
    rw [UInt8.lt_iff_toNat_lt] at hab'
    have hb255 := b.toNat_lt
    have hk : common s t < s.length := by omega
    have hkm : common s t ≤ m := by
      rcases Nat.lt_or_ge m (common s t) with hlt' | hge
      · have := hall _ hlt' hk
        rw [hg] at this
        have : a = 255 := by simpa using this
        rw [this] at hab'
        have : (255 : UInt8).toNat = 255 := rfl
        omega
      · exact hge
    clear h1 hlt hp
    generalize common s t = k at *
    have hga : s[k] = a := by rw [List.getElem?_eq_getElem hk] at hg; simpa using hg
    have hlk : (s.take k).length = k := by rw [List.length_take]; omega
    rcases Nat.lt_or_ge k m with hkm' | hkm'
    · have hb' : behind s = s.take k ++ a :: ((s.drop (k + 1)).take (m - (k + 1)) ++ [s[m] + 1]) := by
        rw [hb, ← hga, ← List.cons_append, ← List.append_assoc]
        congr 1
        obtain ⟨d, rfl⟩ : ∃ d, m = k + (d + 1) := ⟨m - k - 1, by omega⟩
        rw [List.take_add, List.drop_eq_getElem_cons hk, show k + (d + 1) - (k + 1) = d from by omega]
        rfl
      rw [ht, hb', lt_cons _ _ _ (fun e => hab e.symm)]
      simp only [decide_eq_false_iff_not, UInt8.lt_iff_toNat_lt]
      omega
    · obtain rfl : k = m := by omega
      rw [ht, hb, lt_append]
      have hs1 := u8_succ hne
      rw [hga] at hs1 ⊢
      by_cases e : b = a + 1
      · subst e; simp [bytesLess, lt_nil]
      · have he : b.toNat ≠ (a + 1).toNat := fun e' => e (UInt8.toNat_inj.1 e')
        simp only [bytesLess, Bool.or_eq_false_iff, decide_eq_false_iff_not, UInt8.lt_iff_toNat_lt, Bool.and_eq_false_iff]
        exact ⟨by omega, .inl (by simpa using e)⟩

theorem below_below (h : bytesLess t s = true) : bytesLess t (behind s) = true := lt_trans h (begins_below h0 (common_self s))
end
end Go.Proofs.Ytndekdgpibipnaa.Pl

namespace Go.Proofs.Ytndekdgpibipnaa.Pl
open Go.Op (bytesLess)

theorem takeFrom_put (r : List UInt8) : ∀ (n acc i : Nat), n * 128 ^ i < 18446744073709551616 → (0 < i → 0 < n) → i ≤ 9 →
    takeFrom acc i (putUint n ++ r) = (acc + n * 128 ^ i, i + (putUint n).length, 0) := by
  intro n
  induction n using Nat.strongRecOn with
  | ind n ih =>
    intro acc i hb hp hi
    by_cases h : n < 128
    · rw [putUint_last h]
      have hn : (UInt8.ofNat n).toNat = n := by rw [UInt8.toNat_ofNat']; omega
      have h1 : ¬ ((i = 9 ∧ 1 < (UInt8.ofNat n).toNat) ∨ (0 < i ∧ UInt8.ofNat n = 0)) := by
        rw [hn]
        rintro (⟨rfl, h9⟩ | ⟨h0, hz⟩)
        · have : 2 * 128 ^ 9 ≤ n * 128 ^ 9 := Nat.mul_le_mul_right _ h9
          omega
        · have := hp h0
          have hz' := congrArg UInt8.toNat hz
          rw [hn] at hz'
          have : (0 : UInt8).toNat = 0 := rfl
          omega
      simp only [List.singleton_append, takeFrom]
      rw [if_neg h1, if_pos (by rw [hn]; exact h), hn]
      simp
    · rw [putUint_more h]
      have hn : (UInt8.ofNat (n % 128 + 128)).toNat = n % 128 + 128 := by rw [UInt8.toNat_ofNat']; omega
      have hi9 : i < 9 := by
        rcases Nat.lt_or_ge i 9 with h9 | h9
        · exact h9
        · obtain rfl : i = 9 := by omega
          have : 128 * 128 ^ 9 ≤ n * 128 ^ 9 := Nat.mul_le_mul_right _ (by omega)
          omega
      have h1 : ¬ ((i = 9 ∧ 1 < (UInt8.ofNat (n % 128 + 128)).toNat) ∨ (0 < i ∧ UInt8.ofNat (n % 128 + 128) = 0)) := by
        rintro (⟨h9, _⟩ | ⟨_, hz⟩)
        · omega
        · have hz' := congrArg UInt8.toNat hz
          rw [hn] at hz'
          have : (0 : UInt8).toNat = 0 := rfl
          omega
      simp only [List.cons_append, takeFrom]
      rw [if_neg h1, if_neg (by rw [hn]; omega), hn]
      have e : n % 128 * 128 ^ i + n / 128 * 128 ^ (i + 1) = n * 128 ^ i := by
        rw [Nat.pow_succ, Nat.mul_comm (128 ^ i) 128, ← Nat.mul_assoc, ← Nat.add_mul]
        congr 1; omega
      have hd : n / 128 * 128 ^ (i + 1) < 18446744073709551616 := by omega
      rw [ih (n / 128) (by omega) _ (i + 1) hd (fun _ => by omega) (by omega)]
      have e2 : (n % 128 + 128) % 128 = n % 128 := by omega
      rw [e2]
      refine Prod.ext ?_ (Prod.ext ?_ rfl)
      · show acc + n % 128 * 128 ^ i + n / 128 * 128 ^ (i + 1) = acc + n * 128 ^ i
        omega
      · simp; omega

theorem take_put (n : Nat) (r : List UInt8) (h : n ≤ 18446744073709551615) : takeUint (putUint n ++ r) = (n, (putUint n).length, 0) := by
  unfold takeUint
  rw [takeFrom_put r n 0 0 (by omega) (by omega) (by omega)]
  simp

theorem zag_zig (m : Int) : zag (zig m) = m := by
  unfold zag zig
  split
  · split <;> omega
  · split <;> omega

theorem text_back (l r : List UInt8) (h : l.length ≤ 18446744073709551615) : takeText (putText l ++ r) l.length = (l, (putText l).length, 0) := by
  unfold takeText putText
  rw [List.append_assoc, take_put _ _ h]
  simp only [ne_eq, not_true_eq_false, ↓reduceIte, Nat.lt_irrefl, List.length_append]
  rw [if_neg (by omega)]
  simp

theorem big_length (n : Nat) : (big n).length = 8 := rfl
theorem word_big (n : Nat) (h : n ≤ 18446744073709551615) : word (big n) = n := by
  simp only [word, big, List.foldl_cons, List.foldl_nil, UInt8.toNat_ofNat']
  omega
theorem down_up (m : Int) (h0 : -9223372036854775808 ≤ m) : down (up m) = m := by unfold down up; omega

theorem tkey_cons {acc l : List UInt8} {i : Nat} {c : UInt8} (h : c ≠ 0) : tkey acc i (c :: l) = tkey (acc ++ [c]) (i + 1) l := by
  conv => lhs; unfold tkey
  rw [if_pos h]
theorem esc_back (r : List UInt8) : ∀ (l acc : List UInt8) (i : Nat), tkey acc i (esc l ++ 0 :: 1 :: r) = (acc ++ l, i + (esc l).length + 2, 0)
  | [], acc, i => by simp [esc, tkey]
  | c :: l, acc, i => by
    unfold esc
    by_cases hc : c = 0
    · rw [if_pos hc]
      subst hc
      have := esc_back r l (acc ++ [0]) (i + 2)
      simp only [List.cons_append, tkey, ne_eq, not_true_eq_false, ↓reduceIte]
      rw [if_neg (by decide), this]
      simp; omega
    · rw [if_neg hc]
      have := esc_back r l (acc ++ [c]) (i + 1)
      rw [List.cons_append, tkey_cons hc, this]
      simp; omega
theorem key_back (l r : List UInt8) : takeKey (keyText l ++ r) = (l, (keyText l).length, 0) := by
  unfold takeKey keyText
  rw [List.append_assoc]
  have := esc_back r l [] 0
  simp only [List.cons_append, List.nil_append] at this ⊢
  rw [this]
  simp

/-- a word as bytes rises -/
theorem word_cons (c : UInt8) (l : List UInt8) : word (c :: l) = c.toNat * 256 ^ l.length + word l := by
  have h : ∀ (l : List UInt8) (n : Nat), l.foldl (fun n b => n * 256 + b.toNat) n = n * 256 ^ l.length + l.foldl (fun n b => n * 256 + b.toNat) 0 := by
    intro l
    induction l with
    | nil => intro n; simp
    | cons b l ih =>
      intro n
      simp only [List.foldl_cons, List.length_cons]
      rw [ih (n * 256 + b.toNat), ih (0 * 256 + b.toNat), Nat.pow_succ, Nat.add_mul, Nat.mul_assoc, Nat.mul_comm 256]
      simp [Nat.add_assoc]
  unfold word
  rw [List.foldl_cons, h]
  simp
theorem less_word (x y : List UInt8) : ∀ (a b : List UInt8), a.length = b.length → word a ≠ word b → bytesLess (a ++ x) (b ++ y) = decide (word a < word b)
  | [], [], _, h => absurd rfl h
  | [], _ :: _, h, _ => by simp at h
  | _ :: _, [], h, _ => by simp at h
  | c :: a, d :: b, hl, hne => by
    have hl' : a.length = b.length := by simpa using hl
    rw [word_cons, word_cons, hl'] at hne ⊢
    by_cases e : c = d
    · subst e
      have := less_word x y a b hl' (fun e => hne (by rw [e]))
      simp only [List.cons_append, bytesLess, this]
      simp
    · have h1 := lt_cons [] (a ++ x) (b ++ y) e
      simp only [List.nil_append] at h1
      simp only [List.cons_append]
      rw [h1]
      have wa := word_lt b.length a (by omega)
      have wb := word_lt b.length b (Nat.le_refl _)
      have hn : c.toNat ≠ d.toNat := fun e' => e (UInt8.toNat_inj.1 e')
      rw [Bool.eq_iff_iff]
      simp only [decide_eq_true_eq, UInt8.lt_iff_toNat_lt]
      generalize 256 ^ b.length = P at *
      constructor
      · intro h
        have := Nat.mul_le_mul_right P (show c.toNat + 1 ≤ d.toNat from h)
        rw [Nat.add_mul] at this
        omega
      · intro h
        rcases Nat.lt_or_ge c.toNat d.toNat with h2 | h2
        · exact h2
        · have := Nat.mul_le_mul_right P (show d.toNat + 1 ≤ c.toNat by omega)
          rw [Nat.add_mul] at this
          omega
theorem big_less (m n : Nat) (x y : List UInt8) (hm : m ≤ 18446744073709551615) (hn : n ≤ 18446744073709551615) (hne : m ≠ n) : bytesLess (big m ++ x) (big n ++ y) = decide (m < n) := by
  have h := less_word x y (big m) (big n) rfl (by rw [word_big m hm, word_big n hn]; exact hne)
  rwa [word_big m hm, word_big n hn] at h

/-- a text as a key rises, whatever stands behind it; where two of them part -/
theorem esc_less (x y : List UInt8) : ∀ (s t : List UInt8), s ≠ t → bytesLess (esc s ++ 0 :: 1 :: x) (esc t ++ 0 :: 1 :: y) = bytesLess s t ∧
    common (esc s ++ [0, 1]) (esc t ++ [0, 1]) < (esc s ++ [0, 1]).length ∧ common (esc s ++ [0, 1]) (esc t ++ [0, 1]) < (esc t ++ [0, 1]).length
  | [], [], h => absurd rfl h
  | [], d :: t, _ => by
    by_cases e : d = 0
    · subst e; simp [esc, bytesLess, common]
    · have h0 : (0 : UInt8) < d := by
        rw [UInt8.lt_iff_toNat_lt]
        have : d.toNat ≠ 0 := fun e' => e (UInt8.toNat_inj.1 e')
        have h00 : (0 : UInt8).toNat = 0 := rfl
        omega
      have e' : ¬ (0 : UInt8) = d := fun h => e h.symm
      simp [esc, e, e', bytesLess, common, h0]
  | c :: s, [], _ => by
    by_cases e : c = 0
    · subst e; simp [esc, bytesLess, common]
    · have h0 : ¬ c < (0 : UInt8) := by
        rw [UInt8.lt_iff_toNat_lt]
        have h00 : (0 : UInt8).toNat = 0 := rfl
        omega
      simp [esc, e, bytesLess, common, h0]
  | c :: s, d :: t, h => by
    by_cases e : c = d
    · subst e
      have ih := esc_less x y s t (fun e => h (by rw [e]))
      by_cases hz : c = 0
      · subst hz; simpa [esc, bytesLess, common] using ih
      · simpa [esc, hz, bytesLess, common] using ih
    · by_cases hz : c = 0
      · subst hz
        have hd : d ≠ 0 := fun h => e h.symm
        have h0 : (0 : UInt8) < d := by
          rw [UInt8.lt_iff_toNat_lt]
          have : d.toNat ≠ 0 := fun e' => hd (UInt8.toNat_inj.1 e')
          have h00 : (0 : UInt8).toNat = 0 := rfl
          omega
        have e' : ¬ (0 : UInt8) = d := e
        simp [esc, hd, e', bytesLess, common, h0]
      · by_cases hd : d = 0
        · subst hd
          have h0 : ¬ c < (0 : UInt8) := by
            rw [UInt8.lt_iff_toNat_lt]
            have h00 : (0 : UInt8).toNat = 0 := rfl
            omega
          have eb : (c == (0 : UInt8)) = false := by simpa using e
          simp [esc, hz, bytesLess, common, h0, eb]
        · have eb : (c == d) = false := by simpa using e
          simp [esc, hz, hd, e, bytesLess, common, eb]
end Go.Proofs.Ytndekdgpibipnaa.Pl

namespace Go.Proofs.Ytndekdgpibipnaa.Pl

theorem takeFrom_cut : ∀ (n acc i j : Nat), n * 128 ^ i < 18446744073709551616 → (0 < i → 0 < n) → i ≤ 9 → j < (putUint n).length → takeFrom acc i ((putUint n).take j) = (0, 0, 2) := by
  intro n
  induction n using Nat.strongRecOn with
  | ind n ih =>
    intro acc i j hb hp hi hj
    cases j with
    | zero => rfl
    | succ j =>
      by_cases h : n < 128
      · rw [putUint_last h] at hj
        simp at hj
      · rw [putUint_more h] at hj ⊢
        have hn : (UInt8.ofNat (n % 128 + 128)).toNat = n % 128 + 128 := by rw [UInt8.toNat_ofNat']; omega
        have hi9 : i < 9 := by
          rcases Nat.lt_or_ge i 9 with h9 | h9
          · exact h9
          · obtain rfl : i = 9 := by omega
            have : 128 * 128 ^ 9 ≤ n * 128 ^ 9 := Nat.mul_le_mul_right _ (by omega)
            omega
        have h1 : ¬ ((i = 9 ∧ 1 < (UInt8.ofNat (n % 128 + 128)).toNat) ∨ (0 < i ∧ UInt8.ofNat (n % 128 + 128) = 0)) := by
          rintro (⟨h9, _⟩ | ⟨_, hz⟩)
          · omega
          · have hz' := congrArg UInt8.toNat hz
            rw [hn] at hz'
            have : (0 : UInt8).toNat = 0 := rfl
            omega
        simp only [List.take_succ_cons, takeFrom]
        rw [if_neg h1, if_neg (by rw [hn]; omega)]
        have e : n % 128 * 128 ^ i + n / 128 * 128 ^ (i + 1) = n * 128 ^ i := by
          rw [Nat.pow_succ, Nat.mul_comm (128 ^ i) 128, ← Nat.mul_assoc, ← Nat.add_mul]
          congr 1; omega
        exact ih (n / 128) (by omega) _ (i + 1) j (by omega) (fun _ => by omega) (by omega) (by simpa using hj)

theorem takeUint_cut {n j : Nat} (hn : n ≤ 18446744073709551615) (h : j < (putUint n).length) : takeUint ((putUint n).take j) = (0, 0, 2) :=
  takeFrom_cut n 0 0 j (by omega) (by omega) (by omega) h

theorem text_back' (l r : List UInt8) (most : Nat) (h : l.length ≤ most) (hm : l.length ≤ 18446744073709551615) : takeText (putText l ++ r) most = (l, (putText l).length, 0) := by
  unfold takeText putText
  rw [List.append_assoc, take_put _ _ hm]
  simp only [ne_eq, not_true_eq_false, ↓reduceIte, List.length_append]
  rw [if_neg (by omega), if_neg (by omega)]
  simp

theorem text_cut (l : List UInt8) (most j : Nat) (h : l.length ≤ most) (hm : l.length ≤ 18446744073709551615) (hj : j < (putText l).length) : takeText ((putText l).take j) most = ([], 0, 2) := by
  by_cases hc : j < (putUint l.length).length
  · unfold takeText putText
    rw [List.take_append_of_le_length (by omega), takeUint_cut hm hc]
    simp
  · have e : (putText l).take j = putUint l.length ++ l.take (j - (putUint l.length).length) := by
      unfold putText
      rw [List.take_append, List.take_of_length_le (by omega)]
    have hl : (putText l).length = (putUint l.length).length + l.length := by simp [putText]
    unfold takeText
    rw [e, take_put _ _ hm]
    simp only [ne_eq, not_true_eq_false, ↓reduceIte, List.length_append, List.length_take]
    rw [if_neg (by omega), if_pos (by omega)]

theorem little_length (n : Nat) : (little n).length = 4 := rfl

/-- a frame whose sum is another one's, or its own -/
theorem takeFrame_form (s : List UInt8) (k : UInt8) (l r : List UInt8) (hs : s.length = 4) (hk : k ≠ 0) (hl : l.length ≤ 262144) :
    takeFrame (s ++ k :: (putText l ++ r)) = if little (sum (k :: putText l)) = s then ((k, l), 5 + (putText l).length, 0) else ((0, []), 0, 3) := by
  have e1 : (s ++ k :: (putText l ++ r)).drop 5 = putText l ++ r := by
    rw [List.drop_append, List.drop_of_length_le (by omega), hs]; rfl
  have e2 : (s ++ k :: (putText l ++ r)).getD 4 0 = k := by
    rw [List.getD, List.getElem?_append_right (by omega), hs]; rfl
  have e3 : (s ++ k :: (putText l ++ r)).take 4 = s := by rw [List.take_append, List.take_of_length_le (by omega), hs]; simp
  have e4 : ((s ++ k :: (putText l ++ r)).take (5 + (putText l).length)).drop 4 = k :: putText l := by
    rw [List.drop_take, List.drop_append, List.drop_of_length_le (by omega), hs]
    rw [show 5 + (putText l).length - 4 = (putText l).length + 1 from by omega]
    simp
  have e5 : ¬ (s ++ k :: (putText l ++ r)).length < 5 := by simp; omega
  have ht := text_back' l r 262144 hl (by omega)
  unfold takeFrame
  rw [if_neg e5, e2, if_neg hk, e1, ht]
  simp only [ne_eq, not_true_eq_false, ↓reduceIte]
  rw [e3, e4]
  by_cases h : little (sum (k :: putText l)) = s
  · rw [if_neg (by simp [h]), if_pos h]
  · rw [if_pos (by simp [h]), if_neg h]

theorem takeFrame_text (s : List UInt8) (k : UInt8) (t : List UInt8) (hs : s.length = 4) (hk : k ≠ 0) (ht : (takeText t 262144).2.2 ≠ 0) : takeFrame (s ++ k :: t) = ((0, []), 0, (takeText t 262144).2.2) := by
  have e1 : (s ++ k :: t).drop 5 = t := by rw [List.drop_append, List.drop_of_length_le (by omega), hs]; rfl
  have e2 : (s ++ k :: t).getD 4 0 = k := by rw [List.getD, List.getElem?_append_right (by omega), hs]; rfl
  have e5 : ¬ (s ++ k :: t).length < 5 := by simp; omega
  rw [takeFrame_bad e5 (by rw [e2]; exact hk) (by rw [e1]; exact ht), e1]

theorem frame_length (k : UInt8) (l : List UInt8) : (frame k l).length = 5 + (putText l).length := by simp [frame, little_length]; omega
theorem takeFrame_back (k : UInt8) (l r : List UInt8) (hk : k ≠ 0) (hl : l.length ≤ 262144) : takeFrame (frame k l ++ r) = ((k, l), (frame k l).length, 0) := by
  have h := takeFrame_form (little (sum (k :: putText l))) k l r rfl hk hl
  rw [if_pos rfl] at h
  rw [frame_length, frame, List.append_assoc, List.cons_append, h]

theorem takeFrame_cut (k : UInt8) (l : List UInt8) (j : Nat) (hk : k ≠ 0) (hl : l.length ≤ 262144) (hj : j < (frame k l).length) : takeFrame ((frame k l).take j) = ((0, []), 0, 2) := by
  by_cases h5 : j < 5
  · exact takeFrame_short (by rw [List.length_take]; omega)
  · rw [frame_length] at hj
    have e : (frame k l).take j = little (sum (k :: putText l)) ++ k :: (putText l).take (j - 5) := by
      unfold frame
      rw [List.take_append, List.take_of_length_le (by rw [little_length]; omega), little_length, show j - 4 = (j - 5) + 1 from by omega, List.take_succ_cons]
    have ht := text_cut l 262144 (j - 5) hl (by omega) (by omega)
    rw [e, takeFrame_text _ k _ rfl hk (by rw [ht]; decide), ht]

/-! a bit that is turned -/
theorem crc1_inj {n m : Nat} (hn : n < 4294967296) (hm : m < 4294967296) (h : crc1 n = crc1 m) : n = m := by
  have hx : ∀ a b : Nat, a < 2147483648 → b < 2147483648 → a ^^^ 3988292384 ≠ b := by
    intro a b ha hb e
    have e2 : a ^^^ b = 3988292384 := by rw [← e, ← Nat.xor_assoc, Nat.xor_self, Nat.zero_xor]
    have h3 : a ^^^ b < 2 ^ 31 := Nat.xor_lt_two_pow (by omega) (by omega)
    omega
  unfold crc1 at h
  by_cases h1 : n % 2 = 1 <;> by_cases h2 : m % 2 = 1
  · rw [if_pos h1, if_pos h2] at h
    have h3 : n / 2 = m / 2 := by
      have := congrArg (· ^^^ 3988292384) h
      simpa [Nat.xor_assoc] using this
    omega
  · rw [if_pos h1, if_neg h2] at h
    exact absurd h (hx _ _ (by omega) (by omega))
  · rw [if_neg h1, if_pos h2] at h
    exact absurd h.symm (hx _ _ (by omega) (by omega))
  · rw [if_neg h1, if_neg h2] at h
    omega
theorem crcs_inj : ∀ (k : Nat) {n m : Nat}, n < 4294967296 → m < 4294967296 → crcs k n = crcs k m → n = m
  | 0, _, _, _, _, h => h
  | k + 1, _, _, hn, hm, h => crc1_inj hn hm (crcs_inj k (crc1_lt hn) (crc1_lt hm) h)
theorem xor_cancel {a b c : Nat} (h : a ^^^ b = a ^^^ c) : b = c := by
  have := congrArg (a ^^^ ·) h
  simpa [← Nat.xor_assoc] using this
theorem crcB_inj {n m : Nat} (b : UInt8) (hn : n < 4294967296) (hm : m < 4294967296) (h : crcB n b = crcB m b) : n = m := by
  have h1 := crcs_inj 8 (xor_byte_lt b hn) (xor_byte_lt b hm) h
  rw [Nat.xor_comm n, Nat.xor_comm m] at h1
  exact xor_cancel h1
theorem crcB_inj' {n : Nat} (b c : UInt8) (hn : n < 4294967296) (h : crcB n b = crcB n c) : b = c :=
  UInt8.toNat_inj.mp (xor_cancel (crcs_inj 8 (xor_byte_lt b hn) (xor_byte_lt c hn) h))
theorem crcL_inj : ∀ (l : List UInt8) {n m : Nat}, n < 4294967296 → m < 4294967296 → crcL n l = crcL m l → n = m
  | [], _, _, _, _, h => h
  | b :: l, _, _, hn, hm, h => crcB_inj b hn hm (crcL_inj l (crcB_lt b hn) (crcB_lt b hm) h)
theorem crcL_append (n : Nat) (l r : List UInt8) : crcL n (l ++ r) = crcL (crcL n l) r := by simp [crcL]
theorem crc_part (a r : List UInt8) (b c : UInt8) (h : sum (a ++ b :: r) = sum (a ++ c :: r)) : b = c := by
  unfold sum at h
  have h1 := crcL_lt (a ++ b :: r) (n := 4294967295) (by omega)
  have h2 := crcL_lt (a ++ c :: r) (n := 4294967295) (by omega)
  have h3 : crcL 4294967295 (a ++ b :: r) = crcL 4294967295 (a ++ c :: r) := by omega
  have h0 := crcL_lt a (n := 4294967295) (by omega)
  rw [crcL_append, crcL_append] at h3
  exact crcB_inj' b c h0 (crcL_inj r (crcB_lt b h0) (crcB_lt c h0) h3)
theorem little_inj {n m : Nat} (hn : n ≤ 4294967295) (hm : m ≤ 4294967295) (h : little n = little m) : n = m := by
  simp only [little, List.cons.injEq, and_true] at h
  obtain ⟨a, b, c, d⟩ := h
  have a := congrArg UInt8.toNat a
  have b := congrArg UInt8.toNat b
  have c := congrArg UInt8.toNat c
  have d := congrArg UInt8.toNat d
  rw [UInt8.toNat_ofNat', UInt8.toNat_ofNat'] at a b c d
  omega
theorem split_set (l : List UInt8) (p : Nat) (c : UInt8) (hp : p < l.length) : l = l.take p ++ l[p] :: l.drop (p + 1) ∧ l.set p c = l.take p ++ c :: l.drop (p + 1) := by
  refine ⟨?_, ?_⟩
  · rw [List.getElem_cons_drop, List.take_append_drop]
  · rw [List.set_eq_take_append_cons_drop, if_pos hp]
theorem sum_set (l : List UInt8) (p : Nat) (c : UInt8) (hp : p < l.length) (hc : c ≠ l[p]) : sum (l.set p c) ≠ sum l := by
  obtain ⟨e1, e2⟩ := split_set l p c hp
  intro h
  rw [e2] at h
  have h2 : sum (l.take p ++ c :: l.drop (p + 1)) = sum (l.take p ++ l[p] :: l.drop (p + 1)) := h.trans (congrArg sum e1)
  exact hc (crc_part _ _ _ _ h2)

/-- a frame of which one byte is another one, in its sum, its kind or its load, is refused -/
theorem takeFrame_turned (k : UInt8) (l : List UInt8) (p : Nat) (c : UInt8) (hk : k ≠ 0) (hl : l.length ≤ 262144) (hp : p < (frame k l).length) (hw : p ≤ 4 ∨ (frame k l).length - l.length ≤ p) (hc : c ≠ (frame k l)[p]) :
    (takeFrame ((frame k l).set p c)).2.2 = 3 := by
  have hlen := frame_length k l
  have hpt : (putText l).length = (putUint l.length).length + l.length := by simp [putText]
  by_cases h1 : p < 4
  · have e : (frame k l).set p c = (little (sum (k :: putText l))).set p c ++ k :: (putText l ++ []) := by
      unfold frame
      rw [List.set_append_left _ _ (by rw [little_length]; omega), List.append_nil]
    have e2 : (frame k l)[p] = (little (sum (k :: putText l)))[p]'(by rw [little_length]; omega) := by
      simp only [frame]
      rw [List.getElem_append_left (by rw [little_length]; omega)]
    rw [e, takeFrame_form _ k l [] (by rw [List.length_set]; rfl) hk hl, if_neg]
    intro h
    have h3 : (little (sum (k :: putText l)))[p]'(by rw [little_length]; omega) = c := by
      have := congrArg (fun x : List UInt8 => x[p]?) h
      simp only [List.getElem?_set_self (show p < (little (sum (k :: putText l))).length by rw [little_length]; omega)] at this
      rw [List.getElem?_eq_getElem (by rw [little_length]; omega)] at this
      simpa using this
    exact hc (h3.symm.trans e2.symm)
  · have e0 : (frame k l).set p c = little (sum (k :: putText l)) ++ (k :: putText l).set (p - 4) c := by
      unfold frame
      rw [List.set_append_right _ _ (by rw [little_length]; omega), little_length]
    have e2 : (frame k l)[p] = (k :: putText l)[p - 4]'(by simp; omega) := by
      simp only [frame]
      rw [List.getElem_append_right (by rw [little_length]; omega)]
      simp only [little_length]
    have hs := sum_set (k :: putText l) (p - 4) c (by simp; omega) (by rw [← e2]; exact hc)
    have hn : little (sum ((k :: putText l).set (p - 4) c)) ≠ little (sum (k :: putText l)) := fun h => hs (little_inj (sum_le _) (sum_le _) h)
    by_cases h4 : p = 4
    · subst h4
      rw [e0]
      simp only [Nat.sub_self, List.set_cons_zero] at hn ⊢
      by_cases hc0 : c = 0
      · rw [takeFrame_zero (by simp [little_length]; omega) (by rw [List.getD, List.getElem?_append_right (by rw [little_length]; omega), little_length]; exact hc0)]
      · have h := takeFrame_form (little (sum (k :: putText l))) c l [] rfl hc0 hl
        rw [List.append_nil, if_neg hn] at h
        rw [h]
    · have hq : 5 + (putUint l.length).length ≤ p := by omega
      have e3 : (k :: putText l).set (p - 4) c = k :: putText (l.set (p - 5 - (putUint l.length).length) c) := by
        rw [show p - 4 = (p - 5) + 1 from by omega, List.set_cons_succ]
        unfold putText
        rw [List.set_append_right _ _ (by omega), List.length_set]
      rw [e0, e3]
      rw [e3] at hn
      have h := takeFrame_form (little (sum (k :: putText l))) k (l.set (p - 5 - (putUint l.length).length) c) [] rfl hk (by rw [List.length_set]; exact hl)
      rw [List.append_nil, if_neg hn] at h
      rw [h]
theorem putUint_ne (n : Nat) : 0 < (putUint n).length := by
  by_cases h : n < 128
  · rw [putUint_last h]; simp
  · rw [putUint_more (by omega)]; simp
end Go.Proofs.Ytndekdgpibipnaa.Pl
