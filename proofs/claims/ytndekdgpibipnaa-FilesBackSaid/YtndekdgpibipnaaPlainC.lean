
/- Plain law: numbers with a sign as numbers, texts with their lengths, mixing. Condition: none. -/
import Derived.Test.YtndekdgpibipnaaPlainB
import Derived.Laws.BitsAllLaws
import Derived.Laws.Bits64
namespace Go.Proofs.Ytndekdgpibipnaa.Pl

/-- a number with a sign as one without -/
def zig (n : Int) : Nat := if 0 ≤ n then (2 * n).toNat else (-(2 * n) - 1).toNat

theorem zig_nonneg {n : Int} (h : 0 ≤ n) : ((zig n : Nat) : Int) = 2 * n := by unfold zig; rw [if_pos h]; omega
theorem zig_neg {n : Int} (h : n < 0) : ((zig n : Nat) : Int) = 2 * -(n + 1) + 1 := by unfold zig; rw [if_neg (by omega)]; omega
theorem zig_le {n : Int} (h0 : -9223372036854775808 ≤ n) (h1 : n ≤ 9223372036854775807) : zig n ≤ 18446744073709551615 := by
  unfold zig; split <;> omega

theorem xor_ones64 (b : Nat) (hb : b < 2 ^ 64) : b ^^^ (2 ^ 64 - 1) = 2 ^ 64 - 1 - b := by
  apply Nat.eq_of_testBit_eq
  intro i
  rw [Nat.testBit_xor, Nat.testBit_two_pow_sub_one]
  rw [show 2 ^ 64 - 1 - b = 2 ^ 64 - (b + 1) from by omega, Nat.testBit_two_pow_sub_succ hb]
  by_cases h : i < 64
  · simp [h]
  · simp [h]
    exact Nat.testBit_lt_two_pow (Nat.lt_of_lt_of_le hb (Nat.pow_le_pow_right (by omega) (by omega)))

theorem zig_bits (n : Int) (h0 : -9223372036854775808 ≤ n) (h1 : n ≤ 9223372036854775807) :
    bits .xor .u64 (IntKind.u64.wrap (IntKind.u64.wrap n * 2)) (IntKind.u64.wrap (n / 9223372036854775808)) = ((zig n : Nat) : Int) := by
  rw [IntKind.wrap_u64, IntKind.wrap_u64, IntKind.wrap_u64]
  by_cases h : 0 ≤ n
  · have e1 : (n / 9223372036854775808) % 18446744073709551616 = ((0 : Nat) : Int) := by omega
    have e2 : (n % 18446744073709551616 * 2) % 18446744073709551616 = (((2 * n).toNat : Nat) : Int) := by omega
    rw [e1, e2, u64_xor_nat _ _ (by omega) (by omega), Nat.xor_zero]
    unfold zig
    rw [if_pos h]
  · have e1 : (n / 9223372036854775808) % 18446744073709551616 = ((2 ^ 64 - 1 : Nat) : Int) := by omega
    have e2 : (n % 18446744073709551616 * 2) % 18446744073709551616 = (((2 * n + 18446744073709551616).toNat : Nat) : Int) := by omega
    rw [e1, e2, u64_xor_nat _ _ (by omega) (by omega), xor_ones64 _ (by omega)]
    unfold zig
    rw [if_neg h]
    omega

/-- a number's bits mixed -/
def mixA (n : Nat) : Nat := (n + 11400714819323198485) % 18446744073709551616
def mixB (a : Nat) : Nat := ((a ^^^ a / 1073741824) * 13787848793156543929) % 18446744073709551616
def mixC (a : Nat) : Nat := ((a ^^^ a / 134217728) * 10723151780598845931) % 18446744073709551616
def mixD (a : Nat) : Nat := a ^^^ a / 2147483648
def mix (n : Nat) : Nat := mixD (mixC (mixB (mixA n)))

theorem mixA_lt (n : Nat) : mixA n < 18446744073709551616 := Nat.mod_lt _ (by omega)
theorem mixB_lt (n : Nat) : mixB n < 18446744073709551616 := Nat.mod_lt _ (by omega)
theorem mixC_lt (n : Nat) : mixC n < 18446744073709551616 := Nat.mod_lt _ (by omega)
theorem mixD_lt {n : Nat} (h : n < 18446744073709551616) : mixD n < 18446744073709551616 := by
  unfold mixD
  exact Nat.xor_lt_two_pow (n := 64) (by omega) (by omega)
theorem mix_lt (n : Nat) : mix n < 18446744073709551616 := mixD_lt (mixC_lt _)

theorem mixA_eq (n : Nat) : IntKind.u64.wrap ((n : Int) + 11400714819323198485) = ((mixA n : Nat) : Int) := by
  rw [IntKind.wrap_u64]; unfold mixA; omega
theorem mixB_eq (a : Nat) (h : a < 18446744073709551616) : IntKind.u64.wrap (bits .xor .u64 (a : Int) ((a : Int) / 1073741824) * 13787848793156543929) = ((mixB a : Nat) : Int) := by
  rw [show ((a : Int) / 1073741824) = ((a / 1073741824 : Nat) : Int) from by omega, u64_xor_nat _ _ h (by omega), IntKind.wrap_u64]; unfold mixB; omega
theorem mixC_eq (a : Nat) (h : a < 18446744073709551616) : IntKind.u64.wrap (bits .xor .u64 (a : Int) ((a : Int) / 134217728) * 10723151780598845931) = ((mixC a : Nat) : Int) := by
  rw [show ((a : Int) / 134217728) = ((a / 134217728 : Nat) : Int) from by omega, u64_xor_nat _ _ h (by omega), IntKind.wrap_u64]; unfold mixC; omega
theorem mixD_eq (a : Nat) (h : a < 18446744073709551616) : bits .xor .u64 (a : Int) ((a : Int) / 2147483648) = ((mixD a : Nat) : Int) := by
  rw [show ((a : Int) / 2147483648) = ((a / 2147483648 : Nat) : Int) from by omega, u64_xor_nat _ _ h (by omega)]; rfl

/-- a word as eight bytes, the highest one first -/
def big (n : Nat) : List UInt8 :=
  [UInt8.ofNat (n / 72057594037927936), UInt8.ofNat (n / 281474976710656), UInt8.ofNat (n / 1099511627776), UInt8.ofNat (n / 4294967296), UInt8.ofNat (n / 16777216), UInt8.ofNat (n / 65536), UInt8.ofNat (n / 256), UInt8.ofNat n]
theorem byte_mod (m : Nat) : (((UInt8.ofNat m).toNat : Nat) : Int) = (m : Int) % 256 := by rw [UInt8.toNat_ofNat']; omega
/-- a number with a sign as a word that rises as it does -/
def up (n : Int) : Nat := (n + 9223372036854775808).toNat
theorem xor_top (m : Nat) (h : m < 2 ^ 64) : m ^^^ 2 ^ 63 = (m + 2 ^ 63) % 2 ^ 64 := by
  apply Nat.eq_of_testBit_eq
  intro i
  rw [Nat.testBit_xor, Nat.testBit_mod_two_pow, Nat.testBit_two_pow]
  by_cases h63 : i = 63
  · subst h63
    simp only [Nat.testBit_eq_decide_div_mod_eq]
    have : (m + 2 ^ 63) / 2 ^ 63 = m / 2 ^ 63 + 1 := by omega
    rw [this]
    have h2 : m / 2 ^ 63 = 0 ∨ m / 2 ^ 63 = 1 := by omega
    rcases h2 with h2 | h2 <;> simp [h2]
  · by_cases hlt : i < 63
    · have e : (m + 2 ^ 63).testBit i = m.testBit i := by
        have : 2 ^ 63 = 2 ^ (i + 1) * 2 ^ (62 - i) := by rw [← Nat.pow_add]; congr 1; omega
        have h1 : (m + 2 ^ 63) % 2 ^ (i + 1) = m % 2 ^ (i + 1) := by rw [this, Nat.add_mul_mod_self_left]
        have h2 := Nat.testBit_mod_two_pow (m + 2 ^ 63) (i + 1) i
        have h3 := Nat.testBit_mod_two_pow m (i + 1) i
        rw [h1, h3] at h2
        simpa using h2.symm
      have h64 : i < 64 := by omega
      have h63' : ¬ 63 = i := by omega
      simp [e, h64, h63']
    · have h64 : ¬ i < 64 := by omega
      have h63' : ¬ 63 = i := by omega
      have : m.testBit i = false := Nat.testBit_lt_two_pow (Nat.lt_of_lt_of_le h (Nat.pow_le_pow_right (by omega) (by omega)))
      simp [this, h64, h63']
theorem up_bits (n : Int) (h0 : -9223372036854775808 ≤ n) (h1 : n ≤ 9223372036854775807) :
    bits .xor .u64 (IntKind.u64.wrap n) 9223372036854775808 = ((up n : Nat) : Int) := by
  rw [IntKind.wrap_u64]
  have e : n % 18446744073709551616 = (((n % 18446744073709551616).toNat : Nat) : Int) := by omega
  have e2 : (9223372036854775808 : Int) = ((2 ^ 63 : Nat) : Int) := by decide
  rw [e, e2, u64_xor_nat _ _ (by omega) (by decide), xor_top _ (by omega)]
  unfold up
  omega
theorem up_le {n : Int} (h0 : -9223372036854775808 ≤ n) (h1 : n ≤ 9223372036854775807) : up n ≤ 18446744073709551615 := by unfold up; omega

/-- a text with its length ahead -/
def putText (l : List UInt8) : List UInt8 := putUint l.length ++ l

theorem mk_append (l : List UInt8) (s : ByteArray) : (ByteArray.mk l.toArray ++ s) = ByteArray.mk (l ++ s.data.toList).toArray := by
  apply ByteArray.ext
  simp [ByteArray.data_append]
end Go.Proofs.Ytndekdgpibipnaa.Pl
