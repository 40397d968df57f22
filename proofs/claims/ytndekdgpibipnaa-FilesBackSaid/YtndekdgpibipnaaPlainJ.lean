
/- Plain law: check sums of bytes. Condition: none. -/
import Derived.Test.YtndekdgpibipnaaPlainC
namespace Go.Proofs.Ytndekdgpibipnaa.Pl

/-- one bit of a check sum -/
def crc1 (n : Nat) : Nat := if n % 2 = 1 then (n / 2) ^^^ 3988292384 else n / 2
def crcs : Nat → Nat → Nat
  | 0, n => n
  | k + 1, n => crcs k (crc1 n)
/-- one byte of it -/
def crcB (n : Nat) (b : UInt8) : Nat := crcs 8 (n ^^^ b.toNat)
def crcL (n : Nat) (l : List UInt8) : Nat := l.foldl crcB n
/-- the check sum -/
def sum (l : List UInt8) : Nat := 4294967295 - crcL 4294967295 l
/-- four bytes, the lowest one first -/
def little (n : Nat) : List UInt8 := [UInt8.ofNat n, UInt8.ofNat (n / 256), UInt8.ofNat (n / 65536), UInt8.ofNat (n / 16777216)]
/-- a frame as bytes -/
def frame (k : UInt8) (l : List UInt8) : List UInt8 := little (sum (k :: putText l)) ++ k :: putText l

theorem xor_lt32 {a b : Nat} (ha : a < 4294967296) (hb : b < 4294967296) : a ^^^ b < 4294967296 := Nat.xor_lt_two_pow (n := 32) ha hb
theorem crc1_lt {n : Nat} (h : n < 4294967296) : crc1 n < 4294967296 := by
  unfold crc1
  split
  · exact xor_lt32 (by omega) (by omega)
  · omega
theorem crcs_lt : ∀ (k : Nat) {n : Nat}, n < 4294967296 → crcs k n < 4294967296
  | 0, _, h => h
  | k + 1, _, h => crcs_lt k (crc1_lt h)
theorem crcB_lt {n : Nat} (b : UInt8) (h : n < 4294967296) : crcB n b < 4294967296 := crcs_lt 8 (xor_lt32 h (by have := b.toNat_lt; omega))
theorem crcL_lt : ∀ (l : List UInt8) {n : Nat}, n < 4294967296 → crcL n l < 4294967296
  | [], _, h => h
  | b :: l, _, h => crcL_lt l (crcB_lt b h)
theorem sum_le (l : List UInt8) : sum l ≤ 4294967295 := by unfold sum; omega

theorem half_bits (n : Nat) : bits .and .u32 3988292384 (IntKind.u32.wrap (-(((n % 2 : Nat) : Int)))) = ((if n % 2 = 1 then 3988292384 else 0 : Nat) : Int) := by
  have h : n % 2 = 0 ∨ n % 2 = 1 := by omega
  rcases h with h | h <;> rw [h] <;> decide +kernel
theorem crc1_eq (n : Nat) (h : n < 4294967296) : bits .xor .u32 ((n : Int) / 2) (bits .and .u32 3988292384 (-(bits .and .u32 (n : Int) 1) % 4294967296)) = ((crc1 n : Nat) : Int) := by
  rw [← IntKind.wrap_u32', show (1 : Int) = ((1 : Nat) : Int) from rfl, u32_and_nat n 1 h (by omega), nat_mask1, half_bits, show ((n : Int) / 2) = ((n / 2 : Nat) : Int) from by omega, u32_xor_nat _ _ (by omega) (by split <;> omega)]
  unfold crc1
  split <;> simp
theorem crc1_odd (n : Nat) (h : n < 4294967296) (ho : (n : Int) % 2 = 1) : bits .xor .u32 ((n : Int) / 2) 3988292384 = ((crc1 n : Nat) : Int) := by
  rw [show (3988292384 : Int) = ((3988292384 : Nat) : Int) from rfl, show ((n : Int) / 2) = ((n / 2 : Nat) : Int) from by omega, u32_xor_nat _ _ (by omega) (by omega)]
  unfold crc1
  rw [if_pos (by omega)]
theorem crc1_even (n : Nat) (ho : ¬ (n : Int) % 2 = 1) : (n : Int) / 2 = ((crc1 n : Nat) : Int) := by
  unfold crc1
  rw [if_neg (by omega)]
  omega
theorem byte_xor (n : Nat) (b : UInt8) (h : n < 4294967296) : bits .xor .u32 (n : Int) ((b.toNat : Nat) : Int) = ((n ^^^ b.toNat : Nat) : Int) := u32_xor_nat _ _ h (by have := b.toNat_lt; omega)
theorem byte_xor' (n : Nat) (b : UInt8) (h : n < 4294967296) : bits .xor .u32 (n : Int) (((b.toNat : Nat) : Int) % 4294967296) = ((n ^^^ b.toNat : Nat) : Int) := by
  rw [show (((b.toNat : Nat) : Int) % 4294967296) = ((b.toNat : Nat) : Int) from by have := b.toNat_lt; omega, byte_xor n b h]
theorem xor_byte_lt {n : Nat} (b : UInt8) (h : n < 4294967296) : n ^^^ b.toNat < 4294967296 := xor_lt32 h (by have := b.toNat_lt; omega)
theorem xor_ones32 (b : Nat) (hb : b < 2 ^ 32) : (2 ^ 32 - 1) ^^^ b = 2 ^ 32 - 1 - b := by
  apply Nat.eq_of_testBit_eq
  intro i
  rw [Nat.testBit_xor, Nat.testBit_two_pow_sub_one]
  rw [show 2 ^ 32 - 1 - b = 2 ^ 32 - (b + 1) from by omega, Nat.testBit_two_pow_sub_succ hb]
  by_cases h : i < 32
  · simp [h]
  · simp [h]
    exact Nat.testBit_lt_two_pow (Nat.lt_of_lt_of_le hb (Nat.pow_le_pow_right (by omega) (by omega)))
theorem sum_end {n : Nat} {l : List UInt8} (hn : n < 4294967296) (h : crcL n [] = crcL 4294967295 l) : bits .xor .u32 IntKind.u32.max (n : Int) = ((sum l : Nat) : Int) := by
  rw [show IntKind.u32.max = ((2 ^ 32 - 1 : Nat) : Int) from by decide, u32_xor_nat _ _ (by omega) hn, xor_ones32 _ hn]
  unfold sum
  rw [← h]
  rfl
theorem crcL_next {n k : Nat} {l : List UInt8} (hk : k < l.length) : crcL n (l.drop k) = crcL (crcB n l[k]) (l.drop (k + 1)) := by
  rw [List.drop_eq_getElem_cons hk]
  rfl
end Go.Proofs.Ytndekdgpibipnaa.Pl
