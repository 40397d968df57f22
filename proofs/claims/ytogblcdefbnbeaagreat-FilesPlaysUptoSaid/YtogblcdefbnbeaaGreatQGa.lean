
/- Plain law: texts as lists of bytes: the common beginning of two. Condition: none. -/
import Derived.Laws.Strings
import Derived.Laws.BitsAllLaws
import Derived.Laws.Bits64
import Derived.Lib.Zigzag
import Derived.WalkSmall
import Derived.IntWalk
set_option maxRecDepth 100000
namespace Go.Proofs.YtogblcdefbnbeaaGreat
namespace Pl
def common : List UInt8 → List UInt8 → Nat
 | a :: s, b :: t => if a = b then common s t + 1 else 0
 | _, _ => 0
theorem size_data (s : ByteArray) : s.data.toList.length = s.size := by rw [Array.length_toList]; rfl
theorem getElem_data (s : ByteArray) (k : Nat) (h : k < s.size) : s.data.toList[k]'(by rw [size_data]; exact h) = s[k] := rfl
theorem extract_mk (s : ByteArray) (a b : Nat) : s.extract a b = ⟨((s.data.toList.take b).drop a).toArray⟩ := by
 apply ByteArray.ext
 rw [ByteArray.data_extract]
 apply Array.toList_inj.1
 simp [List.drop_take]
end Pl
namespace Pl
def putUint (n : Nat) : List UInt8 :=
 if n < 128 then [UInt8.ofNat n] else UInt8.ofNat (n % 128 + 128) :: putUint (n / 128)
termination_by n
decreasing_by omega
theorem putUint_last {n : Nat} (h : n < 128) : putUint n = [UInt8.ofNat n] := by rw [putUint, if_pos h]
theorem putUint_more {n : Nat} (h : ¬ n < 128) : putUint n = UInt8.ofNat (n % 128 + 128) :: putUint (n / 128) := by rw [putUint, if_neg h]
theorem putUint_step {n : Nat} (h : ¬ n < 128) (l : List UInt8) : l ++ putUint n = (l ++ [UInt8.ofNat (n % 128 + 128)]) ++ putUint (n / 128) := by
 rw [putUint_more h]; simp
theorem putUint_length (k n : Nat) (h : n < 128 ^ (k + 1)) : (putUint n).length ≤ k + 1 := by
 induction k generalizing n with
 | zero => rw [putUint_last (by simpa using h)]; simp
 | succ k ih =>
  by_cases h1 : n < 128
  ·rw [putUint_last h1]; simp
  ·rw [putUint_more h1]
   have : n / 128 < 128 ^ (k + 1) := by
    rw [Nat.div_lt_iff_lt_mul (by omega)]
    rw [Nat.pow_succ] at h
    exact h
   have := ih _ this
   simp; omega
theorem putUint_length64 (n : Nat) (h : n < 18446744073709551616) : (putUint n).length ≤ 10 :=
 putUint_length 9 n (by omega)
end Pl
namespace Pl
def zig (n : Int) : Nat := if 0 ≤ n then (2 * n).toNat else (-(2 * n) - 1).toNat
def mixA (n : Nat) : Nat := (n + 11400714819323198485) % 18446744073709551616
def mixB (a : Nat) : Nat := ((a ^^^ a / 1073741824) * 13787848793156543929) % 18446744073709551616
def mixC (a : Nat) : Nat := ((a ^^^ a / 134217728) * 10723151780598845931) % 18446744073709551616
def mixD (a : Nat) : Nat := a ^^^ a / 2147483648
def mix (n : Nat) : Nat := mixD (mixC (mixB (mixA n)))
def big (n : Nat) : List UInt8 :=
 [UInt8.ofNat (n / 72057594037927936), UInt8.ofNat (n / 281474976710656), UInt8.ofNat (n / 1099511627776), UInt8.ofNat (n / 4294967296), UInt8.ofNat (n / 16777216), UInt8.ofNat (n / 65536), UInt8.ofNat (n / 256), UInt8.ofNat n]
theorem byte_mod (m : Nat) : (((UInt8.ofNat m).toNat : Nat) : Int) = (m : Int) % 256 := by rw [UInt8.toNat_ofNat']; omega
def up (n : Int) : Nat := (n + 9223372036854775808).toNat
def putText (l : List UInt8) : List UInt8 := putUint l.length ++ l
theorem mk_append (l : List UInt8) (s : ByteArray) : (ByteArray.mk l.toArray ++ s) = ByteArray.mk (l ++ s.data.toList).toArray := by
 apply ByteArray.ext
 simp [ByteArray.data_append]
end Pl
namespace Pl
def crc1 (n : Nat) : Nat := if n % 2 = 1 then (n / 2) ^^^ 3988292384 else n / 2
def crcs : Nat → Nat → Nat
 | 0, n => n
 | k + 1, n => crcs k (crc1 n)
def crcB (n : Nat) (b : UInt8) : Nat := crcs 8 (n ^^^ b.toNat)
def crcL (n : Nat) (l : List UInt8) : Nat := l.foldl crcB n
def sum (l : List UInt8) : Nat := 4294967295 - crcL 4294967295 l
def little (n : Nat) : List UInt8 := [UInt8.ofNat n, UInt8.ofNat (n / 256), UInt8.ofNat (n / 65536), UInt8.ofNat (n / 16777216)]
def frame (k : UInt8) (l : List UInt8) : List UInt8 := little (sum (k :: putText l)) ++ k :: putText l
theorem xor_lt32 {a b : Nat} (ha : a < 4294967296) (hb : b < 4294967296) : a ^^^ b < 4294967296 := Nat.xor_lt_two_pow (n := 32) ha hb
theorem crc1_lt {n : Nat} (h : n < 4294967296) : crc1 n < 4294967296 := by
 unfold crc1
 split
 ·exact xor_lt32 (by omega) (by omega)
 ·omega
theorem crcs_lt : ∀ (k : Nat) {n : Nat}, n < 4294967296 → crcs k n < 4294967296
 | 0, _, h => h
 | k + 1, _, h => crcs_lt k (crc1_lt h)
theorem crcB_lt {n : Nat} (b : UInt8) (h : n < 4294967296) : crcB n b < 4294967296 := crcs_lt 8 (xor_lt32 h (by have := b.toNat_lt; omega))
theorem sum_le (l : List UInt8) : sum l ≤ 4294967295 := by unfold sum; omega
theorem half_bits (n : Nat) : bits .and .u32 3988292384 (IntKind.u32.wrap (-(((n % 2 : Nat) : Int)))) = ((if n % 2 = 1 then 3988292384 else 0 : Nat) : Int) := by
 have h : n % 2 = 0 ∨ n % 2 = 1 := by omega
 rcases h with h | h <;> rw [h] <;> decide +kernel
theorem crc1_eq (n : Nat) (h : n < 4294967296) : bits .xor .u32 ((n : Int) / 2) (bits .and .u32 3988292384 (-(bits .and .u32 (n : Int) 1) % 4294967296)) = ((crc1 n : Nat) : Int) := by
 rw [← IntKind.wrap_u32', show (1 : Int) = ((1 : Nat) : Int) from rfl, u32_and_nat n 1 h (by omega), nat_mask1, half_bits, show ((n : Int) / 2) = ((n / 2 : Nat) : Int) from by omega, u32_xor_nat _ _ (by omega) (by split <;> omega)]
 unfold crc1
 split <;> simp
theorem crc1_odd (n : Nat) (h : n < 4294967296) (ho : (n : Int) % 2 = 1) : bits .xor .u32 ((n : Int) / 2) 3988292384 = ((crc1 n : Nat) : Int) := by
 rw [show (3988292384 : Int) = ((3988292384 : Nat) : Int) from rfl, show ((n : Int) / 2) = ((n / 2 : Nat) : Int) from by omega, u32_xor_nat _ _ (by omega) (by omega)]
 unfold crc1
 rw [if_pos (by omega)]
theorem crc1_even (n : Nat) (ho : ¬ (n : Int) % 2 = 1) : (n : Int) / 2 = ((crc1 n : Nat) : Int) := by
 unfold crc1
 rw [if_neg (by omega)]
 omega
theorem byte_xor (n : Nat) (b : UInt8) (h : n < 4294967296) : bits .xor .u32 (n : Int) ((b.toNat : Nat) : Int) = ((n ^^^ b.toNat : Nat) : Int) := u32_xor_nat _ _ h (by have := b.toNat_lt; omega)
theorem byte_xor' (n : Nat) (b : UInt8) (h : n < 4294967296) : bits .xor .u32 (n : Int) (((b.toNat : Nat) : Int) % 4294967296) = ((n ^^^ b.toNat : Nat) : Int) := by
 rw [show (((b.toNat : Nat) : Int) % 4294967296) = ((b.toNat : Nat) : Int) from by have := b.toNat_lt; omega, byte_xor n b h]
theorem xor_byte_lt {n : Nat} (b : UInt8) (h : n < 4294967296) : n ^^^ b.toNat < 4294967296 := xor_lt32 h (by have := b.toNat_lt; omega)
theorem xor_ones32 (b : Nat) (hb : b < 2 ^ 32) : (2 ^ 32 - 1) ^^^ b = 2 ^ 32 - 1 - b := by
 apply Nat.eq_of_testBit_eq
 intro i
 rw [Nat.testBit_xor, Nat.testBit_two_pow_sub_one]
 rw [show 2 ^ 32 - 1 - b = 2 ^ 32 - (b + 1) from by omega, Nat.testBit_two_pow_sub_succ hb]
 by_cases h : i < 32
 ·simp [h]
 ·simp [h]
  exact Nat.testBit_lt_two_pow (Nat.lt_of_lt_of_le hb (Nat.pow_le_pow_right (by omega) (by omega)))
theorem sum_end {n : Nat} {l : List UInt8} (hn : n < 4294967296) (h : crcL n [] = crcL 4294967295 l) : bits .xor .u32 IntKind.u32.max (n : Int) = ((sum l : Nat) : Int) := by
 rw [show IntKind.u32.max = ((2 ^ 32 - 1 : Nat) : Int) from by decide, u32_xor_nat _ _ (by omega) hn, xor_ones32 _ hn]
 unfold sum
 rw [← h]
 rfl
theorem crcL_next {n k : Nat} {l : List UInt8} (hk : k < l.length) : crcL n (l.drop k) = crcL (crcB n l[k]) (l.drop (k + 1)) := by
 rw [List.drop_eq_getElem_cons hk]
 rfl
end Pl
namespace Pl
def takeFrom (n i : Nat) : List UInt8 → Nat × Nat × Nat
 | [] => (0, 0, 2)
 | b :: r => if (i = 9 ∧ 1 < b.toNat) ∨ (0 < i ∧ b = 0) then (0, 0, 3) else if b.toNat < 128 then (n + b.toNat * 128 ^ i, i + 1, 0) else takeFrom (n + b.toNat % 128 * 128 ^ i) (i + 1) r
def takeUint (l : List UInt8) : Nat × Nat × Nat := takeFrom 0 0 l
theorem takeFrom_bound : ∀ (l : List UInt8) (n i : Nat), i ≤ 9 → n < 128 ^ i → (takeFrom n i l).1 ≤ 18446744073709551615 ∧ (takeFrom n i l).2.1 ≤ i + l.length ∧ (takeFrom n i l).2.1 ≤ 10
 | [], _, _, _, _ => by simp [takeFrom]
 | b :: r, n, i, hi, hn => by
  unfold takeFrom
  split
  ·simp
  ·rename_i h1
   split
   ·rename_i h2
    simp only [List.length_cons]
    refine ⟨?_, by omega, by omega⟩
    have h3 : i = 9 ∨ i < 9 := by omega
    rcases h3 with rfl | h3
    ·have : b.toNat ≤ 1 := by omega
     have h4 : b.toNat * 128 ^ 9 ≤ 1 * 128 ^ 9 := Nat.mul_le_mul_right _ this
     omega
    ·have h4 : b.toNat * 128 ^ i ≤ 127 * 128 ^ i := Nat.mul_le_mul_right _ (by omega)
     have h5 : 128 ^ i ≤ 128 ^ 8 := Nat.pow_le_pow_right (by omega) (by omega)
     omega
   ·rename_i h2
    have h3 : i < 9 := by
     rcases Nat.lt_or_ge i 9 with h | h
     ·exact h
     ·exfalso; apply h1; left; exact ⟨by omega, by omega⟩
    have h4 : n + b.toNat % 128 * 128 ^ i < 128 ^ (i + 1) := by
     have h5 : b.toNat % 128 * 128 ^ i ≤ 127 * 128 ^ i := Nat.mul_le_mul_right _ (by omega)
     rw [Nat.pow_succ]; omega
    have := takeFrom_bound r _ (i + 1) (by omega) h4
    simp only [List.length_cons]
    exact ⟨this.1, by omega, this.2.2⟩
theorem takeUint_bound (l : List UInt8) : (takeUint l).1 ≤ 18446744073709551615 ∧ (takeUint l).2.1 ≤ l.length ∧ (takeUint l).2.1 ≤ 10 := by
 have := takeFrom_bound l 0 0 (by omega) (by simp)
 exact ⟨this.1, by have h := this.2.1; rw [Nat.zero_add] at h; exact h, this.2.2⟩
section
variable {l : List UInt8} {n k : Nat} (hk : k < l.length)
include hk
theorem takeFrom_bad (h : (k = 9 ∧ 1 < (l[k]).toNat) ∨ (0 < k ∧ l[k] = 0)) : takeFrom n k (l.drop k) = (0, 0, 3) := by
 rw [List.drop_eq_getElem_cons hk]; unfold takeFrom; rw [if_pos h]
theorem takeFrom_last (h : ¬ ((k = 9 ∧ 1 < (l[k]).toNat) ∨ (0 < k ∧ l[k] = 0))) (h2 : (l[k]).toNat < 128) : takeFrom n k (l.drop k) = (n + (l[k]).toNat * 128 ^ k, k + 1, 0) := by
 rw [List.drop_eq_getElem_cons hk]; unfold takeFrom; rw [if_neg h, if_pos h2]
theorem takeFrom_more (h : ¬ ((k = 9 ∧ 1 < (l[k]).toNat) ∨ (0 < k ∧ l[k] = 0))) (h2 : ¬ (l[k]).toNat < 128) : takeFrom n k (l.drop k) = takeFrom (n + (l[k]).toNat % 128 * 128 ^ k) (k + 1) (l.drop (k + 1)) := by
 rw [List.drop_eq_getElem_cons hk]; conv => lhs; unfold takeFrom
 rw [if_neg h, if_neg h2]
end
theorem takeFrom_end {l : List UInt8} {n k : Nat} (h : l.length ≤ k) : takeFrom n k (l.drop k) = (0, 0, 2) := by rw [List.drop_eq_nil_of_le h]; rfl
theorem more_bound {n b k : Nat} (hn : n < 128 ^ k) : n + b % 128 * 128 ^ k < 128 ^ (k + 1) := by
 have h5 : b % 128 * 128 ^ k ≤ 127 * 128 ^ k := Nat.mul_le_mul_right _ (by omega)
 rw [Nat.pow_succ]; omega
theorem or_add {n b k : Nat} (hn : n < 128 ^ k) : n ||| b * 128 ^ k = n + b * 128 ^ k := by
 have e : (128 : Nat) ^ k = 2 ^ (7 * k) := by rw [show (128 : Nat) = 2 ^ 7 from rfl, ← Nat.pow_mul]
 rw [e] at hn ⊢
 have h := Nat.two_pow_add_eq_or_of_lt hn b
 rw [Nat.or_comm, Nat.mul_comm b, ← h, Nat.add_comm]
theorem pow_cast (k : Nat) : (2 : Int) ^ (7 * k) = ((128 ^ k : Nat) : Int) := by
 rw [Int.pow_mul]; simp
theorem or_u64 {n b k : Nat} (hn : n < 128 ^ k) (hb : b < 256) (hk : k ≤ 9) (h : k = 9 → b ≤ 1) : bits .or .u64 (n : Int) ((b : Int) * ((128 ^ k : Nat) : Int)) = ((n + b * 128 ^ k : Nat) : Int) ∧ b * 128 ^ k < 18446744073709551616 := by
 have h1 : 128 ^ k ≤ 128 ^ 9 := Nat.pow_le_pow_right (by omega) hk
 have h2 : b * 128 ^ k < 18446744073709551616 := by
  rcases Nat.lt_or_ge k 9 with h9 | h9
  ·have h3 : 128 ^ k ≤ 128 ^ 8 := Nat.pow_le_pow_right (by omega) (by omega)
   have h4 : b * 128 ^ k ≤ 255 * 128 ^ 8 := Nat.mul_le_mul (by omega) h3
   omega
  ·have h4 : b * 128 ^ k ≤ 1 * 128 ^ 9 := Nat.mul_le_mul (h (by omega)) h1
   omega
 refine ⟨?_, h2⟩
 rw [← Int.natCast_mul, u64_or_nat _ _ (by omega) h2, or_add hn]
theorem or_last {n b k : Nat} (hn : n < 128 ^ k) (hb : b < 256) (hk : k < 9) : bits .or .u64 (n : Int) (IntKind.u64.wrap ((b : Int) * 2 ^ (7 * k))) = ((n + b * 128 ^ k : Nat) : Int) := by
 obtain ⟨h1, h2⟩ := or_u64 hn hb (by omega) (by omega)
 rw [pow_cast, IntKind.wrap_u64, Int.emod_eq_of_lt (by rw [← Int.natCast_mul]; omega) (by rw [← Int.natCast_mul]; omega)]
 exact h1
theorem or_nine {n b : Nat} (hn : n < 128 ^ 9) (hb : b ≤ 1) : bits .or .u64 (n : Int) ((b : Int) * 9223372036854775808) = ((n + b * 128 ^ 9 : Nat) : Int) :=
 (or_u64 hn (by omega) (Nat.le_refl _) (fun _ => hb)).1
theorem and127 (b : Nat) (hb : b < 256) : IntKind.u64.wrap (bits .and .u8 (b : Int) 127) = ((b % 128 : Nat) : Int) := by
 have h : ∀ k : Nat, k < 256 → bits .and .u8 (k : Int) 127 = ((k % 128 : Nat) : Int) := by decide +kernel
 rw [h b hb, IntKind.wrap_u64]
 omega
theorem ref_num {n b P k : Nat} (hP : P = 128 ^ k) (hn : n < 128 ^ k) (hk : k ≤ 9) (h : k = 9 → b ≤ 1) :
  IntKind.u64.wrap ((n : Int) + IntKind.u64.wrap ((b : Int) % 128 * (P : Int))) = ((n + b % 128 * 128 ^ k : Nat) : Int) := by
 subst hP
 obtain ⟨_, h2⟩ := or_u64 (b := b % 128) hn (by omega) hk (by omega)
 have h3 : n + b % 128 * 128 ^ k < 18446744073709551616 := by
  rcases Nat.lt_or_ge k 9 with h9 | h9
  ·have h3 : 128 ^ k ≤ 128 ^ 8 := Nat.pow_le_pow_right (by omega) (by omega)
   have h4 : b % 128 * 128 ^ k ≤ 127 * 128 ^ k := Nat.mul_le_mul_right _ (by omega)
   omega
  ·obtain rfl : k = 9 := by omega
   have h4 : b % 128 * 128 ^ 9 ≤ 1 * 128 ^ 9 := Nat.mul_le_mul_right _ (by have := h rfl; omega)
   omega
 have e : (b : Int) % 128 * ((128 ^ k : Nat) : Int) = ((b % 128 * 128 ^ k : Nat) : Int) := by rw [Int.natCast_mul]; rfl
 rw [e, IntKind.wrap_u64, IntKind.wrap_u64]
 generalize b % 128 * 128 ^ k = x at *
 omega
theorem ref_place {P k : Nat} (hP : P = 128 ^ k) (hk : k < 9) : IntKind.u64.wrap ((P : Int) * 128) = ((128 ^ (k + 1) : Nat) : Int) := by
 subst hP
 have h3 : 128 ^ k ≤ 128 ^ 8 := Nat.pow_le_pow_right (by omega) (by omega)
 rw [Nat.pow_succ, IntKind.wrap_u64]
 generalize 128 ^ k = x at *
 omega
end Pl
namespace Pl
open Go.RowKit (wrap64)
def zag (n : Nat) : Int := if n % 2 = 1 then -((n / 2 : Nat) : Int) - 1 else ((n / 2 : Nat) : Int)
def takeText (l : List UInt8) (most : Nat) : List UInt8 × Nat × Nat :=
 if (takeUint l).2.2 ≠ 0 then ([], 0, (takeUint l).2.2) else if most < (takeUint l).1 then ([], 0, 3)
 else if l.length - (takeUint l).2.1 < (takeUint l).1 then ([], 0, 2) else ((l.drop (takeUint l).2.1).take (takeUint l).1, (takeUint l).2.1 + (takeUint l).1, 0)
def word (l : List UInt8) : Nat := l.foldl (fun n b => n * 256 + b.toNat) 0
def down (n : Nat) : Int := (n : Int) - 9223372036854775808
end Pl
namespace Pl
def takeFrame (l : List UInt8) : (UInt8 × List UInt8) × Nat × Nat :=
 if l.length < 5 then ((0, []), 0, 2) else if l.getD 4 0 = 0 then ((0, []), 0, 3)
 else if (takeText (l.drop 5) 262144).2.2 ≠ 0 then ((0, []), 0, (takeText (l.drop 5) 262144).2.2)
 else if little (sum ((l.take (5 + (takeText (l.drop 5) 262144).2.1)).drop 4)) ≠ l.take 4 then ((0, []), 0, 3)
 else ((l.getD 4 0, (takeText (l.drop 5) 262144).1), 5 + (takeText (l.drop 5) 262144).2.1, 0)
theorem takeFrame_short {l : List UInt8} (h : l.length < 5) : takeFrame l = ((0, []), 0, 2) := by unfold takeFrame; rw [if_pos h]
theorem takeFrame_zero {l : List UInt8} (h : ¬ l.length < 5) (h2 : l.getD 4 0 = 0) : takeFrame l = ((0, []), 0, 3) := by unfold takeFrame; rw [if_neg h, if_pos h2]
theorem takeFrame_bad {l : List UInt8} (h : ¬ l.length < 5) (h2 : ¬ l.getD 4 0 = 0) (h3 : (takeText (l.drop 5) 262144).2.2 ≠ 0) : takeFrame l = ((0, []), 0, (takeText (l.drop 5) 262144).2.2) := by
 unfold takeFrame; rw [if_neg h, if_neg h2, if_pos h3]
theorem takeFrame_sum {l : List UInt8} (h : ¬ l.length < 5) (h2 : ¬ l.getD 4 0 = 0) (h3 : ¬ (takeText (l.drop 5) 262144).2.2 ≠ 0)
  (h4 : little (sum ((l.take (5 + (takeText (l.drop 5) 262144).2.1)).drop 4)) ≠ l.take 4) : takeFrame l = ((0, []), 0, 3) := by
 unfold takeFrame; rw [if_neg h, if_neg h2, if_neg h3, if_pos h4]
theorem takeFrame_ok {l : List UInt8} (h : ¬ l.length < 5) (h2 : ¬ l.getD 4 0 = 0) (h3 : ¬ (takeText (l.drop 5) 262144).2.2 ≠ 0)
  (h4 : ¬ little (sum ((l.take (5 + (takeText (l.drop 5) 262144).2.1)).drop 4)) ≠ l.take 4) :
  takeFrame l = ((l.getD 4 0, (takeText (l.drop 5) 262144).1), 5 + (takeText (l.drop 5) 262144).2.1, 0) := by
 unfold takeFrame; rw [if_neg h, if_neg h2, if_neg h3, if_neg h4]
theorem takeText_fits (l : List UInt8) (most : Nat) : (takeText l most).2.1 ≤ l.length := by
 unfold takeText
 obtain ⟨b1, b2, b3⟩ := takeUint_bound l
 split
 ·simp
 ·split
  ·simp
  ·split
   ·simp
   ·simp; omega
end Pl
namespace Pl
def esc : List UInt8 → List UInt8
 | [] => []
 | c :: l => if c = 0 then 0 :: 255 :: esc l else c :: esc l
def keyText (l : List UInt8) : List UInt8 := esc l ++ [0, 1]
def tkey (acc : List UInt8) (i : Nat) : List UInt8 → List UInt8 × Nat × Nat
 | [] => ([], 0, 2)
 | c :: l => if c ≠ 0 then tkey (acc ++ [c]) (i + 1) l else
  match l with
  | [] => ([], 0, 2)
  | d :: r => if d = 1 then (acc, i + 2, 0) else if d = 255 then tkey (acc ++ [0]) (i + 2) r else ([], 0, 3)
def takeKey (l : List UInt8) : List UInt8 × Nat × Nat := tkey [] 0 l
section
variable {acc l : List UInt8} {i k : Nat} (hk : k < l.length)
include hk
end
end Pl
namespace Pl
def strip (l : List UInt8) : Nat → Nat
 | 0 => 0
 | n + 1 => if l[n]? = some 255 then strip l n else n + 1
def behind (l : List UInt8) : List UInt8 :=
 let n := strip l l.length
 if n = 0 then [] else l.take (n - 1) ++ [(l[n - 1]?).getD 0 + 1]
def low : List UInt8 → Bool
 | [] => false
 | c :: l => if c = 255 then low l else true
end Pl
namespace Pl
open Go.Op (bytesLess)
theorem lt_irrefl (x : List UInt8) : bytesLess x x = false := by
 induction x with
 | nil => rfl
 | cons a x ih => simp [bytesLess, ih]
theorem lt_trans : ∀ {x y z : List UInt8}, bytesLess x y = true → bytesLess y z = true → bytesLess x z = true
 | [], [], _, h, _ => by simp [bytesLess] at h
 | [], _ :: _, [], _, h => by simp [bytesLess] at h
 | [], _ :: _, _ :: _, _, _ => rfl
 | _ :: _, [], _, h, _ => by simp [bytesLess] at h
 | _ :: _, _ :: _, [], _, h => by simp [bytesLess] at h
 | a :: x, b :: y, c :: z, h1, h2 => by
  simp only [bytesLess, Bool.or_eq_true, decide_eq_true_eq, Bool.and_eq_true, beq_iff_eq] at h1 h2 ⊢
  rcases h1 with h1 | ⟨rfl, h1⟩
  ·rcases h2 with h2 | ⟨rfl, _⟩
   ·left; rw [UInt8.lt_iff_toNat_lt] at *; omega
   ·left; exact h1
  ·rcases h2 with h2 | ⟨rfl, h2⟩
   ·left; exact h2
   ·right; exact ⟨rfl, lt_trans h1 h2⟩
theorem lt_total : ∀ {x y : List UInt8}, bytesLess x y = false → x ≠ y → bytesLess y x = true
 | [], [], _, h => absurd rfl h
 | [], _ :: _, h, _ => by simp [bytesLess] at h
 | _ :: _, [], _, _ => rfl
 | a :: x, b :: y, h1, h2 => by
  simp only [bytesLess, Bool.or_eq_false_iff, decide_eq_false_iff_not, Bool.and_eq_false_iff, Bool.or_eq_true, decide_eq_true_eq, Bool.and_eq_true, beq_iff_eq] at h1 ⊢
  by_cases e : a = b
  ·subst e
   right
   refine ⟨rfl, lt_total ?_ (by intro e; exact h2 (by rw [e]))⟩
   rcases h1.2 with h | h
   ·simp at h
   ·exact h
  ·left
   have h := h1.1
   have he : a.toNat ≠ b.toNat := fun e' => e (UInt8.toNat_inj.1 e')
   rw [UInt8.lt_iff_toNat_lt] at *
   omega
theorem lt_asymm {x y : List UInt8} (h : bytesLess x y = true) : bytesLess y x = false := by
 cases hh : bytesLess y x with
 | false => rfl
 | true => have := lt_trans h hh; rw [lt_irrefl] at this; cases this
section
variable {s t : List UInt8} (h0 : strip s s.length ≠ 0)
include h0
end
end Pl
namespace Pl
open Go.Op (bytesLess)
theorem takeFrom_put (r : List UInt8) : ∀ (n acc i : Nat), n * 128 ^ i < 18446744073709551616 → (0 < i → 0 < n) → i ≤ 9 →
  takeFrom acc i (putUint n ++ r) = (acc + n * 128 ^ i, i + (putUint n).length, 0) := by
 intro n
 induction n using Nat.strongRecOn with
 | ind n ih =>
  intro acc i hb hp hi
  by_cases h : n < 128
  ·rw [putUint_last h]
   have hn : (UInt8.ofNat n).toNat = n := by rw [UInt8.toNat_ofNat']; omega
   have h1 : ¬ ((i = 9 ∧ 1 < (UInt8.ofNat n).toNat) ∨ (0 < i ∧ UInt8.ofNat n = 0)) := by
    rw [hn]
    rintro (⟨rfl, h9⟩ | ⟨h0, hz⟩)
    ·have : 2 * 128 ^ 9 ≤ n * 128 ^ 9 := Nat.mul_le_mul_right _ h9
     omega
    ·have := hp h0
     have hz' := congrArg UInt8.toNat hz
     rw [hn] at hz'
     have : (0 : UInt8).toNat = 0 := rfl
     omega
   simp only [List.singleton_append, takeFrom]
   rw [if_neg h1, if_pos (by rw [hn]; exact h), hn]
   simp
  ·rw [putUint_more h]
   have hn : (UInt8.ofNat (n % 128 + 128)).toNat = n % 128 + 128 := by rw [UInt8.toNat_ofNat']; omega
   have hi9 : i < 9 := by
    rcases Nat.lt_or_ge i 9 with h9 | h9
    ·exact h9
    ·obtain rfl : i = 9 := by omega
     have : 128 * 128 ^ 9 ≤ n * 128 ^ 9 := Nat.mul_le_mul_right _ (by omega)
     omega
   have h1 : ¬ ((i = 9 ∧ 1 < (UInt8.ofNat (n % 128 + 128)).toNat) ∨ (0 < i ∧ UInt8.ofNat (n % 128 + 128) = 0)) := by
    rintro (⟨h9, _⟩ | ⟨_, hz⟩)
    ·omega
    ·have hz' := congrArg UInt8.toNat hz
     rw [hn] at hz'
     have : (0 : UInt8).toNat = 0 := rfl
     omega
   simp only [List.cons_append, takeFrom]
   rw [if_neg h1, if_neg (by rw [hn]; omega), hn]
   have e : n % 128 * 128 ^ i + n / 128 * 128 ^ (i + 1) = n * 128 ^ i := by
    rw [Nat.pow_succ, Nat.mul_comm (128 ^ i) 128, ← Nat.mul_assoc, ← Nat.add_mul]
    congr 1; omega
   have hd : n / 128 * 128 ^ (i + 1) < 18446744073709551616 := by omega
   rw [ih (n / 128) (by omega) _ (i + 1) hd (fun _ => by omega) (by omega)]
   have e2 : (n % 128 + 128) % 128 = n % 128 := by omega
   rw [e2]
   refine Prod.ext ?_ (Prod.ext ?_ rfl)
   ·show acc + n % 128 * 128 ^ i + n / 128 * 128 ^ (i + 1) = acc + n * 128 ^ i
    omega
   ·simp; omega
theorem take_put (n : Nat) (r : List UInt8) (h : n ≤ 18446744073709551615) : takeUint (putUint n ++ r) = (n, (putUint n).length, 0) := by
 unfold takeUint
 rw [takeFrom_put r n 0 0 (by omega) (by omega) (by omega)]
 simp
end Pl
namespace Pl
theorem text_back' (l r : List UInt8) (most : Nat) (h : l.length ≤ most) (hm : l.length ≤ 18446744073709551615) : takeText (putText l ++ r) most = (l, (putText l).length, 0) := by
 unfold takeText putText
 rw [List.append_assoc, take_put _ _ hm]
 simp only [ne_eq, not_true_eq_false, ↓reduceIte, List.length_append]
 rw [if_neg (by omega), if_neg (by omega)]
 simp
theorem little_length (n : Nat) : (little n).length = 4 := rfl
theorem takeFrame_form (s : List UInt8) (k : UInt8) (l r : List UInt8) (hs : s.length = 4) (hk : k ≠ 0) (hl : l.length ≤ 262144) :
  takeFrame (s ++ k :: (putText l ++ r)) = if little (sum (k :: putText l)) = s then ((k, l), 5 + (putText l).length, 0) else ((0, []), 0, 3) := by
 have e1 : (s ++ k :: (putText l ++ r)).drop 5 = putText l ++ r := by
  rw [List.drop_append, List.drop_of_length_le (by omega), hs]; rfl
 have e2 : (s ++ k :: (putText l ++ r)).getD 4 0 = k := by
  rw [List.getD, List.getElem?_append_right (by omega), hs]; rfl
 have e3 : (s ++ k :: (putText l ++ r)).take 4 = s := by rw [List.take_append, List.take_of_length_le (by omega), hs]; simp
 have e4 : ((s ++ k :: (putText l ++ r)).take (5 + (putText l).length)).drop 4 = k :: putText l := by
  rw [List.drop_take, List.drop_append, List.drop_of_length_le (by omega), hs]
  rw [show 5 + (putText l).length - 4 = (putText l).length + 1 from by omega]
  simp
 have e5 : ¬ (s ++ k :: (putText l ++ r)).length < 5 := by simp; omega
 have ht := text_back' l r 262144 hl (by omega)
 unfold takeFrame
 rw [if_neg e5, e2, if_neg hk, e1, ht]
 simp only [ne_eq, not_true_eq_false, ↓reduceIte]
 rw [e3, e4]
 by_cases h : little (sum (k :: putText l)) = s
 ·rw [if_neg (by simp [h]), if_pos h]
 ·rw [if_pos (by simp [h]), if_neg h]
theorem frame_length (k : UInt8) (l : List UInt8) : (frame k l).length = 5 + (putText l).length := by simp [frame, little_length]; omega
theorem takeFrame_back (k : UInt8) (l r : List UInt8) (hk : k ≠ 0) (hl : l.length ≤ 262144) : takeFrame (frame k l ++ r) = ((k, l), (frame k l).length, 0) := by
 have h := takeFrame_form (little (sum (k :: putText l))) k l r rfl hk hl
 rw [if_pos rfl] at h
 rw [frame_length, frame, List.append_assoc, List.cons_append, h]
end Pl
end Go.Proofs.YtogblcdefbnbeaaGreat
