
/- Plain law: taking numbers with a sign, texts and words. Condition: none. -/
import Derived.Test.YtndekdgpibipnaaPlainF
import Derived.Lib.Zigzag
import Derived.WalkSmall
import Derived.IntWalk
namespace Go.Proofs.Ytndekdgpibipnaa.Pl
open Go.RowKit (wrap64)

/-- a number without a sign as one with a sign -/
def zag (n : Nat) : Int := if n % 2 = 1 then -((n / 2 : Nat) : Int) - 1 else ((n / 2 : Nat) : Int)

theorem xor_zero_i64 (x : Nat) (hx : x < 9223372036854775808) : bits .xor .i64 (x : Int) 0 = (x : Int) := by
  show IntKind.i64.wrap ((BitVec.ofInt 64 (x : Int) ^^^ BitVec.ofInt 64 0).toNat : Int) = _
  have h2 : (BitVec.ofInt 64 (x : Int)).toNat = x := by
    rw [BitVec.ofInt_natCast, BitVec.toNat_ofNat]; exact Nat.mod_eq_of_lt (by omega)
  have h1 : (BitVec.ofInt 64 0).toNat = 0 := by decide
  rw [BitVec.toNat_xor, h1, h2, Nat.xor_zero, IntKind.wrap_i64]
  omega
theorem xor_comm_i64 (a b : Int) : bits .xor .i64 a b = bits .xor .i64 b a := by
  show IntKind.i64.wrap ((BitVec.ofInt 64 a ^^^ BitVec.ofInt 64 b).toNat : Int) = IntKind.i64.wrap ((BitVec.ofInt 64 b ^^^ BitVec.ofInt 64 a).toNat : Int)
  rw [BitVec.xor_comm]
theorem zag_bits (n : Nat) (h : n ≤ 18446744073709551615) :
    bits .xor .i64 (wrap64 ((n : Int) / 2)) (wrap64 (-wrap64 (bits .and .u64 (n : Int) 1))) = zag n := by
  rw [Lib.u64_and1 _ (by omega) (by omega), IntWalk.wrap64_in ((n : Int) / 2) ⟨by omega, by omega⟩, IntWalk.wrap64_in ((n : Int) % 2) ⟨by omega, by omega⟩, IntWalk.wrap64_in (-((n : Int) % 2)) ⟨by omega, by omega⟩]
  unfold zag
  by_cases h1 : n % 2 = 1
  · rw [if_pos h1, show -((n : Int) % 2) = -1 from by omega, xor_comm_i64, show (n : Int) / 2 = ((n / 2 : Nat) : Int) from by omega, Lib.i64_not _ (by omega)]
  · rw [if_neg h1, show -((n : Int) % 2) = 0 from by omega, show (n : Int) / 2 = ((n / 2 : Nat) : Int) from by omega, xor_zero_i64 _ (by omega)]
theorem zag_odd (n : Nat) (h : n ≤ 18446744073709551615) (h1 : ((n : Int) % 2 == 1) = true) : wrap64 (wrap64 (-wrap64 (IntKind.u64.wrap ((n : Int) / 2))) - 1) = zag n := by
  have h2 : (n : Int) % 2 = 1 := by simpa using h1
  rw [IntWalk.u64_in _ ⟨by omega, by omega⟩, IntWalk.wrap64_in ((n : Int) / 2) ⟨by omega, by omega⟩, IntWalk.wrap64_in (-((n : Int) / 2)) ⟨by omega, by omega⟩, IntWalk.wrap64_in _ ⟨by omega, by omega⟩]
  unfold zag
  rw [if_pos (by omega)]
  omega
theorem zag_even (n : Nat) (h : n ≤ 18446744073709551615) (h1 : ((n : Int) % 2 == 1) = false) : wrap64 (IntKind.u64.wrap ((n : Int) / 2)) = zag n := by
  have h2 : ¬ (n : Int) % 2 = 1 := by simpa using h1
  rw [IntWalk.u64_in _ ⟨by omega, by omega⟩, IntWalk.wrap64_in ((n : Int) / 2) ⟨by omega, by omega⟩]
  unfold zag
  rw [if_neg (by omega)]
  omega

/-- the text with which bytes begin, of at most so many bytes; how many bytes; what is wrong -/
def takeText (l : List UInt8) (most : Nat) : List UInt8 × Nat × Nat :=
  if (takeUint l).2.2 ≠ 0 then ([], 0, (takeUint l).2.2) else if most < (takeUint l).1 then ([], 0, 3)
  else if l.length - (takeUint l).2.1 < (takeUint l).1 then ([], 0, 2) else ((l.drop (takeUint l).2.1).take (takeUint l).1, (takeUint l).2.1 + (takeUint l).1, 0)

/-- eight bytes as a word -/
def word (l : List UInt8) : Nat := l.foldl (fun n b => n * 256 + b.toNat) 0
theorem word_snoc (l : List UInt8) (b : UInt8) : word (l ++ [b]) = word l * 256 + b.toNat := by simp [word]
theorem word_take {l : List UInt8} {k : Nat} (h : k < l.length) : word (l.take (k + 1)) = word (l.take k) * 256 + (l[k]).toNat := by
  rw [List.take_succ_eq_append_getElem h, word_snoc]
theorem word_lt : ∀ (k : Nat) (l : List UInt8), l.length ≤ k → word l < 256 ^ k := by
  intro k
  induction k with
  | zero =>
    intro l h
    have : l = [] := List.length_eq_zero_iff.1 (by omega)
    subst this; simp [word]
  | succ k ih =>
    intro l h
    rcases List.eq_nil_or_concat l with rfl | ⟨r, b, rfl⟩
    · have : 0 < 256 ^ (k + 1) := Nat.pow_pos (by omega)
      simpa [word] using this
    · rw [List.concat_eq_append, word_snoc]
      have h1 := ih r (by simp at h; omega)
      have h2 := b.toNat_lt
      rw [Nat.pow_succ]
      omega
/-- a word as a number with a sign -/
def down (n : Nat) : Int := (n : Int) - 9223372036854775808
theorem down_bits (n : Nat) (h : n < 18446744073709551616) : wrap64 (bits .xor .u64 (n : Int) 9223372036854775808) = down n := by
  have e2 : (9223372036854775808 : Int) = ((2 ^ 63 : Nat) : Int) := by decide
  rw [e2, u64_xor_nat _ _ h (by decide), xor_top _ (by omega)]
  unfold down wrap64
  omega
theorem or_byte (n b : Nat) (hn : n < 72057594037927936) (hb : b < 256) : bits .or .u64 (IntKind.u64.wrap ((n : Int) * 256)) (b : Int) = ((n * 256 + b : Nat) : Int) := by
  have e : IntKind.u64.wrap ((n : Int) * 256) = ((n * 256 : Nat) : Int) := by rw [IntWalk.u64_in _ ⟨by omega, by omega⟩]; omega
  rw [e, u64_or_nat _ _ (by omega) (by omega)]
  have h := Nat.two_pow_add_eq_or_of_lt (i := 8) (b := b) (by omega) n
  rw [Nat.mul_comm n, show (256 : Nat) = 2 ^ 8 from rfl, ← h]
end Go.Proofs.Ytndekdgpibipnaa.Pl
