
/- Plain law: numbers as bytes, seven bits each. Condition: none. -/
import Derived.Test.YtndekdgpibipnaaPlainA
namespace Go.Proofs.Ytndekdgpibipnaa.Pl

/-- a number as bytes, seven bits each -/
def putUint (n : Nat) : List UInt8 :=
  if n < 128 then [UInt8.ofNat n] else UInt8.ofNat (n % 128 + 128) :: putUint (n / 128)
termination_by n
decreasing_by omega

theorem putUint_last {n : Nat} (h : n < 128) : putUint n = [UInt8.ofNat n] := by rw [putUint, if_pos h]
theorem putUint_more {n : Nat} (h : ¬ n < 128) : putUint n = UInt8.ofNat (n % 128 + 128) :: putUint (n / 128) := by rw [putUint, if_neg h]

theorem putUint_step {n : Nat} (h : ¬ n < 128) (l : List UInt8) : l ++ putUint n = (l ++ [UInt8.ofNat (n % 128 + 128)]) ++ putUint (n / 128) := by
  rw [putUint_more h]; simp

theorem putUint_length (k n : Nat) (h : n < 128 ^ (k + 1)) : (putUint n).length ≤ k + 1 := by
  induction k generalizing n with
  | zero => rw [putUint_last (by simpa using h)]; simp
  | succ k ih =>
    by_cases h1 : n < 128
    · rw [putUint_last h1]; simp
    · rw [putUint_more h1]
      have : n / 128 < 128 ^ (k + 1) := by
        rw [Nat.div_lt_iff_lt_mul (by omega)]
        rw [Nat.pow_succ] at h
        exact h
      have := ih _ this
      simp; omega

theorem putUint_length64 (n : Nat) (h : n < 18446744073709551616) : (putUint n).length ≤ 10 :=
  putUint_length 9 n (by omega)
end Go.Proofs.Ytndekdgpibipnaa.Pl
