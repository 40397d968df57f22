/- Plain law: heights of towers. Condition: none. -/
import Derived.Test.YtcfcijgnkbmlaaaPlainC
namespace Go.Proofs.Ytcfcijgnkbmlaaa.Pl

/-- how much higher a tower grows, of a number's bits, at most so many -/
def grow : Nat → Nat → Nat
  | 0, _ => 0
  | k + 1, x => if x % 4 = 0 then grow k (x / 4) + 1 else 0
/-- the height of a version's tower -/
def height (seed seq : Nat) : Nat := 1 + grow 7 (mix (seed ^^^ mix seq))
theorem grow_yes {k x : Nat} (h : x % 4 = 0) : grow (k + 1) x = grow k (x / 4) + 1 := by simp [grow, h]
theorem grow_no {k x : Nat} (h : ¬ x % 4 = 0) : grow k x = 0 := by cases k <;> simp [grow, h]
theorem and3 (x : Nat) (h : x < 18446744073709551616) : bits .and .u64 (x : Int) 3 = ((x % 4 : Nat) : Int) := by
  rw [show (3 : Int) = ((3 : Nat) : Int) from rfl, u64_and_nat _ _ h (by omega), show (3 : Nat) = 2 ^ 2 - 1 from rfl, Nat.and_two_pow_sub_one_eq_mod]
theorem xor_u64 (a b : Nat) (ha : a < 18446744073709551616) (hb : b < 18446744073709551616) : bits .xor .u64 (a : Int) (b : Int) = ((a ^^^ b : Nat) : Int) := u64_xor_nat _ _ ha hb
theorem xor_lt64 {a b : Nat} (ha : a < 18446744073709551616) (hb : b < 18446744073709551616) : a ^^^ b < 18446744073709551616 := Nat.xor_lt_two_pow (n := 64) ha hb
end Go.Proofs.Ytcfcijgnkbmlaaa.Pl
