
/- Plain law: taking numbers from bytes. Condition: none. -/
import Derived.Test.YtndekdgpibipnaaPlainC
namespace Go.Proofs.Ytndekdgpibipnaa.Pl

/-- the number with which bytes begin, behind i bytes that made n: the number, how many bytes it has, what is wrong -/
def takeFrom (n i : Nat) : List UInt8 → Nat × Nat × Nat
  | [] => (0, 0, 2)
  | b :: r => if (i = 9 ∧ 1 < b.toNat) ∨ (0 < i ∧ b = 0) then (0, 0, 3) else if b.toNat < 128 then (n + b.toNat * 128 ^ i, i + 1, 0) else takeFrom (n + b.toNat % 128 * 128 ^ i) (i + 1) r
def takeUint (l : List UInt8) : Nat × Nat × Nat := takeFrom 0 0 l

theorem takeFrom_bound : ∀ (l : List UInt8) (n i : Nat), i ≤ 9 → n < 128 ^ i → (takeFrom n i l).1 ≤ 18446744073709551615 ∧ (takeFrom n i l).2.1 ≤ i + l.length ∧ (takeFrom n i l).2.1 ≤ 10
  | [], _, _, _, _ => by simp [takeFrom]
  | b :: r, n, i, hi, hn => by
    unfold takeFrom
    split
    · simp
    · rename_i h1
      split
      · rename_i h2
        simp only [List.length_cons]
        refine ⟨?_, by omega, by omega⟩
        have h3 : i = 9 ∨ i < 9 := by omega
        rcases h3 with rfl | h3
        · have : b.toNat ≤ 1 := by omega
          have h4 : b.toNat * 128 ^ 9 ≤ 1 * 128 ^ 9 := Nat.mul_le_mul_right _ this
          omega
        · have h4 : b.toNat * 128 ^ i ≤ 127 * 128 ^ i := Nat.mul_le_mul_right _ (by omega)
          have h5 : 128 ^ i ≤ 128 ^ 8 := Nat.pow_le_pow_right (by omega) (by omega)
          omega
      · rename_i h2
        have h3 : i < 9 := by
          rcases Nat.lt_or_ge i 9 with h | h
          · exact h
          · exfalso; apply h1; left; exact ⟨by omega, by omega⟩
        have h4 : n + b.toNat % 128 * 128 ^ i < 128 ^ (i + 1) := by
          have h5 : b.toNat % 128 * 128 ^ i ≤ 127 * 128 ^ i := Nat.mul_le_mul_right _ (by omega)
          rw [Nat.pow_succ]; omega
        have := takeFrom_bound r _ (i + 1) (by omega) h4
        simp only [List.length_cons]
        exact ⟨this.1, by omega, this.2.2⟩
theorem takeUint_bound (l : List UInt8) : (takeUint l).1 ≤ 18446744073709551615 ∧ (takeUint l).2.1 ≤ l.length ∧ (takeUint l).2.1 ≤ 10 := by
  have := takeFrom_bound l 0 0 (by omega) (by simp)
  exact ⟨this.1, by have h := this.2.1; rw [Nat.zero_add] at h; exact h, this.2.2⟩

section
variable {l : List UInt8} {n k : Nat} (hk : k < l.length)
include hk
theorem takeFrom_bad (h : (k = 9 ∧ 1 < (l[k]).toNat) ∨ (0 < k ∧ l[k] = 0)) : takeFrom n k (l.drop k) = (0, 0, 3) := by
  rw [List.drop_eq_getElem_cons hk]; unfold takeFrom; rw [if_pos h]
theorem takeFrom_last (h : ¬ ((k = 9 ∧ 1 < (l[k]).toNat) ∨ (0 < k ∧ l[k] = 0))) (h2 : (l[k]).toNat < 128) : takeFrom n k (l.drop k) = (n + (l[k]).toNat * 128 ^ k, k + 1, 0) := by
  rw [List.drop_eq_getElem_cons hk]; unfold takeFrom; rw [if_neg h, if_pos h2]
theorem takeFrom_more (h : ¬ ((k = 9 ∧ 1 < (l[k]).toNat) ∨ (0 < k ∧ l[k] = 0))) (h2 : ¬ (l[k]).toNat < 128) : takeFrom n k (l.drop k) = takeFrom (n + (l[k]).toNat % 128 * 128 ^ k) (k + 1) (l.drop (k + 1)) := by
  rw [List.drop_eq_getElem_cons hk]; conv => lhs; unfold takeFrom
  rw [if_neg h, if_neg h2]
end
theorem takeFrom_end {l : List UInt8} {n k : Nat} (h : l.length ≤ k) : takeFrom n k (l.drop k) = (0, 0, 2) := by rw [List.drop_eq_nil_of_le h]; rfl
theorem more_bound {n b k : Nat} (hn : n < 128 ^ k) : n + b % 128 * 128 ^ k < 128 ^ (k + 1) := by
  have h5 : b % 128 * 128 ^ k ≤ 127 * 128 ^ k := Nat.mul_le_mul_right _ (by omega)
  rw [Nat.pow_succ]; omega

theorem or_add {n b k : Nat} (hn : n < 128 ^ k) : n ||| b * 128 ^ k = n + b * 128 ^ k := by
  have e : (128 : Nat) ^ k = 2 ^ (7 * k) := by rw [show (128 : Nat) = 2 ^ 7 from rfl, ← Nat.pow_mul]
  rw [e] at hn ⊢
  have h := Nat.two_pow_add_eq_or_of_lt hn b
  rw [Nat.or_comm, Nat.mul_comm b, ← h, Nat.add_comm]
theorem pow_cast (k : Nat) : (2 : Int) ^ (7 * k) = ((128 ^ k : Nat) : Int) := by
  rw [Int.pow_mul]; simp
theorem or_u64 {n b k : Nat} (hn : n < 128 ^ k) (hb : b < 256) (hk : k ≤ 9) (h : k = 9 → b ≤ 1) : bits .or .u64 (n : Int) ((b : Int) * ((128 ^ k : Nat) : Int)) = ((n + b * 128 ^ k : Nat) : Int) ∧ b * 128 ^ k < 18446744073709551616 := by
  have h1 : 128 ^ k ≤ 128 ^ 9 := Nat.pow_le_pow_right (by omega) hk
  have h2 : b * 128 ^ k < 18446744073709551616 := by
    rcases Nat.lt_or_ge k 9 with h9 | h9
    · have h3 : 128 ^ k ≤ 128 ^ 8 := Nat.pow_le_pow_right (by omega) (by omega)
      have h4 : b * 128 ^ k ≤ 255 * 128 ^ 8 := Nat.mul_le_mul (by omega) h3
      omega
    · have h4 : b * 128 ^ k ≤ 1 * 128 ^ 9 := Nat.mul_le_mul (h (by omega)) h1
      omega
  refine ⟨?_, h2⟩
  rw [← Int.natCast_mul, u64_or_nat _ _ (by omega) h2, or_add hn]
theorem or_last {n b k : Nat} (hn : n < 128 ^ k) (hb : b < 256) (hk : k < 9) : bits .or .u64 (n : Int) (IntKind.u64.wrap ((b : Int) * 2 ^ (7 * k))) = ((n + b * 128 ^ k : Nat) : Int) := by
  obtain ⟨h1, h2⟩ := or_u64 hn hb (by omega) (by omega)
  rw [pow_cast, IntKind.wrap_u64, Int.emod_eq_of_lt (by rw [← Int.natCast_mul]; omega) (by rw [← Int.natCast_mul]; omega)]
  exact h1
theorem or_nine {n b : Nat} (hn : n < 128 ^ 9) (hb : b ≤ 1) : bits .or .u64 (n : Int) ((b : Int) * 9223372036854775808) = ((n + b * 128 ^ 9 : Nat) : Int) :=
  (or_u64 hn (by omega) (Nat.le_refl _) (fun _ => hb)).1
theorem and127 (b : Nat) (hb : b < 256) : IntKind.u64.wrap (bits .and .u8 (b : Int) 127) = ((b % 128 : Nat) : Int) := by
  have h : ∀ k : Nat, k < 256 → bits .and .u8 (k : Int) 127 = ((k % 128 : Nat) : Int) := by decide +kernel
  rw [h b hb, IntKind.wrap_u64]
  omega
theorem ref_num {n b P k : Nat} (hP : P = 128 ^ k) (hn : n < 128 ^ k) (hk : k ≤ 9) (h : k = 9 → b ≤ 1) :
    IntKind.u64.wrap ((n : Int) + IntKind.u64.wrap ((b : Int) % 128 * (P : Int))) = ((n + b % 128 * 128 ^ k : Nat) : Int) := by
  subst hP
  obtain ⟨_, h2⟩ := or_u64 (b := b % 128) hn (by omega) hk (by omega)
  have h3 : n + b % 128 * 128 ^ k < 18446744073709551616 := by
    rcases Nat.lt_or_ge k 9 with h9 | h9
    · have h3 : 128 ^ k ≤ 128 ^ 8 := Nat.pow_le_pow_right (by omega) (by omega)
      have h4 : b % 128 * 128 ^ k ≤ 127 * 128 ^ k := Nat.mul_le_mul_right _ (by omega)
      omega
    · obtain rfl : k = 9 := by omega
      have h4 : b % 128 * 128 ^ 9 ≤ 1 * 128 ^ 9 := Nat.mul_le_mul_right _ (by have := h rfl; omega)
      omega
  have e : (b : Int) % 128 * ((128 ^ k : Nat) : Int) = ((b % 128 * 128 ^ k : Nat) : Int) := by rw [Int.natCast_mul]; rfl
  rw [e, IntKind.wrap_u64, IntKind.wrap_u64]
  generalize b % 128 * 128 ^ k = x at *
  omega
theorem ref_place {P k : Nat} (hP : P = 128 ^ k) (hk : k < 9) : IntKind.u64.wrap ((P : Int) * 128) = ((128 ^ (k + 1) : Nat) : Int) := by
  subst hP
  have h3 : 128 ^ k ≤ 128 ^ 8 := Nat.pow_le_pow_right (by omega) (by omega)
  rw [Nat.pow_succ, IntKind.wrap_u64]
  generalize 128 ^ k = x at *
  omega
end Go.Proofs.Ytndekdgpibipnaa.Pl
