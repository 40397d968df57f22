
/- Plain law: the versions of a level; how many links a look goes along. Condition: none. -/
import Derived.Test.YtcfcijgnkbmlaaaPlainTb
namespace Go.Proofs.Ytcfcijgnkbmlaaa.Pl

/-- of the first so many, those whose towers are higher than a level -/
def lvlN (xs : List Ver) (hs : List Nat) (lv : Nat) : Nat → List Ver
  | 0 => []
  | i + 1 => lvlN xs hs lv i ++ (if lv < hs.getD i 0 then (xs[i]?).toList else [])
theorem lvlN_skip {xs : List Ver} {hs : List Nat} {lv a : Nat} : ∀ {b : Nat}, a ≤ b → (∀ i, a ≤ i → i < b → hs.getD i 0 ≤ lv) → lvlN xs hs lv b = lvlN xs hs lv a
  | 0, h, _ => by have : a = 0 := by omega
                  rw [this]
  | b + 1, h, hm => by
    by_cases e : a = b + 1
    · rw [e]
    · rw [lvlN, if_neg (by have := hm b (by omega) (by omega); omega), List.append_nil]
      exact lvlN_skip (by omega) (fun i h1 h2 => hm i h1 (by omega))
theorem lvlN_hit {xs : List Ver} {hs : List Nat} {lv j : Nat} (h : lv < hs.getD j 0) (hj : j < xs.length) : lvlN xs hs lv (j + 1) = lvlN xs hs lv j ++ [xs[j]] := by
  rw [lvlN, if_pos h, List.getElem?_eq_getElem hj]; rfl
theorem lvlN_length (xs : List Ver) (hs : List Nat) (lv n : Nat) : (lvlN xs hs lv n).length ≤ n := by
  induction n with
  | zero => exact Nat.le_refl _
  | succ n ih =>
    rw [lvlN, List.length_append]
    have : (if lv < hs.getD n 0 then (xs[n]?).toList else []).length ≤ 1 := by
      split
      · cases xs[n]? <;> simp
      · simp
    omega
/-- of places from a to b, how many towers are higher than a level -/
def cntN (hs : List Nat) (lv a : Nat) : Nat → Nat
  | 0 => 0
  | b + 1 => if a ≤ b then cntN hs lv a b + (if lv < hs.getD b 0 then 1 else 0) else 0
theorem cntN_self (hs : List Nat) (lv a : Nat) : cntN hs lv a a = 0 := by
  cases a with
  | zero => rfl
  | succ a => rw [cntN, if_neg (by omega)]
theorem cntN_skip {hs : List Nat} {lv a q : Nat} (hq : a ≤ q) : ∀ {b : Nat}, q ≤ b → (∀ i, q ≤ i → i < b → hs.getD i 0 ≤ lv) → cntN hs lv a b = cntN hs lv a q
  | 0, h, _ => by have : q = 0 := by omega
                  rw [this]
  | b + 1, h, hm => by
    by_cases e : q = b + 1
    · rw [e]
    · rw [cntN, if_pos (by omega), if_neg (by have := hm b (by omega) (by omega); omega), Nat.add_zero]
      exact cntN_skip hq (by omega) (fun i h1 h2 => hm i h1 (by omega))
theorem cntN_hit {hs : List Nat} {lv a j : Nat} (h : lv < hs.getD j 0) (hj : a ≤ j) : cntN hs lv a (j + 1) = cntN hs lv a j + 1 := by
  rw [cntN, if_pos hj, if_pos h]
theorem cntN_le (hs : List Nat) (lv a b : Nat) : cntN hs lv a b ≤ b := by
  induction b with
  | zero => exact Nat.le_refl _
  | succ b ih =>
    rw [cntN]
    split
    · split <;> omega
    · omega
/-- the links at the levels below m, from a place on, of a look that stops behind k -/
def stp (hs : List Nat) (k : Nat) : Nat → Nat → Nat
  | 0, _ => 0
  | m + 1, p => cntN hs m p k + stp hs k m (pd hs m k)
theorem stp_le (hs : List Nat) (k : Nat) : ∀ m p, stp hs k m p ≤ m * k
  | 0, _ => by simp [stp]
  | m + 1, p => by
    have := stp_le hs k m (pd hs m k)
    have := cntN_le hs m p k
    rw [stp, Nat.succ_mul]; omega
end Go.Proofs.Ytcfcijgnkbmlaaa.Pl
