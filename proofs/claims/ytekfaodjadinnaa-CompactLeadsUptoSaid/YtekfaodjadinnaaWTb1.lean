
/- Walks: may a table be, is a number among some, does a table overlap? Condition: none. -/
import Derived.Test.YtekfaodjadinnaaTb
import Derived.Deep.QuietTactic
import Derived.Deep.DeepCutAuto
import Derived.BigQuiet
import Derived.IntWalk
import Derived.Lib.Hide
namespace Go.Proofs.Ytekfaodjadinnaa
open Go.RowKit

namespace Pl
/-- has a table a key from .. to ..? -/
def overB (x : Tb) (lo hi : ByteArray) : Bool := leS lo x.greatest && leS x.least hi
def mayT (x : Tb) : Bool := decide (1 ≤ x.num ∧ x.num ≤ 4611686018427387904 ∧ 0 ≤ x.level ∧ x.level < 4 ∧ 1 ≤ x.size ∧ x.size ≤ 1073741824 ∧ 1 ≤ x.count ∧ x.count ≤ 1073741824 ∧ 1 ≤ x.least.size ∧ x.least.size ≤ 96 ∧ 1 ≤ x.greatest.size ∧ x.greatest.size ≤ 96 ∧ leS x.least x.greatest = true)
end Pl

set_option maxRecDepth 100000 in
set_option maxHeartbeats 800000 in
theorem among_any (l : List Nat) (n : Nat) (v : Value) (w : World) (hv : NumsAt w v l) :
    Calls Try.prog 39 #[v, .int .u64 (n : Int)] w fun e w' => e = .returned (.bool (decide (n ∈ l))) ∧ w' = w := by
  obtain ⟨ao, cap, rfl, h1, h2, hc⟩ := hv
  obtain ⟨res, hres⟩ : ∃ res, res = decide (n ∈ l) := ⟨_, rfl⟩
  rw [← hres]
  replace hres := Lib.hid hres
  go_enter Try.func39, Try.ntmps39
  go_wp2
  go_loopw [5] (fun i W' => ∃ k : Nat, k ≤ l.length ∧ i = .int .i64 (k : Int) ∧ W' = w ∧ n ∉ l.take k) (fun i _ => l.length - (intOf i).toNat)
  case atStart => exact ⟨0, Nat.zero_le _, rfl, rfl, by simp⟩
  case round =>
    obtain ⟨k, hk, rfl, rfl, hno⟩ := hrel
    by_cases hkl : k < l.length
    case neg =>
      obtain rfl : k = l.length := by omega
      rw [List.take_of_length_le (Nat.le_refl _)] at hno
      have hr : res = false := by rw [hres.out]; exact decide_eq_false hno
      subst hr
      clear hno
      go_wp2
      go_ret
      exact ⟨rfl, rfl⟩
    obtain ⟨b, off, rfl, hb, hcs⟩ := hc (by omega)
    have hx := hcs k hkl
    have hno1 : n ≠ l[k] → n ∉ l.take (k + 1) := fun h hm => by
      rw [List.take_succ_eq_append_getElem hkl] at hm
      rcases List.mem_append.1 hm with h1 | h1
      · exact hno h1
      · exact h (List.mem_singleton.1 h1)
    have hyes : n = l[k] → res = true := fun h => by rw [hres.out]; exact decide_eq_true (h ▸ List.getElem_mem hkl)
    replace hno1 := Lib.hid hno1
    replace hyes := Lib.hid hyes
    clear hcs hno
    generalize l[k] = m at *
    by_cases he : n = m
    · subst he
      have hr := hyes.out rfl
      subst hr
      go_wp2
      go_ret
      exact ⟨rfl, rfl⟩
    · have hne : ((m : Int) == (n : Int)) = false := by simp; omega
      go_wp2
      go_roundw
      case rel => exact ⟨k + 1, by omega, by go_num, trivial, hno1.out he⟩
      case measure => simp [intOf]; omega

set_option maxRecDepth 100000 in
set_option maxHeartbeats 800000 in
theorem overlap_any (x : Pl.Tb) (lo hi : ByteArray) (w : World) :
    Calls Try.prog 14 #[.agg #[.int .u64 (x.num : Int), .int .i64 x.level, .int .i64 x.size, .int .i64 x.count, .string x.least, .string x.greatest], .string lo, .string hi] w fun e w' => e = .returned (.bool (Pl.overB x lo hi)) ∧ Below w.heap.size w w' := by
  go_enter Try.func14, Try.ntmps14
  go_wp2
  · rename_i h
    go_ret
    exact ⟨ret_bool (by simp [Pl.overB, Pl.leS, h]), (Below.refl _ _).alloc (Nat.le_refl _) _⟩
  · rename_i h
    go_ret
    have h' : Op.bytesLess x.greatest.toList lo.toList = false := by simpa using h
    exact ⟨ret_bool (by simp [Pl.overB, Pl.leS, h']), (Below.refl _ _).alloc (Nat.le_refl _) _⟩

set_option maxRecDepth 100000 in
set_option maxHeartbeats 1600000 in
theorem mayTable_any (x : Pl.Tb) (w : World) :
    Calls Try.prog 71 #[.agg #[.int .u64 (x.num : Int), .int .i64 x.level, .int .i64 x.size, .int .i64 x.count, .string x.least, .string x.greatest]] w fun e w' => e = .returned (.bool (Pl.mayT x)) ∧ Below w.heap.size w w' := by
  go_enter Try.func71, Try.ntmps71
  go_wp2
  all_goals
    go_ret
    refine ⟨ret_bool ?_, (Below.refl _ _).alloc (Nat.le_refl _) _⟩
    unfold Pl.mayT
    symm
    first
      | (apply decide_eq_false; rintro ⟨h1, h2, h3, h4, h5, h6, h7, h8, h9, h10, h11, h12, h13⟩; omega)
      | (rw [Pl.leS_or]
         cases hl : Pl.leS x.least x.greatest
         · apply decide_eq_false
           rintro ⟨h1, h2, h3, h4, h5, h6, h7, h8, h9, h10, h11, h12, h13⟩
           cases h13
         · apply decide_eq_true
           refine ⟨?_, ?_, ?_, ?_, ?_, ?_, ?_, ?_, ?_, ?_, ?_, ?_, rfl⟩
           all_goals omega)
end Go.Proofs.Ytekfaodjadinnaa
