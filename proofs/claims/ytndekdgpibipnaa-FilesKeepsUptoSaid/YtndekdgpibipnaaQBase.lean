
/- Small helpers for the walks: endings, worlds that differ by draws alone, hidden facts. Condition: none. -/
import Derived.Test.YtndekdgpibipnaaRows
import Derived.WalkKit
import Derived.WalkSpells
import Derived.WalkLawsBesides
import Derived.Deep.QuietTactic
import Derived.BigQuiet
import Derived.Lib.Hide

namespace Go.Proofs.Ytndekdgpibipnaa
open Go.RowKit

theorem ret_int {k : IntKind} {a b : Int} (h : a = b) : Ending.returned (.int k a) = .returned (.int k b) := by rw [h]
theorem ret_bool {a b : Bool} (h : a = b) : Ending.returned (.bool a) = .returned (.bool b) := by rw [h]
theorem ret_str {a b : ByteArray} (h : a = b) : Ending.returned (.string a) = .returned (.string b) := by rw [h]
theorem ret_val {a b : Value} (h : a = b) : Ending.returned a = .returned b := by rw [h]

/-- w1 is w behind some draws -/
def Q (w w1 : World) : Prop := ∃ n, w1 = w.drewN n
theorem Q.refl (w : World) : Q w w := ⟨0, rfl⟩
theorem Q.drewN {w w1 : World} (h : Q w w1) (n : Nat) : Q w (w1.drewN n) := by
  obtain ⟨m, rfl⟩ := h; exact ⟨m + n, by rw [World.drewN_drewN]⟩
theorem Q.drew {w w1 : World} (h : Q w w1) : Q w w1.drew := h.drewN 1
theorem Q.trans {w w1 w2 : World} (h : Q w w1) (h2 : Q w1 w2) : Q w w2 := by
  obtain ⟨m, rfl⟩ := h2; exact h.drewN m
theorem Q.below {w w1 : World} (h : Q w w1) (B : Nat) : Below B w w1 := by
  obtain ⟨m, rfl⟩ := h; exact below_drewN (Below.refl _ _) m

/-- a number of 64 bits -/
structure U64 (m : Nat) : Prop where
  lt : ∃ k, m + k = 18446744073709551615
theorem U64.le {m : Nat} (h : U64 m) : m ≤ 18446744073709551615 := by obtain ⟨k, hk⟩ := h.lt; omega
theorem U64.mk' {m : Nat} (h : m ≤ 18446744073709551615) : U64 m := ⟨⟨18446744073709551615 - m, by omega⟩⟩
theorem U64.of {m n : Nat} (h : U64 n) (hm : m ≤ n) : U64 m := by have := h.le; exact .mk' (by omega)
theorem U64.div {m : Nat} (h : U64 m) (k : Nat) : U64 (m / k) := h.of (Nat.div_le_self _ _)

theorem byte_eq {x y : UInt8} (h : (((x.toNat : Nat) : Int) != ((y.toNat : Nat) : Int)) = false) : x = y := by
  have h' : (x.toNat : Int) = (y.toNat : Int) := by simpa using h
  exact UInt8.toNat_inj.1 (by omega)
theorem byte_ne {x y : UInt8} (h : (((x.toNat : Nat) : Int) != ((y.toNat : Nat) : Int)) = true) : x ≠ y := by
  intro e; rw [e] at h; simp at h
theorem byte_eq' {x y : UInt8} (h : (((x.toNat : Nat) : Int) == ((y.toNat : Nat) : Int)) = true) : x = y := by
  have h' : (x.toNat : Int) = (y.toNat : Int) := by simpa using h
  exact UInt8.toNat_inj.1 (by omega)
theorem byte_ne' {x y : UInt8} (h : (((x.toNat : Nat) : Int) == ((y.toNat : Nat) : Int)) = false) : x ≠ y := by
  intro e; rw [e] at h; simp at h
theorem byte_lt (x : UInt8) : x.toNat ≤ 255 := by have := x.toNat_lt; omega
end Go.Proofs.Ytndekdgpibipnaa
