
/- Walks: filled texts. Condition: lengths up to 2 to the 40. -/
import Derived.Test.YtndekdgpibipnaaPlainFd
import Derived.Test.YtndekdgpibipnaaBytes
import Derived.IntWalk
namespace Go.Proofs.Ytndekdgpibipnaa
open Go.RowKit

theorem below_bytes {w W : World} {g i : Nat} {c : UInt8} (h : Below w.heap.size w W) (hg : w.heap.size ≤ g) : Below w.heap.size w (W.setCell ⟨g, i, none⟩ (.int .u8 (c.toNat : Int))) := h.setCell hg _

set_option maxRecDepth 100000 in
theorem filled_any (n : Int) (many : Nat) (hm : many ≤ 1099511627776) (w : World) :
    Calls Try.prog 16 #[.int .i64 n, .int .i64 (many : Int)] w fun e w' => e = .returned (.string (Pl.filled n many)) ∧ Below w.heap.size w w' := by
  have hmk := make_bytes many (by omega)
  go_enter Try.func16, Try.ntmps16
  go_wp2
  have hB0 := Bytes.new w (Pl.fillK n many 0)
  rw [Pl.fillK_zero] at hB0
  have hb0 : Below w.heap.size w (w.alloc (.cells (bcells (List.replicate many 0)).toArray 5)) := (Below.refl _ _).alloc (Nat.le_refl _) _
  rw [← Pl.fillK_zero n many] at hB0 hb0 ⊢
  go_loopw [6] (fun i wr => ∃ k : Nat, k ≤ many ∧ i = .int .i64 k ∧ Bytes wr w.heap.size (Pl.fillK n many k) ∧ Below w.heap.size w wr) (fun i _ => many - (intOf i).toNat)
  case atStart => exact ⟨0, by omega, rfl, hB0, hb0⟩
  case round =>
    obtain ⟨k, hk, rfl, hB, hb⟩ := hrel
    clear hB0 hb0
    by_cases h1 : k < many
    · have hc := hB.cell (i := k) (by rw [Pl.fillK_length n hk]; exact h1)
      have hz := hB.frozen k
      have hS := hB.set k (Pl.fb n k)
      rw [Pl.fillK_set n h1, Pl.fb_byte] at hS
      have hbS := below_bytes (i := k) (c := Pl.fb n k) hb (Nat.le_refl _)
      rw [Pl.fb_byte] at hbS
      have hw : (n + ((k % 7 : Nat) : Int)) % 256 = wrap64 (n + (k : Int) % 7) % 256 := by unfold wrap64; omega
      rw [hw] at hS hbS
      clear hB hb hw
      go_wp2
      go_roundw
      case rel => exact ⟨k + 1, by omega, by go_num, hS, hbS⟩
      case measure => simp [intOf]; omega
    · obtain rfl : many = k := by omega
      rw [Pl.fillK_all] at hB
      have hs := hB.str many
      rw [Pl.fillL_length] at hs
      go_wp2
      go_ret
      exact ⟨rfl, hb⟩

theorem filled256_any (n : Int) (w : World) :
    Calls Try.prog 16 #[.int .i64 n, .int .i64 256] w fun e w' => e = .returned (.string (Pl.filled n 256)) ∧ Below w.heap.size w w' := filled_any n 256 (by omega) w

/-- noughts -/
def Pl.zeros (n : Nat) : ByteArray := ⟨(List.replicate n (0 : UInt8)).toArray⟩
theorem Pl.zeros_size (n : Nat) : (Pl.zeros n).size = n := by
  show (List.replicate n (0 : UInt8)).toArray.size = n
  simp
set_option maxRecDepth 100000 in
theorem noughtsN_any (n : Nat) (hn : n ≤ 1099511627776) (w : World) :
    Calls Try.prog 22 #[.int .i64 (n : Int)] w fun e w' => e = .returned (.string (Pl.zeros n)) ∧ Below w.heap.size w w' := by
  have hmk := make_bytes n (by omega)
  have hB0 := Bytes.new w (List.replicate n (0 : UInt8))
  have hs := hB0.str n
  have hb0 : Below w.heap.size w (w.alloc (.cells (bcells (List.replicate n 0)).toArray 5)) := (Below.refl _ _).alloc (Nat.le_refl _) _
  rw [List.length_replicate] at hs
  go_enter Try.func22, Try.ntmps22
  go_wp2
  go_ret
  exact ⟨rfl, hb0⟩
theorem noughts_any (w : World) :
    Calls Try.prog 22 #[.int .i64 256] w fun e w' => e = .returned (.string (Pl.zeros 256)) ∧ Below w.heap.size w w' := noughtsN_any 256 (by omega) w
end Go.Proofs.Ytndekdgpibipnaa
