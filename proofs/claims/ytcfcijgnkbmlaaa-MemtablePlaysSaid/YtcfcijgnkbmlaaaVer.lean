
/- Versions: their order, in the spelling of the walks. Condition: none. -/
import Derived.Test.YtcfcijgnkbmlaaaBase
import Derived.Test.YtcfcijgnkbmlaaaPlainE
namespace Go.Proofs.Ytcfcijgnkbmlaaa
open Go.RowKit

/-- a version -/
structure Ver where
  key : ByteArray
  seq : Nat
  del : Bool
  val : ByteArray

/-- as a value -/
def Ver.v (x : Ver) : Value := .agg #[.string x.key, .int .u64 (x.seq : Int), .bool x.del, .string x.val]

/-- does one stand ahead of another one? -/
def lessV (ka : ByteArray) (sa : Nat) (kb : ByteArray) (sb : Nat) : Bool := Op.bytesLess ka.toList kb.toList || (ka.toList == kb.toList && decide (sb < sa))
/-- are they of one place? -/
def placeV (ka : ByteArray) (sa : Nat) (kb : ByteArray) (sb : Nat) : Bool := ka.toList == kb.toList && sa == sb

theorem nat_beq (a b : Nat) : ((a : Int) == (b : Int)) = (a == b) := by
  rw [Bool.eq_iff_iff]; simp only [beq_iff_eq]; omega

theorem lessV_asymm (ka : ByteArray) (sa : Nat) (kb : ByteArray) (sb : Nat) : (lessV ka sa kb sb && lessV kb sb ka sa) = false := by
  rw [Bool.and_eq_false_iff]
  by_cases h : lessV ka sa kb sb = true
  · right
    unfold lessV at *
    rw [Bool.or_eq_true] at h
    rcases h with h | h
    · rw [Pl.lt_asymm h]
      have hne : (kb.toList == ka.toList) = false := by
        rw [beq_eq_false_iff_ne]; intro e; rw [e, Pl.lt_irrefl] at h; cases h
      rw [hne]; rfl
    · rw [Bool.and_eq_true, decide_eq_true_eq, beq_iff_eq] at h
      rw [h.1, Pl.lt_irrefl]
      simp; omega
  · left; simpa using h
theorem lessV_total (ka : ByteArray) (sa : Nat) (kb : ByteArray) (sb : Nat) : (lessV ka sa kb sb || lessV kb sb ka sa) = !placeV ka sa kb sb := by
  unfold lessV placeV
  by_cases e : ka.toList = kb.toList
  · rw [e, Pl.lt_irrefl]
    simp
    by_cases h : sa = sb
    · simp [h]
    · have h1 : (sa == sb) = false := by simpa using h
      rw [h1]
      rcases Nat.lt_or_gt_of_ne h with h | h
      · have : decide (sa < sb) = true := by simpa using h
        simp [this]
      · have : decide (sb < sa) = true := by simpa using h
        simp [this]
  · have h1 : (ka.toList == kb.toList) = false := by simpa using e
    have h2 : (kb.toList == ka.toList) = false := by simpa using fun h => e h.symm
    rw [h1, h2]
    cases h : Op.bytesLess ka.toList kb.toList
    · simp [Pl.lt_total h e]
    · simp
/-- a version lies in a variable -/
def VrAt (B : Nat) (k : ByteArray) (s : Int) (d : Bool) (v : ByteArray) (W : World) : Prop :=
  W.cell? ⟨B, 0, none⟩ = some (.string k) ∧ W.cell? ⟨B, 1, none⟩ = some (.int .u64 s) ∧ W.cell? ⟨B, 2, none⟩ = some (.bool d) ∧ W.cell? ⟨B, 3, none⟩ = some (.string v) ∧ B < W.heap.size
theorem VrAt.kept {B : Nat} {k : ByteArray} {s : Int} {d : Bool} {v : ByteArray} {W W' : World} (h : VrAt B k s d v W) (hb : Below W.heap.size W W') : VrAt B k s d v W' := by
  obtain ⟨h0, h1, h2, h3, hB⟩ := h
  have hs := hb.size
  exact ⟨(hb.cell (p := ⟨B, 0, none⟩) hB).trans h0, (hb.cell (p := ⟨B, 1, none⟩) hB).trans h1, (hb.cell (p := ⟨B, 2, none⟩) hB).trans h2, (hb.cell (p := ⟨B, 3, none⟩) hB).trans h3, by omega⟩
theorem VrAt.new (w : World) (k : ByteArray) (s : Int) (d : Bool) (v : ByteArray) (t : TypeId) : VrAt w.heap.size k s d v (w.alloc (.cells #[.string k, .int .u64 s, .bool d, .string v] t)) :=
  ⟨World.cell?_alloc_mark w _ t (0, 0) 0, World.cell?_alloc_mark w _ t (0, 0) 1, World.cell?_alloc_mark w _ t (0, 0) 2, World.cell?_alloc_mark w _ t (0, 0) 3, by simp⟩
theorem VrAt.alloc {B : Nat} {k : ByteArray} {s : Int} {d : Bool} {v : ByteArray} {W : World} (h : VrAt B k s d v W) (o : Obj) : VrAt B k s d v (W.alloc o) :=
  h.kept ((Below.refl _ _).alloc (Nat.le_refl _) _)
theorem below_seq {w w1 w2 : World} (h : Below w.heap.size w w1) (h2 : Below w1.heap.size w1 w2) : Below w.heap.size w w2 := h.trans (h2.mono h.size)
end Go.Proofs.Ytcfcijgnkbmlaaa
