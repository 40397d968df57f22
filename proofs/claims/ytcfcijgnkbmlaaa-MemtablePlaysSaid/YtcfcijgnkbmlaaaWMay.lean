
/- Walks: may a version be? Condition: none. -/
import Derived.Test.YtcfcijgnkbmlaaaWLess
import Derived.Test.YtcfcijgnkbmlaaaPlainTb
namespace Go.Proofs.Ytcfcijgnkbmlaaa
open Go.RowKit

theorem size_empty (s : ByteArray) : s.toList = [] ↔ s = ByteArray.empty := by
  rw [ByteArray.toList_eq]
  constructor
  · intro h
    rcases s with ⟨⟨l⟩⟩
    have : l = [] := h
    rw [this]; rfl
  · rintro rfl; rfl
theorem size_zero (s : ByteArray) : s.size = 0 ↔ s = ByteArray.empty := by
  rw [← size_empty, ByteArray.toList_eq, ← List.length_eq_zero_iff]; exact Iff.rfl

set_option maxRecDepth 100000 in
set_option maxHeartbeats 4000000 in
theorem mmay_any (k : ByteArray) (s : Nat) (d : Bool) (v : ByteArray) (w : World) :
    Calls Try.prog 45 #[.agg #[.string k, .int .u64 (s : Int), .bool d, .string v]] w fun e w' => e = .returned (.bool (Pl.mayM k s d v)) ∧ Below w.heap.size w w' := by
  have ⟨f0, f1, f2, f3, fB⟩ := VrAt.new w k (s : Int) d v 24
  unfold Pl.mayM
  go_enter Try.func45, Try.ntmps45
  go_wp2
  all_goals go_ret
  all_goals refine ⟨ret_bool ?_, (Below.refl _ _).alloc (Nat.le_refl _) _⟩
  all_goals have g1 := size_empty k
  all_goals have g2 := size_empty v
  all_goals have g3 := size_zero k
  all_goals have g4 := size_zero v
  all_goals rw [Bool.eq_iff_iff]
  all_goals simp_all
  all_goals have g3 := size_zero k
  all_goals have g4 := size_zero v
  all_goals grind

set_option maxRecDepth 100000 in
set_option maxHeartbeats 4000000 in
theorem refMayM_any (k : ByteArray) (s : Nat) (d : Bool) (v : ByteArray) (w : World) :
    Calls Try.prog 32 #[.agg #[.string k, .int .u64 (s : Int), .bool d, .string v]] w fun e w' => e = .returned (.bool (Pl.mayM k s d v)) ∧ Below w.heap.size w w' := by
  have ⟨f0, f1, f2, f3, fB⟩ := VrAt.new w k (s : Int) d v 24
  unfold Pl.mayM
  go_enter Try.func32, Try.ntmps32
  go_wp2
  all_goals go_ret
  all_goals refine ⟨ret_bool ?_, (Below.refl _ _).alloc (Nat.le_refl _) _⟩
  all_goals have g1 := size_empty k
  all_goals have g2 := size_empty v
  all_goals have g3 := size_zero k
  all_goals have g4 := size_zero v
  all_goals rw [Bool.eq_iff_iff]
  all_goals simp_all
  all_goals have g3 := size_zero k
  all_goals have g4 := size_zero v
  all_goals grind
end Go.Proofs.Ytcfcijgnkbmlaaa
