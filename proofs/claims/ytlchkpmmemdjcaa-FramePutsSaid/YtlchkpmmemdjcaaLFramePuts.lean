/- Walk: the law FramePuts returns true. Condition: a load whose length is an int. -/
import Derived.Test.YtlchkpmmemdjcaaWRefFrame
namespace Go.Proofs.Ytlchkpmmemdjcaa
open Go.RowKit

set_option maxRecDepth 100000 in
set_option maxHeartbeats 2000000 in
theorem framePuts_any (k : UInt8) (l : ByteArray) (w : World) (hs : l.size ≤ 9223372036854775807) :
    Calls Try.prog 5 #[.agg #[.int .u8 (k.toNat : Int), .string l]] w fun e w' => e = .returned (.bool true) ∧ Below w.heap.size w w' := by
  obtain ⟨v, P2, P3⟩ : ∃ v : ByteArray × Int, (∀ w, Calls Try.prog 21 #[.agg #[.int .u8 (k.toNat : Int), .string l]] w fun e w' => e = .returned (.tuple #[.string v.1, .int .i64 v.2]) ∧ Below w.heap.size w w') ∧
      (∀ w, Calls Try.prog 22 #[.agg #[.int .u8 (k.toNat : Int), .string l]] w fun e w' => e = .returned (.tuple #[.string v.1, .int .i64 v.2]) ∧ Below w.heap.size w w') := by
    by_cases h : k = 0 ∨ 262144 < l.size
    · exact ⟨(ByteArray.empty, 1), fun w => put_bad k l w h, fun w => refPut_bad k l w h⟩
    · have h1 : k ≠ 0 := fun e => h (Or.inl e)
      have h2 : l.size ≤ 262144 := by have : ¬ 262144 < l.size := fun e => h (Or.inr e); omega
      exact ⟨(⟨(Pl.frame k l.data.toList).toArray⟩, 0), fun w => put_ok k l w h1 h2, fun w => refPut_ok k l w h1 h2⟩
  obtain ⟨x, y⟩ := v
  have P2 := Lib.hid P2
  have P3 := Lib.hid P3
  have P1 := Lib.hid (fun w => sum_any l w hs)
  have P4 := Lib.hid (fun w => refSum_any l w hs)
  have hb0 : Below w.heap.size w (w.alloc (.cells #[.int .u8 (k.toNat : Int), .string l] 32)) := (Below.refl _ w).alloc (Nat.le_refl _) _
  have fr0 := Fr.new w (k.toNat : Int) l 32
  go_enter Try.func5, Try.ntmps5
  go_wp2_with fail
  refine (P1.out _).mono ?_
  rintro e w1 ⟨rfl, q1⟩
  have fr1 := fr0.kept (q1.below _)
  have ⟨f0, f1, fB⟩ := fr1
  go_wp2_with fail
  refine (P2.out _).mono ?_
  rintro e w2 ⟨rfl, b2⟩
  have fr2 := fr1.kept b2
  clear f0 f1 fB
  have ⟨f0, f1, fB⟩ := fr2
  go_wp2_with fail
  refine (P3.out _).mono ?_
  rintro e w3 ⟨rfl, b3⟩
  have fr3 := fr2.kept b3
  clear f0 f1 fB
  have ⟨f0, f1, fB⟩ := fr3
  go_wp2_with fail
  refine (P4.out _).mono ?_
  rintro e w4 ⟨rfl, q4⟩
  go_wp2_with fail
  go_ret
  exact ⟨ret_bool (by simp), below_seq (below_seq (below_seq (below_seq hb0 (q1.below _)) b2) b3) (q4.below _)⟩
end Go.Proofs.Ytlchkpmmemdjcaa
