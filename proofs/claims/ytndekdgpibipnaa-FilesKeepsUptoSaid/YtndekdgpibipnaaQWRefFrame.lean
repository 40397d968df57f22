
/- Walks: the document's frames as bytes. Condition: loads of at most 2 to the 18 bytes, where bytes are made. -/
import Derived.Test.YtndekdgpibipnaaQWFrame

namespace Go.Proofs.Ytndekdgpibipnaa
open Go.RowKit

set_option maxRecDepth 100000 in
set_option maxHeartbeats 400000 in
theorem refPut_bad (k : UInt8) (l : ByteArray) (w : World) (h : k = 0 ∨ 262144 < l.size) :
    Calls Try.prog 65 #[.agg #[.int .u8 (k.toNat : Int), .string l]] w fun e w' =>
      e = .returned (.tuple #[.string ByteArray.empty, .int .i64 1]) ∧ Below w.heap.size w w' := by
  by_cases h0 : k = 0
  · subst h0
    clear h
    go_enter Try.func65, Try.ntmps65
    go_wp2_with fail
    go_ret2
    exact ⟨rfl, (Below.refl _ w).alloc (Nat.le_refl _) _⟩
  · have hk := kind_ne h0
    have hp := kind_pos h0
    have hb : 262144 < l.size := by rcases h with h | h; exact absurd h h0; exact h
    have hb2 : (262144 : Int) < (l.size : Int) := by omega
    clear h
    go_enter Try.func65, Try.ntmps65
    go_wp2_with fail
    go_ret2
    exact ⟨rfl, (Below.refl _ w).alloc (Nat.le_refl _) _⟩

set_option maxRecDepth 100000 in
set_option maxHeartbeats 2000000 in
theorem refPut_ok (k : UInt8) (l : ByteArray) (w : World) (h0 : k ≠ 0) (hs : l.size ≤ 262144) :
    Calls Try.prog 65 #[.agg #[.int .u8 (k.toNat : Int), .string l]] w fun e w' =>
      e = .returned (.tuple #[.string ⟨(Pl.frame k l.data.toList).toArray⟩, .int .i64 0]) ∧ Below w.heap.size w w' := by
  have hk := kind_ne h0
  have hp := kind_pos h0
  have hl : (Pl.putText l.data.toList).length ≤ 262154 := by
    have := Pl.putUint_length64 l.data.toList.length (by rw [Pl.size_data]; omega)
    rw [Pl.putText, List.length_append, Pl.size_data] at *; omega
  have P := Lib.hid (fun w => refPutText_any l w (by omega))
  go_enter Try.func65, Try.ntmps65
  go_wp2_with fail
  have kc := fun (w : World) (b : Nat) (h : w.cell? ⟨b, 0, none⟩ = some (.int .u8 (k.toNat : Int))) => str_at w b k h
  have fr0 := Fr.new w (k.toNat : Int) l 112
  have hb0 : Below w.heap.size w (w.alloc (.cells #[.int .u8 (k.toNat : Int), .string l] 112)) := (Below.refl _ w).alloc (Nat.le_refl _) _
  have hz : (ByteArray.mk (k :: Pl.putText l.data.toList).toArray).size ≤ 262155 := by
    show (k :: Pl.putText l.data.toList).toArray.size ≤ _
    simp; omega
  have hd : (ByteArray.mk (k :: Pl.putText l.data.toList).toArray).data.toList = k :: Pl.putText l.data.toList := rfl
  have hl4 : (Pl.little (Pl.sum (k :: Pl.putText l.data.toList))).length ≤ 4 := Nat.le_refl _
  have hl5 : (k :: Pl.putText l.data.toList).length ≤ 262155 := by simp; omega
  have P2 := Lib.hid (fun w => refSum_any (ByteArray.mk (k :: Pl.putText l.data.toList).toArray) w (by omega))
  have P3 := Lib.hid (fun w => refLittle_any (Pl.sum (k :: Pl.putText l.data.toList)) w (Pl.sum_le _))
  go_cut [4] (fun v wx => v = .string ⟨(k :: Pl.putText l.data.toList).toArray⟩ ∧ Below w.heap.size w wx)
  case first =>
    go_region_with (go_at_call 63; refine (P.out _).mono ?_; rintro e w1 ⟨rfl, b1⟩; (try (have kx := kind_cell b1)); have fr1 : Fr w.heap.size (k.toNat : Int) l w1 := (by first | exact fr0.kept b1 | exact (fr0.kept ((Below.refl _ _).drew)).kept b1 | exact (fr0.kept (((Below.refl _ _).alloc (Nat.le_refl _) _).drew)).kept b1); have ⟨f0, f1, fB⟩ := fr1; have bb : Below w.heap.size w w1 := (by first | exact below_seq hb0 b1 | exact below_seq hb0.drew b1 | exact below_seq ((hb0.alloc (by simp) _).drew) b1))
    all_goals
      go_wp2_with fail
      go_meet
      refine ⟨ret_cell (by apply ByteArray.ext; simp [ByteArray.data_append]), ?_⟩
      first
        | assumption
        | exact bb.alloc (Nat.le_of_lt fB) _
        | exact (bb.alloc (Nat.le_of_lt fB) _).drew
  case rest =>
    obtain ⟨rfl, hb⟩ := hcut
    go_wp2_with fail
    refine (P2.out _).mono ?_
    rintro e w2 ⟨rfl, q2⟩
    go_wp2_with fail
    refine (P3.out _).mono ?_
    rintro e w3 ⟨rfl, b3⟩
    go_wp2_with fail
    go_ret2
    exact ⟨ret_val (congrArg (fun s => Value.tuple #[Value.string s, .int .i64 0]) (frame_str _ _)), below_seq (below_seq hb (q2.below _)) b3⟩
end Go.Proofs.Ytndekdgpibipnaa
