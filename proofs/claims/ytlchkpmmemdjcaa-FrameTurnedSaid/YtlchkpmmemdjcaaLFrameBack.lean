/- Walk: the law FrameBack returns true. Condition: bytes that fit the form's reach. -/
import Derived.Test.YtlchkpmmemdjcaaWTakeFrame
import Derived.Test.YtlchkpmmemdjcaaPlainL
namespace Go.Proofs.Ytlchkpmmemdjcaa
open Go.RowKit

/-- a beginning of a frame is none -/
theorem back_cut (k : UInt8) (l : List UInt8) (c : Int) (w : World) (hk : k ≠ 0) (hl : l.length ≤ 262144) (h : 0 ≤ c ∧ c < ((Pl.frame k l).length : Int)) (hF : (Pl.frame k l).length ≤ 262159) :
    Calls Try.prog 35 #[.string ((ByteArray.mk (Pl.frame k l).toArray).extract 0 c.toNat)] w fun e w' => e = .returned (.tuple #[.agg #[.int .u8 0, .string .empty], .int .i64 0, .int .i64 2]) ∧ Below w.heap.size w w' := by
  have hz : (ByteArray.mk (Pl.frame k l).toArray).size = (Pl.frame k l).length := rfl
  have hx := takeFrame_any ((ByteArray.mk (Pl.frame k l).toArray).extract 0 c.toNat) w (by rw [ByteArray.size_extract, hz]; omega)
  have e : ((ByteArray.mk (Pl.frame k l).toArray).extract 0 c.toNat).data.toList = (Pl.frame k l).take c.toNat := by rw [Pl.extract_mk]; simp
  rw [e, Pl.takeFrame_cut k l _ hk hl (by omega)] at hx
  exact hx

set_option maxRecDepth 100000 in
set_option maxHeartbeats 2000000 in
theorem frameBack_bad (k : UInt8) (l r : ByteArray) (cut : Int) (w : World) (h : k = 0 ∨ 262144 < l.size) :
    Calls Try.prog 9 #[.agg #[.int .u8 (k.toNat : Int), .string l], .string r, .int .i64 cut] w fun e w' => e = .returned (.bool true) ∧ Below w.heap.size w w' := by
  have P1 := Lib.hid (fun w => put_bad k l w h)
  have hb0 : Below w.heap.size w (w.alloc (.cells #[.int .u8 (k.toNat : Int), .string l] 32)) := (Below.refl _ w).alloc (Nat.le_refl _) _
  have fr0 := Fr.new w (k.toNat : Int) l 32
  by_cases h0 : k = 0
  · subst h0
    clear h
    go_enter Try.func9, Try.ntmps9
    go_wp2_with fail
    refine (P1.out _).mono ?_
    rintro e1 w1 ⟨rfl, b1⟩
    have ⟨f0, f1, fB⟩ := fr0.kept b1
    go_wp2_with fail
    go_ret
    exact ⟨ret_bool (by rfl), below_seq hb0 b1⟩
  · have hk := kind_ne h0
    have hp := kind_pos h0
    have hb : 262144 < l.size := by rcases h with h | h; exact absurd h h0; exact h
    have hb2 : (262144 : Int) < (l.size : Int) := by omega
    clear h
    go_enter Try.func9, Try.ntmps9
    go_wp2_with fail
    refine (P1.out _).mono ?_
    rintro e1 w1 ⟨rfl, b1⟩
    have ⟨f0, f1, fB⟩ := fr0.kept b1
    go_wp2_with fail
    go_ret
    exact ⟨ret_bool (by rfl), below_seq hb0 b1⟩

set_option maxRecDepth 100000 in
set_option maxHeartbeats 2000000 in
theorem frameBack_ok (k : UInt8) (l r : ByteArray) (cut : Int) (w : World) (h0 : k ≠ 0) (hs : l.size ≤ 262144) (hr : r.size ≤ 140737488351232) (hc0 : -9223372036854775808 ≤ cut) (hc1 : cut ≤ 9223372036854775807) :
    Calls Try.prog 9 #[.agg #[.int .u8 (k.toNat : Int), .string l], .string r, .int .i64 cut] w fun e w' => e = .returned (.bool true) ∧ Below w.heap.size w w' := by
  have hk := kind_ne h0
  have hp := kind_pos h0
  have P1 := Lib.hid (fun w => put_ok k l w h0 hs)
  have hl2 : l.data.toList.length ≤ 262144 := by rw [Pl.size_data]; exact hs
  have hl3 : (Pl.frame k l.data.toList).length ≤ 262159 := by
    have := Pl.putUint_length64 l.data.toList.length (by omega)
    rw [Pl.frame_length, Pl.putText, List.length_append]; omega
  have hz : (ByteArray.mk (Pl.frame k l.data.toList).toArray).size = (Pl.frame k l.data.toList).length := rfl
  have P2 := Lib.hid (fun w => takeFrame_any (⟨(Pl.frame k l.data.toList).toArray⟩ ++ r) w (by rw [ByteArray.size_append, hz]; omega))
  rw [data_mk_append, Pl.takeFrame_back k _ _ h0 hl2] at P2
  have P3 := fun (c : Int) (h : 0 ≤ c ∧ c < ((Pl.frame k l.data.toList).length : Int)) => Lib.hid (fun w => back_cut k l.data.toList c w h0 hl2 h hl3)
  have hb0 : Below w.heap.size w (w.alloc (.cells #[.int .u8 (k.toNat : Int), .string l] 32)) := (Below.refl _ w).alloc (Nat.le_refl _) _
  have fr0 := Fr.new w (k.toNat : Int) l 32
  clear hz
  unfold tupF at P2
  generalize Pl.frame k l.data.toList = F at P1 P2 P3 hl3
  go_enter Try.func9, Try.ntmps9
  go_wp2_with fail
  refine (P1.out _).mono ?_
  rintro e1 w1 ⟨rfl, b1⟩
  have fr1 := fr0.kept b1
  have ⟨f0, f1, fB⟩ := fr1
  have hb1 := below_seq hb0 b1
  go_wp2_with fail
  refine (P2.out _).mono ?_
  rintro e2 w2 ⟨rfl, b2⟩
  have fr2 := fr1.kept b2
  clear f0 f1 fB
  have ⟨f0, f1, fB⟩ := fr2
  have hb2 := below_seq hb1 b2
  have hb3 : Below w.heap.size w (w2.alloc (.cells #[.int .u8 (k.toNat : Int), .string ⟨l.data⟩] 32)) := hb2.alloc hb2.size _
  go_wp2_with fail
  all_goals first
    | (go_ret
       exact ⟨ret_bool (by rfl), hb3⟩)
    | (refine ((P3 cut (by assumption)).out _).mono ?_
       rintro e3 w3 ⟨rfl, b3⟩
       have hb4 := below_seq hb3 b3
       go_wp2_with fail
       go_ret
       exact ⟨ret_bool (by rfl), hb4.alloc hb4.size _⟩)
end Go.Proofs.Ytlchkpmmemdjcaa
