/- Walk: the law CodecTakes returns true. Condition: a length that a text may have. -/
import Derived.Test.YtlchkpmmemdjcaaWTake3
import Derived.Test.YtlchkpmmemdjcaaWTake4
namespace Go.Proofs.Ytlchkpmmemdjcaa
open Go.RowKit

theorem keyInt_form (l : List UInt8) : ∃ (a b c : Int), keyInt l = .tuple #[.int .i64 a, .int .i64 b, .int .i64 c] := by
  unfold keyInt
  split
  · exact ⟨_, _, _, rfl⟩
  · exact ⟨_, _, _, rfl⟩

set_option maxRecDepth 100000 in
set_option maxHeartbeats 1000000 in
theorem codecTakes_any (s : ByteArray) (most : Int) (w : World) (hs : s.size ≤ 140737488351232) (hm0 : -9223372036854775808 ≤ most) (hm1 : most ≤ 9223372036854775807) :
    Calls Try.prog 8 #[.string s, .int .i64 most] w fun e w' => e = .returned (.bool true) ∧ Below w.heap.size w w' := by
  have c1 := fun w => takeUint_any s w (by omega)
  have c2 := fun w => refTakeUint_any s w (by omega)
  have c3 := fun w => takeInt_any s w (by omega)
  have c4 := fun w => refTakeInt_any s w (by omega)
  have c5 := fun w => takeText_any s most w hs hm0 hm1
  have c6 := fun w => refTakeText_any s most w hs hm0 hm1
  have c7 := fun w => takeKeyInt_any s w (by omega)
  have c8 := fun w => refTakeKeyInt_any s w (by omega)
  have c9 := fun w => takeKeyText_any s w hs
  have c10 := fun w => refTakeKeyText_any s w hs
  obtain ⟨a, b, c, hk⟩ := keyInt_form s.data.toList
  generalize Pl.takeUint s.data.toList = v1 at *
  generalize Pl.takeText s.data.toList most.toNat = v2 at *
  generalize Pl.takeKey s.data.toList = v3 at *
  rw [hk] at c7 c8
  clear hk
  simp only [tup3, tupS] at c1 c2 c5 c6 c9 c10
  have C1 := Lib.hid c1
  have C2 := Lib.hid c2
  have C3 := Lib.hid c3
  have C4 := Lib.hid c4
  have C5 := Lib.hid c5
  have C6 := Lib.hid c6
  have C7 := Lib.hid c7
  have C8 := Lib.hid c8
  have C9 := Lib.hid c9
  have C10 := Lib.hid c10
  clear c1 c2 c3 c4 c5 c6 c7 c8 c9 c10
  go_enter Try.func8, Try.ntmps8
  go_wp2_with fail
  refine (C1.out _).mono ?_
  rintro e w1 ⟨rfl, rfl⟩
  go_wp2_with fail
  refine (C2.out _).mono ?_
  rintro e w1 ⟨rfl, rfl⟩
  go_wp2_with fail
  refine (C3.out _).mono ?_
  rintro e w1 ⟨rfl, rfl⟩
  go_wp2_with fail
  refine (C4.out _).mono ?_
  rintro e w1 ⟨rfl, rfl⟩
  go_wp2_with fail
  refine (C5.out _).mono ?_
  rintro e w1 ⟨rfl, b1⟩
  go_wp2_with fail
  refine (C6.out _).mono ?_
  rintro e w2 ⟨rfl, rfl⟩
  go_wp2_with fail
  refine (C7.out _).mono ?_
  rintro e w3 ⟨rfl, rfl⟩
  go_wp2_with fail
  refine (C8.out _).mono ?_
  rintro e w4 ⟨rfl, rfl⟩
  go_wp2_with fail
  refine (C9.out _).mono ?_
  rintro e w5 ⟨rfl, b2⟩
  go_wp2_with fail
  refine (C10.out _).mono ?_
  rintro e w6 ⟨rfl, b3⟩
  go_wp2_with fail
  go_ret
  exact ⟨ret_bool (by simp), below_seq (below_seq b1 b2) b3⟩
end Go.Proofs.Ytlchkpmmemdjcaa
