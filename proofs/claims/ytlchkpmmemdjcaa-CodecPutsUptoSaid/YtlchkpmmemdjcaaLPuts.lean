/- Walk: the law CodecPuts returns true. Condition: a text of at most 2 to the 45 bytes. -/
import Derived.Test.YtlchkpmmemdjcaaWBig
import Derived.Test.YtlchkpmmemdjcaaWBehind
import Derived.Test.YtlchkpmmemdjcaaWKeyText
import Derived.Test.YtlchkpmmemdjcaaWRefKey
namespace Go.Proofs.Ytlchkpmmemdjcaa
open Go.RowKit

set_option maxRecDepth 100000 in
set_option maxHeartbeats 1000000 in
theorem codecPuts_any (n : Nat) (m : Int) (s : ByteArray) (w : World) (hn : U64 n) (hm0 : -9223372036854775808 ≤ m) (hm1 : m ≤ 9223372036854775807) (hs : s.size ≤ 35184372088832) :
    Calls Try.prog 6 #[.int .u64 n, .int .i64 m, .string s] w fun e w' => e = .returned (.bool true) ∧ Below w.heap.size w w' := by
  have C1 := Lib.hid (fun w => putUint_any n w hn)
  have C2 := Lib.hid (fun w => putInt_any m w hm0 hm1)
  have C3 := Lib.hid (fun w => putText_any s w (by omega))
  have C4 := Lib.hid (fun w => keyInt_any m w hm0 hm1)
  have C5 := Lib.hid (fun w => keyText_any s w hs)
  have C6 := Lib.hid (fun w => behind_any s w (by omega))
  have D1 := Lib.hid (fun w => refPutUint_any n w hn)
  have D2 := Lib.hid (fun w => refPutInt_any m w hm0 hm1)
  have D3 := Lib.hid (fun w => refPutText_any s w (by omega))
  have D4 := Lib.hid (fun w => refKeyInt_any m w hm0 hm1)
  have D5 := Lib.hid (fun w => refKeyText_any s w hs)
  have D6 := Lib.hid (fun w => refBehind_any s w (by omega))
  clear hn hm0 hm1 hs
  go_enter Try.func6, Try.ntmps6
  go_wp2_with fail
  refine (C1.out _).mono ?_
  rintro e w1 ⟨rfl, b1⟩
  go_wp2_with fail
  refine (C2.out _).mono ?_
  rintro e w2 ⟨rfl, b2⟩
  go_wp2_with fail
  refine (C3.out _).mono ?_
  rintro e w3 ⟨rfl, b3⟩
  go_wp2_with fail
  refine (C4.out _).mono ?_
  rintro e w4 ⟨rfl, b4⟩
  go_wp2_with fail
  refine (C5.out _).mono ?_
  rintro e w5 ⟨rfl, b5⟩
  go_wp2_with fail
  refine (C6.out _).mono ?_
  rintro e w6 ⟨rfl, b6⟩
  go_wp2_with fail
  refine (mix_any n _).mono ?_
  rintro e w7 ⟨rfl, rfl⟩
  go_wp2_with fail
  refine (D1.out _).mono ?_
  rintro e v1 ⟨rfl, c1⟩
  go_wp2_with fail
  refine (D2.out _).mono ?_
  rintro e v2 ⟨rfl, c2⟩
  go_wp2_with fail
  refine (D3.out _).mono ?_
  rintro e v3 ⟨rfl, c3⟩
  go_wp2_with fail
  refine (D4.out _).mono ?_
  rintro e v4 ⟨rfl, c4⟩
  go_wp2_with fail
  refine (D5.out _).mono ?_
  rintro e v5 ⟨rfl, c5⟩
  go_wp2_with fail
  refine (D6.out _).mono ?_
  rintro e v6 ⟨rfl, c6⟩
  go_wp2_with fail
  refine (refMix_any n _).mono ?_
  rintro e v7 ⟨rfl, rfl⟩
  go_wp2_with fail
  go_ret
  exact ⟨ret_bool (by simp), below_seq (below_seq (below_seq (below_seq (below_seq (below_seq (below_seq (below_seq (below_seq (below_seq (below_seq b1 b2) b3) b4) b5) b6) c1) c2) c3) c4) c5) c6⟩
end Go.Proofs.Ytlchkpmmemdjcaa
