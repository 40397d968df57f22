
/- Walks: mixing, numbers with a sign, texts with lengths. Condition: lengths that are ints. -/
import Derived.Test.YtlchkpmmemdjcaaWPut
import Derived.Test.YtlchkpmmemdjcaaPlainC
namespace Go.Proofs.Ytlchkpmmemdjcaa
open Go.RowKit

theorem below_seq {w w1 w2 : World} (h : Below w.heap.size w w1) (h2 : Below w1.heap.size w1 w2) : Below w.heap.size w w2 := h.trans (h2.mono h.size)

set_option maxRecDepth 100000 in
set_option maxHeartbeats 400000 in
theorem mix_any (n : Nat) (w : World) :
    Calls Try.prog 27 #[.int .u64 n] w fun e w' => e = .returned (.int .u64 (Pl.mix n : Nat)) ∧ w = w' := by
  go_enter Try.func27, Try.ntmps27
  go_wp2
  go_ret
  exact ⟨ret_int (by rw [Pl.mixA_eq, Pl.mixB_eq _ (Pl.mixA_lt _), Pl.mixC_eq _ (Pl.mixB_lt _), Pl.mixD_eq _ (Pl.mixC_lt _)]; rfl), rfl⟩

set_option maxRecDepth 100000 in
set_option maxHeartbeats 400000 in
theorem refMix_any (n : Nat) (w : World) :
    Calls Try.prog 34 #[.int .u64 n] w fun e w' => e = .returned (.int .u64 (Pl.mix n : Nat)) ∧ w = w' := by
  go_enter Try.func34, Try.ntmps34
  go_wp2
  go_ret
  exact ⟨ret_int (by rw [Pl.mixA_eq, Pl.mixB_eq _ (Pl.mixA_lt _), Pl.mixC_eq _ (Pl.mixB_lt _), Pl.mixD_eq _ (Pl.mixC_lt _)]; rfl), rfl⟩

set_option maxRecDepth 100000 in
set_option maxHeartbeats 400000 in
theorem putInt_any (n : Int) (w : World) (h0 : -9223372036854775808 ≤ n) (h1 : n ≤ 9223372036854775807) :
    Calls Try.prog 25 #[.int .i64 n] w fun e w' => e = .returned (.string ⟨(Pl.putUint (Pl.zig n)).toArray⟩) ∧ Below w.heap.size w w' := by
  go_enter Try.func25, Try.ntmps25
  go_wp2_with fail
  rw [Pl.zig_bits n h0 h1]
  refine (putUint_any _ _ (.mk' (Pl.zig_le h0 h1))).mono ?_
  rintro e w1 ⟨rfl, hb⟩
  go_wp2_with fail
  go_ret
  exact ⟨rfl, hb⟩

set_option maxRecDepth 100000 in
set_option maxHeartbeats 400000 in
theorem refPutInt_any (n : Int) (w : World) (h0 : -9223372036854775808 ≤ n) (h1 : n ≤ 9223372036854775807) :
    Calls Try.prog 29 #[.int .i64 n] w fun e w' => e = .returned (.string ⟨(Pl.putUint (Pl.zig n)).toArray⟩) ∧ Below w.heap.size w w' := by
  by_cases hn : 0 ≤ n
  · go_enter Try.func29, Try.ntmps29
    go_wp2_with fail
    rw [← Pl.zig_nonneg hn]
    refine (refPutUint_any _ _ (.mk' (Pl.zig_le h0 h1))).mono ?_
    rintro e w1 ⟨rfl, hb⟩
    go_wp2_with fail
    go_ret
    exact ⟨rfl, hb⟩
  · go_enter Try.func29, Try.ntmps29
    go_wp2_with fail
    rw [← Pl.zig_neg (by omega)]
    refine (refPutUint_any _ _ (.mk' (Pl.zig_le h0 h1))).mono ?_
    rintro e w1 ⟨rfl, hb⟩
    go_wp2_with fail
    go_ret
    exact ⟨rfl, hb⟩

set_option maxRecDepth 100000 in
set_option maxHeartbeats 400000 in
theorem putText_any (s : ByteArray) (w : World) (hs : s.size ≤ 9223372036854775000) :
    Calls Try.prog 26 #[.string s] w fun e w' => e = .returned (.string ⟨(Pl.putText s.data.toList).toArray⟩) ∧ Below w.heap.size w w' := by
  have hl := Pl.putUint_length64 s.size (by omega)
  go_enter Try.func26, Try.ntmps26
  go_wp2_with fail
  refine (putUint_any _ _ (.mk' (by omega))).mono ?_
  rintro e w1 ⟨rfl, hb⟩
  go_wp2_with fail
  go_ret
  exact ⟨ret_str (by rw [Pl.mk_append, Pl.putText, Pl.size_data]), hb⟩

set_option maxRecDepth 100000 in
set_option maxHeartbeats 400000 in
theorem refPutText_any (s : ByteArray) (w : World) (hs : s.size ≤ 9223372036854775000) :
    Calls Try.prog 30 #[.string s] w fun e w' => e = .returned (.string ⟨(Pl.putText s.data.toList).toArray⟩) ∧ Below w.heap.size w w' := by
  have hl := Pl.putUint_length64 s.size (by omega)
  go_enter Try.func30, Try.ntmps30
  go_wp2_with fail
  refine (refPutUint_any _ _ (.mk' (by omega))).mono ?_
  rintro e w1 ⟨rfl, hb⟩
  go_wp2_with fail
  go_ret
  exact ⟨ret_str (by rw [Pl.mk_append, Pl.putText, Pl.size_data]), hb⟩
end Go.Proofs.Ytlchkpmmemdjcaa
