
/- Walks: mixing, numbers with a sign, texts with lengths. Condition: lengths that are ints. -/
import Derived.Test.YtndekdgpibipnaaWPut
import Derived.Test.YtndekdgpibipnaaPlainC
namespace Go.Proofs.Ytndekdgpibipnaa
open Go.RowKit

theorem below_seq {w w1 w2 : World} (h : Below w.heap.size w w1) (h2 : Below w1.heap.size w1 w2) : Below w.heap.size w w2 := h.trans (h2.mono h.size)

set_option maxRecDepth 100000 in
set_option maxHeartbeats 400000 in
theorem putText_any (s : ByteArray) (w : World) (hs : s.size ≤ 9223372036854775000) :
    Calls Try.prog 57 #[.string s] w fun e w' => e = .returned (.string ⟨(Pl.putText s.data.toList).toArray⟩) ∧ Below w.heap.size w w' := by
  have hl := Pl.putUint_length64 s.size (by omega)
  go_enter Try.func57, Try.ntmps57
  go_wp2_with fail
  refine (putUint_any _ _ (.mk' (by omega))).mono ?_
  rintro e w1 ⟨rfl, hb⟩
  go_wp2_with fail
  go_ret
  exact ⟨ret_str (by rw [Pl.mk_append, Pl.putText, Pl.size_data]), hb⟩

set_option maxRecDepth 100000 in
set_option maxHeartbeats 400000 in
theorem refPutText_any (s : ByteArray) (w : World) (hs : s.size ≤ 9223372036854775000) :
    Calls Try.prog 63 #[.string s] w fun e w' => e = .returned (.string ⟨(Pl.putText s.data.toList).toArray⟩) ∧ Below w.heap.size w w' := by
  have hl := Pl.putUint_length64 s.size (by omega)
  go_enter Try.func63, Try.ntmps63
  go_wp2_with fail
  refine (refPutUint_any _ _ (.mk' (by omega))).mono ?_
  rintro e w1 ⟨rfl, hb⟩
  go_wp2_with fail
  go_ret
  exact ⟨ret_str (by rw [Pl.mk_append, Pl.putText, Pl.size_data]), hb⟩
end Go.Proofs.Ytndekdgpibipnaa
