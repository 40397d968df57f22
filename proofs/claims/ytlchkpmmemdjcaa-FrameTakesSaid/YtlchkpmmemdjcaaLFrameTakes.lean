/- Walk: the law FrameTakes returns true. Condition: bytes that fit the form's reach. -/
import Derived.Test.YtlchkpmmemdjcaaWRefTakeFrame
namespace Go.Proofs.Ytlchkpmmemdjcaa
open Go.RowKit

set_option maxRecDepth 100000 in
set_option maxHeartbeats 2000000 in
theorem frameTakes_any (s : ByteArray) (w : World) (hs : s.size ≤ 140737488351232) :
    Calls Try.prog 7 #[.string s] w fun e w' => e = .returned (.bool true) ∧ Below w.heap.size w w' := by
  have P1 := Lib.hid (fun w => takeFrame_any s w hs)
  have P2 := Lib.hid (fun w => refTakeFrame_any s w hs)
  generalize Pl.takeFrame s.data.toList = t at P1 P2
  obtain ⟨⟨k, l⟩, n, e⟩ := t
  unfold tupF at P1 P2
  go_enter Try.func7, Try.ntmps7
  go_wp2_with fail
  refine (P1.out _).mono ?_
  rintro e1 w1 ⟨rfl, b1⟩
  have fw0 := Fr.new w1 (k.toNat : Int) ⟨l.toArray⟩ 32
  have hb1 : Below w.heap.size w (w1.alloc (.cells #[.int .u8 (k.toNat : Int), .string ⟨l.toArray⟩] 32)) := b1.alloc b1.size _
  go_wp2_with fail
  refine (P2.out _).mono ?_
  rintro e2 w2 ⟨rfl, b2⟩
  have ⟨f0, f1, fB⟩ := fw0.kept b2
  have hb2 := below_seq hb1 b2
  have hb3 : Below w.heap.size w (w2.alloc (.cells #[.int .u8 (k.toNat : Int), .string ⟨l.toArray⟩] 32)) := hb2.alloc hb2.size _
  go_wp2_with fail
  go_ret
  exact ⟨ret_bool (by simp), hb3⟩
end Go.Proofs.Ytlchkpmmemdjcaa
