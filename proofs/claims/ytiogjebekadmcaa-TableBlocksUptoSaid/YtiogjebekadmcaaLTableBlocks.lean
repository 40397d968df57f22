
/- Walk: the law TableBlocks returns true. Condition: rows of versions that are not many. -/
import Derived.Test.YtiogjebekadmcaaWEncBlk
import Derived.Test.YtiogjebekadmcaaWRefBlk2
namespace Go.Proofs.Ytiogjebekadmcaa
open Go.RowKit

set_option maxRecDepth 100000 in
set_option maxHeartbeats 800000 in
theorem tableBlocks_any (v : Value) (l : List Ver) (w : World) (hv : VersAt w v l) (hl : l.length ≤ 1048576) :
    Calls Try.prog 8 #[v] w fun e w' => e = .returned (.bool true) ∧ Below w.heap.size w w' := by
  have P1 := Lib.hid (encBlock_any v l w hv hl)
  have P2 := Lib.hid (fun w' (hb : Below w.heap.size w w') => refEncBlock_any v l w' (hv.below hb) hl)
  obtain ⟨ao, cap, rfl, _, _, _⟩ := hv
  generalize (ByteArray.mk (if Pl.riseC l = 0 then Pl.blkN l l.length else []).toArray) = s at *
  generalize Pl.riseC l = c at *
  go_enter Try.func8, Try.ntmps8
  go_wp2_with fail
  refine P1.out.mono ?_
  rintro e1 w1 ⟨rfl, b1⟩
  go_wp2_with fail
  refine (P2.out _ b1).mono ?_
  rintro e2 w2 ⟨rfl, b2⟩
  go_wp2_with fail
  all_goals (go_ret; exact ⟨by simp, b1.trans (b2.mono b1.size)⟩)
end Go.Proofs.Ytiogjebekadmcaa
