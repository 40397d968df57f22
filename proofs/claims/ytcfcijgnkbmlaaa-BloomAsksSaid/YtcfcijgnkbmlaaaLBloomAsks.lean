/- Walk: the law BloomAsks returns true. Condition: texts that the form's reach lets. -/
import Derived.Test.YtcfcijgnkbmlaaaWHas
namespace Go.Proofs.Ytcfcijgnkbmlaaa
open Go.RowKit

set_option maxRecDepth 100000 in
set_option maxHeartbeats 2000000 in
theorem bloomAsks_any (s key : ByteArray) (w : World) (hs : s.size ≤ 140737488355328) (hkey : key.size ≤ 9223372036854775807) :
    Calls Try.prog 6 #[.string s, .string key] w fun e w' => e = .returned (.bool true) ∧ Below w.heap.size w w' := by
  have P1 := Lib.hid (fun w => callsIn_wide.1 (has_in 6 s key w hs hkey))
  have P2 := Lib.hid (fun w => valid_any s w (by omega))
  have P3 := Lib.hid (fun w => load_any s w hs)
  have P4 := Lib.hid (fun w => refLoad_any s w hs)
  have P5 := Lib.hid (fun w => refHas_any s key w hs hkey)
  have P6 := Lib.hid (fun w => refValid_any s w (by omega))
  generalize Pl.has s.data.toList key.data.toList = h at *
  generalize Pl.valid s.data.toList = v at *
  generalize Pl.load s.data.toList = l at *
  obtain ⟨a, b⟩ := l
  go_enter Try.func6, Try.ntmps6
  go_wp2_with fail
  refine (P1.out _).mono ?_
  rintro e w1 ⟨rfl, b1⟩
  go_wp2_with fail
  refine (P2.out _).mono ?_
  rintro e w2 ⟨rfl, rfl⟩
  go_wp2_with fail
  refine (P3.out _).mono ?_
  rintro e w3 ⟨rfl, rfl⟩
  go_wp2_with fail
  refine (P4.out _).mono ?_
  rintro e w4 ⟨rfl, rfl⟩
  go_wp2_with fail
  refine (P5.out _).mono ?_
  rintro e w5 ⟨rfl, b5⟩
  go_wp2_with fail
  refine (P6.out _).mono ?_
  rintro e w6 ⟨rfl, rfl⟩
  go_wp2
  go_ret
  exact ⟨ret_bool (by simp), b1.trans (b5.mono b1.size)⟩
end Go.Proofs.Ytcfcijgnkbmlaaa
