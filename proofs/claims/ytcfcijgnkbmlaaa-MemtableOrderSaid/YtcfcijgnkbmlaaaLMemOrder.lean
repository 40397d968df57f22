/- Walk: the law MemtableOrder returns true. Condition: numbers of 64 bits. -/
import Derived.Test.YtcfcijgnkbmlaaaWLess
import Derived.Test.YtcfcijgnkbmlaaaWHeight
import Derived.Deep.RegionWith
import Derived.Deep.DeepCutAuto
namespace Go.Proofs.Ytcfcijgnkbmlaaa
open Go.RowKit

set_option maxRecDepth 100000 in
set_option maxHeartbeats 1000000 in
theorem memtableOrder_any (a b : Ver) (seed : Nat) (w : World) (h1 : U64 seed) :
    Calls Try.prog 3 #[.agg #[.string a.key, .int .u64 (a.seq : Int), .bool a.del, .string a.val], .agg #[.string b.key, .int .u64 (b.seq : Int), .bool b.del, .string b.val], .int .u64 (seed : Int)] w fun e w' =>
      e = .returned (.bool true) ∧ Below w.heap.size w w' := by
  have P1 := Lib.hid (fun w => less_any a b w)
  have P2 := Lib.hid (fun w => less_any b a w)
  have P3 := Lib.hid (fun w => height_any seed a.seq w h1)
  have P4 := Lib.hid (fun w => refPlace_any a b w)
  have P5 := Lib.hid (fun w => refLess_any a b w)
  have P6 := Lib.hid (fun w => refHeight_any seed a.seq w h1)
  have A1 := lessV_asymm a.key a.seq b.key b.seq
  have A2 := lessV_total a.key a.seq b.key b.seq
  obtain ⟨ka, sa, da, va⟩ := a
  obtain ⟨kb, sb, db, vb⟩ := b
  simp only at P1 P2 P3 P4 P5 P6 A1 A2
  generalize lessV ka sa kb sb = x at *
  generalize lessV kb sb ka sa = y at *
  generalize placeV ka sa kb sb = z at *
  generalize Pl.height seed sa = h at *
  have va0 := (VrAt.new w ka (sa : Int) da va 24).alloc (.cells #[.string kb, .int .u64 (sb : Int), .bool db, .string vb] 24)
  have vb0 := VrAt.new (w.alloc (.cells #[.string ka, .int .u64 (sa : Int), .bool da, .string va] 24)) kb (sb : Int) db vb 24
  rw [World.size_alloc] at vb0
  have hb0 : Below w.heap.size w ((w.alloc (.cells #[.string ka, .int .u64 (sa : Int), .bool da, .string va] 24)).alloc (.cells #[.string kb, .int .u64 (sb : Int), .bool db, .string vb] 24)) := ((Below.refl _ _).alloc (Nat.le_refl _) _).alloc (by simp) _
  have hxyz : (x = true ∧ y = false ∧ z = false) ∨ (x = false ∧ y = true ∧ z = false) ∨ (x = false ∧ y = false ∧ z = true) := by
    revert A1 A2; cases x <;> cases y <;> cases z <;> simp
  clear A1 A2
  rcases hxyz with ⟨rfl, rfl, rfl⟩ | ⟨rfl, rfl, rfl⟩ | ⟨rfl, rfl, rfl⟩
  all_goals
    go_enter Try.func3, Try.ntmps3
    go_wp2_with fail
    refine (P1.out _).mono ?_
    rintro e w1 ⟨rfl, b1⟩
    have hb1 := below_seq hb0 b1
    have va1 := va0.kept b1
    have vb1 := vb0.kept b1
    have ⟨a0, a1, a2, a3, aB⟩ := va1
    have ⟨c0, c1, c2, c3, cB⟩ := vb1
    go_wp2_with fail
    refine (P2.out _).mono ?_
    rintro e w2 ⟨rfl, b2⟩
    have hb2 := below_seq hb1 b2
    have va2 := va1.kept b2
    have vb2 := vb1.kept b2
    clear a0 a1 a2 a3 aB c0 c1 c2 c3 cB
    have ⟨a0, a1, a2, a3, aB⟩ := va2
    have ⟨c0, c1, c2, c3, cB⟩ := vb2
    go_wp2_with fail
    refine (P3.out _).mono ?_
    rintro e w3 ⟨rfl, rfl⟩
    go_wp2_with fail
    refine (P4.out _).mono ?_
    rintro e w3 ⟨rfl, b3⟩
    have hb3 := below_seq hb2 b3
    have va3 := va2.kept b3
    have vb3 := vb2.kept b3
    clear a0 a1 a2 a3 aB c0 c1 c2 c3 cB
    have ⟨a0, a1, a2, a3, aB⟩ := va3
    have ⟨c0, c1, c2, c3, cB⟩ := vb3
    go_wp2_with fail
    refine (P5.out _).mono ?_
    rintro e w4 ⟨rfl, b4⟩
    have hb4 := below_seq hb3 b4
    have ⟨a0, a1, a2, a3, aB⟩ := va3.kept b4
    go_wp2_with fail
    refine (P6.out _).mono ?_
    rintro e w5 ⟨rfl, rfl⟩
    go_wp2_with fail
    go_ret
    exact ⟨ret_bool (by simp), hb4⟩
end Go.Proofs.Ytcfcijgnkbmlaaa
