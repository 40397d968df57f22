
/- Walk: the law TableKeys returns true. Condition: texts that the form's reach lets. -/
import Derived.Test.YtiogjebekadmcaaWTkDec
namespace Go.Proofs.Ytiogjebekadmcaa
open Go.RowKit

theorem empty_iff (s : ByteArray) : s.toList.isEmpty = decide (s.size = 0) := by rw [isEmpty_data]; simp only [size_nil]

set_option maxRecDepth 100000 in
set_option maxHeartbeats 8000000 in
theorem tableKeys_any (ka va kb vb t : ByteArray) (sa sb : Nat) (da db : Bool) (w : World) (ht : t.size ≤ 140737488351232) :
    Calls Try.prog 7 #[.agg #[.string ka, .int .u64 (sa : Int), .bool da, .string va], .agg #[.string kb, .int .u64 (sb : Int), .bool db, .string vb], .string t] w fun e w' => e = .returned (.bool true) ∧ Below w.heap.size w w' := by
  have P1 := Lib.hid (fun w => encKey_any ka va sa da w)
  have P2 := Lib.hid (fun w => encKey_any kb vb sb db w)
  have P3 := Lib.hid (fun w => decKey_any t w ht)
  have P4 := Lib.hid (fun w => refDecKey_any t w ht)
  have P5 := Lib.hid (fun w => refEncKey_any ka va sa da w)
  have P6 := Lib.hid (fun w => refLess_any ⟨ka, sa, da, va⟩ ⟨kb, sb, db, vb⟩ w)
  have HL := enc_less ka kb va.data.toList vb.data.toList sa sb da db
  generalize Pl.encKey ka.data.toList va.data.toList sa da = A at P1 P5 HL
  generalize Pl.encKey kb.data.toList vb.data.toList sb db = B at P2 HL
  obtain ⟨a, ha⟩ : ∃ a : ByteArray, a = ⟨A.toArray⟩ := ⟨_, rfl⟩
  obtain ⟨b, hb⟩ : ∃ b : ByteArray, b = ⟨B.toArray⟩ := ⟨_, rfl⟩
  have hA : A = a.data.toList := by rw [ha]
  have hB : B = b.data.toList := by rw [hb]
  rw [← ha] at P1 P5
  rw [← hb] at P2
  clear ha hb
  subst hA
  subst hB
  rw [← ByteArray.toList_eq, ← ByteArray.toList_eq] at HL
  obtain ⟨dk, ds, dd, de, hdec⟩ : ∃ (dk : ByteArray) (ds : Nat) (dd : Bool) (de : Nat), decV t.data.toList = .tuple #[.agg #[.string dk, .int .u64 (ds : Int), .bool dd, .string ⟨#[]⟩], .int .i64 (de : Int)] := ⟨_, _, _, _, rfl⟩
  rw [hdec] at P3 P4
  clear hdec
  have hpl : placeV ka sa kb sb = (ka.toList == kb.toList && sa == sb) := rfl
  rw [hpl] at HL
  clear hpl
  simp only at P6
  generalize lessV ka sa kb sb = L at HL P6
  have hw0 : Below w.heap.size w ((w.alloc (.cells #[.string ka, .int .u64 (sa : Int), .bool da, .string va] 44)).alloc (.cells #[.string kb, .int .u64 (sb : Int), .bool db, .string vb] 44)) := ((Below.refl _ _).alloc (Nat.le_refl _) _).alloc (by rw [World.size_alloc]; omega) _
  have x0 := (VrAt.new w ka (sa : Int) da va 44).alloc (.cells #[.string kb, .int .u64 (sb : Int), .bool db, .string vb] 44)
  have y0 := VrAt.new (w.alloc (.cells #[.string ka, .int .u64 (sa : Int), .bool da, .string va] 44)) kb (sb : Int) db vb 44
  rw [World.size_alloc] at y0
  replace HL := Lib.hid HL
  go_enter Try.func7, Try.ntmps7
  go_wp2_with fail
  refine (P1.out _).mono ?_
  rintro e w1 ⟨rfl, b1⟩
  have x1 := x0.kept b1
  have y1 := y0.kept b1
  have c1 := hw0.trans (b1.mono hw0.size)
  clear x0 y0 hw0
  have ⟨f0, f1, f2, f3, fB⟩ := x1
  have ⟨g0, g1, g2, g3, gB⟩ := y1
  go_wp2_with fail
  refine (P2.out _).mono ?_
  rintro e w2 ⟨rfl, b2⟩
  have x2 := x1.kept b2
  have y2 := y1.kept b2
  have c2 := c1.trans (b2.mono c1.size)
  clear x1 y1 c1 b1
  clear f0 f1 f2 f3 fB g0 g1 g2 g3 gB
  have ⟨f0, f1, f2, f3, fB⟩ := x2
  have ⟨g0, g1, g2, g3, gB⟩ := y2
  go_wp2_with fail
  refine (P3.out _).mono ?_
  rintro e w3 ⟨rfl, b3⟩
  have x3 := x2.kept b3
  have y3 := y2.kept b3
  have c3 := c2.trans (b3.mono c2.size)
  clear x2 y2 c2 b2
  clear f0 f1 f2 f3 fB g0 g1 g2 g3 gB
  have ⟨f0, f1, f2, f3, fB⟩ := x3
  have ⟨g0, g1, g2, g3, gB⟩ := y3
  have hv3 := VrAt.new w3 dk (ds : Int) dd ⟨#[]⟩ 44
  go_wp2_with fail
  refine (P4.out _).mono ?_
  rintro e w4 ⟨rfl, b4⟩
  have hw3 : Below w3.heap.size w3 (w3.alloc (.cells #[.string dk, .int .u64 (ds : Int), .bool dd, .string ⟨#[]⟩] 44)) := (Below.refl _ _).alloc (Nat.le_refl _) _
  have b4' := hw3.trans (b4.mono hw3.size)
  have x4 := x3.kept b4'
  have y4 := y3.kept b4'
  have v4 := hv3.kept b4
  have c4 := c3.trans (b4'.mono c3.size)
  have z4 := VrAt.new w4 dk (ds : Int) dd ⟨#[]⟩ 44
  have o4 := w4
  replace x4 := x4.alloc (.cells #[.string dk, .int .u64 (ds : Int), .bool dd, .string ⟨#[]⟩] 44)
  replace y4 := y4.alloc (.cells #[.string dk, .int .u64 (ds : Int), .bool dd, .string ⟨#[]⟩] 44)
  replace v4 := v4.alloc (.cells #[.string dk, .int .u64 (ds : Int), .bool dd, .string ⟨#[]⟩] 44)
  clear f0 f1 f2 f3 fB g0 g1 g2 g3 gB x3 y3 c3 b3 hv3 b4 b4' hw3
  have ⟨f0, f1, f2, f3, fB⟩ := x4
  have ⟨g0, g1, g2, g3, gB⟩ := y4
  have ⟨u0, u1, u2, u3, uB⟩ := v4
  have ⟨q0, q1, q2, q3, qB⟩ := z4
  go_wp2_with fail
  refine (P5.out _).mono ?_
  rintro e w5 ⟨rfl, b5⟩
  have hw4 : Below w4.heap.size w4 (w4.alloc (.cells #[.string dk, .int .u64 (ds : Int), .bool dd, .string ⟨#[]⟩] 44)) := (Below.refl _ _).alloc (Nat.le_refl _) _
  have x5 := x4.kept b5
  have y5 := y4.kept b5
  have v5 := v4.kept b5
  have z5 := z4.kept b5
  have c5 := c4.trans ((hw4.trans (b5.mono hw4.size)).mono c4.size)
  clear f0 f1 f2 f3 fB g0 g1 g2 g3 gB u0 u1 u2 u3 uB q0 q1 q2 q3 qB x4 y4 v4 z4 c4 hw4 b5
  have ⟨f0, f1, f2, f3, fB⟩ := x5
  have ⟨g0, g1, g2, g3, gB⟩ := y5
  have ⟨u0, u1, u2, u3, uB⟩ := v5
  have ⟨q0, q1, q2, q3, qB⟩ := z5
  cases hae : a.toList.isEmpty
  · cases hbe : b.toList.isEmpty
    · have ha : a.toList ≠ [] := fun e => by rw [e] at hae; cases hae
      have hb : b.toList ≠ [] := fun e => by rw [e] at hbe; cases hbe
      cases hk : ka.toList == kb.toList
      · have hL := Lib.hid (HL.out ha hb (by rw [hk]; rfl))
        clear HL ha hb
        go_wp2_with fail
        refine (P6.out _).mono ?_
        rintro e w6 ⟨rfl, b6⟩
        go_wp2_with fail
        go_ret
        exact ⟨ret_bool (by rw [hL.out]; simp), c5.trans (b6.mono c5.size)⟩
      · cases hs : (sa == sb)
        · have hL := Lib.hid (HL.out ha hb (by rw [hk, hs]; rfl))
          have hs' : ((sa : Int) != (sb : Int)) = true := by rw [bne, nat_beq, hs]; rfl
          clear HL ha hb
          go_wp2_with fail
          refine (P6.out _).mono ?_
          rintro e w6 ⟨rfl, b6⟩
          go_wp2_with fail
          go_ret
          exact ⟨ret_bool (by rw [hL.out]; simp), c5.trans (b6.mono c5.size)⟩
        · have hs' : ((sa : Int) != (sb : Int)) = false := by rw [bne, nat_beq, hs]; rfl
          clear HL ha hb
          go_wp2_with fail
          go_ret
          exact ⟨ret_bool (by rfl), c5⟩
    · clear HL
      go_wp2_with fail
      go_ret
      exact ⟨ret_bool (by rfl), c5⟩
  · clear HL
    go_wp2_with fail
    go_ret
    exact ⟨ret_bool (by rfl), c5⟩
end Go.Proofs.Ytiogjebekadmcaa
