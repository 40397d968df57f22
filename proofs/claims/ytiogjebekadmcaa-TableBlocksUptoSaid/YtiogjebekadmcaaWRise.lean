
/- Walks: may versions stand in a block? Condition: rows whose lengths are ints. -/
import Derived.Test.YtiogjebekadmcaaWTk
import Derived.Test.YtiogjebekadmcaaPlainBk
import Derived.StillTailTactics
namespace Go.Proofs.Ytiogjebekadmcaa
open Go.RowKit

/-- a version of a row in a world that has grown -/
theorem row_at {W W' : World} {b off : Nat} {l : List Ver} (h : RowIn W b off l) (hb : Below W.heap.size W W') {i : Nat} (hi : i < l.length) : VerIn W' b (off + i * 4) l[i] := (h.below hb).2 i hi

set_option maxRecDepth 100000 in
set_option maxHeartbeats 2000000 in
theorem refRising_any (v : Value) (l : List Ver) (w : World) (hv : VersAt w v l) (hl : l.length ≤ 2932031007317) :
    Calls Try.prog 61 #[v] w fun e w' => e = .returned (.int .i64 (Pl.riseC l : Nat)) ∧ Below w.heap.size w w' := by
  obtain ⟨ao, cap, rfl, _, _, hv⟩ := hv
  go_enter Try.func61, Try.ntmps61
  go_wp2
  go_loopw [3, 4] (fun i _ wr => ∃ j : Nat, j ≤ l.length ∧ i = .int .i64 (j : Int) ∧ Hid (∀ q (h : q < l.length), q < j → Pl.mayB l[q] = true) ∧ Below w.heap.size w wr) (fun i _ _ => l.length - (intOf i).toNat)
  case atStart => exact ⟨0, by omega, rfl, Lib.hid (fun q _ h => by omega), Below.refl _ _⟩
  case round =>
    obtain ⟨j, hj, rfl, hm, hb⟩ := hrel
    by_cases h1 : j < l.length
    · obtain ⟨b, off, rfl, hrow⟩ := hv (by omega)
      obtain ⟨x0, x1, x2, x3⟩ := row_at hrow hb h1
      have P := Lib.hid (fun w => refMay_any l[j].key l[j].val l[j].seq l[j].del w)
      have hmj : Pl.mayV l[j].key.data.toList l[j].val.data.toList l[j].seq l[j].del = Pl.mayB l[j] := rfl
      rw [hmj] at P
      clear hmj hrow
      cases hc : Pl.mayB l[j]
      · have hr := Lib.hid (Pl.riseC_bad h1 hc)
        rw [hc] at P
        go_wp2_with fail
        refine (P.out _).mono ?_
        rintro e1 w1 ⟨rfl, b1⟩
        go_wp2_with fail
        go_ret
        exact ⟨ret_int (by rw [hr.out]; rfl), hb.trans (b1.mono hb.size)⟩
      · have hm' : Hid (∀ q (h : q < l.length), q < j + 1 → Pl.mayB l[q] = true) := Lib.hid (fun q h hq => by
          by_cases e : q = j
          · subst e; exact hc
          · exact hm.out q h (by omega))
        rw [hc] at P
        go_wp2_with fail
        refine (P.out _).mono ?_
        rintro e1 w1 ⟨rfl, b1⟩
        go_wp2_with fail
        go_roundw
        case rel => exact ⟨j + 1, by omega, by go_num, hm', hb.trans (b1.mono hb.size)⟩
        case measure => simp [intOf]; omega
    · have hall : Hid (∀ i (hi : i < l.length), Pl.mayB l[i] = true) := Lib.hid (fun i hi => hm.out i hi (by omega))
      clear hm
      go_wp2
      go_loopw [5, 6] (fun i _ W => ∃ m : Nat, m ≤ l.length ∧ i = .int .i64 ((m : Int) + 1) ∧ Hid (∀ q (h : q + 1 < l.length), q < m → Pl.lessB (l[q]'(by omega)) l[q + 1] = true) ∧ Below w.heap.size w W) (fun i _ _ => l.length + 2 - (intOf i).toNat)
      case atStart => exact ⟨0, by omega, rfl, Lib.hid (fun q _ h => by omega), hb⟩
      case round =>
        obtain ⟨m, hm0, rfl, hless, hb2⟩ := hrel
        by_cases h2 : m + 1 < l.length
        · obtain ⟨b, off, rfl, hrow⟩ := hv (by omega)
          obtain ⟨x0, x1, x2, x3⟩ := row_at hrow hb2 h2
          obtain ⟨y0, y1, y2, y3⟩ := row_at hrow hb2 (show m < l.length by omega)
          have hwr : IntKind.i64.wrap ((m : Int) + 1 - 1) = (m : Int) := IntWalk.i64_in _ (by omega) |>.trans (by omega)
          have hwr2 : IntKind.i64.wrap (m : Int) = (m : Int) := IntWalk.i64_in _ (by omega)
          have hwr3 : IntKind.i64.wrap ((m : Int) + 1) = (m : Int) + 1 := IntWalk.i64_in _ (by omega)
          have hge : (0 : Int) ≤ (m : Int) + 1 := by omega
          have hge2 : ¬ ((m : Int) + 1 < 0) := by omega
          have hd1 : (m : Int) + 1 - 1 = (m : Int) := by omega
          have hi1 : (m : Int) + 1 < (l.length : Int) := by omega
          have hi2 : (m : Int) < (l.length : Int) := by omega
          have ht : ((m : Int) + 1).toNat = m + 1 := by omega
          have P := Lib.hid (fun w => refLess_any (l[m]'(by omega)) l[m + 1] w)
          have hlb : lessV (l[m]'(by omega)).key (l[m]'(by omega)).seq l[m + 1].key l[m + 1].seq = Pl.lessB (l[m]'(by omega)) l[m + 1] := rfl
          rw [hlb] at P
          clear hlb hrow
          cases hc : Pl.lessB (l[m]'(by omega)) l[m + 1]
          · have hr := Lib.hid (Pl.riseC_order hall.out h2 hc)
            rw [hc] at P
            clear hc
            go_wp2
            go_still_tail 9, (by kernel_rfl)
            change wpList _ _ _ _ _ wr.drew
            go_wp2_with fail
            refine (P.out _).mono ?_
            rintro e1 w1 ⟨rfl, b1⟩
            go_wp2_with fail
            go_ret
            exact ⟨ret_int (by rw [hr.out]; rfl), hb2.drew.trans (b1.mono hb2.size)⟩
          · have hless' : Hid (∀ q (h : q + 1 < l.length), q < m + 1 → Pl.lessB (l[q]'(by omega)) l[q + 1] = true) := Lib.hid (fun q h hq => by
              by_cases e : q = m
              · subst e; exact hc
              · exact hless.out q h (by omega))
            rw [hc] at P
            clear hc
            go_wp2
            go_still_tail 9, (by kernel_rfl)
            change wpList _ _ _ _ _ wr.drew
            go_wp2_with fail
            refine (P.out _).mono ?_
            rintro e1 w1 ⟨rfl, b1⟩
            go_wp2_with fail
            go_roundw
            case rel => exact ⟨m + 1, by omega, by go_num, hless', hb2.drew.trans (b1.mono hb2.size)⟩
            case measure => simp [intOf]; omega
        · have hr := Lib.hid (Pl.riseC_ok hall.out (fun i h1 => hless.out i h1 (by omega)))
          have hd : decide ((m : Int) + 1 < (l.length : Int)) = false := by simp; omega
          go_wp2
          go_ret
          exact ⟨ret_int (by rw [hr.out]; rfl), hb2⟩
end Go.Proofs.Ytiogjebekadmcaa
