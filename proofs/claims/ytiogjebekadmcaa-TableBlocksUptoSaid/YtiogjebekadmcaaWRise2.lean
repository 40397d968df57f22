
/- Walks: may versions stand in a block? (the program's). Condition: rows whose lengths are ints. -/
import Derived.Test.YtiogjebekadmcaaWRise
namespace Go.Proofs.Ytiogjebekadmcaa
open Go.RowKit

set_option maxRecDepth 100000 in
set_option maxHeartbeats 2000000 in
theorem rising1_any (x : Ver) (w : World) :
    Calls Try.prog 69 #[.agg #[.string x.key, .int .u64 (x.seq : Int), .bool x.del, .string x.val]] w fun e w' => e = .returned (.bool (!Pl.mayB x)) ∧ Below w.heap.size w w' := by
  have ⟨f0, f1, f2, f3, fB⟩ := VrAt.new w x.key (x.seq : Int) x.del x.val 44
  have hb0 : Below w.heap.size w (w.alloc (.cells #[.string x.key, .int .u64 (x.seq : Int), .bool x.del, .string x.val] 44)) := (Below.refl _ _).alloc (Nat.le_refl _) _
  have P := Lib.hid (fun w => tmay_any x.key x.val x.seq x.del w)
  have hm : Pl.mayV x.key.data.toList x.val.data.toList x.seq x.del = Pl.mayB x := rfl
  rw [hm] at P
  clear hm
  go_enter Try.func69, Try.ntmps69
  go_wp2_with fail
  refine (P.out _).mono ?_
  rintro e1 w1 ⟨rfl, b1⟩
  go_wp2_with fail
  go_ret
  exact ⟨rfl, below_seq hb0 b1⟩

set_option maxRecDepth 100000 in
set_option maxHeartbeats 2000000 in
theorem indexBad_any (v : Value) (l : List Ver) (w : World) (hv : VersAt w v l) (hl : l.length ≤ 2932031007317) :
    Calls Try.prog 76 #[v, .func (.func 69) #[] #[]] w fun e w' =>
      ∃ v', e = .returned v' ∧ ∃ r : Int, v' = .int .i64 r ∧ decide (0 ≤ r) = (!l.all Pl.mayB) ∧ Below w.heap.size w w' := by
  obtain ⟨ao, cap, rfl, _, _, hv⟩ := hv
  go_enter Try.func76, Try.ntmps76
  go_wp2
  go_loopw [5, 8] (fun _ i wr => ∃ j : Nat, j ≤ l.length ∧ i = .int .i64 (j : Int) ∧ Hid (∀ q (h : q < l.length), q < j → Pl.mayB l[q] = true) ∧ Below w.heap.size w wr) (fun _ i _ => l.length - (intOf i).toNat)
  case atStart => exact ⟨0, by omega, rfl, Lib.hid (fun q _ h => by omega), Below.refl _ _⟩
  case round =>
    obtain ⟨j, hj, rfl, hm, hb⟩ := hrel
    by_cases h1 : j < l.length
    · obtain ⟨b, off, rfl, hrow⟩ := hv (by omega)
      obtain ⟨x0, x1, x2, x3⟩ := row_at hrow hb h1
      have P := Lib.hid (fun w => rising1_any l[j] w)
      clear hrow
      cases hc : Pl.mayB l[j]
      · have hr : Hid (l.all Pl.mayB = false) := Lib.hid (by
          apply Bool.eq_false_iff.2
          intro ha
          have := List.all_eq_true.1 ha _ (List.getElem_mem h1)
          rw [hc] at this; cases this)
        rw [hc] at P
        go_wp2_with fail
        refine (P.out _).mono ?_
        rintro e1 w1 ⟨rfl, b1⟩
        go_wp2_with fail
        go_ret
        exact ⟨_, rfl, (j : Int), rfl, by rw [hr.out]; simp, hb.trans (b1.mono hb.size)⟩
      · have hm' : Hid (∀ q (h : q < l.length), q < j + 1 → Pl.mayB l[q] = true) := Lib.hid (fun q h hq => by
          by_cases e : q = j
          · subst e; exact hc
          · exact hm.out q h (by omega))
        rw [hc] at P
        go_wp2_with fail
        refine (P.out _).mono ?_
        rintro e1 w1 ⟨rfl, b1⟩
        go_wp2_with fail
        go_roundw
        case rel => exact ⟨j + 1, by omega, by go_num, hm', hb.trans (b1.mono hb.size)⟩
        case measure => simp [intOf]; omega
    · have hr : Hid (l.all Pl.mayB = true) := Lib.hid (Pl.all_may (fun i hi => hm.out i hi (by omega)))
      clear hm
      go_wp2
      go_ret
      exact ⟨_, rfl, -1, rfl, by rw [hr.out]; rfl, hb⟩

set_option maxRecDepth 100000 in
set_option maxHeartbeats 2000000 in
theorem containsBad_any (v : Value) (l : List Ver) (w : World) (hv : VersAt w v l) (hl : l.length ≤ 2932031007317) :
    Calls Try.prog 68 #[v, .func (.func 69) #[] #[]] w fun e w' =>
      e = .returned (.bool (!l.all Pl.mayB)) ∧ Below w.heap.size w w' := by
  have P := Lib.hid (indexBad_any v l w hv hl)
  obtain ⟨ao, cap, rfl, _, _, hv⟩ := hv
  go_enter Try.func68, Try.ntmps68
  go_wp2_with fail
  refine P.out.mono ?_
  rintro e1 w1 ⟨v1, rfl, r, rfl, hr, b1⟩
  replace hr := Lib.hid hr
  go_wp2_with fail
  go_ret
  exact ⟨ret_bool hr.out, b1⟩

set_option maxRecDepth 100000 in
set_option maxHeartbeats 2000000 in
theorem rising_any (v : Value) (l : List Ver) (w : World) (hv : VersAt w v l) (hl : l.length ≤ 2932031007317) :
    Calls Try.prog 58 #[v] w fun e w' => e = .returned (.int .i64 (Pl.riseC l : Nat)) ∧ Below w.heap.size w w' := by
  have P := Lib.hid (containsBad_any v l w hv hl)
  obtain ⟨ao, cap, rfl, _, _, hv⟩ := hv
  cases hall : l.all Pl.mayB
  · have hr : Hid (Pl.riseC l = 1) := Lib.hid (by unfold Pl.riseC; rw [hall]; rfl)
    rw [hall] at P
    clear hall
    go_enter Try.func58, Try.ntmps58
    go_wp2_with fail
    refine P.out.mono ?_
    rintro e1 w1 ⟨rfl, b1⟩
    go_wp2_with fail
    go_ret
    exact ⟨ret_int (by rw [hr.out]; rfl), b1⟩
  · have hall' : Hid (∀ i (hi : i < l.length), Pl.mayB l[i] = true) := Lib.hid (fun i hi => List.all_eq_true.1 hall _ (List.getElem_mem hi))
    rw [hall] at P
    clear hall
    go_enter Try.func58, Try.ntmps58
    go_wp2_with fail
    refine P.out.mono ?_
    rintro e1 w1 ⟨rfl, b1⟩
    go_wp2_with fail
    go_loopw [3] (fun i W => ∃ m : Nat, m ≤ l.length ∧ i = .int .i64 ((m : Int) + 1) ∧ Hid (∀ q (h : q + 1 < l.length), q < m → Pl.lessB (l[q]'(by omega)) l[q + 1] = true) ∧ Below w.heap.size w W) (fun i _ => l.length + 2 - (intOf i).toNat)
    case atStart => exact ⟨0, by omega, rfl, Lib.hid (fun q _ h => by omega), b1⟩
    case round =>
      obtain ⟨m, hm0, rfl, hless, hb2⟩ := hrel
      by_cases h2 : m + 1 < l.length
      · obtain ⟨b, off, rfl, hrow⟩ := hv (by omega)
        obtain ⟨x0, x1, x2, x3⟩ := row_at hrow hb2 h2
        obtain ⟨y0, y1, y2, y3⟩ := row_at hrow hb2 (show m < l.length by omega)
        have hwr : IntKind.i64.wrap ((m : Int) + 1 - 1) = (m : Int) := IntWalk.i64_in _ (by omega) |>.trans (by omega)
        have hwr2 : IntKind.i64.wrap (m : Int) = (m : Int) := IntWalk.i64_in _ (by omega)
        have hwr3 : IntKind.i64.wrap ((m : Int) + 1) = (m : Int) + 1 := IntWalk.i64_in _ (by omega)
        have hge : (0 : Int) ≤ (m : Int) + 1 := by omega
        have hge2 : ¬ ((m : Int) + 1 < 0) := by omega
        have hd1 : (m : Int) + 1 - 1 = (m : Int) := by omega
        have hi1 : (m : Int) + 1 < (l.length : Int) := by omega
        have hi2 : (m : Int) < (l.length : Int) := by omega
        have ht : ((m : Int) + 1).toNat = m + 1 := by omega
        have P2 := Lib.hid (fun w => less_any (l[m]'(by omega)) l[m + 1] w)
        have hlb : lessV (l[m]'(by omega)).key (l[m]'(by omega)).seq l[m + 1].key l[m + 1].seq = Pl.lessB (l[m]'(by omega)) l[m + 1] := rfl
        rw [hlb] at P2
        clear hlb hrow P
        cases hc : Pl.lessB (l[m]'(by omega)) l[m + 1]
        · have hr := Lib.hid (Pl.riseC_order hall'.out h2 hc)
          rw [hc] at P2
          clear hc
          go_wp2
          go_still_tail 9, (by kernel_rfl)
          change wpList _ _ _ _ _ wr.drew
          go_wp2_with fail
          refine (P2.out _).mono ?_
          rintro e1 w2 ⟨rfl, b2⟩
          go_wp2_with fail
          go_ret
          exact ⟨ret_int (by rw [hr.out]; rfl), hb2.drew.trans (b2.mono hb2.size)⟩
        · have hless' : Hid (∀ q (h : q + 1 < l.length), q < m + 1 → Pl.lessB (l[q]'(by omega)) l[q + 1] = true) := Lib.hid (fun q h hq => by
            by_cases e : q = m
            · subst e; exact hc
            · exact hless.out q h (by omega))
          rw [hc] at P2
          clear hc
          go_wp2
          go_still_tail 9, (by kernel_rfl)
          change wpList _ _ _ _ _ wr.drew
          go_wp2_with fail
          refine (P2.out _).mono ?_
          rintro e1 w2 ⟨rfl, b2⟩
          go_wp2_with fail
          go_roundw
          case rel => exact ⟨m + 1, by omega, by go_num, hless', hb2.drew.trans (b2.mono hb2.size)⟩
          case measure => simp [intOf]; omega
      · have hr := Lib.hid (Pl.riseC_ok hall'.out (fun i h1 => hless.out i h1 (by omega)))
        have hd : decide ((m : Int) + 1 < (l.length : Int)) = false := by simp; omega
        go_wp2
        go_ret
        exact ⟨ret_int (by rw [hr.out]; rfl), hb2⟩
end Go.Proofs.Ytiogjebekadmcaa
