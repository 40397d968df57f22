
/- Walk: the document's Merge. Condition: rows whose bytes fit. -/
import Derived.Test.YtiogjebekadmcaaWRef9
import Derived.Test.YtiogjebekadmcaaWLess
import Derived.Test.YtiogjebekadmcaaPlainMr2
import Derived.Test.YtiogjebekadmcaaApp1
import Derived.Test.YtiogjebekadmcaaTexts
import Derived.Deep.RegionHeld3
import Derived.Deep.LoopGhost
namespace Go.Proofs.Ytiogjebekadmcaa
open Go.RowKit

/-- in W, v is a slice of rows -/
def LsAt (W : World) (v : Value) (ls : List (List Ver)) : Prop :=
  ∃ (ao : Option Addr) (cap : Nat), v = .slice ao ls.length cap ∧ (0 < ls.length → ∃ b off, ao = some ⟨b, off, none⟩ ∧ b < W.heap.size ∧ ∀ i (h : i < ls.length), ∃ u, W.cell? ⟨b, off + i, none⟩ = some u ∧ VersAt W u ls[i])
theorem LsAt.below {W W' : World} {v : Value} {ls : List (List Ver)} (h : LsAt W v ls) (hb : Below W.heap.size W W') : LsAt W' v ls := by
  obtain ⟨ao, cap, rfl, h⟩ := h
  refine ⟨ao, cap, rfl, fun h0 => ?_⟩
  obtain ⟨b, off, rfl, hB, hc⟩ := h h0
  refine ⟨b, off, rfl, Nat.lt_of_lt_of_le hB hb.size, fun i hi => ?_⟩
  obtain ⟨u, g1, g2⟩ := hc i hi
  exact ⟨u, (hb.cell (p := ⟨b, off + i, none⟩) hB).trans g1, g2.below hb⟩
/-- a block of places, known whole -/
def IBlk (W : World) (g : Nat) (l : List Nat) : Prop := W.heap[g]? = some (.cells (icells l).toArray 3 (0, 0))
theorem IBlk.lt {W : World} {g : Nat} {l : List Nat} (h : IBlk W g l) : g < W.heap.size := (Array.getElem?_eq_some_iff.1 h).1
theorem IBlk.cell {W : World} {g : Nat} {l : List Nat} (h : IBlk W g l) {i : Nat} (hi : i < l.length) : W.cell? ⟨g, i, none⟩ = some (.int .i64 (l[i] : Int)) := by
  simp [World.cell?, show W.heap[g]? = _ from h, icells, hi]
theorem IBlk.frozen {W : World} {g : Nat} {l : List Nat} (h : IBlk W g l) (i : Nat) : W.frozen? ⟨g, i, none⟩ = false := by simp [World.frozen?, show W.heap[g]? = _ from h]
theorem IBlk.set {W : World} {g : Nat} {l : List Nat} (h : IBlk W g l) (k x : Nat) : IBlk (W.setCell ⟨g, k, none⟩ (.int .i64 (x : Int))) g (l.set k x) := by
  have e : (icells (l.set k x)).toArray = (icells l).toArray.setIfInBounds k (.int .i64 (x : Int)) := by
    unfold icells; rw [List.map_set]; simp
  unfold IBlk
  rw [e]
  obtain ⟨hlt, hk⟩ := Array.getElem?_eq_some_iff.1 h
  show (W.heap.modify g _)[g]? = _
  rw [Array.getElem?_eq_getElem (by rw [Array.size_modify]; exact hlt), Array.getElem_modify_self, hk]
  simp
theorem icells_zero (n : Nat) : List.replicate n (Value.int .i64 0) = icells (List.replicate n 0) := by simp [icells]
/-- who of the first k rows has the least one -/
def WhoR (Rs : List (List Ver)) (k : Nat) (v : Value) : Prop :=
  (v = .int .i64 (-1) ∧ Pl.best (Rs.take k) = none) ∨ ∃ (j : Nat) (h : j < Rs.length) (x : Ver) (r : List Ver), v = .int .i64 j ∧ Rs[j] = x :: r ∧ Pl.best (Rs.take k) = some x
variable {Rs : List (List Ver)} {k : Nat}
theorem WhoR.skip {v : Value} (h : WhoR Rs k v) (hk : k < Rs.length) (e : Rs[k] = []) : WhoR Rs (k + 1) v := by
  have hb : Pl.best (Rs.take (k + 1)) = Pl.best (Rs.take k) := by rw [Pl.best_take hk, e]; rfl
  rcases h with ⟨h1, h2⟩ | ⟨j, hj, x, r, h1, h2, h3⟩
  · exact .inl ⟨h1, hb.trans h2⟩
  · exact .inr ⟨j, hj, x, r, h1, h2, hb.trans h3⟩
theorem WhoR.first {x : Ver} {r : List Ver} (h : Pl.best (Rs.take k) = none) (hk : k < Rs.length) (e : Rs[k] = x :: r) : WhoR Rs (k + 1) (.int .i64 k) :=
  .inr ⟨k, hk, x, r, rfl, e, by rw [Pl.best_take hk, e, h]; rfl⟩
theorem WhoR.less {x y : Ver} {r : List Ver} (h : Pl.best (Rs.take k) = some y) (hk : k < Rs.length) (e : Rs[k] = x :: r) (hl : lessV x.key x.seq y.key y.seq = true) : WhoR Rs (k + 1) (.int .i64 k) :=
  .inr ⟨k, hk, x, r, rfl, e, by rw [Pl.best_take hk, e, h]; show (if _ then _ else _) = _; rw [hl]; rfl⟩
theorem WhoR.stays {j : Nat} {x y : Ver} {r s : List Ver} (h : Pl.best (Rs.take k) = some y) (hk : k < Rs.length) (e : Rs[k] = x :: r) (hl : lessV x.key x.seq y.key y.seq = false) (hj : j < Rs.length) (ej : Rs[j] = y :: s) : WhoR Rs (k + 1) (.int .i64 j) :=
  .inr ⟨j, hj, y, s, rfl, ej, by rw [Pl.best_take hk, e, h]; show (if _ then _ else _) = _; rw [hl]; rfl⟩

set_option maxRecDepth 100000 in
set_option maxHeartbeats 800000 in
theorem refMerge_any (v : Value) (ls : List (List Ver)) (w : World) (hv : LsAt w v ls) (hl : ∀ l ∈ ls, l.length ≤ 2932031007317) (hll : ls.length ≤ 2932031007317) (ht : Pl.total ls ≤ 2932031007317) :
    Calls Try.prog 24 #[v] w fun e w' => ∃ v', e = .returned v' ∧ VersAt w' v' (Pl.mergeOf ls) ∧ Below w.heap.size w w' := by
  obtain ⟨ao, cap, rfl, hv⟩ := hv
  have hmk := make_row (P := Try.prog) 74 3 (.int .i64 0) 8 Try.underlying74 info_int rfl ls.length (by omega) (by omega) w
  rw [icells_zero] at hmk
  obtain ⟨W1, hW1⟩ : ∃ W1, w.alloc (.cells (icells (List.replicate ls.length 0)).toArray 3) = W1 := ⟨_, rfl⟩
  have hI1 : IBlk W1 w.heap.size (List.replicate ls.length 0) := by rw [← hW1]; exact World.alloc_heap_new _ _
  have hb1 : Below w.heap.size w W1 := by rw [← hW1]; exact (Below.refl _ _).alloc (Nat.le_refl _) _
  rw [hW1] at hmk
  have hmo0 : Hid ([] ++ Pl.mergeOf (Pl.rsOf ls (List.replicate ls.length 0)) = Pl.mergeOf ls) := by show _ = _; rw [Pl.rsOf_zero]; rfl
  have hml := Pl.mergeOf_length ls
  have hz1 : w.heap.size ≤ W1.heap.size := hb1.size
  go_enter Try.func24, Try.ntmps24
  go_wp2
  go_loopg [4, 5, 6, 7, 9, 10] (Pl.total (Pl.rsOf ls (List.replicate ls.length 0))) (fun m o _ _ _ _ _ W => ∃ (out : List Ver) (ps : List Nat), m = Pl.total (Pl.rsOf ls ps) ∧ Pl.Pos ls ps ∧ Hid (out ++ Pl.mergeOf (Pl.rsOf ls ps) = Pl.mergeOf ls) ∧ IBlk W w.heap.size ps ∧ W.ownsRow w.heap.size 44 4 o out.length (vcells out) ∧ Below w.heap.size w W)
  case atStart => exact ⟨[], _, rfl, Pl.Pos.zero ls, hmo0, hI1, World.ownsRow_nil _ _ _ _, hb1⟩
  case round =>
    obtain ⟨out, ps, rfl, hpos, hmo, hI, hown, hb⟩ := hrel
    obtain ⟨W3, rfl⟩ : ∃ X : World, X = wr := ⟨_, rfl⟩
    have hz3 : w.heap.size ≤ W3.heap.size := hb.size
    have hrl := hpos.length
    have hpl := hpos.len
    replace hrl := Lib.hid hrl
    replace hpl := Lib.hid hpl
    go_wp2
    go_loopw [5, 6, 7] (fun v5 i _ W' => ∃ k : Nat, k ≤ ls.length ∧ i = .int .i64 k ∧ WhoR (Pl.rsOf ls ps) k v5 ∧ Below W3.heap.size W3 W') (fun _ i _ _ => ls.length - (intOf i).toNat)
    case atStart => exact ⟨0, by omega, rfl, .inl ⟨rfl, rfl⟩, Below.refl _ _⟩
    case round =>
      obtain ⟨k, hk, rfl, hwho, hb3⟩ := hrel
      have hbw := hb.trans (hb3.mono hz3)
      by_cases h1 : k < ls.length
      · have hp1 : k < ps.length := by rw [hpl.out]; exact h1
        have hr1 : k < (Pl.rsOf ls ps).length := by rw [hrl.out]; exact h1
        obtain ⟨b, off, rfl, hbl0, hc⟩ := hv (by omega)
        have hbl1 : b < wr.heap.size := Nat.lt_of_lt_of_le hbl0 hbw.size
        obtain ⟨u, g1, g2⟩ := hc k h1
        have l1 := (hbw.cell (p := ⟨b, off + k, none⟩) hbl0).trans g1
        obtain ⟨ao2, cap2, rfl, c1, c2, hr2⟩ := g2.below hbw
        have hlk := hl _ (List.getElem_mem h1)
        have hI3 : IBlk wr w.heap.size ps := (hb3.block _ hI.lt).trans hI
        have t1 := hI3.cell hp1
        have hpk := hpos.le k hp1 h1
        by_cases h2 : ps[k] < ls[k].length
        · obtain ⟨b2, off2, rfl, hrow⟩ := hr2 (by omega)
          obtain ⟨x0, x1, x2, x3⟩ := hrow.2 ps[k] h2
          have hR := hpos.some h1 hp1 hr1 h2
          have hne : ((ps[k] : Int) == (ls[k].length : Int)) = false := by simp; omega
          generalize hx : ls[k][ps[k]] = x at *
          rcases hwho with ⟨rfl, hn⟩ | ⟨j, hj, y, q, rfl, ej, hbst⟩
          · have w2 := Lib.hid (WhoR.first hn hr1 hR)
            clear hR hn hc hr2 hown hI
            go_wp2
            go_quiet (fail)
            go_wp2
            go_roundw
            case rel => exact ⟨k + 1, by omega, by go_num, w2.out, below_drewN hb3 nq⟩
            case measure => simp [intOf]; omega
          · obtain ⟨j1, j2, jl, hy, hq⟩ := hpos.head hj ej
            obtain ⟨u4, g3, g4⟩ := hc j j1
            have l2 := (hbw.cell (p := ⟨b, off + j, none⟩) hbl0).trans g3
            obtain ⟨ao4, cap4, rfl, c3, c4, hr4⟩ := g4.below hbw
            obtain ⟨b4, off4, rfl, hrow4⟩ := hr4 (by omega)
            have hlj := hl _ (List.getElem_mem j1)
            have t2 := hI3.cell j2
            obtain ⟨y0, y1, y2, y3⟩ := hrow4.2 ps[j] jl
            rw [hy] at y0 y1 y2 y3
            have P := Lib.hid (fun W => refLess_any x y W)
            have hkp0 : Hid (∀ w1 : World, Below wr.heap.size wr w1 → w1.cell? ⟨b, off + k, none⟩ = some (.slice (some ⟨b2, off2, none⟩) ls[k].length cap2) ∧ w1.cell? ⟨b, off + j, none⟩ = some (.slice (some ⟨b4, off4, none⟩) ls[j].length cap4) ∧ w1.cell? ⟨w.heap.size, k, none⟩ = some (.int .i64 (ps[k] : Int)) ∧ w1.cell? ⟨w.heap.size, j, none⟩ = some (.int .i64 (ps[j] : Int)) ∧ w1.cell? ⟨b2, off2 + ps[k] * 4, none⟩ = some (.string x.key) ∧ w1.cell? ⟨b2, off2 + ps[k] * 4 + 1, none⟩ = some (.int .u64 (x.seq : Int)) ∧ w1.cell? ⟨b2, off2 + ps[k] * 4 + 2, none⟩ = some (.bool x.del) ∧ w1.cell? ⟨b2, off2 + ps[k] * 4 + 3, none⟩ = some (.string x.val) ∧ w1.cell? ⟨b4, off4 + ps[j] * 4, none⟩ = some (.string y.key) ∧ w1.cell? ⟨b4, off4 + ps[j] * 4 + 1, none⟩ = some (.int .u64 (y.seq : Int)) ∧ w1.cell? ⟨b4, off4 + ps[j] * 4 + 2, none⟩ = some (.bool y.del) ∧ w1.cell? ⟨b4, off4 + ps[j] * 4 + 3, none⟩ = some (.string y.val)) := Lib.hid (fun w1 hbl => ⟨(hbl.cell (p := ⟨b, off + k, none⟩) hbl1).trans l1, (hbl.cell (p := ⟨b, off + j, none⟩) hbl1).trans l2, (hbl.cell (p := ⟨w.heap.size, k, none⟩) hI3.lt).trans t1, (hbl.cell (p := ⟨w.heap.size, j, none⟩) hI3.lt).trans t2, (hbl.cell (p := ⟨b2, off2 + ps[k] * 4, none⟩) hrow.1).trans x0, (hbl.cell (p := ⟨b2, off2 + ps[k] * 4 + 1, none⟩) hrow.1).trans x1, (hbl.cell (p := ⟨b2, off2 + ps[k] * 4 + 2, none⟩) hrow.1).trans x2, (hbl.cell (p := ⟨b2, off2 + ps[k] * 4 + 3, none⟩) hrow.1).trans x3, (hbl.cell (p := ⟨b4, off4 + ps[j] * 4, none⟩) hrow4.1).trans y0, (hbl.cell (p := ⟨b4, off4 + ps[j] * 4 + 1, none⟩) hrow4.1).trans y1, (hbl.cell (p := ⟨b4, off4 + ps[j] * 4 + 2, none⟩) hrow4.1).trans y2, (hbl.cell (p := ⟨b4, off4 + ps[j] * 4 + 3, none⟩) hrow4.1).trans y3⟩)
            cases hle : lessV x.key x.seq y.key y.seq
            · have w2 := Lib.hid (WhoR.stays hbst hr1 hR hle hj ej)
              rw [hle] at P
              clear hbst hR hc hr2 hr4 hown hI hle ej
              go_wp2
              go_quiet (fail)
              go_wp2
              go_region_held3 (fun w' => w'.cell? ⟨b, off + k, none⟩ = some (.slice (some ⟨b2, off2, none⟩) ls[k].length cap2) ∧ w'.cell? ⟨b, off + j, none⟩ = some (.slice (some ⟨b4, off4, none⟩) ls[j].length cap4) ∧ w'.cell? ⟨w.heap.size, k, none⟩ = some (.int .i64 (ps[k] : Int)) ∧ w'.cell? ⟨w.heap.size, j, none⟩ = some (.int .i64 (ps[j] : Int)) ∧ w'.cell? ⟨b2, off2 + ps[k] * 4, none⟩ = some (.string x.key) ∧ w'.cell? ⟨b2, off2 + ps[k] * 4 + 1, none⟩ = some (.int .u64 (x.seq : Int)) ∧ w'.cell? ⟨b2, off2 + ps[k] * 4 + 2, none⟩ = some (.bool x.del) ∧ w'.cell? ⟨b2, off2 + ps[k] * 4 + 3, none⟩ = some (.string x.val) ∧ w'.cell? ⟨b4, off4 + ps[j] * 4, none⟩ = some (.string y.key) ∧ w'.cell? ⟨b4, off4 + ps[j] * 4 + 1, none⟩ = some (.int .u64 (y.seq : Int)) ∧ w'.cell? ⟨b4, off4 + ps[j] * 4 + 2, none⟩ = some (.bool y.del) ∧ w'.cell? ⟨b4, off4 + ps[j] * 4 + 3, none⟩ = some (.string y.val)) (first | exact ⟨l1, l2, t1, t2, x0, x1, x2, x3, y0, y1, y2, y3⟩ | exact hkp | go_keep)
                (first | (go_at_call 29; (with_reducible refine (P.out _).mono ?_); rintro e w1 ⟨rfl, hbl⟩; have hbq := below_seq ((below_drewN (Below.refl _ wr) nq).drew) hbl; have hkp := hkp0.out w1 hbq))
              all_goals
                go_wp2
                go_roundw
                case rel => exact ⟨k + 1, by omega, by go_num, w2.out, below_seq hb3 hbq⟩
                case measure => simp [intOf]; omega
            · have w2 := Lib.hid (WhoR.less hbst hr1 hR hle)
              rw [hle] at P
              clear hbst hR hc hr2 hr4 hown hI hle ej
              go_wp2
              go_quiet (fail)
              go_wp2
              go_region_held3 (fun w' => w'.cell? ⟨b, off + k, none⟩ = some (.slice (some ⟨b2, off2, none⟩) ls[k].length cap2) ∧ w'.cell? ⟨b, off + j, none⟩ = some (.slice (some ⟨b4, off4, none⟩) ls[j].length cap4) ∧ w'.cell? ⟨w.heap.size, k, none⟩ = some (.int .i64 (ps[k] : Int)) ∧ w'.cell? ⟨w.heap.size, j, none⟩ = some (.int .i64 (ps[j] : Int)) ∧ w'.cell? ⟨b2, off2 + ps[k] * 4, none⟩ = some (.string x.key) ∧ w'.cell? ⟨b2, off2 + ps[k] * 4 + 1, none⟩ = some (.int .u64 (x.seq : Int)) ∧ w'.cell? ⟨b2, off2 + ps[k] * 4 + 2, none⟩ = some (.bool x.del) ∧ w'.cell? ⟨b2, off2 + ps[k] * 4 + 3, none⟩ = some (.string x.val) ∧ w'.cell? ⟨b4, off4 + ps[j] * 4, none⟩ = some (.string y.key) ∧ w'.cell? ⟨b4, off4 + ps[j] * 4 + 1, none⟩ = some (.int .u64 (y.seq : Int)) ∧ w'.cell? ⟨b4, off4 + ps[j] * 4 + 2, none⟩ = some (.bool y.del) ∧ w'.cell? ⟨b4, off4 + ps[j] * 4 + 3, none⟩ = some (.string y.val)) (first | exact ⟨l1, l2, t1, t2, x0, x1, x2, x3, y0, y1, y2, y3⟩ | exact hkp | go_keep)
                (first | (go_at_call 29; (with_reducible refine (P.out _).mono ?_); rintro e w1 ⟨rfl, hbl⟩; have hbq := below_seq ((below_drewN (Below.refl _ wr) nq).drew) hbl; have hkp := hkp0.out w1 hbq))
              all_goals
                go_wp2
                go_roundw
                case rel => exact ⟨k + 1, by omega, by go_num, w2.out, below_seq hb3 hbq⟩
                case measure => simp [intOf]; omega
        · have hR := hpos.none h1 hp1 hr1 h2
          have w2 := Lib.hid (hwho.skip hr1 hR)
          have hne : ((ps[k] : Int) == (ls[k].length : Int)) = true := by simp; omega
          clear hR hc hr2 hown hI
          go_wp2
          go_quiet (fail)
          go_wp2
          go_roundw
          case rel => exact ⟨k + 1, by omega, by go_num, w2.out, below_drewN hb3 nq⟩
          case measure => simp [intOf]; omega
      · obtain rfl : k = ls.length := by omega
        have hT2 : (Pl.rsOf ls ps).take ls.length = Pl.rsOf ls ps := by rw [← hrl.out, List.take_length]
        unfold WhoR at hwho
        rw [hT2] at hwho
        have hI4 : IBlk wr w.heap.size ps := (hb3.block _ hI.lt).trans hI
        have hown4 := (Keep.of_below hb3 (fun k (_ : True) h => h)).ownsRow hown (fun _ _ => trivial)
        have hz4 := hbw.size
        clear hT2 hI hown hb hb3
        rcases hwho with ⟨rfl, hn⟩ | ⟨j, hj, x, r, rfl, ej, hbst⟩
        · have hmo' := hmo.out
          rw [Pl.mergeOf_none hn, List.append_nil] at hmo'
          replace hmo' := Lib.hid hmo'
          clear hmo hn
          go_wp2
          go_ret
          exact ⟨_, rfl, by rw [← hmo'.out]; exact own_vers hown4, hbw⟩
        · have hmo' := hmo.out
          rw [Pl.mergeOf_some hbst] at hmo'
          have hol : out.length + 1 ≤ 2932031007317 := by
            have := congrArg List.length hmo'
            simp only [List.length_append, List.length_cons] at this
            omega
          replace hmo' := Lib.hid hmo'
          have htot := Pl.total_best hbst
          obtain ⟨j1, j2, jl, hx, hr⟩ := hpos.head hj ej
          obtain ⟨b, off, rfl, hbl0, hc⟩ := hv (by omega)
          obtain ⟨u4, g3, g4⟩ := hc j j1
          have l2 := (hbw.cell (p := ⟨b, off + j, none⟩) hbl0).trans g3
          obtain ⟨ao4, cap4, rfl, c3, c4, hr4⟩ := g4.below hbw
          obtain ⟨b4, off4, rfl, hrow4⟩ := hr4 (by omega)
          have hlj := hl _ (List.getElem_mem j1)
          have t2 := hI4.cell j2
          obtain ⟨y0, y1, y2, y3⟩ := hrow4.2 ps[j] jl
          rw [hx] at y0 y1 y2 y3
          have hbl1 : b < wr.heap.size := Nat.lt_of_lt_of_le hbl0 hbw.size
          have hba : Below wr.heap.size wr (wr.alloc (.cells #[.string ⟨#[]⟩, .int .u64 0, .bool false, .string ⟨#[]⟩] 44)) := (Below.refl _ _).alloc (Nat.le_refl _) _
          have l2' := (hba.cell (p := ⟨b, off + j, none⟩) hbl1).trans l2
          have t2' := (hba.cell (p := ⟨w.heap.size, j, none⟩) hI4.lt).trans t2
          have y0' := (hba.cell (p := ⟨b4, off4 + ps[j] * 4, none⟩) hrow4.1).trans y0
          have y1' := (hba.cell (p := ⟨b4, off4 + ps[j] * 4 + 1, none⟩) hrow4.1).trans y1
          have y2' := (hba.cell (p := ⟨b4, off4 + ps[j] * 4 + 2, none⟩) hrow4.1).trans y2
          have y3' := (hba.cell (p := ⟨b4, off4 + ps[j] * 4 + 3, none⟩) hrow4.1).trans y3
          clear hmo hbst ej hr4
          go_wp2
          go_region
          obtain ⟨W5, hW5⟩ : ∃ W5, (wr.alloc (.cells #[.string x.key, .int .u64 (x.seq : Int), .bool x.del, .string x.val] 44)).drew = W5 := ⟨_, rfl⟩
          rw [hW5]
          have v5 : VrAt wr.heap.size x.key (x.seq : Int) x.del x.val W5 := by rw [← hW5]; exact VrAt.new wr _ _ _ _ _
          have hb5 : Below wr.heap.size wr W5 := by rw [← hW5]; exact ((Below.refl _ _).alloc (Nat.le_refl _) _).drew
          have hown5 := (Keep.of_below hb5 (fun k (_ : True) h => h)).ownsRow hown4 (fun _ _ => trivial)
          have hI5 : IBlk W5 w.heap.size ps := (hb5.block _ hI4.lt).trans hI4
          have hbw5 := hbw.trans (hb5.mono hz4)
          have hz5 : w.heap.size ≤ W5.heap.size := hbw5.size
          have hA5 := hI4.lt
          have hrl5 : ∀ k, u4.ownBlock = some k → k < wr.heap.size := fun k e => (hown4.lt k e).2
          obtain ⟨B, hB⟩ : ∃ B, B = wr.heap.size := ⟨_, rfl⟩
          rw [← hB] at v5 hA5 hrl5
          rw [← hB]
          obtain ⟨p0, p1, p2, p3, pB⟩ := id v5
          clear l2 l2' t2 t2' y0' y1' y2' y3' y0 y1 y2 y3 hown4 hI4 hba hb5 hbw hrow4 hW5
          clear hB
          go_wp2_with (at_builtin; go_must (refine wpList_app1 (by rfl) _ _ 22 (by rfl) w.heap.size 44 (.agg #[.string .empty, .int .u64 0, .bool false, .string .empty]) 4 48 Try.underlying22 info_version rfl (by decide) _ out.length (vcells out) W5 hown5 hz5 (by rfl) #[.string x.key, .int .u64 (x.seq : Int), .bool x.del, .string x.val] 44 (by rfl) rfl (by simp [Value.oneCell']) (by omega) (by decide) ?_; intro g0 cap0 w6 hown6 hgrow hat hg0))
          have hb65 : ∀ k, k < W5.heap.size → (u4.ownBlock ≠ some k) → w6.heap[k]? = W5.heap[k]? := fun k hk hne => (hgrow.block k (by simp; omega) (fun e => hne e.symm)).trans (((Below.refl W5.heap.size W5).alloc (Nat.le_refl _) _).block k hk)
          have hz6 : W5.heap.size ≤ w6.heap.size := by have := hgrow.size; simp at this; omega
          have hI6 : IBlk w6 w.heap.size ps := (hb65 _ hI5.lt (fun e => by
            rcases hown5.2 with ⟨e1, _⟩ | ⟨g, cp, cur, e1, _, hg, _⟩
            · rw [e1] at e; cases e
            · rw [e1] at e
              have : g = w.heap.size := by simpa [Value.ownBlock] using e
              subst this
              rw [show W5.heap[w.heap.size]? = _ from hI5] at hg
              cases hg)).trans hI5
          have v6 : VrAt B x.key (x.seq : Int) x.del x.val w6 := by
            have e := hb65 B pB (fun e => by have := hrl5 B e; omega)
            exact ⟨(World.cell?_of_block (a := ⟨B, 0, none⟩) e).trans p0, (World.cell?_of_block (a := ⟨B, 1, none⟩) e).trans p1, (World.cell?_of_block (a := ⟨B, 2, none⟩) e).trans p2, (World.cell?_of_block (a := ⟨B, 3, none⟩) e).trans p3, by omega⟩
          have hbw6 : Below w.heap.size w w6 := (hbw5.alloc hz5 _).grown hgrow (by simp; omega) (fun k e => (hown5.lt k e).1)
          have hBA : B ≠ w.heap.size := by omega
          clear p0 p1 p2 p3 v5 hI5 hown5 hgrow hat hb65 hbw5 hrl5
          go_wp2
          go_loopw [9, 10] (fun i _ W' => ∃ (k : Nat) (qs : List Nat), k ≤ ls.length ∧ i = .int .i64 k ∧ Pl.Pos ls qs ∧ Hid (Pl.rsOf ls qs = Pl.popN x (Pl.rsOf ls ps) k) ∧ IBlk W' w.heap.size qs ∧ Keep (fun k => k ≠ w.heap.size) w6 W') (fun i _ _ => ls.length - (intOf i).toNat)
          case atStart => exact ⟨0, ps, by omega, rfl, hpos, by show _ = _; rw [Pl.popN_zero], hI6, Keep.refl _ _⟩
          case round =>
            obtain ⟨k, qs, hk, rfl, hq7, hrs, hI7, hk7⟩ := hrel
            obtain ⟨v0, v1, v2, v3, vB⟩ := v6.keep hk7 hBA
            have hbw7 : Below w.heap.size w wr := hk7.below hbw6 (Nat.le_refl _) (fun k h => show k ≠ w.heap.size by omega)
            by_cases h1 : k < ls.length
            · have hb7 : b < wr.heap.size := Nat.lt_of_lt_of_le hbl0 hbw7.size
              have hp1 : k < qs.length := by rw [hq7.len]; exact h1
              have hr1 : k < (Pl.rsOf ls qs).length := by rw [hq7.length]; exact h1
              have hr2 : k < (Pl.rsOf ls ps).length := by rw [hrl.out]; exact h1
              have hsame : (Pl.rsOf ls qs)[k] = (Pl.rsOf ls ps)[k] := by
                have := Pl.popN_at (v := x) hr2
                rw [← this]
                simp only [hrs.out]
              obtain ⟨u, g1, g2⟩ := hc k h1
              have m1 := (hbw7.cell (p := ⟨b, off + k, none⟩) hbl0).trans g1
              obtain ⟨ao2, cap2, rfl, d1, d2, hr3⟩ := g2.below hbw7
              have hlk := hl _ (List.getElem_mem h1)
              have t1 := hI7.cell hp1
              have hpk := hq7.le k hp1 h1
              by_cases h2 : qs[k] < ls[k].length
              · obtain ⟨b2, off2, rfl, hrow⟩ := hr3 (by omega)
                obtain ⟨z0, z1, z2, z3⟩ := hrow.2 qs[k] h2
                have hR := hq7.some h1 hp1 hr1 h2
                rw [hsame] at hR
                generalize hz : ls[k][qs[k]] = z at *
                have P := Lib.hid (fun W => refPlace_any z x W)
                have hkp0 : Hid (∀ w1 : World, Below wr.heap.size wr w1 → w1.cell? ⟨b, off + k, none⟩ = some (.slice (some ⟨b2, off2, none⟩) ls[k].length cap2) ∧ w1.cell? ⟨w.heap.size, k, none⟩ = some (.int .i64 (qs[k] : Int)) ∧ w1.cell? ⟨b2, off2 + qs[k] * 4, none⟩ = some (.string z.key) ∧ w1.cell? ⟨b2, off2 + qs[k] * 4 + 1, none⟩ = some (.int .u64 (z.seq : Int)) ∧ w1.cell? ⟨b2, off2 + qs[k] * 4 + 2, none⟩ = some (.bool z.del) ∧ w1.cell? ⟨b2, off2 + qs[k] * 4 + 3, none⟩ = some (.string z.val) ∧ w1.cell? ⟨B, 0, none⟩ = some (.string x.key) ∧ w1.cell? ⟨B, 1, none⟩ = some (.int .u64 (x.seq : Int)) ∧ w1.cell? ⟨B, 2, none⟩ = some (.bool x.del) ∧ w1.cell? ⟨B, 3, none⟩ = some (.string x.val)) := Lib.hid (fun w1 hbl => ⟨(hbl.cell (p := ⟨b, off + k, none⟩) hb7).trans m1, (hbl.cell (p := ⟨w.heap.size, k, none⟩) hI7.lt).trans t1, (hbl.cell (p := ⟨b2, off2 + qs[k] * 4, none⟩) hrow.1).trans z0, (hbl.cell (p := ⟨b2, off2 + qs[k] * 4 + 1, none⟩) hrow.1).trans z1, (hbl.cell (p := ⟨b2, off2 + qs[k] * 4 + 2, none⟩) hrow.1).trans z2, (hbl.cell (p := ⟨b2, off2 + qs[k] * 4 + 3, none⟩) hrow.1).trans z3, (hbl.cell (p := ⟨B, 0, none⟩) vB).trans v0, (hbl.cell (p := ⟨B, 1, none⟩) vB).trans v1, (hbl.cell (p := ⟨B, 2, none⟩) vB).trans v2, (hbl.cell (p := ⟨B, 3, none⟩) vB).trans v3⟩)
                have hk8 : Hid (∀ w1 : World, Below wr.heap.size wr w1 → IBlk w1 w.heap.size qs ∧ Keep (fun k => k ≠ w.heap.size) w6 w1) := Lib.hid (fun w1 hbl => ⟨(hbl.block _ hI7.lt).trans hI7, hk7.trans (Keep.of_below hbl (fun _ _ h => h) : Keep (fun k => k ≠ w.heap.size) wr w1) (fun _ h _ => h)⟩)
                cases hpl' : placeV z.key z.seq x.key x.seq
                · rw [hpl'] at P
                  have hn8 : Hid (Pl.rsOf ls qs = Pl.popN x (Pl.rsOf ls ps) (k + 1)) := by show _ = _; rw [hrs.out, Pl.popN_skip hr2 (by rw [hR]; exact Pl.pop1_no hpl')]
                  clear hR hsame hr3 hc hpl'
                  go_wp2
                  go_quiet (fail)
                  go_wp2
                  go_region_held3 (fun w' => w'.cell? ⟨b, off + k, none⟩ = some (.slice (some ⟨b2, off2, none⟩) ls[k].length cap2) ∧ w'.cell? ⟨w.heap.size, k, none⟩ = some (.int .i64 (qs[k] : Int)) ∧ w'.cell? ⟨b2, off2 + qs[k] * 4, none⟩ = some (.string z.key) ∧ w'.cell? ⟨b2, off2 + qs[k] * 4 + 1, none⟩ = some (.int .u64 (z.seq : Int)) ∧ w'.cell? ⟨b2, off2 + qs[k] * 4 + 2, none⟩ = some (.bool z.del) ∧ w'.cell? ⟨b2, off2 + qs[k] * 4 + 3, none⟩ = some (.string z.val) ∧ w'.cell? ⟨B, 0, none⟩ = some (.string x.key) ∧ w'.cell? ⟨B, 1, none⟩ = some (.int .u64 (x.seq : Int)) ∧ w'.cell? ⟨B, 2, none⟩ = some (.bool x.del) ∧ w'.cell? ⟨B, 3, none⟩ = some (.string x.val)) (first | exact ⟨m1, t1, z0, z1, z2, z3, v0, v1, v2, v3⟩ | exact hkp | go_keep)
                    (first | (go_at_call 49; (with_reducible refine (P.out _).mono ?_); rintro e w1 ⟨rfl, hbl⟩; have hbq := below_seq ((below_drewN (Below.refl _ wr) nq).drew) hbl; have hkp := hkp0.out w1 hbq))
                  all_goals
                    obtain ⟨hI8, hk8'⟩ := hk8.out w1 hbq
                    go_wp2
                    go_roundw
                    case rel => exact ⟨k + 1, qs, by omega, by go_num, hq7, hn8, hI8, hk8'⟩
                    case measure => simp [intOf]; omega
                · rw [hpl'] at P
                  obtain ⟨hq8, hrs8⟩ := hq7.set h1 hp1 h2
                  have hn8 : Hid (Pl.rsOf ls (qs.set k (qs[k] + 1)) = Pl.popN x (Pl.rsOf ls ps) (k + 1)) := by show _ = _; rw [hrs8, hrs.out, Pl.popN_set hr2, hR, Pl.pop1_yes hpl']
                  have hwr : IntKind.i64.wrap ((qs[k] : Int) + 1) = (qs[k] : Int) + 1 := IntWalk.i64_in _ (by omega)
                  clear hR hsame hr3 hc hpl' hrs8
                  have hI7' := Lib.hid hI7
                  go_wp2
                  go_quiet (fail)
                  go_wp2
                  go_region_held3 (fun w' => w'.cell? ⟨b, off + k, none⟩ = some (.slice (some ⟨b2, off2, none⟩) ls[k].length cap2) ∧ w'.cell? ⟨w.heap.size, k, none⟩ = some (.int .i64 (qs[k] : Int)) ∧ w'.cell? ⟨b2, off2 + qs[k] * 4, none⟩ = some (.string z.key) ∧ w'.cell? ⟨b2, off2 + qs[k] * 4 + 1, none⟩ = some (.int .u64 (z.seq : Int)) ∧ w'.cell? ⟨b2, off2 + qs[k] * 4 + 2, none⟩ = some (.bool z.del) ∧ w'.cell? ⟨b2, off2 + qs[k] * 4 + 3, none⟩ = some (.string z.val) ∧ w'.cell? ⟨B, 0, none⟩ = some (.string x.key) ∧ w'.cell? ⟨B, 1, none⟩ = some (.int .u64 (x.seq : Int)) ∧ w'.cell? ⟨B, 2, none⟩ = some (.bool x.del) ∧ w'.cell? ⟨B, 3, none⟩ = some (.string x.val)) (first | exact ⟨m1, t1, z0, z1, z2, z3, v0, v1, v2, v3⟩ | exact hkp | go_keep)
                    (first | (go_at_call 49; (with_reducible refine (P.out _).mono ?_); rintro e w1 ⟨rfl, hbl⟩; have hbq := below_seq ((below_drewN (Below.refl _ wr) nq).drew) hbl; have hkp := hkp0.out w1 hbq))
                  all_goals
                    obtain ⟨hI8, hk8'⟩ := hk8.out w1 hbq
                    have a1 := hI8.cell hp1
                    have a2 := hI8.frozen k
                    have hI9 : Hid (IBlk (w1.setCell ⟨w.heap.size, k, none⟩ (.int .i64 ((qs[k] : Int) + 1))) w.heap.size (qs.set k (qs[k] + 1))) := hI8.set k (qs[k] + 1)
                    clear hI8
                    go_wp2
                    go_roundw
                    case rel => exact ⟨k + 1, qs.set k (qs[k] + 1), by omega, by go_num, hq8, hn8, hI9.out, hk8'.setCell _ _ _ (fun h _ => h rfl)⟩
                    case measure => simp [intOf]; omega
              · have hR := hq7.none h1 hp1 hr1 h2
                rw [hsame] at hR
                have hn8 : Hid (Pl.rsOf ls qs = Pl.popN x (Pl.rsOf ls ps) (k + 1)) := by show _ = _; rw [hrs.out, Pl.popN_skip hr2 (by rw [hR]; rfl)]
                clear hR hsame hr3 hc
                go_wp2
                go_quiet (fail)
                go_wp2
                go_roundw
                case rel => exact ⟨k + 1, qs, by omega, by go_num, hq7, hn8, hI7, hk7.drewN nq⟩
                case measure => simp [intOf]; omega
            · obtain rfl : k = ls.length := by omega
              have hrs8 : Pl.rsOf ls qs = Pl.pop x (Pl.rsOf ls ps) := by rw [hrs.out, ← hrl.out, Pl.popN_all]
              have hmo8 : Hid ((out ++ [x]) ++ Pl.mergeOf (Pl.rsOf ls qs) = Pl.mergeOf ls) := by show _ = _; rw [hrs8, ← hmo'.out]; simp
              have hown8 : wr.ownsRow w.heap.size 44 4 (.slice (some ⟨g0, 0, none⟩) (out.length + 1) cap0) (out ++ [x]).length (vcells (out ++ [x])) := by
                rw [List.length_append, List.length_singleton, vcells_append]
                refine hk7.ownsRow hown6 (fun k e => ?_)
                rintro rfl
                rcases hown6.2 with ⟨e1, _⟩ | ⟨g, cp, cur, e1, _, hg, _⟩
                · cases e1
                · rw [e1] at e
                  have : g = w.heap.size := by simpa [Value.ownBlock] using e
                  subst this
                  rw [show w6.heap[w.heap.size]? = _ from hI6] at hg
                  cases hg
              rw [← hrs8] at htot
              clear hrs hmo' hrs8 hown6 hk7 hc
              go_wp2
              go_roundg (Pl.total (Pl.rsOf ls qs))
              case rel => exact ⟨out ++ [x], qs, rfl, hq7, hmo8, hI7, hown8, hbw7⟩
              case measure => exact htot
end Go.Proofs.Ytiogjebekadmcaa
