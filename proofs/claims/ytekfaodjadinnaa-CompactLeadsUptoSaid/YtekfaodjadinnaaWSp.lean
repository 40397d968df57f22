
/- Walks: what lies from the least key of tables to the greatest. Condition: there is a table. -/
import Derived.Test.YtekfaodjadinnaaWAp1
import Derived.Deep.RegionLaw
import Derived.IntWalk
namespace Go.Proofs.Ytekfaodjadinnaa
open Go.RowKit

namespace Pl
def spanLo : List Tb → ByteArray
  | [] => .empty
  | x :: l => l.foldl (fun p t => Lib.minS p t.least) x.least
def spanHi : List Tb → ByteArray
  | [] => .empty
  | x :: l => l.foldl (fun p t => Lib.maxS p t.greatest) x.greatest
theorem spanLo_succ {l : List Tb} {k : Nat} (h0 : 0 < k) (h : k < l.length) : spanLo (l.take (k + 1)) = Lib.minS (spanLo (l.take k)) l[k].least := by
  cases l with
  | nil => simp at h
  | cons x l =>
    obtain ⟨j, rfl⟩ : ∃ j, k = j + 1 := ⟨k - 1, by omega⟩
    rw [List.take_succ_cons, List.take_succ_cons]
    simp only [spanLo]
    rw [List.take_succ_eq_append_getElem (by simpa using h), List.foldl_append]
    rfl
theorem spanHi_succ {l : List Tb} {k : Nat} (h0 : 0 < k) (h : k < l.length) : spanHi (l.take (k + 1)) = Lib.maxS (spanHi (l.take k)) l[k].greatest := by
  cases l with
  | nil => simp at h
  | cons x l =>
    obtain ⟨j, rfl⟩ : ∃ j, k = j + 1 := ⟨k - 1, by omega⟩
    rw [List.take_succ_cons, List.take_succ_cons]
    simp only [spanHi]
    rw [List.take_succ_eq_append_getElem (by simpa using h), List.foldl_append]
    rfl
theorem spanLo_one {l : List Tb} (h : 0 < l.length) : spanLo (l.take 1) = l[0].least := by
  cases l with
  | nil => simp at h
  | cons x l => simp [spanLo]
theorem spanHi_one {l : List Tb} (h : 0 < l.length) : spanHi (l.take 1) = l[0].greatest := by
  cases l with
  | nil => simp at h
  | cons x l => simp [spanHi]
end Pl

set_option maxRecDepth 100000 in
set_option maxHeartbeats 4000000 in
theorem span_any (l : List Pl.Tb) (u : Value) (w : World) (hu : TbsAt w u l) (h0 : 0 < l.length) :
    Calls Try.prog 24 #[u] w fun e w' => e = .returned (.tuple #[.string (Pl.spanLo l), .string (Pl.spanHi l)]) ∧ Below w.heap.size w w' := by
  obtain ⟨ao, cap, rfl, h1, h2, hn, hc⟩ := hu
  obtain ⟨b, off, rfl, hbl, hx⟩ := hc h0
  obtain ⟨x0, x1, x2, x3, x4, x5⟩ := hx 0 h0
  simp only [Nat.zero_mul, Nat.add_zero] at x0 x1 x2 x3 x4 x5
  have e0 := Pl.spanLo_one h0
  have e1 := Pl.spanHi_one h0
  rw [← e0] at x4
  rw [← e1] at x5
  clear x0 x1 x2 x3 e0 e1 hc hn
  have hmn := @Lib.run_min_strs Try.prog
  have hmx := @Lib.run_max_strs Try.prog
  have hw1 : IntKind.i64.wrap ((l.length : Int) - 1) = (l.length : Int) - 1 := IntWalk.i64_in _ (by omega)
  by_cases hck : cap = 1
  all_goals
    go_enter Try.func24, Try.ntmps24
    go_upto_region 1 with (fail)
    go_quiet (fail)
    go_wp2_with fail
    have hb1 : Below w.heap.size w (w.drewN nq) := below_drewN (Below.refl _ _) _
    generalize w.drewN nq = w1 at *
    go_loopw [4, 5, 19] (fun lo hi i W' => ∃ k : Nat, k ≤ l.length - 1 ∧ i = .int .i64 (k : Int) ∧ lo = .string (Pl.spanLo (l.take (k + 1))) ∧ hi = .string (Pl.spanHi (l.take (k + 1))) ∧ Below w.heap.size w W') (fun _ _ i _ => l.length - 1 - (intOf i).toNat)
    case atStart => exact ⟨0, Nat.zero_le _, rfl, rfl, rfl, hb1⟩
    case round =>
      obtain ⟨k, hk, rfl, rfl, rfl, hbr⟩ := hrel
      by_cases hkl : k < l.length - 1
      case neg =>
        obtain rfl : k = l.length - 1 := by omega
        rw [show l.length - 1 + 1 = l.length by omega, List.take_of_length_le (Nat.le_refl _)]
        clear x4 x5
        go_wp2
        go_ret2
        exact ⟨rfl, hbr⟩
      first
        | omega
        | (have hxx := (hx (k + 1) (by omega)).block (hbr.block b hbl)
           rw [show off + (k + 1) * 6 = off + 6 + k * 6 by omega] at hxx
           have hs1 := Lib.hid (Pl.spanLo_succ (l := l) (k := k + 1) (by omega) (by omega))
           have hs2 := Lib.hid (Pl.spanHi_succ (l := l) (k := k + 1) (by omega) (by omega))
           clear hx x4 x5
           generalize l[k + 1] = x at *
           generalize Pl.spanLo (l.take (k + 1)) = S1 at *
           generalize Pl.spanHi (l.take (k + 1)) = S2 at *
           obtain ⟨y0, y1, y2, y3, y4, y5⟩ := hxx
           go_wp2
           have hT : TBox (wr.alloc (.cells #[.int .u64 (x.num : Int), .int .i64 x.level, .int .i64 x.size, .int .i64 x.count, .string x.least, .string x.greatest] 40)) wr.heap.size x := World.alloc_heap_new _ _
           have hbT : Below w.heap.size w (wr.alloc (.cells #[.int .u64 (x.num : Int), .int .i64 x.level, .int .i64 x.size, .int .i64 x.count, .string x.least, .string x.greatest] 40)) := hbr.alloc hbr.size _
           generalize wr.alloc (.cells #[.int .u64 (x.num : Int), .int .i64 x.level, .int .i64 x.size, .int .i64 x.count, .string x.least, .string x.greatest] 40) = wt at hT hbT ⊢
           obtain ⟨t0, t1, t2, t3, t4, t5⟩ := hT.cells
           have htl := hT.lt
           clear y0 y1 y2 y3 y4 y5
           go_quiet (fail)
           go_wp2
           go_roundw
           case rel => exact ⟨k + 1, by omega, by go_num, by rw [hs1.out], by rw [hs2.out], below_drewN hbT _⟩
           case measure => simp [intOf]; omega)

set_option maxRecDepth 100000 in
set_option maxHeartbeats 4000000 in
theorem bounds_any (l : List Pl.Tb) (u : Value) (w : World) (hu : TbsAt w u l) (h0 : 0 < l.length) :
    Calls Try.prog 26 #[u] w fun e w' => e = .returned (.tuple #[.string (Pl.spanLo l), .string (Pl.spanHi l)]) ∧ w' = w := by
  obtain ⟨ao, cap, rfl, h1, h2, hn, hc⟩ := hu
  obtain ⟨b, off, rfl, hbl, hx⟩ := hc h0
  obtain ⟨x0, x1, x2, x3, x4, x5⟩ := hx 0 h0
  simp only [Nat.zero_mul, Nat.add_zero] at x0 x1 x2 x3 x4 x5
  have e0 := Pl.spanLo_one h0
  have e1 := Pl.spanHi_one h0
  rw [← e0] at x4
  rw [← e1] at x5
  clear x0 x1 x2 x3 e0 e1 hc hn
  have hmn := @Lib.run_min_strs Try.prog
  have hmx := @Lib.run_max_strs Try.prog
  go_enter Try.func26, Try.ntmps26
  go_wp2_with fail
  go_loopw [4, 5, 6] (fun lo hi i W' => ∃ k : Nat, 1 ≤ k ∧ k ≤ l.length ∧ i = .int .i64 (k : Int) ∧ lo = .string (Pl.spanLo (l.take k)) ∧ hi = .string (Pl.spanHi (l.take k)) ∧ W' = w) (fun _ _ i _ => l.length - (intOf i).toNat)
  case atStart => exact ⟨1, Nat.le_refl _, h0, rfl, rfl, rfl, rfl⟩
  case round =>
    obtain ⟨k, hk0, hk, rfl, rfl, rfl, rfl⟩ := hrel
    by_cases hkl : k < l.length
    case neg =>
      obtain rfl : k = l.length := by omega
      rw [List.take_of_length_le (Nat.le_refl _)]
      clear x4 x5
      go_wp2
      go_ret2
      exact ⟨rfl, rfl⟩
    have hxx := hx k hkl
    have hs1 := Lib.hid (Pl.spanLo_succ (l := l) (k := k) (by omega) (by omega))
    have hs2 := Lib.hid (Pl.spanHi_succ (l := l) (k := k) (by omega) (by omega))
    clear hx x4 x5
    generalize l[k] = x at *
    generalize Pl.spanLo (l.take k) = S1 at *
    generalize Pl.spanHi (l.take k) = S2 at *
    obtain ⟨y0, y1, y2, y3, y4, y5⟩ := hxx
    go_wp2
    go_roundw
    case rel => exact ⟨k + 1, by omega, by omega, by go_num, by rw [hs1.out], by rw [hs2.out], trivial⟩
    case measure => simp [intOf]; omega
end Go.Proofs.Ytekfaodjadinnaa
