
/- Walks: alike slices of tables, live tables and jobs are told to be so. Condition: none. -/
import Derived.Test.YtekfaodjadinnaaWAll
import Derived.Laws.StructEq
namespace Go.Proofs.Ytekfaodjadinnaa
open Go.RowKit

set_option maxRecDepth 100000 in
set_option maxHeartbeats 4000000 in
theorem sameTables_same (l : List Pl.Tb) (u1 u2 : Value) (w : World) (hu1 : TbsAt w u1 l) (hu2 : TbsAt w u2 l) :
    Calls Try.prog 28 #[u1, u2] w fun e w' => e = .returned (.bool true) ∧ ∃ n, w' = w.drewN n := by
  obtain ⟨a1, cap1, rfl, h1, h2, _, hc1⟩ := hu1
  obtain ⟨a2, cap2, rfl, h3, h4, _, hc2⟩ := hu2
  go_enter Try.func28, Try.ntmps28
  go_wp2
  go_loopw [5] (fun i wr => ∃ k n : Nat, k ≤ l.length ∧ i = .int .i64 (k : Int) ∧ wr = w.drewN n) (fun i _ => l.length - (intOf i).toNat)
  case atStart => exact ⟨0, 0, by omega, rfl, rfl⟩
  case round =>
    obtain ⟨k, n, hk, rfl, rfl⟩ := hrel
    by_cases hkl : k < l.length
    · obtain ⟨b1, o1, rfl, hb1, hx1⟩ := hc1 (by omega)
      obtain ⟨b2, o2, rfl, hb2, hx2⟩ := hc2 (by omega)
      obtain ⟨x0, x1, x2, x3, x4, x5⟩ := hx1 k hkl
      obtain ⟨y0, y1, y2, y3, y4, y5⟩ := hx2 k hkl
      clear hc1 hc2 hx1 hx2
      generalize l[k] = x at *
      go_wp2
      go_quiet (fail)
      go_wp2
      go_roundw
      case rel => exact ⟨k + 1, _, by omega, by go_num, rfl⟩
      case measure => simp [intOf]; omega
    · go_wp2
      go_ret
      exact ⟨rfl, n, rfl⟩

set_option maxRecDepth 100000 in
set_option maxHeartbeats 4000000 in
theorem sameLive_same (L : Pl.Lv) (a1 a2 : Nat → Option Addr) (c1 c2 : Nat → Nat) (w : World) (h1 : LvAt w L a1 c1) (h2 : LvAt w L a2 c2) :
    Calls Try.prog 12 #[lvV L a1 c1, lvV L a2 c2] w fun e w' => e = .returned (.bool true) ∧ Below w.heap.size w w' := by
  unfold lvV
  obtain ⟨W0, hW0⟩ : ∃ W0, (w.alloc (.cells (lvCells L a1 c1) 30)).alloc (.cells (lvCells L a2 c2) 30) = W0 := ⟨_, rfl⟩
  have hb0 : Below w.heap.size w W0 := by rw [← hW0]; exact ((Below.refl _ _).alloc (Nat.le_refl _) _).alloc (by simp) _
  have hL1 : LvBox W0 w.heap.size L a1 c1 := by rw [← hW0]; exact (LvBox.new w L a1 c1).below ((Below.refl _ _).alloc (Nat.le_refl _) _)
  have hL2 : LvBox W0 (w.heap.size + 1) L a2 c2 := by
    rw [← hW0]
    have h2 := LvBox.new (w.alloc (.cells (lvCells L a1 c1) 30)) L a2 c2
    rw [World.size_alloc] at h2
    exact h2
  simp only [lvCells] at hW0
  have g1 := Lib.hid (h1.below hb0)
  have g2 := Lib.hid (h2.below hb0)
  have hz := hL2.lt
  have hBb := Lib.hid hL1
  have hBc := Lib.hid hL2
  obtain ⟨p0, p1, p2, _, _, _, _⟩ := hL1.cells
  obtain ⟨q0, q1, q2, _, _, _, _⟩ := hL2.cells
  go_enter Try.func12, Try.ntmps12
  go_wp2_with fail
  clear hW0
  go_loopw [5, 6] (fun i _ W' => ∃ k : Nat, k ≤ 4 ∧ i = .int .i64 (k : Int) ∧ Below W0.heap.size W0 W') (fun i _ _ => 4 - (intOf i).toNat)
  case atStart => exact ⟨0, by omega, rfl, Below.refl _ _⟩
  clear p0 p1 p2 q0 q1 q2 hL1 hL2
  case round =>
    obtain ⟨k, hk, rfl, hbr⟩ := hrel
    have hB1 := hBb.out.below hbr
    have hB2 := hBc.out.below hbr
    have hzr := hB2.lt
    have hbw := hb0.trans (hbr.mono hb0.size)
    by_cases hk4 : k < 4
    · have hkI : (0 : Int) ≤ (k : Int) := by omega
      have hkI4 : (k : Int) < 4 := by omega
      have r1 := hB1.k k hk4
      have r2 := hB2.k k hk4
      have P := Lib.hid (fun m => sameTables_same (L.t k) (.slice (a1 k) (L.t k).length (c1 k)) (.slice (a2 k) (L.t k).length (c2 k)) (wr.drewN m) (((g1.out k hk4).below hbr).below (below_drewN (Below.refl _ _) _)) (((g2.out k hk4).below hbr).below (below_drewN (Below.refl _ _) _)))
      clear hB1 hB2
      generalize L.t k = t at *
      go_upto_region 4 with (fail)
      go_quiet (((go_at_call 28; exact Calls.quiet_of (P.out _))))
      go_wp2
      go_roundw
      case rel => exact ⟨k + 1, by omega, by go_num, below_drewN hbr _⟩
      case measure => simp [intOf]; omega
    · obtain ⟨p0, p1, p2, _, _, _, _⟩ := hB1.cells
      obtain ⟨q0, q1, q2, _, _, _, _⟩ := hB2.cells
      clear hB1 hB2
      go_wp2
      go_ret
      exact ⟨rfl, hbw⟩

/-- a job as a value -/
def jobV (k : Int) (a1 : Option Addr) (n1 c1 : Nat) (a2 : Option Addr) (n2 c2 : Nat) (bt : Bool) : Value := .agg #[.int .i64 k, .slice a1 n1 c1, .slice a2 n2 c2, .bool bt]
set_option maxRecDepth 100000 in
set_option maxHeartbeats 4000000 in
theorem sameJob_same (k : Int) (l1 l2 : List Pl.Tb) (bt : Bool) (a1 a2 a3 a4 : Option Addr) (c1 c2 c3 c4 : Nat) (w : World) (h1 : TbsAt w (.slice a1 l1.length c1) l1) (h2 : TbsAt w (.slice a2 l2.length c2) l2) (h3 : TbsAt w (.slice a3 l1.length c3) l1) (h4 : TbsAt w (.slice a4 l2.length c4) l2) :
    Calls Try.prog 11 #[jobV k a1 l1.length c1 a2 l2.length c2 bt, jobV k a3 l1.length c3 a4 l2.length c4 bt] w fun e w' => e = .returned (.bool true) ∧ Below w.heap.size w w' := by
  unfold jobV
  have P1 := Lib.hid (fun (W : World) (h : Below w.heap.size w W) => sameTables_same l1 _ _ W (h1.below h) (h3.below h))
  have P2 := Lib.hid (fun (W : World) (h : Below w.heap.size w W) => sameTables_same l2 _ _ W (h2.below h) (h4.below h))
  obtain ⟨W0, hW0⟩ : ∃ W0, (w.alloc (.cells #[.int .i64 k, .slice a1 l1.length c1, .slice a2 l2.length c2, .bool bt] 35)).alloc (.cells #[.int .i64 k, .slice a3 l1.length c3, .slice a4 l2.length c4, .bool bt] 35) = W0 := ⟨_, rfl⟩
  have hb0 : Below w.heap.size w W0 := by rw [← hW0]; exact ((Below.refl _ _).alloc (Nat.le_refl _) _).alloc (by simp) _
  have e1 : W0.heap[w.heap.size]? = some (.cells #[.int .i64 k, .slice a1 l1.length c1, .slice a2 l2.length c2, .bool bt] 35 (0, 0)) := by
    rw [← hW0]
    have h := World.alloc_heap_new w (.cells #[.int .i64 k, .slice a1 l1.length c1, .slice a2 l2.length c2, .bool bt] 35)
    exact (((Below.refl _ _).alloc (Nat.le_refl _) _).block _ (Array.getElem?_eq_some_iff.1 h).1).trans h
  have e2 : W0.heap[w.heap.size + 1]? = some (.cells #[.int .i64 k, .slice a3 l1.length c3, .slice a4 l2.length c4, .bool bt] 35 (0, 0)) := by
    rw [← hW0]
    have h := World.alloc_heap_new (w.alloc (.cells #[.int .i64 k, .slice a1 l1.length c1, .slice a2 l2.length c2, .bool bt] 35)) (.cells #[.int .i64 k, .slice a3 l1.length c3, .slice a4 l2.length c4, .bool bt] 35)
    rw [World.size_alloc] at h
    exact h
  have hz : w.heap.size + 1 < W0.heap.size := (Array.getElem?_eq_some_iff.1 e2).1
  have x0 : W0.cell? ⟨w.heap.size, 0, none⟩ = some (.int .i64 k) := by simp [World.cell?, e1]
  have x1 : W0.cell? ⟨w.heap.size, 1, none⟩ = some (.slice a1 l1.length c1) := by simp [World.cell?, e1]
  have x2 : W0.cell? ⟨w.heap.size, 2, none⟩ = some (.slice a2 l2.length c2) := by simp [World.cell?, e1]
  have x3 : W0.cell? ⟨w.heap.size, 3, none⟩ = some (.bool bt) := by simp [World.cell?, e1]
  have y0 : W0.cell? ⟨w.heap.size + 1, 0, none⟩ = some (.int .i64 k) := by simp [World.cell?, e2]
  have y1 : W0.cell? ⟨w.heap.size + 1, 1, none⟩ = some (.slice a3 l1.length c3) := by simp [World.cell?, e2]
  have y2 : W0.cell? ⟨w.heap.size + 1, 2, none⟩ = some (.slice a4 l2.length c4) := by simp [World.cell?, e2]
  have y3 : W0.cell? ⟨w.heap.size + 1, 3, none⟩ = some (.bool bt) := by simp [World.cell?, e2]
  clear e1 e2
  have R1 := Lib.hid (P1.out W0 hb0)
  have R2 := Lib.hid (fun n => P2.out (W0.drewN n) (below_drewN hb0 n))
  clear P1 P2
  go_enter Try.func11, Try.ntmps11
  go_wp2_with fail
  refine R1.out.mono ?_
  rintro e w1 ⟨rfl, n, rfl⟩
  go_wp2_with fail
  refine (R2.out n).mono ?_
  rintro e w2 ⟨rfl, m, rfl⟩
  go_wp2
  go_ret
  exact ⟨ret_bool (by simp), below_drewN hb0 _⟩
end Go.Proofs.Ytekfaodjadinnaa
