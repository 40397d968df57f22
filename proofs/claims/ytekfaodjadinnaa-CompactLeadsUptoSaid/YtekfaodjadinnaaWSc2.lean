
/- Walk: the document's Score. Condition: none. -/
import Derived.Test.YtekfaodjadinnaaWSc
namespace Go.Proofs.Ytekfaodjadinnaa
open Go.RowKit

set_option maxRecDepth 100000 in
set_option maxHeartbeats 8000000 in
theorem refScore_any (c : Pl.Cfg) (L : Pl.Lv) (a : Nat → Option Addr) (cc : Nat → Nat) (k : Int) (w : World) (hL : LvAt w L a cc) (hk : -1 ≤ k ∧ k ≤ 100) (hlen : ∀ k, k < 4 → (L.t k).length ≤ 1073741824) :
    Calls Try.prog 8 #[cfgV c, lvV L a cc, .int .i64 k] w fun e w' => e = .returned (.tuple #[.int .i64 (Pl.score c L k).1, .int .i64 (Pl.score c L k).2]) ∧ Below w.heap.size w w' := by
  obtain ⟨r1, hr1⟩ : ∃ r, r = (Pl.score c L k).1 := ⟨_, rfl⟩
  obtain ⟨r2, hr2⟩ : ∃ r, r = (Pl.score c L k).2 := ⟨_, rfl⟩
  rw [← hr1, ← hr2]
  obtain ⟨hk1, hk2⟩ := hk
  have PR := Lib.hid (fun W => refRight_any c.c0 c.c1 c.c2 c.c3 c.c4 c.c5 c.c6 c.c7 W)
  unfold Pl.score at hr1 hr2
  obtain ⟨W0, hW0⟩ : ∃ W0, (w.alloc (.cells #[.int .i64 c.c0, .int .i64 c.c1, .int .i64 c.c2, .int .i64 c.c3, .int .i64 c.c4, .int .i64 c.c5, .int .i64 c.c6, .int .u64 c.c7] 24)).alloc (.cells (lvCells L a cc) 30) = W0 := ⟨_, rfl⟩
  have hb0 : Below w.heap.size w W0 := by rw [← hW0]; exact ((Below.refl _ _).alloc (Nat.le_refl _) _).alloc (by simp) _
  have hC0 : CfgBox W0 w.heap.size c := by
    rw [← hW0]
    exact (show CfgBox (w.alloc (.cells #[.int .i64 c.c0, .int .i64 c.c1, .int .i64 c.c2, .int .i64 c.c3, .int .i64 c.c4, .int .i64 c.c5, .int .i64 c.c6, .int .u64 c.c7] 24)) w.heap.size c from World.alloc_heap_new _ _).below ((Below.refl _ _).alloc (Nat.le_refl _) _)
  have hL0 : LvBox W0 (w.heap.size + 1) L a cc := by
    rw [← hW0]
    have h2 := LvBox.new (w.alloc (.cells #[.int .i64 c.c0, .int .i64 c.c1, .int .i64 c.c2, .int .i64 c.c3, .int .i64 c.c4, .int .i64 c.c5, .int .i64 c.c6, .int .u64 c.c7] 24)) L a cc
    rw [World.size_alloc] at h2
    exact h2
  simp only [lvCells] at hW0
  have hLr := Lib.hid (fun (W : World) (h : Below W0.heap.size W0 W) => (hL.below (hb0.trans (h.mono hb0.size))))
  have hCr := Lib.hid (fun (W : World) (h : Below W0.heap.size W0 W) => (hC0.below h).cells)
  have hbr := Lib.hid (fun (W : World) (h : Below W0.heap.size W0 W) => hb0.trans (h.mono hb0.size))
  have hBr := Lib.hid (fun (W : World) (h : Below W0.heap.size W0 W) => hL0.below h)
  have hrb : c.right = true → (1 ≤ c.c4 ∧ c.c4 ≤ 8) ∧ (256 ≤ c.c5 ∧ c.c5 ≤ 1048576) := fun h => Pl.Cfg.right_b h
  have hrd : c.right = rightB c.c0 c.c1 c.c2 c.c3 c.c4 c.c5 c.c6 := rfl
  unfold cfgV lvV
  obtain ⟨k0, k1, k2, k3, k4, k5, k6, k7⟩ := hC0.cells
  have hz0 := hL0.lt
  obtain ⟨R, hR⟩ : ∃ R, R = c.right := ⟨_, rfl⟩
  rw [← hrd, ← hR] at PR
  rw [← hR] at hr1 hr2 hrb
  clear hrd hR
  cases R
  case false =>
    have e1 : r1 = 0 := by rw [hr1]; simp
    have e2 : r2 = 0 := by rw [hr2]; simp
    subst e1 e2
    clear hr1 hr2 hrb
    go_enter Try.func8, Try.ntmps8
    go_wp2_with (first
      | (go_at_call 20; refine (PR.out _).mono ?_; rintro e w1 ⟨rfl, b1⟩))
    go_ret2
    exact ⟨rfl, hbr.out _ b1⟩
  obtain ⟨⟨y1, y2⟩, y3, y4⟩ := hrb rfl
  by_cases hkr : 0 ≤ k ∧ k ≤ 2
  case neg =>
    have e1 : r1 = 0 := by rw [hr1, if_neg (fun h => hkr h.2)]
    have e2 : r2 = 0 := by rw [hr2, if_neg (fun h => hkr h.2)]
    subst e1 e2
    have hk3 : k < 0 ∨ (0 ≤ k ∧ 2 < k) := by omega
    clear hr1 hr2 hrb hkr
    rcases hk3 with hk3 | ⟨hk3, hk4⟩
    all_goals
     go_enter Try.func8, Try.ntmps8
     go_wp2_with (first
      | (go_at_call 20; refine (PR.out _).mono ?_; rintro e w1 ⟨rfl, b1⟩))
     go_ret2
     exact ⟨rfl, hbr.out _ b1⟩
  rw [if_pos ⟨rfl, hkr⟩] at hr1 hr2
  clear hrb
  have hk3 : k = 0 ∨ ∃ kk : Nat, k = (kk : Int) ∧ 1 ≤ kk ∧ kk ≤ 2 := by
    by_cases h : k = 0
    · exact .inl h
    · exact .inr ⟨k.toNat, by omega, by omega, by omega⟩
  rcases hk3 with rfl | ⟨kk, rfl, hkk1, hkk2⟩
  · rw [if_pos rfl] at hr1 hr2
    simp only at hr1 hr2
    subst hr1 hr2
    have hwr : IntKind.i64.wrap (c.c4 - 1) = c.c4 - 1 := IntWalk.i64_in _ (by omega)
    clear y3 y4
    go_enter Try.func8, Try.ntmps8
    go_wp2_with (first
      | (go_at_call 20; refine (PR.out _).mono ?_; rintro e w1 ⟨rfl, b1⟩; have ⟨q0, q1, q2, q3, q4, q5, q6, q7⟩ := hCr.out w1 b1; have ⟨p0, p1, p2, p3, p4, p5, p6⟩ := (hBr.out w1 b1).cells; have z1 := (hBr.out w1 b1).lt))
    go_quiet (fail)
    go_wp2
    go_ret2
    exact ⟨rfl, (hbr.out _ b1).trans (below_drewN (Below.refl _ _) _)⟩
  have hm : r1 = Pl.sizes (L.t kk) ∧ r2 = c.c5 * 4 ^ (kk - 1) := by
    rw [if_neg (by omega)] at hr1 hr2
    have h12 : kk = 1 ∨ kk = 2 := by omega
    rcases h12 with rfl | rfl
    · exact ⟨by rw [hr1]; rfl, by rw [hr2]; simp⟩
    · exact ⟨by rw [hr1]; rfl, by rw [hr2]; simp⟩
  obtain ⟨hr1', hr2'⟩ := hm
  clear hr1 hr2
  replace hr2' := Lib.hid hr2'
  have hlen1 := hlen kk (by omega)
  have hkI : (0 : Int) ≤ (kk : Int) := by omega
  have hkI4 : (kk : Int) < 4 := by omega
  have hkne : ((kk : Int) == 0) = false := by simp; omega
  clear y1 y2 hlen hkr
  go_enter Try.func8, Try.ntmps8
  go_wp2_with (first
    | (go_at_call 20; refine (PR.out _).mono ?_; rintro e w1 ⟨rfl, b1⟩; have ⟨q0, q1, q2, q3, q4, q5, q6, q7⟩ := hCr.out w1 b1; have z1 := (hBr.out w1 b1).lt))
  have p4 := (hBr.out w1 b1).k kk (by omega)
  have z2 := (hBr.out w1 b1).lt
  obtain ⟨ao, cap, hsl, g1, g2, hn, hc⟩ := hLr.out w1 b1 kk (by omega)
  injection hsl with s1 s2 s3
  subst s1 s3
  clear s2 hn
  have hBox := Lib.hid (hBr.out w1 b1)
  clear q0 q1 q2 q3 q4 q6 q7
  generalize L.t kk = t at *
  go_loopw [9, 10] (fun v i W' => ∃ q : Nat, q ≤ t.length ∧ i = .int .i64 (q : Int) ∧ v = .int .i64 (Pl.sizes (t.take q)) ∧ Q w1 W') (fun _ i _ => t.length - (intOf i).toNat)
  case atStart => exact ⟨0, Nat.zero_le _, rfl, by simp [Pl.sizes], Q.refl _⟩
  case round =>
    obtain ⟨q, hq, rfl, rfl, hbq⟩ := hrel
    have hbb : Below w1.heap.size w1 wr := hbq.below _
    have p4r := (hbb.cell (p := ⟨w.heap.size + 1, 3 + kk, none⟩) z2).trans p4
    have q5r := (hbb.cell (p := ⟨w.heap.size, 5, none⟩) (show w.heap.size < w1.heap.size by omega)).trans q5
    have zr : w.heap.size + 1 < wr.heap.size := Nat.lt_of_lt_of_le z2 hbb.size
    by_cases hql : q < t.length
    case pos =>
      obtain ⟨b, off, hao, hbl, hx⟩ := hc (by omega)
      have hxx := (hx q hql).block (hbb.block b hbl)
      have hsn := Lib.hid (show Pl.sizes (t.take (q + 1)) = wrap64 (Pl.sizes (t.take q) + t[q].size) by rw [List.take_succ_eq_append_getElem hql, Pl.sizes_snoc])
      clear hx hc
      generalize t[q] = x at *
      generalize Pl.sizes (t.take q) = S at *
      obtain ⟨x0, x1, x2, x3, x4, x5⟩ := hxx
      rw [hao] at p4r
      go_wp2
      go_roundw
      case rel => exact ⟨q + 1, by omega, by go_num, by rw [hsn.out], hbq⟩
      case measure => simp [intOf]; omega
    obtain rfl : q = t.length := by omega
    rw [List.take_of_length_le (Nat.le_refl _), ← hr1']
    have hbwr := Lib.hid (hbr.out _ (b1.trans (hbb.mono b1.size)))
    clear hc hr1' p4
    have h12 : kk = 1 ∨ kk = 2 := by omega
    have hw4 : IntKind.i64.wrap (4 * c.c5) = 4 * c.c5 := IntWalk.i64_in _ (by omega)
    rcases h12 with rfl | rfl
    · have hv := hr2'.out
      simp only [Nat.sub_self, Int.pow_zero, Int.mul_one] at hv
      subst hv
      go_wp2
      go_quiet (fail)
      go_wp2
      go_ret2
      exact ⟨rfl, hbwr.out.trans (below_drewN (Below.refl _ _) _)⟩
    · have hv : r2 = 4 * c.c5 := by rw [hr2'.out]; simp; omega
      subst hv
      go_wp2
      go_quiet (fail)
      go_wp2
      go_ret2
      exact ⟨rfl, hbwr.out.trans (below_drewN (Below.refl _ _) _)⟩
end Go.Proofs.Ytekfaodjadinnaa
