
/- Walks: how much there is in a level (the program's Score and the document's); spans. Condition: none. -/
import Derived.Test.YtekfaodjadinnaaWAp1
import Derived.Test.YtekfaodjadinnaaWRight2
import Derived.IntWalk
namespace Go.Proofs.Ytekfaodjadinnaa
open Go.RowKit

namespace Pl
structure Cfg where
  c0 : Int
  c1 : Int
  c2 : Int
  c3 : Int
  c4 : Int
  c5 : Int
  c6 : Int
  c7 : Int
def Cfg.right (c : Cfg) : Bool := rightB c.c0 c.c1 c.c2 c.c3 c.c4 c.c5 c.c6
theorem Cfg.right_b {c : Cfg} (h : c.right = true) : (1 ≤ c.c4 ∧ c.c4 ≤ 8) ∧ (256 ≤ c.c5 ∧ c.c5 ≤ 1048576) := by
  unfold Cfg.right at h
  rw [rightB_eq] at h
  have := of_decide_eq_true h
  exact ⟨this.2.2.2.2.1, this.2.2.2.2.2.1⟩
/-- the sizes of tables, summed as the machine sums -/
def sizes (l : List Tb) : Int := l.foldl (fun n t => wrap64 (n + t.size)) 0
theorem sizes_snoc (l : List Tb) (t : Tb) : sizes (l ++ [t]) = wrap64 (sizes l + t.size) := by simp [sizes, List.foldl_append]
/-- how much there is, how much there may be -/
def score (c : Cfg) (L : Lv) (k : Int) : Int × Int :=
  if c.right = true ∧ 0 ≤ k ∧ k ≤ 2 then
    if k = 0 then (((L.t 0).length : Int), c.c4 - 1) else if k = 1 then (sizes (L.t 1), c.c5) else (sizes (L.t 2), c.c5 * 4)
  else (0, 0)
end Pl
def cfgV (c : Pl.Cfg) : Value := .agg #[.int .i64 c.c0, .int .i64 c.c1, .int .i64 c.c2, .int .i64 c.c3, .int .i64 c.c4, .int .i64 c.c5, .int .i64 c.c6, .int .u64 c.c7]

/-- a configuration in a box of its own -/
def CfgBox (W : World) (b : Nat) (c : Pl.Cfg) : Prop := W.heap[b]? = some (.cells #[.int .i64 c.c0, .int .i64 c.c1, .int .i64 c.c2, .int .i64 c.c3, .int .i64 c.c4, .int .i64 c.c5, .int .i64 c.c6, .int .u64 c.c7] 24 (0, 0))
theorem CfgBox.lt {W : World} {b : Nat} {c : Pl.Cfg} (h : CfgBox W b c) : b < W.heap.size := (Array.getElem?_eq_some_iff.1 h).1
theorem CfgBox.below {W W' : World} {b : Nat} {c : Pl.Cfg} (h : CfgBox W b c) (hb : Below W.heap.size W W') : CfgBox W' b c := (hb.block b h.lt).trans h
theorem CfgBox.cells {W : World} {b : Nat} {c : Pl.Cfg} (h : CfgBox W b c) : W.cell? ⟨b, 0, none⟩ = some (.int .i64 c.c0) ∧ W.cell? ⟨b, 1, none⟩ = some (.int .i64 c.c1) ∧ W.cell? ⟨b, 2, none⟩ = some (.int .i64 c.c2) ∧ W.cell? ⟨b, 3, none⟩ = some (.int .i64 c.c3) ∧
    W.cell? ⟨b, 4, none⟩ = some (.int .i64 c.c4) ∧ W.cell? ⟨b, 5, none⟩ = some (.int .i64 c.c5) ∧ W.cell? ⟨b, 6, none⟩ = some (.int .i64 c.c6) ∧ W.cell? ⟨b, 7, none⟩ = some (.int .u64 c.c7) := by
  unfold CfgBox at h
  refine ⟨?_, ?_, ?_, ?_, ?_, ?_, ?_, ?_⟩ <;> simp [World.cell?, h]

set_option maxRecDepth 100000 in
set_option maxHeartbeats 8000000 in
theorem score_any (c : Pl.Cfg) (L : Pl.Lv) (a : Nat → Option Addr) (cc : Nat → Nat) (k : Int) (w : World) (hL : LvAt w L a cc) (hk : -1 ≤ k ∧ k ≤ 100) (hlen : ∀ k, k < 4 → (L.t k).length ≤ 1073741824) :
    Calls Try.prog 7 #[cfgV c, lvV L a cc, .int .i64 k] w fun e w' => e = .returned (.tuple #[.int .i64 (Pl.score c L k).1, .int .i64 (Pl.score c L k).2]) ∧ Below w.heap.size w w' := by
  obtain ⟨r1, hr1⟩ : ∃ r, r = (Pl.score c L k).1 := ⟨_, rfl⟩
  obtain ⟨r2, hr2⟩ : ∃ r, r = (Pl.score c L k).2 := ⟨_, rfl⟩
  rw [← hr1, ← hr2]
  obtain ⟨hk1, hk2⟩ := hk
  have PR := Lib.hid (fun W => right_any c.c0 c.c1 c.c2 c.c3 c.c4 c.c5 c.c6 c.c7 W)
  have PW := Lib.hid (fun W => within_any k 0 2 W)
  unfold Pl.score at hr1 hr2
  obtain ⟨W0, hW0⟩ : ∃ W0, (w.alloc (.cells #[.int .i64 c.c0, .int .i64 c.c1, .int .i64 c.c2, .int .i64 c.c3, .int .i64 c.c4, .int .i64 c.c5, .int .i64 c.c6, .int .u64 c.c7] 24)).alloc (.cells (lvCells L a cc) 30) = W0 := ⟨_, rfl⟩
  have hb0 : Below w.heap.size w W0 := by rw [← hW0]; exact ((Below.refl _ _).alloc (Nat.le_refl _) _).alloc (by simp) _
  have hC0 : CfgBox W0 w.heap.size c := by
    rw [← hW0]
    exact (show CfgBox (w.alloc (.cells #[.int .i64 c.c0, .int .i64 c.c1, .int .i64 c.c2, .int .i64 c.c3, .int .i64 c.c4, .int .i64 c.c5, .int .i64 c.c6, .int .u64 c.c7] 24)) w.heap.size c from World.alloc_heap_new _ _).below ((Below.refl _ _).alloc (Nat.le_refl _) _)
  have hL0 : LvBox W0 (w.heap.size + 1) L a cc := by
    rw [← hW0]
    have h2 := LvBox.new (w.alloc (.cells #[.int .i64 c.c0, .int .i64 c.c1, .int .i64 c.c2, .int .i64 c.c3, .int .i64 c.c4, .int .i64 c.c5, .int .i64 c.c6, .int .u64 c.c7] 24)) L a cc
    rw [World.size_alloc] at h2
    exact h2
  simp only [lvCells] at hW0
  have hLr := Lib.hid (fun (W : World) (h : Below W0.heap.size W0 W) => (hL.below (hb0.trans (h.mono hb0.size))))
  have hCr := Lib.hid (fun (W : World) (h : Below W0.heap.size W0 W) => (hC0.below h).cells)
  have hbr := Lib.hid (fun (W : World) (h : Below W0.heap.size W0 W) => hb0.trans (h.mono hb0.size))
  have hBr := Lib.hid (fun (W : World) (h : Below W0.heap.size W0 W) => hL0.below h)
  have hrb : c.right = true → (1 ≤ c.c4 ∧ c.c4 ≤ 8) ∧ (256 ≤ c.c5 ∧ c.c5 ≤ 1048576) := fun h => Pl.Cfg.right_b h
  have hrd : c.right = rightB c.c0 c.c1 c.c2 c.c3 c.c4 c.c5 c.c6 := rfl
  unfold cfgV lvV
  obtain ⟨k0, k1, k2, k3, k4, k5, k6, k7⟩ := hC0.cells
  have hz0 := hL0.lt
  obtain ⟨R, hR⟩ : ∃ R, R = c.right := ⟨_, rfl⟩
  rw [← hrd, ← hR] at PR
  rw [← hR] at hr1 hr2 hrb
  clear hrd hR
  cases R
  case false =>
    have e1 : r1 = 0 := by rw [hr1]; simp
    have e2 : r2 = 0 := by rw [hr2]; simp
    subst e1 e2
    clear hr1 hr2 hrb
    go_enter Try.func7, Try.ntmps7
    go_wp2_with (first
      | (go_at_call 18; refine (PR.out _).mono ?_; rintro e w1 ⟨rfl, b1⟩))
    go_ret2
    exact ⟨rfl, hbr.out _ b1⟩
  obtain ⟨⟨y1, y2⟩, y3, y4⟩ := hrb rfl
  by_cases hkr : 0 ≤ k ∧ k ≤ 2
  case neg =>
    have e1 : r1 = 0 := by rw [hr1, if_neg (fun h => hkr h.2)]
    have e2 : r2 = 0 := by rw [hr2, if_neg (fun h => hkr h.2)]
    subst e1 e2
    have hwB : wB k 0 2 = false := by unfold wB; exact decide_eq_false hkr
    rw [hwB] at PW
    clear hr1 hr2 hrb hkr hwB
    go_enter Try.func7, Try.ntmps7
    go_wp2_with (first
      | (go_at_call 18; refine (PR.out _).mono ?_; rintro e w1 ⟨rfl, b1⟩)
      | (go_at_call 19; refine (PW.out _).mono ?_; rintro e w1 ⟨rfl, rfl⟩))
    go_ret2
    exact ⟨rfl, hbr.out _ b1⟩
  have hwB : wB k 0 2 = true := by unfold wB; exact decide_eq_true hkr
  rw [hwB] at PW
  rw [if_pos ⟨rfl, hkr⟩] at hr1 hr2
  clear hwB hrb
  have hk3 : k = 0 ∨ ∃ kk : Nat, k = (kk : Int) ∧ 1 ≤ kk ∧ kk ≤ 2 := by
    by_cases h : k = 0
    · exact .inl h
    · exact .inr ⟨k.toNat, by omega, by omega, by omega⟩
  rcases hk3 with rfl | ⟨kk, rfl, hkk1, hkk2⟩
  · rw [if_pos rfl] at hr1 hr2
    simp only at hr1 hr2
    subst hr1 hr2
    have hwr : IntKind.i64.wrap (c.c4 - 1) = c.c4 - 1 := IntWalk.i64_in _ (by omega)
    clear y3 y4
    go_enter Try.func7, Try.ntmps7
    go_wp2_with (first
      | (go_at_call 18; refine (PR.out _).mono ?_; rintro e w1 ⟨rfl, b1⟩; have ⟨q0, q1, q2, q3, q4, q5, q6, q7⟩ := hCr.out w1 b1; have ⟨p0, p1, p2, p3, p4, p5, p6⟩ := (hBr.out w1 b1).cells; have z1 := (hBr.out w1 b1).lt)
      | (go_at_call 19; refine (PW.out _).mono ?_; rintro e w1 ⟨rfl, rfl⟩))
    go_quiet (fail)
    go_wp2
    go_ret2
    exact ⟨rfl, (hbr.out _ b1).trans (below_drewN (Below.refl _ _) _)⟩
  have hm : r1 = Pl.sizes (L.t kk) ∧ r2 = c.c5 * 4 ^ (kk - 1) := by
    rw [if_neg (by omega)] at hr1 hr2
    have h12 : kk = 1 ∨ kk = 2 := by omega
    rcases h12 with rfl | rfl
    · exact ⟨by rw [hr1]; rfl, by rw [hr2]; simp⟩
    · exact ⟨by rw [hr1]; rfl, by rw [hr2]; simp⟩
  obtain ⟨hr1', hr2'⟩ := hm
  clear hr1 hr2
  replace hr2' := Lib.hid hr2'
  have hlen1 := hlen kk (by omega)
  have hkI : (0 : Int) ≤ (kk : Int) := by omega
  have hkI4 : (kk : Int) < 4 := by omega
  have hkne : ((kk : Int) == 0) = false := by simp; omega
  clear y1 y2 hlen hkr
  go_enter Try.func7, Try.ntmps7
  go_wp2_with (first
    | (go_at_call 18; refine (PR.out _).mono ?_; rintro e w1 ⟨rfl, b1⟩; have ⟨q0, q1, q2, q3, q4, q5, q6, q7⟩ := hCr.out w1 b1; have z1 := (hBr.out w1 b1).lt)
    | (go_at_call 19; refine (PW.out _).mono ?_; rintro e w1 ⟨rfl, rfl⟩))
  go_quiet (fail)
  have b2 : Below W0.heap.size W0 (w1.drewN nq) := b1.trans (below_drewN (Below.refl _ _) _)
  clear q0 q1 q2 q3 q4 q5 q6 q7 z1 b1
  generalize w1.drewN nq = w2 at *
  have p4 := (hBr.out w2 b2).k kk (by omega)
  have z2 := (hBr.out w2 b2).lt
  obtain ⟨ao, cap, hsl, g1, g2, hn, hc⟩ := hLr.out w2 b2 kk (by omega)
  injection hsl with s1 s2 s3
  subst s1 s3
  clear s2 hn
  go_wp2_with fail
  generalize L.t kk = t at *
  go_loopw [8, 38] (fun v i W' => ∃ q : Nat, q ≤ t.length ∧ i = .int .i64 (q : Int) ∧ v = .int .i64 (Pl.sizes (t.take q)) ∧ Below w2.heap.size w2 W') (fun _ i _ => t.length - (intOf i).toNat)
  case atStart => exact ⟨0, Nat.zero_le _, rfl, by simp [Pl.sizes], Below.refl _ _⟩
  case round =>
    obtain ⟨q, hq, rfl, rfl, hbq⟩ := hrel
    by_cases hql : q < t.length
    case pos =>
      obtain ⟨b, off, hao, hbl, hx⟩ := hc (by omega)
      have hxx := (hx q hql).block (hbq.block b hbl)
      have hsn := Lib.hid (show Pl.sizes (t.take (q + 1)) = wrap64 (Pl.sizes (t.take q) + t[q].size) by rw [List.take_succ_eq_append_getElem hql, Pl.sizes_snoc])
      clear hx hc
      generalize t[q] = x at *
      generalize Pl.sizes (t.take q) = S at *
      obtain ⟨x0, x1, x2, x3, x4, x5⟩ := hxx
      rw [hao]
      go_wp2
      go_roundw
      case rel => exact ⟨q + 1, by omega, by go_num, by rw [hsn.out], hbq.alloc hbq.size _⟩
      case measure => simp [intOf]; omega
    obtain rfl : q = t.length := by omega
    rw [List.take_of_length_le (Nat.le_refl _), ← hr1']
    have hbwr := Lib.hid (hbr.out _ (b2.trans (hbq.mono b2.size)))
    have hwk : IntKind.i64.wrap ((kk : Int) - 1) = (kk : Int) - 1 := IntWalk.i64_in _ (by omega)
    clear hc hr1' p4
    obtain ⟨wo, rfl⟩ : ∃ wo : World, wo = wr := ⟨_, rfl⟩
    go_wp2_with fail
    go_loopw [9, 49] (fun v i W' => ∃ q : Nat, q ≤ kk - 1 ∧ i = .int .i64 (q : Int) ∧ v = .int .i64 (c.c5 * 4 ^ q) ∧ W' = wo) (fun _ i _ => kk - 1 - (intOf i).toNat)
    case atStart => exact ⟨0, Nat.zero_le _, rfl, by simp, rfl⟩
    case round =>
      obtain ⟨q, hq, rfl, rfl, rfl⟩ := hrel
      by_cases hql : q < kk - 1
      · obtain rfl : q = 0 := by omega
        have hw4 : IntKind.i64.wrap (c.c5 * 4) = c.c5 * 4 := IntWalk.i64_in _ (by omega)
        have hlt : (0 : Int) < (kk : Int) - 1 := by omega
        rw [show ((0 : Nat) : Int) = 0 from rfl, show c.c5 * 4 ^ 0 = c.c5 by simp]
        go_wp2
        go_roundw
        case rel => exact ⟨1, by omega, by go_num, by simp, trivial⟩
        case measure => simp [intOf]; omega
      · obtain rfl : q = kk - 1 := by omega
        have hge : ¬ ((kk - 1 : Nat) : Int) < (kk : Int) - 1 := by omega
        rw [← hr2'.out]
        go_wp2
        go_ret2
        exact ⟨rfl, hbwr.out⟩
end Go.Proofs.Ytekfaodjadinnaa
