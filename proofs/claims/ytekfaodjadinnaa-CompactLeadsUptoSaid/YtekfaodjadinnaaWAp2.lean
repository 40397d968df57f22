/- Walk: an edit applied. Condition: the rows are short enough. -/
import Derived.Test.YtekfaodjadinnaaWOut
import Derived.Deep.RegionWith
import Derived.StillTailTactics
namespace Go.Proofs.Ytekfaodjadinnaa
open Go.RowKit

theorem NumsAt.take {W : World} {b off n cap : Nat} {l : List Nat} (h : NumsAt W (.slice (some ⟨b, off, none⟩) n cap) l) (k : Nat) (hk : k ≤ l.length) : NumsAt W (.slice (some ⟨b, off, none⟩) k cap) (l.take k) := by
  obtain ⟨ao, cap', e, h1, h2, hc⟩ := h
  injection e with e1 e2 e3
  subst e1 e2 e3
  have hl : (l.take k).length = k := by rw [List.length_take]; omega
  refine ⟨_, cap, by rw [hl], by rw [hl]; omega, h2, fun h0 => ?_⟩
  rw [hl] at h0
  obtain ⟨b', off', e, hlt, hc⟩ := hc (by omega)
  refine ⟨b', off', e, hlt, fun i hi => ?_⟩
  rw [hl] at hi
  rw [List.getElem_take]
  exact hc i (by omega)
theorem apply_no1 {L : Pl.Lv} {e : Pl.Ed} (h : Pl.mayE e = false) : Pl.apply L e = none := by unfold Pl.apply; rw [if_pos h]
theorem apply_no2 {L : Pl.Lv} {e : Pl.Ed} (h : e.next < L.next ∨ e.seq < L.seq ∨ e.log < L.log) : Pl.apply L e = none := by
  unfold Pl.apply
  by_cases h1 : Pl.mayE e = false
  · rw [if_pos h1]
  · rw [if_neg h1, if_pos h]
theorem apply_no3 {L : Pl.Lv} {e : Pl.Ed} (h : Pl.dropOk (Pl.nums L) e.drop = false) : Pl.apply L e = none := by
  unfold Pl.apply
  by_cases h1 : Pl.mayE e = false
  · rw [if_pos h1]
  · rw [if_neg h1]
    by_cases h2 : e.next < L.next ∨ e.seq < L.seq ∨ e.log < L.log
    · rw [if_pos h2]
    · rw [if_neg h2, if_pos h]
theorem apply_go {L : Pl.Lv} {e : Pl.Ed} (h1 : Pl.mayE e = true) (h2 : ¬ (e.next < L.next ∨ e.seq < L.seq ∨ e.log < L.log)) (h3 : Pl.dropOk (Pl.nums L) e.drop = true) : Pl.apply L e = Pl.addAll e.next ⟨e.next, e.seq, e.log, Pl.tK L e.drop 4 0⟩ e.add := by
  unfold Pl.apply
  rw [if_neg (by rw [h1]; decide), if_neg h2, if_neg (by rw [h3]; decide)]

theorem addAll_bad {nx : Nat} {o : Pl.Lv} {x : Pl.Tb} {r : List Pl.Tb} (h : x.num ∈ Pl.nums o ∨ nx ≤ x.num) : Pl.addAll nx o (x :: r) = none := by
  have : Pl.addOne nx o x = none := by unfold Pl.addOne; rw [if_pos h]
  simp [Pl.addAll, this]
theorem addAll_over {nx : Nat} {o : Pl.Lv} {x : Pl.Tb} {r : List Pl.Tb} (h : 0 < x.level) (i : Nat) (hi : i < (o.t x.level.toNat).length) (hv : Pl.overB (o.t x.level.toNat)[i] x.least x.greatest = true) : Pl.addAll nx o (x :: r) = none := by
  have : Pl.addOne nx o x = none := by
    unfold Pl.addOne
    by_cases h1 : x.num ∈ Pl.nums o ∨ nx ≤ x.num
    · rw [if_pos h1]
    · rw [if_neg h1, if_pos ⟨h, _, List.getElem_mem hi, hv⟩]
  simp [Pl.addAll, this]
theorem addAll_good {nx : Nat} {o : Pl.Lv} {x : Pl.Tb} {r : List Pl.Tb} (h1 : ¬ (x.num ∈ Pl.nums o ∨ nx ≤ x.num)) (h2 : 0 < x.level → ∀ i (hi : i < (o.t x.level.toNat).length), Pl.overB (o.t x.level.toNat)[i] x.least x.greatest = false) :
    Pl.addAll nx o (x :: r) = Pl.addAll nx { o with t := fun k => if k = x.level.toNat then Pl.put (o.t k) x else o.t k } r := by
  have : Pl.addOne nx o x = some { o with t := fun k => if k = x.level.toNat then Pl.put (o.t k) x else o.t k } := by
    unfold Pl.addOne
    rw [if_neg h1, if_neg]
    rintro ⟨h3, y, hy, hv⟩
    obtain ⟨i, hi, rfl⟩ := List.mem_iff_getElem.1 hy
    rw [h2 h3 i hi] at hv
    cases hv
  simp [Pl.addAll, this]

theorem addAll_good' {nx nx' sq lg lv xn : Nat} {t : Nat → List Pl.Tb} {xs xc : Int} {xp xq : ByteArray} {r : List Pl.Tb} (h1 : ¬ (xn ∈ Pl.nums ⟨nx', sq, lg, t⟩ ∨ nx ≤ xn)) (h2 : 0 < lv → ∀ i (hi : i < (t lv).length), Pl.overB (t lv)[i] xp xq = false) :
    Pl.addAll nx ⟨nx', sq, lg, t⟩ (⟨xn, (lv : Int), xs, xc, xp, xq⟩ :: r) = Pl.addAll nx ⟨nx', sq, lg, fun k => if k = lv then Pl.put (t k) ⟨xn, (lv : Int), xs, xc, xp, xq⟩ else t k⟩ r := by
  have h := addAll_good (nx := nx) (o := ⟨nx', sq, lg, t⟩) (x := ⟨xn, (lv : Int), xs, xc, xp, xq⟩) (r := r) h1 (by
    intro h0
    have h0' : 0 < lv := by
      have : (0 : Int) < (lv : Int) := h0
      omega
    exact h2 h0')
  exact h
theorem addAll_over' {nx nx' sq lg lv xn : Nat} {t : Nat → List Pl.Tb} {xs xc : Int} {xp xq : ByteArray} {r : List Pl.Tb} (h0 : 0 < lv) (i : Nat) (hi : i < (t lv).length) (hv : Pl.overB (t lv)[i] xp xq = true) :
    Pl.addAll nx ⟨nx', sq, lg, t⟩ (⟨xn, (lv : Int), xs, xc, xp, xq⟩ :: r) = none :=
  addAll_over (nx := nx) (o := ⟨nx', sq, lg, t⟩) (x := ⟨xn, (lv : Int), xs, xc, xp, xq⟩) (r := r) (show (0 : Int) < (lv : Int) by omega) i hi hv

/-- how Apply ends -/
def ApEnd (w : World) (R : Option Pl.Lv) (e : Ending) (w' : World) : Prop :=
  ∃ (L2 : Pl.Lv) (a2 : Nat → Option Addr) (c2 : Nat → Nat) (n : Int), e = .returned (.tuple #[lvV L2 a2 c2, .int .i64 n]) ∧ LvAt w' L2 a2 c2 ∧ Below w.heap.size w w' ∧ ((n = 0 ∧ R = some L2) ∨ (n ≠ 0 ∧ R = none))

set_option maxRecDepth 100000 in
set_option maxHeartbeats 40000000 in
theorem apply_any (L : Pl.Lv) (a : Nat → Option Addr) (c : Nat → Nat) (e : Pl.Ed) (ua ud : Value) (w : World) (hL : LvAt w L a c) (ha : TbsIn w ua e.add) (hd : NumsAt w ud e.drop) (hs : ∀ k, k < 4 → (L.t k).length ≤ 536870912) :
    Calls Try.prog 17 #[lvV L a c, .agg #[.int .u64 (e.next : Int), .int .u64 (e.seq : Int), .int .u64 (e.log : Int), ua, ud]] w (ApEnd w (Pl.apply L e)) := by
  obtain ⟨R, hR⟩ : ∃ R, R = Pl.apply L e := ⟨_, rfl⟩
  rw [← hR]
  have hno1 : Hid (Pl.mayE e = false → R = none) := Lib.hid (fun h => by rw [hR]; exact apply_no1 h)
  have hno2 : Hid (e.next < L.next ∨ e.seq < L.seq ∨ e.log < L.log → R = none) := Lib.hid (fun h => by rw [hR]; exact apply_no2 h)
  have hno3 : Hid (Pl.dropOk (Pl.nums L) e.drop = false → R = none) := Lib.hid (fun h => by rw [hR]; exact apply_no3 h)
  have hgo : Hid (Pl.mayE e = true → ¬ (e.next < L.next ∨ e.seq < L.seq ∨ e.log < L.log) → Pl.dropOk (Pl.nums L) e.drop = true → R = Pl.addAll e.next ⟨e.next, e.seq, e.log, Pl.tK L e.drop 4 0⟩ e.add) := Lib.hid (fun h1 h2 h3 => by rw [hR]; exact apply_go h1 h2 h3)
  clear hR
  have ha0 := Lib.hid ha
  have hd0 := Lib.hid hd
  obtain ⟨aa, ca, rfl, a1, a2, hac⟩ := ha
  obtain ⟨ad, cd, rfl, d1, d2, hdc⟩ := hd
  obtain ⟨W0, hW0⟩ : ∃ W0, ((w.alloc (.cells (lvCells L a c) 30)).alloc (.cells #[.int .u64 (e.next : Int), .int .u64 (e.seq : Int), .int .u64 (e.log : Int), .slice aa e.add.length ca, .slice ad e.drop.length cd] 57)).alloc (.cells #[.int .u64 0, .int .u64 0, .int .u64 0, .slice none 0 0, .slice none 0 0, .slice none 0 0, .slice none 0 0] 30) = W0 := ⟨_, rfl⟩
  have hA0 : ApW w L a c e (.slice aa e.add.length ca) (.slice ad e.drop.length cd) W0 := by
    rw [← hW0]
    refine ⟨?_, ?_, ?_, ?_⟩
    · exact ((LvBox.new w L a c).below ((Below.refl _ _).alloc (Nat.le_refl _) _)).below ((Below.refl _ _).alloc (Nat.le_refl _) _)
    · have h1 : ((w.alloc (.cells (lvCells L a c) 30)).alloc (.cells #[.int .u64 (e.next : Int), .int .u64 (e.seq : Int), .int .u64 (e.log : Int), .slice aa e.add.length ca, .slice ad e.drop.length cd] 57)).heap[w.heap.size + 1]? = some (.cells #[.int .u64 (e.next : Int), .int .u64 (e.seq : Int), .int .u64 (e.log : Int), .slice aa e.add.length ca, .slice ad e.drop.length cd] 57 (0, 0)) := by
        have h2 := World.alloc_heap_new (w.alloc (.cells (lvCells L a c) 30)) (.cells #[.int .u64 (e.next : Int), .int .u64 (e.seq : Int), .int .u64 (e.log : Int), .slice aa e.add.length ca, .slice ad e.drop.length cd] 57)
        simpa using h2
      exact (((Below.refl _ _).alloc (Nat.le_refl _) _).block _ (Array.getElem?_eq_some_iff.1 h1).1).trans h1
    · have h2 := World.alloc_heap_new ((w.alloc (.cells (lvCells L a c) 30)).alloc (.cells #[.int .u64 (e.next : Int), .int .u64 (e.seq : Int), .int .u64 (e.log : Int), .slice aa e.add.length ca, .slice ad e.drop.length cd] 57)) (.cells #[.int .u64 0, .int .u64 0, .int .u64 0, .slice none 0 0, .slice none 0 0, .slice none 0 0, .slice none 0 0] 30)
      rw [World.size_alloc, World.size_alloc] at h2
      exact h2
    · exact (((Below.refl _ _).alloc (Nat.le_refl _) _).alloc (by simp) _).alloc (by simp; omega) _
  have hz0 := hA0.lt
  simp only [lvCells] at hW0
  unfold lvV
  have PM := Lib.hid (fun W => mayEdit_any e (.slice aa e.add.length ca) (.slice ad e.drop.length cd) W)
  have q := hA0.ecells
  obtain ⟨q0, q1, q2, q3, q4⟩ := q
  have hpr := hA0.lb.cells
  obtain ⟨p0, p1, p2, _, _, _, _⟩ := hpr
  have hA0h := Lib.hid hA0
  have hin := Lib.hid (fun (W : World) (h : Below w.heap.size w W) => (⟨ha0.out.below h, hd0.out.below h⟩ : TbsIn W _ e.add ∧ NumsAt W _ e.drop))
  have hF := Lib.hid (fun (w1 : World) (h : Below W0.heap.size W0 w1) => (hA0h.out.below h).rb.frz)
  have hC := Lib.hid (fun (w1 : World) (h : Below W0.heap.size W0 w1) => (hA0h.out.below h).rb.cells)
  obtain ⟨may, hm⟩ : ∃ m, m = Pl.mayE e := ⟨_, rfl⟩
  have hmf : Hid (may = true → e.add.length ≤ 1000 ∧ ∀ x ∈ e.add, Pl.mayT x = true) := Lib.hid (fun h => by
    rw [hm] at h
    unfold Pl.mayE at h
    have h' := of_decide_eq_true h
    exact ⟨h'.2.2.2.1, h'.2.2.2.2.2.1⟩)
  rw [← hm] at PM hno1 hgo
  clear hm
  cases may
  case false =>
    -- [A
    have hr := hno1.out rfl
    subst hr
    go_enter Try.func17, Try.ntmps17
    go_wp2_with (go_at_call 37; refine (PM.out _ (hin.out _ hA0h.out.old).1 (hin.out _ hA0h.out.old).2).mono ?_; rintro x w1 ⟨rfl, b1⟩; have f1 := hF.out w1 b1; have ⟨c0, c1, c2, c3, c4, c5, c6⟩ := hC.out w1 b1; have g1 := (hA0h.out.below b1).lt; have hfin := Lib.hid (hA0h.out.below b1).refuse)
    refine bodyPost_ret (results_live2 rfl rfl rfl hfin.out.1) rfl ⟨Pl.Lv.zero, _, _, 1, rfl, LvAt.zero _, hfin.out.2, .inr ⟨by decide, rfl⟩⟩
    -- A]
  have hord : (e.next < L.next) ∨ (L.next ≤ e.next ∧ e.seq < L.seq) ∨ (L.next ≤ e.next ∧ L.seq ≤ e.seq ∧ e.log < L.log) ∨ (L.next ≤ e.next ∧ L.seq ≤ e.seq ∧ L.log ≤ e.log) := by omega
  rcases hord with o1 | ⟨o1, o2⟩ | ⟨o1, o2, o3⟩ | ⟨o1, o2, o3⟩
  iterate 3
    · -- [B
      have hr := hno2.out (by omega)
      subst hr
      have hE := Lib.hid (fun (w1 : World) (h : Below W0.heap.size W0 w1) => (hA0h.out.below h).ecells)
      have hP := Lib.hid (fun (w1 : World) (h : Below W0.heap.size W0 w1) => (hA0h.out.below h).lb.cells)
      go_enter Try.func17, Try.ntmps17
      go_wp2_with (go_at_call 37; refine (PM.out _ (hin.out _ hA0h.out.old).1 (hin.out _ hA0h.out.old).2).mono ?_; rintro x w1 ⟨rfl, b1⟩; have f1 := hF.out w1 b1; have ⟨c0, c1, c2, c3, c4, c5, c6⟩ := hC.out w1 b1; have ⟨e0, e1, e2, _, _⟩ := hE.out w1 b1; have ⟨g0, g1, g2, _, _, _, _⟩ := hP.out w1 b1; have g1 := (hA0h.out.below b1).lt; have hfin := Lib.hid (hA0h.out.below b1).refuse)
      refine bodyPost_ret (results_live2 rfl rfl rfl hfin.out.1) rfl ⟨Pl.Lv.zero, _, _, 3, rfl, LvAt.zero _, hfin.out.2, .inr ⟨by decide, rfl⟩⟩
      -- B]
  have hgo2 := Lib.hid (hgo.out rfl (by omega))
  obtain ⟨hadd, hmt⟩ := hmf.out rfl
  replace hmt := Lib.hid hmt
  clear hgo hno1 hno2
  have hE := Lib.hid (fun (w1 : World) (h : Below W0.heap.size W0 w1) => (hA0h.out.below h).ecells)
  have hP := Lib.hid (fun (w1 : World) (h : Below W0.heap.size W0 w1) => (hA0h.out.below h).lb.cells)
  have PN := Lib.hid (fun W h => numbers_any L a c W h (fun k hk => by have := hs k hk; omega))
  go_enter Try.func17, Try.ntmps17
  go_wp2_with (first
    | (go_at_call 37; refine (PM.out _ (hin.out _ hA0h.out.old).1 (hin.out _ hA0h.out.old).2).mono ?_; rintro x w1 ⟨rfl, b1⟩; have ⟨e0, e1, e2, _, _⟩ := hE.out w1 b1; have ⟨g0, g1, g2, g3, g4, g5, g6⟩ := hP.out w1 b1; have z1 := (hA0h.out.below b1).lt; have hL1 := Lib.hid (hL.below (hA0h.out.below b1).old))
    | (go_at_call 38; refine (PN.out w1 hL1.out).mono ?_; rintro x w2 ⟨vh, rfl, hvh, b2⟩; have b02 := b1.trans (b2.mono b1.size)))
  clear q0 q1 q2 q3 q4 p0 p1 p2 e0 e1 e2 g0 g1 g2 g3 g4 g5 g6
  have hvh' := Lib.hid hvh
  have hap2 := Lib.hid (hA0h.out.below b02)
  have hz2 := hap2.out.lt
  clear hvh b2 b1 z1
  go_loopw [8, 9, 10] (fun i _ _ W' => ∃ k : Nat, k ≤ e.drop.length ∧ i = .int .i64 (k : Int) ∧ Q w2 W' ∧ ∀ j (h : j < e.drop.length), j < k → e.drop[j] ∈ Pl.nums L ∧ e.drop[j] ∉ e.drop.take j) (fun i _ _ _ => e.drop.length - (intOf i).toNat)
  case atStart => exact ⟨0, Nat.zero_le _, rfl, Q.refl _, fun j _ h => absurd h (Nat.not_lt_zero _)⟩
  case round =>
    obtain ⟨k, hk, rfl, hq, hall⟩ := hrel
    have hbr : Below w2.heap.size w2 wr := hq.below _
    have hapr := hap2.out.below hbr
    have hE1 := hapr.ecells
    have hzr := hapr.lt
    by_cases hkl : k < e.drop.length
    case pos =>
      -- [C
      obtain ⟨_, _, _, _, e4⟩ := hE1
      obtain ⟨b, off, rfl, hbl, hx⟩ := hdc (by omega)
      have hcx := (hapr.old.cell (p := ⟨b, off + k, none⟩) hbl).trans (hx k hkl)
      have hud := hd0.out.below hapr.old
      have hbad : Hid (¬ (e.drop[k] ∈ Pl.nums L ∧ e.drop[k] ∉ e.drop.take k) → R = none) := Lib.hid (fun h => hno3.out (by
        unfold Pl.dropOk
        exact decide_eq_false (fun h' => h (h' k hkl))))
      have hnx : Hid (e.drop[k] ∈ Pl.nums L ∧ e.drop[k] ∉ e.drop.take k → ∀ j (h : j < e.drop.length), j < k + 1 → e.drop[j] ∈ Pl.nums L ∧ e.drop[j] ∉ e.drop.take j) := Lib.hid (fun h j hj hjk => by
        rcases Nat.lt_succ_iff_lt_or_eq.1 hjk with h3 | rfl
        · exact hall j hj h3
        · exact h)
      clear hall hx
      generalize e.drop[k] = n at *
      have P1 := Lib.hid (fun m => among_any (Pl.nums L) n vh (wr.drewN m) ((hvh'.out.below hbr).below (below_drewN (Below.refl _ _) m)))
      have P2 := Lib.hid (fun m => among_any (e.drop.take k) n (.slice (some ⟨b, off, none⟩) k cd) (wr.drewN m) ((hud.take k (by omega)).below (below_drewN (Below.refl _ _) m)))
      have hbr2 : b < wr.heap.size := Nat.lt_of_lt_of_le hbl hapr.old.size
      obtain ⟨r1, hr1⟩ : ∃ r, r = decide (n ∈ Pl.nums L) := ⟨_, rfl⟩
      obtain ⟨r2, hr2⟩ : ∃ r, r = decide (n ∈ e.drop.take k) := ⟨_, rfl⟩
      rw [← hr1] at P1
      rw [← hr2] at P2
      replace hr1 := Lib.hid hr1
      replace hr2 := Lib.hid hr2
      have P10 := Lib.hid (P1.out 0)
      rw [World.drewN_zero] at P10
      go_wp2_with (go_at_call 39; refine P10.out.mono ?_; rintro x wz ⟨rfl, rfl⟩)
      go_quiet (((go_at_call 39; exact Calls.quiet_of_same (P2.out _))))
      have hqd := hq.drewN nq
      have hapd := hapr.below (below_drewN (Below.refl _ _) nq)
      clear P1 P2 P10 hcx e4 hud hbr hapr hzr hq hbr2
      generalize wz.drewN nq = wd at *
      have hgood : (r1 = true ∧ r2 = false) ∨ ((r1 = false ∨ r2 = true) ∧ R = none) := by
        have h1 := hr1.out
        have h2 := hr2.out
        cases r1
        · exact .inr ⟨.inl rfl, hbad.out (fun h => by rw [decide_eq_true h.1] at h1; cases h1)⟩
        · cases r2
          · exact .inl ⟨rfl, rfl⟩
          · exact .inr ⟨.inr rfl, hbad.out (fun h => by rw [decide_eq_false h.2] at h2; cases h2)⟩
      rcases hgood with ⟨rfl, rfl⟩ | ⟨hrr, rfl⟩
      · have hnx' := Lib.hid (hnx.out ⟨of_decide_eq_true hr1.out.symm, of_decide_eq_false hr2.out.symm⟩)
        go_wp2
        go_roundw
        case rel => exact ⟨k + 1, by omega, by go_num, hqd, hnx'.out⟩
        case measure => simp [intOf]; omega
      · have hfin := Lib.hid hapd.refuse
        have hcs := hapd.rb.cells
        have hfs := hapd.rb.frz
        have hzd := hapd.lt
        obtain ⟨c0, c1, c2, c3, c4, c5, c6⟩ := hcs
        clear hnx hbad
        rcases hrr with rfl | rfl
        · go_wp2
          refine bodyPost_ret (results_live2 rfl rfl rfl hfin.out.1) rfl ⟨Pl.Lv.zero, _, _, 3, rfl, LvAt.zero _, hfin.out.2, .inr ⟨by decide, rfl⟩⟩
        · cases r1
          · go_wp2
            refine bodyPost_ret (results_live2 rfl rfl rfl hfin.out.1) rfl ⟨Pl.Lv.zero, _, _, 3, rfl, LvAt.zero _, hfin.out.2, .inr ⟨by decide, rfl⟩⟩
          · go_wp2
            refine bodyPost_ret (results_live2 rfl rfl rfl hfin.out.1) rfl ⟨Pl.Lv.zero, _, _, 3, rfl, LvAt.zero _, hfin.out.2, .inr ⟨by decide, rfl⟩⟩
      -- C]
    obtain rfl : k = e.drop.length := by omega
    have hgo3 := Lib.hid (hgo2.out (by unfold Pl.dropOk; exact decide_eq_true (fun j hj => hall j hj hj)))
    have hcs := hapr.lb.cells
    obtain ⟨e0, e1, e2, e3, e4⟩ := hE1
    clear hall hvh' hgo2 hno3 hcs
    have hO0 := OutW.new wr e.next e.seq e.log
    rw [← Pl.tK_zero L e.drop] at hO0
    have hapw := Lib.hid (fun (o : Pl.Lv) a' c' (W : World) (h : OutW wr wr.heap.size o a' c' W) => hapr.keep h.old (fun q hq => by omega))
    have hLat := Lib.hid hL
    replace hs := Lib.hid hs
    go_wp2_with fail
    generalize wr.alloc (.cells #[.int .u64 (e.next : Int), .int .u64 (e.seq : Int), .int .u64 (e.log : Int), .slice none 0 0, .slice none 0 0, .slice none 0 0, .slice none 0 0] 30) = W3 at hO0 ⊢
    obtain ⟨w2r, rfl⟩ : ∃ w2r : World, w2r = wr := ⟨_, rfl⟩
    generalize w2r.heap.size = m at *
    go_loopw [12, 13, 14] (fun i _ _ W' => ∃ (k : Nat) (a' : Nat → Option Addr) (c' : Nat → Nat), k ≤ 4 ∧ i = .int .i64 (k : Int) ∧ OutW w2r m ⟨e.next, e.seq, e.log, Pl.tK L e.drop k 0⟩ a' c' W') (fun i _ _ _ => 4 - (intOf i).toNat)
    case atStart => exact ⟨0, _, _, by omega, rfl, hO0⟩
    case round =>
      obtain ⟨k, a', c', hk, rfl, hO⟩ := hrel
      by_cases hk4 : k < 4
      case neg =>
        obtain rfl : k = 4 := by omega
        have hOA := hO.a
        have hlen0 := Lib.hid (fun j (hj : j < 4) => Pl.tK_length L e.drop 4 0 j 536870912 (by omega) hj hs.out)
        generalize Pl.tK L e.drop 4 0 = t0 at hOA hlen0 hgo3
        have hapa := Lib.hid (fun (o : Pl.Lv) a' c' (W : World) (h : OutA w2r m o a' c' W) => hapr.keep h.old (fun q hq => by have := hapr.lt; omega))
        clear hO hapw
        rw [show ((4 : Nat) : Int) = 4 from rfl]
        go_wp2_with fail
        go_loopw [15, 16, 17, 18, 19] (fun i _ _ _ _ W' => ∃ (k : Nat) (t : Nat → List Pl.Tb) (a' : Nat → Option Addr) (c' : Nat → Nat), k ≤ e.add.length ∧ i = .int .i64 (k : Int) ∧ OutA w2r m ⟨e.next, e.seq, e.log, t⟩ a' c' W' ∧ (∀ j, j < 4 → (t j).length ≤ 536870912 + k) ∧ R = Pl.addAll e.next ⟨e.next, e.seq, e.log, t⟩ (e.add.drop k)) (fun i _ _ _ _ _ => e.add.length - (intOf i).toNat)
        case atStart => exact ⟨0, _, _, _, Nat.zero_le _, rfl, hOA, hlen0.out, hgo3.out⟩
        case round =>
          obtain ⟨k, t, a', c', hk, rfl, hOA, hlen, hRk⟩ := hrel
          have hap := hapa.out _ _ _ _ hOA
          obtain ⟨_, _, _, e3, _⟩ := hap.ecells
          by_cases hkl : k < e.add.length
          case neg =>
            obtain rfl : k = e.add.length := by omega
            rw [List.drop_length] at hRk
            have hR : R = some ⟨e.next, e.seq, e.log, t⟩ := hRk
            subst hR
            obtain ⟨d0, d1, d2, d3, d4, d5, d6⟩ := hOA.ob.cells
            obtain ⟨c0, c1, c2, c3, c4, c5, c6⟩ := hap.rb.cells
            have f1 := hap.rb.frz
            have hzd := hap.lt
            have hmw := hOA.ob.lt
            have hOh := Lib.hid hOA
            have hap' := Lib.hid hap
            simp only at d0 d1 d2 d3 d4 d5 d6
            go_wp2
            have hks := keep_seven wr (w.heap.size + 1 + 1) (.int .u64 (e.next : Int)) (.int .u64 (e.seq : Int)) (.int .u64 (e.log : Int)) (.slice (a' 0) (t 0).length (c' 0)) (.slice (a' 1) (t 1).length (c' 1)) (.slice (a' 2) (t 2).length (c' 2)) (.slice (a' 3) (t 3).length (c' 3))
            refine bodyPost_ret (results_live2 (L := ⟨e.next, e.seq, e.log, t⟩) (a := a') (c := c') rfl rfl rfl (heap_seven hap'.out.rb _ _ _ _ _ _ _)) rfl ⟨⟨e.next, e.seq, e.log, t⟩, a', c', 0, rfl, ?_, ?_, .inl ⟨rfl, rfl⟩⟩
            · exact fun j hj => TOwn.at (hks.ownsRow (hOh.out.own j hj) (fun q eq => by have := (World.ownsRow.lt (hOh.out.own j hj) q eq).1; show q ≠ _; omega))
            · exact hks.below hap'.out.old (Nat.le_refl _) (fun q hq => by omega)
          obtain ⟨b, off, rfl, hbl, hx⟩ := hac (by omega)
          have hmx := hmt.out _ (List.getElem_mem hkl)
          have hxx := (hx k hkl).block (hap.old.block b hbl)
          have hdr : Hid (R = Pl.addAll e.next ⟨e.next, e.seq, e.log, t⟩ (e.add[k] :: e.add.drop (k + 1))) := Lib.hid (by rw [← List.drop_eq_getElem_cons hkl]; exact hRk)
          clear hRk hx
          generalize e.add[k] = x at *
          obtain ⟨xn, xl, xs, xc, xp, xq⟩ := x
          unfold Pl.mayT at hmx
          obtain ⟨y1, y2, y3, y4, _⟩ := of_decide_eq_true hmx
          simp only at y1 y2 y3 y4
          obtain ⟨lv, rfl⟩ := Int.eq_ofNat_of_zero_le y3
          obtain ⟨x0, x1, x2, x3, x4, x5⟩ := hxx
          simp only at x0 x1 x2 x3 x4 x5
          clear hmx y3
          have hlv : lv < 4 := by omega
          obtain ⟨W1, hW1⟩ : ∃ W1, wr.alloc (.cells #[.int .u64 (xn : Int), .int .i64 (lv : Int), .int .i64 xs, .int .i64 xc, .string xp, .string xq] 40) = W1 := ⟨_, rfl⟩
          have hb1 : Below wr.heap.size wr W1 := by rw [← hW1]; exact (Below.refl _ _).alloc (Nat.le_refl _) _
          have hT1 : TBox W1 wr.heap.size ⟨xn, (lv : Int), xs, xc, xp, xq⟩ := by rw [← hW1]; exact World.alloc_heap_new _ _
          have hOA1 := hOA.below hb1
          have hT1l := hT1.lt
          have hmr := hOA.ob.lt
          go_upto_region 28 with (fail)
          clear hW1 hOA hap e3 x0 x1 x2 x3 x4 x5
          obtain ⟨isn, hisn⟩ : ∃ b, b = decide (xn ∈ Pl.nums ⟨e.next, e.seq, e.log, t⟩) := ⟨_, rfl⟩
          have hb1d : Below W1.heap.size W1 W1.drew := (Below.refl _ _).drew
          have PN1 := Lib.hid (numbers_any ⟨e.next, e.seq, e.log, t⟩ a' c' W1.drew ((hOA1.below hb1d).at) (fun j hj => by have := hlen j hj; show (t j).length ≤ _; omega))
          have PA1 := Lib.hid (fun W v (h : NumsAt W v (Pl.nums ⟨e.next, e.seq, e.log, t⟩)) => among_any (Pl.nums ⟨e.next, e.seq, e.log, t⟩) xn v W h)
          rw [← hisn] at PA1
          replace hisn := Lib.hid hisn
          have t0 := hT1.cells.1
          obtain ⟨d0, d1, d2, d3, d4, d5, d6⟩ := hOA1.ob.cells
          simp only at d0 d1 d2 d3 d4 d5 d6 t0
          go_cut [17] (fun v wx => v = .bool isn ∧ Below W1.heap.size W1 wx)
          case first =>
            -- [E
            go_region_with (first
              | (go_at_call 38; refine PN1.out.mono ?_; rintro ex wn ⟨vn, rfl, hvn, hbn⟩; have bn := hb1d.trans (hbn.mono (Nat.le_refl _)); have t0n := (bn.cell (p := ⟨wr.heap.size, 0, none⟩) hT1l).trans t0)
              | (go_at_call 39; refine (PA1.out _ _ hvn).mono ?_; rintro ex wz ⟨rfl, rfl⟩))
            all_goals
              go_wp2
              go_meet
              exact ⟨rfl, bn⟩
            -- E]
          case rest =>
          obtain ⟨rfl, hbc⟩ := hcut
          clear PN1 PA1 hb1d d0 d1 d2 d3 d4 d5 d6 t0
          have hOA2 := hOA1.below hbc
          have hT2 := hT1.below hbc
          have hap2 := hapa.out _ _ _ _ hOA2
          have hT1l' := hT2.lt
          obtain ⟨e0, _, _, _, _⟩ := hap2.ecells
          obtain ⟨t0, t1, t2, t3, t4, t5⟩ := hT2.cells
          simp only at t0 t1 t2 t3 t4 t5
          have hcase : (isn = true ∧ R = none) ∨ (isn = false ∧ e.next ≤ xn ∧ R = none) ∨ (isn = false ∧ xn < e.next) := by
            have h1 := hisn.out
            cases isn
            · by_cases h2 : e.next ≤ xn
              · exact .inr (.inl ⟨rfl, h2, by rw [hdr.out]; exact addAll_bad (.inr h2)⟩)
              · exact .inr (.inr ⟨rfl, by omega⟩)
            · exact .inl ⟨rfl, by rw [hdr.out]; exact addAll_bad (.inl (of_decide_eq_true h1.symm))⟩
          rcases hcase with ⟨rfl, rfl⟩ | ⟨rfl, hle, rfl⟩ | ⟨rfl, hlt⟩
          iterate 2
            · -- [F
              have hfin := Lib.hid hap2.refuse
              obtain ⟨c0, c1, c2, c3, c4, c5, c6⟩ := hap2.rb.cells
              have f1 := hap2.rb.frz
              have hzd := hap2.lt
              go_wp2
              refine bodyPost_ret (results_live2 rfl rfl rfl hfin.out.1) rfl ⟨Pl.Lv.zero, _, _, 3, rfl, LvAt.zero _, hfin.out.2, .inr ⟨by decide, rfl⟩⟩
              -- F]
          have hnoadd : Hid (¬ (xn ∈ Pl.nums ⟨e.next, e.seq, e.log, t⟩ ∨ e.next ≤ xn)) := Lib.hid (by
            rintro (h | h)
            · have := of_decide_eq_false hisn.out.symm
              exact this h
            · omega)
          have hlvI : (0 : Int) ≤ (lv : Int) := by omega
          have hlvI4 : (lv : Int) < 4 := by omega
          have hrowl := hlen lv hlv
          go_wp2_with fail
          clear e0 t0 t2 t3 t1 t4 t5
          obtain ⟨w1r, rfl⟩ : ∃ w1r : World, w1r = wr := ⟨_, rfl⟩
          generalize w1r.heap.size = tb at *
          go_loopw [18, 19] (fun i _ W' => ∃ q : Nat, q ≤ (t lv).length ∧ i = .int .i64 (q : Int) ∧ Below wc.heap.size wc W' ∧ ∀ j (h : j < (t lv).length), j < q → Pl.overB (t lv)[j] xp xq = false) (fun i _ _ => (t lv).length - (intOf i).toNat)
          case atStart => exact ⟨0, Nat.zero_le _, rfl, Below.refl _ _, fun j _ h => absurd h (Nat.not_lt_zero _)⟩
          case round =>
            obtain ⟨q, hq, rfl, hbq, hall⟩ := hrel
            have hOA3 := hOA2.below hbq
            have hT3 := hT2.below hbq
            have hap3 := hapa.out _ _ _ _ hOA3
            obtain ⟨t0, t1, t2, t3, t4, t5⟩ := hT3.cells
            simp only at t0 t1 t2 t3 t4 t5
            have hok := hOA3.ob.k lv hlv
            simp only at hok
            have htl := hT3.lt
            obtain ⟨bb, hbb⟩ : ∃ bb, bb = decide (q < (t lv).length ∧ 0 < lv) := ⟨_, rfl⟩
            replace hbb := Lib.hid hbb
            obtain ⟨wo, rfl⟩ : ∃ wo : World, wo = wr := ⟨_, rfl⟩
            go_upto_region 32 with (fail)
            go_cut [164] (fun v wx => v = .bool bb ∧ wx = wo)
            case first =>
              -- [G
              have h3 : (q < (t lv).length ∧ 0 < lv ∧ bb = true) ∨ (¬ q < (t lv).length ∧ bb = false) ∨ (q < (t lv).length ∧ ¬ 0 < lv ∧ bb = false) := by
                have h := hbb.out
                by_cases h1 : q < (t lv).length
                · by_cases h2 : 0 < lv
                  · exact .inl ⟨h1, h2, by rw [h]; exact decide_eq_true ⟨h1, h2⟩⟩
                  · exact .inr (.inr ⟨h1, h2, by rw [h]; exact decide_eq_false (fun h => h2 h.2)⟩)
                · exact .inr (.inl ⟨h1, by rw [h]; exact decide_eq_false (fun h => h1 h.1)⟩)
              rcases h3 with ⟨h1, h2, rfl⟩ | ⟨h1, rfl⟩ | ⟨h1, h2, rfl⟩
              all_goals
                go_wp2
                go_meet
                exact ⟨rfl, rfl⟩
              -- G]
            case rest =>
            obtain ⟨rfl, rfl⟩ := hcut
            cases bb
            case true =>
              obtain ⟨hql, hl0⟩ := of_decide_eq_true hbb.out.symm
              -- [H
              obtain ⟨ao2, cap2, es, _, _, _, hc2⟩ := hOA3.at lv hlv
              injection es with es1 es2 es3
              obtain ⟨b2, off2, es4, hb2l, hx2⟩ := hc2 (by show 0 < (t lv).length; omega)
              have hy := hx2 q hql
              have hao2 : a' lv = some ⟨b2, off2, none⟩ := es1.trans es4
              have hnx : Hid (Pl.overB (t lv)[q] xp xq = false → ∀ j (h : j < (t lv).length), j < q + 1 → Pl.overB (t lv)[j] xp xq = false) := Lib.hid (fun h j hj hjk => by
                rcases Nat.lt_succ_iff_lt_or_eq.1 hjk with h3 | rfl
                · exact hall j hj h3
                · exact h)
              have hbad : Hid (Pl.overB (t lv)[q] xp xq = true → R = none) := Lib.hid (fun h => by rw [hdr.out]; exact addAll_over' hl0 q hql h)
              clear hx2 hc2 hall es1 es2 es3
              simp only at hy
              rw [hao2] at hok
              generalize (t lv)[q] = y at hy hnx hbad
              obtain ⟨v0, v1, v2, v3, v4, v5⟩ := hy
              have PO := Lib.hid (fun W => overlap_any y xp xq W)
              obtain ⟨ov, hov⟩ : ∃ b, b = Pl.overB y xp xq := ⟨_, rfl⟩
              rw [← hov] at PO hnx hbad
              clear hov
              have hbdr : Below wc.heap.size wc wc.drew := (Below.refl _ _).drew
              have hb2r : b2 < wc.heap.size := hb2l
              have hmc : m < wc.heap.size := hOA3.ob.lt
              have PO' := Lib.hid (PO.out wc.drew)
              go_upto_region 34 with (fail)
              go_still_tail 12, (by kernel_rfl)
              change wpList _ _ _ _ _ wc.drew
              go_wp2_with fail
              refine PO'.out.mono ?_
              rintro ex wz ⟨rfl, bz⟩
              have hbz := hbdr.trans (bz.mono (Nat.le_refl _))
              have hap4 := hap3.below hbz
              cases ov
              case false =>
                have hnx' := Lib.hid (hnx.out rfl)
                go_wp2
                go_roundw
                case rel => exact ⟨q + 1, by omega, by go_num, hbq.trans (hbz.mono hbq.size), hnx'.out⟩
                case measure => simp [intOf]; omega
              have hr := hbad.out rfl
              subst hr
              have hfin := Lib.hid hap4.refuse
              obtain ⟨c0, c1, c2, c3, c4, c5, c6⟩ := hap4.rb.cells
              have f1 := hap4.rb.frz
              have hzd := hap4.lt
              go_wp2
              refine bodyPost_ret (results_live2 rfl rfl rfl hfin.out.1) rfl ⟨Pl.Lv.zero, _, _, 3, rfl, LvAt.zero _, hfin.out.2, .inr ⟨by decide, rfl⟩⟩
              -- H]
            have hover : Hid (0 < lv → ∀ i (hi : i < (t lv).length), Pl.overB (t lv)[i] xp xq = false) := Lib.hid (fun h0 i hi => by
              have h1 := of_decide_eq_false hbb.out.symm
              exact hall i hi (by omega))
            have hgood := Lib.hid (hdr.out.trans (addAll_good' hnoadd.out hover.out))
            clear hall
            go_upto_region 37 with (fail)
            have hB37 : Below wc.heap.size wc wc.drew := (Below.refl _ _).drew
            have PP := Lib.hid (put_any (t lv) ⟨xn, (lv : Int), xs, xc, xp, xq⟩ (.slice (a' lv) (t lv).length (c' lv)) wc.drew ((hOA3.below hB37).at lv hlv) (show (0 : Int) ≤ (lv : Int) by omega) (by omega))
            have hOh := Lib.hid hOA3
            have hmw : m + 1 ≤ wc.drew.heap.size := hOA3.ob.lt
            have hpl := Lib.hid (fun j (hj : j < 4) => show (if j = lv then Pl.put (t j) ⟨xn, (lv : Int), xs, xc, xp, xq⟩ else t j).length ≤ 536870912 + (k + 1) by
              have := hlen j hj
              split
              · rw [Pl.put_length]; omega
              · omega)
            have hmc : m < wc.heap.size := hOA3.ob.lt
            go_region_law (go_simp; go_at_call 40; refine PP.out.mono ?_; rintro ex wp ⟨vp, rfl, hvp, hbp⟩; obtain ⟨ao4, cap4, hvs, _⟩ := hvp.at; subst hvs; have ⟨f4, c4, l4, hO4⟩ := hOh.out.put (k := lv) hlv (hB37.trans (hbp.mono (Nat.le_refl _))) hmw hvp; replace hO4 := Lib.hid hO4; have t1p := ((hB37.trans (hbp.mono (Nat.le_refl _))).cell (p := ⟨tb, 1, none⟩) htl).trans t1)
            all_goals
              clear hvp hbp
              go_wp2
              go_roundw
              case rel => exact ⟨k + 1, _, _, _, by omega, by go_num, hO4.out, hpl.out, hgood.out⟩
              case measure => simp [intOf]; omega
      -- [D
      have hkI : (0 : Int) ≤ (k : Int) := by omega
      have hkI4 : (k : Int) < 4 := by omega
      obtain ⟨wo, rfl⟩ : ∃ wo : World, wo = wr := ⟨_, rfl⟩
      go_wp2_with fail
      go_loopw [13, 14] (fun i _ W' => ∃ (j : Nat) (a' : Nat → Option Addr) (c' : Nat → Nat), j ≤ (L.t k).length ∧ i = .int .i64 (j : Int) ∧ OutW w2r m ⟨e.next, e.seq, e.log, Pl.tK L e.drop k j⟩ a' c' W') (fun i _ _ => (L.t k).length - (intOf i).toNat)
      case atStart => exact ⟨0, _, _, Nat.zero_le _, rfl, hO⟩
      clear hO
      case round =>
        obtain ⟨j, a', c', hj, rfl, hO⟩ := hrel
        have hap := hapw.out _ _ _ _ hO
        have hcl := hap.lb.k k hk4
        by_cases hjl : j < (L.t k).length
        case neg =>
          obtain rfl : j = (L.t k).length := by omega
          rw [← Pl.tK_next] at hO
          have hOh := Lib.hid hO
          go_wp2
          go_roundw
          case rel => exact ⟨k + 1, _, _, by omega, by go_num, hOh.out⟩
          case measure => simp [intOf]; omega
        have hLk := hLat.out k hk4
        obtain ⟨ak, ck, hsl, k1, k2, hkn, hkc⟩ := hLk
        injection hsl with s1 s2 s3
        subst s1 s3
        clear s2 hkn
        obtain ⟨b, off, hao, hbl, hx⟩ := hkc (by omega)
        have hxx := (hx j hjl).block (hap.old.block b hbl)
        obtain ⟨_, _, _, _, e4⟩ := hap.ecells
        rw [hao] at hcl
        have hkp := Lib.hid (fun h => Pl.tK_keep L e.drop k j hjl h)
        have hkd := Lib.hid (fun h => Pl.tK_drop L e.drop k j hjl h)
        have hxd := Lib.hid (fun (W : World) (h : Below w.heap.size w W) => (hx j hjl).block (h.block b hbl))
        clear hx hkc
        generalize (L.t k)[j] = x at hxx hkp hkd hxd
        obtain ⟨x0, x1, x2, x3, x4, x5⟩ := hxx
        have PA := Lib.hid (fun n => among_any e.drop x.num (.slice ad e.drop.length cd) (wr.drewN n) ((hd0.out.below hap.old).below (below_drewN (Below.refl _ _) n)))
        go_upto_region 21 with (fail)
        obtain ⟨r1, hr1⟩ : ∃ r, r = decide (x.num ∈ e.drop) := ⟨_, rfl⟩
        rw [← hr1] at PA
        replace hr1 := Lib.hid hr1
        have hzz := hap.lt
        go_quiet (((go_at_call 39; exact Calls.quiet_of_same (PA.out _))))
        have hOd := hO.drewN nq
        have hld := Lib.hid (show ((Pl.tK L e.drop k j) k).length ≤ 536870912 from Pl.tK_length L e.drop k j k 536870912 (by omega) hk4 hs.out)
        clear hO hap hcl e4 x0 x1 x2 x3 x4 x5 PA hzz
        generalize wr.drewN nq = wd at *
        have hapd := hapw.out _ _ _ _ hOd
        cases r1
        case true =>
          have hkd' := Lib.hid (hkd.out (of_decide_eq_true hr1.out.symm))
          have hOh := Lib.hid hOd
          clear hOd hapd
          go_wp2
          go_roundw
          case rel => exact ⟨j + 1, a', c', by omega, by go_num, by rw [hkd'.out]; exact hOh.out⟩
          case measure => simp [intOf]; omega
        have hkp' := Lib.hid (hkp.out (of_decide_eq_false hr1.out.symm))
        have hcl := hapd.lb.k k hk4
        rw [hao] at hcl
        obtain ⟨x0, x1, x2, x3, x4, x5⟩ := hxd.out _ hapd.old
        have hok := hOd.ob.k k hk4
        have hown := hOd.own k hk4
        have hOh := Lib.hid hOd
        have hcap := Lib.hid (fun (w1 : World) (g cap : Nat) (ob : Obj) h1 (h2 : (wd.alloc ob).grownBy w1 (Value.slice (a' k) ((Pl.tK L e.drop k j) k).length (c' k)).ownBlock) h3 => hOh.out.app (w1 := w1) (k := k) (g := g) (cap := cap) (x := x) (ob := ob) hk4 h1 h2 h3)
        have hmB : m + 1 ≤ wd.heap.size := hOd.ob.lt
        have hzd := hapd.lt
        clear hOd hapd hkd hkp
        simp only at hok
        go_wp2_with fail
        generalize (Pl.tK L e.drop k j) k = row at *
        have hld' := Lib.hid (show row.length + 1 ≤ 1099511627776 by have := hld.out; omega)
        have hmd : m < wd.heap.size := hmB
        have hbd : b < wd.heap.size := by
          obtain ⟨ob, ho, _⟩ := not_walk_of_cell x0
          exact (Array.getElem?_eq_some_iff.1 ho).1
        go_region_law (refine step_tab wd (m + 1) (.slice (a' k) row.length (c' k)) row x hown hmB hld'.out rfl rfl rfl rfl ?_; intro g cap w1 hown1 hgr1 hat1 hg1; have ⟨f1, c1, l1, hO1⟩ := hcap.out w1 g cap _ hown1 hgr1 hat1; replace hO1 := Lib.hid hO1)
        all_goals
          clear hgr1 hat1 hg1 hown1
          go_wp2
          go_roundw
          case rel => exact ⟨j + 1, _, _, by omega, by go_num, by rw [hkp'.out]; exact hO1.out⟩
          case measure => simp [intOf]; omega
      -- D]
end Go.Proofs.Ytekfaodjadinnaa
