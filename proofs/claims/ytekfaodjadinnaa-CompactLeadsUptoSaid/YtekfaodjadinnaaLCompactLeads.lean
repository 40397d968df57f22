/- The law CompactLeads, walked: it returns true and makes memory alone. Condition: the edits add few enough tables. -/
import Derived.Test.YtekfaodjadinnaaWLd
import Derived.Test.YtekfaodjadinnaaWPk2
import Derived.Test.YtekfaodjadinnaaWPk3
import Derived.Deep.QuietTactic
import Derived.BigQuiet
namespace Go.Proofs.Ytekfaodjadinnaa
open Go.RowKit

/-- what stands about the law: its parameters' boxes, the live tables -/
structure LdW (w : World) (c : Pl.Cfg) (L : Pl.Lv) (a1 : Nat → Option Addr) (c1 : Nat → Nat) (af : Nat → ByteArray) (b7 : Nat) (W : World) : Prop where
  cb : CfgBox W w.heap.size c
  ab : AfBox W (w.heap.size + 1) af
  l7 : LvBox W b7 L a1 c1
  v7 : LvAt W L a1 c1
  old : Below w.heap.size w W
theorem LdW.below {w : World} {c : Pl.Cfg} {L : Pl.Lv} {a1 : Nat → Option Addr} {c1 : Nat → Nat} {af : Nat → ByteArray} {b7 : Nat} {W W' : World} (h : LdW w c L a1 c1 af b7 W) (hb : Below W.heap.size W W') : LdW w c L a1 c1 af b7 W' :=
  ⟨h.cb.below hb, (hb.block _ h.ab.lt).trans h.ab, h.l7.below hb, h.v7.below hb, h.old.trans (hb.mono h.old.size)⟩

set_option maxRecDepth 100000 in
set_option maxHeartbeats 80000000 in
theorem compactLeads_any (c : Pl.Cfg) (l : List Pl.Ed) (u : Value) (af : Nat → ByteArray) (w : World) (hu : EdsAt w u l) (hs : Pl.adds l ≤ 536870912) :
    Calls Try.prog 4 #[cfgV c, u, .agg #[.string (af 0), .string (af 1), .string (af 2), .string (af 3)]] w fun e w' => e = .returned (.bool true) ∧ Below w.heap.size w w' := by
  have hlen : ∀ k, k < 4 → ((Pl.made l).t k).length ≤ 536870912 := fun k hk => by
    have := Pl.made_length l l.length (Nat.le_refl _) k hk
    rw [List.take_length] at this
    omega
  have hlvl := Pl.made_lvl l
  have PM := Lib.hid (fun (W : World) (h : Below w.heap.size w W) => made_any l u W (hu.below h) hs)
  generalize Pl.made l = L at *
  replace hlvl := Lib.hid hlvl
  clear hs hu
  obtain ⟨W0, hW0⟩ : ∃ W0, (w.alloc (.cells #[.int .i64 c.c0, .int .i64 c.c1, .int .i64 c.c2, .int .i64 c.c3, .int .i64 c.c4, .int .i64 c.c5, .int .i64 c.c6, .int .u64 c.c7] 24)).alloc (.cells #[.string (af 0), .string (af 1), .string (af 2), .string (af 3)] 26) = W0 := ⟨_, rfl⟩
  have hb0 : Below w.heap.size w W0 := by rw [← hW0]; exact ((Below.refl _ _).alloc (Nat.le_refl _) _).alloc (by simp) _
  have hC0 : CfgBox W0 w.heap.size c := by
    rw [← hW0]
    exact (show CfgBox (w.alloc (.cells #[.int .i64 c.c0, .int .i64 c.c1, .int .i64 c.c2, .int .i64 c.c3, .int .i64 c.c4, .int .i64 c.c5, .int .i64 c.c6, .int .u64 c.c7] 24)) w.heap.size c from World.alloc_heap_new _ _).below ((Below.refl _ _).alloc (Nat.le_refl _) _)
  have hA0 : AfBox W0 (w.heap.size + 1) af := by
    rw [← hW0]
    have h2 := World.alloc_heap_new (w.alloc (.cells #[.int .i64 c.c0, .int .i64 c.c1, .int .i64 c.c2, .int .i64 c.c3, .int .i64 c.c4, .int .i64 c.c5, .int .i64 c.c6, .int .u64 c.c7] 24)) (.cells #[.string (af 0), .string (af 1), .string (af 2), .string (af 3)] 26)
    rw [World.size_alloc] at h2
    exact h2
  unfold cfgV
  go_enter Try.func4, Try.ntmps4
  go_wp2_with fail
  clear hW0
  refine (PM.out W0 hb0).mono ?_
  rintro e W1 ⟨a1, c1, rfl, hv1, b1⟩
  have hbw1 := hb0.trans (b1.mono hb0.size)
  have hA1 : AfBox W1 (w.heap.size + 1) af := (b1.block _ hA0.lt).trans hA0
  have hC1 := hC0.below b1
  have hl1 := hA1.lt
  clear b1 hb0 hC0 hA0 PM
  unfold lvV
  go_upto_region 2 with (fail)
  have hB2 : Below W1.heap.size W1 (W1.alloc (.cells (lvCells L a1 c1) 30)) := (Below.refl _ _).alloc (Nat.le_refl _) _
  have hL2 : LvBox (W1.alloc (.cells (lvCells L a1 c1) 30)) W1.heap.size L a1 c1 := LvBox.new _ _ _ _
  have hW2 : LdW w c L a1 c1 af W1.heap.size (W1.alloc (.cells (lvCells L a1 c1) 30)) :=
    ⟨hC1.below hB2, (hB2.block _ hA1.lt).trans hA1, hL2, hv1.below hB2, hbw1.trans (hB2.mono hbw1.size)⟩
  unfold lvCells at hW2
  clear hB2 hL2 hC1 hA1 hv1 hbw1
  generalize W1.alloc (.cells #[.int .u64 (L.next : Int), .int .u64 (L.seq : Int), .int .u64 (L.log : Int), .slice (a1 0) (L.t 0).length (c1 0), .slice (a1 1) (L.t 1).length (c1 1), .slice (a1 2) (L.t 2).length (c1 2), .slice (a1 3) (L.t 3).length (c1 3)] 30) = W2 at hW2 ⊢
  generalize W1.heap.size = b7 at *
  clear W1
  have PP1 := Lib.hid (pick_any c L a1 c1 af W2 hW2.v7 hlen)
  have PP2 := Lib.hid (fun (W : World) (h : LdW w c L a1 c1 af b7 W) => refPick_any c L a1 c1 af W h.v7 hlen)
  unfold cfgV lvV at PP1 PP2
  obtain ⟨k0, k1, k2, k3, k4, k5, k6, k7⟩ := hW2.cb.cells
  obtain ⟨p0, p1, p2, p3, p4, p5, p6⟩ := hW2.l7.cells
  have f0 := hW2.ab.k 0 (by decide)
  have f1 := hW2.ab.k 1 (by decide)
  have f2 := hW2.ab.k 2 (by decide)
  have f3 := hW2.ab.k 3 (by decide)
  unfold PkEnd at PP1 PP2
  unfold jobV at PP1 PP2
  cases hR : Pl.pick c L af with
  | none =>
    -- [A
    rw [hR] at PP1 PP2
    simp only [Option.getD_none, Option.isSome_none, Pl.jb0, List.length_nil] at PP1 PP2
    replace hR := Lib.hid hR
    go_wp2_with fail
    refine PP1.out.mono ?_
    rintro e w1 ⟨e1, d1, e2, d2, rfl, hF1, hT1, bb1⟩
    have hWa := hW2.below bb1
    clear PP1 k0 k1 k2 k3 k4 k5 k6 k7 p0 p1 p2 p3 p4 p5 p6 f0 f1 f2 f3 hW2
    go_upto_region 3 with (fail)
    have hB2 : Below w1.heap.size w1 (w1.alloc (.cells #[.int .i64 ((0 : Nat) : Int), .slice e1 0 d1, .slice e2 0 d2, .bool false] 35)) := (Below.refl _ _).alloc (Nat.le_refl _) _
    simp only [Int.ofNat_zero, Int.cast_ofNat_Int] at hB2
    generalize w1.alloc (.cells #[.int .i64 0, .slice e1 0 d1, .slice e2 0 d2, .bool false] 35) = w2 at hB2 ⊢
    have hWb := hWa.below hB2
    have PP3 := Lib.hid (PP2.out w2 hWb)
    obtain ⟨k0, k1, k2, k3, k4, k5, k6, k7⟩ := hWb.cb.cells
    obtain ⟨p0, p1, p2, p3, p4, p5, p6⟩ := hWb.l7.cells
    have f0 := hWb.ab.k 0 (by decide)
    have f1 := hWb.ab.k 1 (by decide)
    have f2 := hWb.ab.k 2 (by decide)
    have f3 := hWb.ab.k 3 (by decide)
    clear PP2 hWa
    go_wp2_with fail
    refine PP3.out.mono ?_
    rintro e w3 ⟨e3, d3, e4, d4, rfl, hF3, hT3, bb3⟩
    have hWc := hWb.below bb3
    have hfin := Lib.hid (hWc.old.trans (((Below.refl w3.heap.size w3).alloc (Nat.le_refl _) (.cells #[.int .i64 ((0 : Nat) : Int), .slice e3 0 d3, .slice e4 0 d4, .bool false] 35)).mono hWc.old.size))
    clear PP3 k0 k1 k2 k3 k4 k5 k6 k7 p0 p1 p2 p3 p4 p5 p6 f0 f1 f2 f3 hWb hWc
    go_wp2
    go_ret
    exact ⟨ret_bool (by simp), hfin.out⟩
    -- A]
  | some J =>
    obtain ⟨k, hk3, hJe, hk0⟩ := Pl.pick_some hR
    rw [hR] at PP1
    simp only [Option.getD_some, Option.isSome_some] at PP1
    clear PP2
    have hF0 : 0 < J.frm.length := by rw [hJe]; exact Pl.fromOf_some (c := c) hk0
    have hFm := Lib.hid (show ∀ x ∈ J.frm, x ∈ L.t k from by rw [hJe]; exact fun x hx => Pl.fromOf_mem hx)
    have hTe := Lib.hid (show J.onto = Pl.overs (L.t (k + 1)) (Pl.spanLo J.frm) (Pl.spanHi J.frm) from by rw [hJe]; rfl)
    have hbe := Lib.hid (show J.bottom = Pl.noneDeep L (J.frm ++ J.onto) k (2 - k) from by rw [hJe]; rfl)
    have hje : J.level = k := by rw [hJe]; rfl
    have hFn : J.frm.length ≤ 536870912 := by
      rw [hJe]
      show (Pl.fromOf L af k).length ≤ _
      unfold Pl.fromOf
      split
      · exact hlen 0 (by decide)
      · rw [List.length_take]; omega
    have hTn : J.onto.length ≤ 536870912 := by
      rw [hTe.out]
      exact Nat.le_trans (Pl.overs_length _ _ _) (hlen (k + 1) (by omega))
    clear hR hJe
    obtain ⟨jk, F, T, bt⟩ := J
    simp only at PP1 hF0 hje hFn hTn
    obtain rfl : k = jk := hje.symm
    go_wp2_with fail
    refine PP1.out.mono ?_
    rintro e w1 ⟨e1, d1, e2, d2, rfl, hF1, hT1, bb1⟩
    have hWa := hW2.below bb1
    clear PP1 k0 k1 k2 k3 k4 k5 k6 k7 p0 p1 p2 p3 p4 p5 p6 f0 f1 f2 f3 hW2
    go_upto_region 3 with (fail)
    have hB2 : Below w1.heap.size w1 (w1.alloc (.cells #[.int .i64 (k : Int), .slice e1 F.length d1, .slice e2 T.length d2, .bool bt] 35)) := (Below.refl _ _).alloc (Nat.le_refl _) _
    have hJ2 : JbBox (w1.alloc (.cells #[.int .i64 (k : Int), .slice e1 F.length d1, .slice e2 T.length d2, .bool bt] 35)) w1.heap.size (k : Int) e1 F.length d1 e2 T.length d2 bt := World.alloc_heap_new _ _
    generalize w1.alloc (.cells #[.int .i64 (k : Int), .slice e1 F.length d1, .slice e2 T.length d2, .bool bt] 35) = w2 at hB2 hJ2 ⊢
    have hWb := hWa.below hB2
    have hFa := (hF1.at).below hB2
    have hTa := (hT1.at).below hB2
    generalize w1.heap.size = jb at *
    clear hF1 hT1 hWa hB2 bb1
    obtain ⟨x0, x1, x2, x3⟩ := hJ2.cells
    have hkI0 : (0 : Int) ≤ (k : Int) := by omega
    have hkI3 : (k : Int) ≤ 2 := by omega
    have hFaa := hFa
    obtain ⟨ao1, cp1, es1, hFc, hFc2, _, hc1⟩ := hFaa
    injection es1 with e1' e2' e3'
    subst e1' e3'
    obtain ⟨gF, oF, rfl, hgF, hxF⟩ := hc1 hF0
    obtain ⟨y0, y1, y2, y3, y4, y5⟩ := hxF 0 hF0
    simp only [Nat.zero_mul, Nat.add_zero] at y0 y1 y2 y3 y4 y5
    have e0 := Lib.hid (Pl.spanLo_one hF0)
    have e1 := Lib.hid (Pl.spanHi_one hF0)
    clear e2' hc1 y0 y1 y2 y3 hxF
    generalize F[0].least = lo0 at *
    generalize F[0].greatest = hi0 at *
    have hFne : ((F.length : Int) == 0) = false := by simp; intro e; rw [e] at hF0; simp at hF0
    obtain ⟨A, hAe⟩ : ∃ A, A = F ++ T := ⟨_, rfl⟩
    have hA0 : F.length ≤ A.length := by rw [hAe, List.length_append]; omega
    have hAn : A.length ≤ 1073741824 := by rw [hAe, List.length_append]; omega
    have PA := Lib.hid (all_any F T _ _ w2 hFa hTa (by omega) (by omega))
    rw [← hAe] at PA hbe
    replace hAe := Lib.hid hAe
    go_wp2_with fail
    refine PA.out.mono ?_
    rintro e w3 ⟨v3, rfl, hv3, b3⟩
    obtain ⟨gA, cA, hvs, hA1, hA2, _, hxA⟩ := hv3.at
    subst hvs
    have hW3 := hWb.below b3
    have hJ3 := hJ2.below b3
    have hT3 := hTa.below b3
    clear PA hWb hJ2 hTa hFa x0 x1 x2 x3 y4 y5 hv3 b3 hgF
    go_wp2_with fail
    have hTall := Lib.hid (show ∀ x ∈ T, x ∈ L.t (k + 1) from fun x hx => by rw [hTe.out] at hx; exact (List.mem_filter.1 hx).1)
    have hmn := @Lib.run_min_strs Try.prog
    have hmx := @Lib.run_max_strs Try.prog
    go_loopw [12, 13, 15] (fun p q i W' => ∃ n : Nat, n ≤ A.length ∧ i = .int .i64 (n : Int) ∧ p = .string (Pl.spanLo (F.take (max n 1))) ∧ q = .string (Pl.spanHi (F.take (max n 1))) ∧ Below w3.heap.size w3 W') (fun _ _ i _ => A.length - (intOf i).toNat)
    case atStart => exact ⟨0, by omega, rfl, by rw [show max 0 1 = 1 from rfl, e0.out], by rw [show max 0 1 = 1 from rfl, e1.out], Below.refl _ _⟩
    clear e0 e1
    case round =>
      obtain ⟨n, hn, rfl, rfl, rfl, hbr⟩ := hrel
      by_cases hnA : n < A.length
      case pos =>
        -- [B
        obtain ⟨bA, oA, rfl, hbA, hx⟩ := hxA (by omega)
        obtain ⟨z0, z1, z2, z3, z4, z5⟩ := (hx n hnA).block (hbr.block bA hbA)
        have hJr := hJ3.below hbr
        obtain ⟨x0, x1, x2, x3⟩ := hJr.cells
        have hnI : (0 : Int) ≤ (n : Int) := by omega
        have hwk : IntKind.i64.wrap ((k : Int) + 1) = (k : Int) + 1 := IntWalk.i64_in _ (by omega)
        clear z0 z2 z3 hx hJr
        by_cases hnF : n < F.length
        · have hAF : A[n] = F[n] := (List.getElem_of_eq hAe.out hnA).trans (List.getElem_append_left hnF)
          have hlv : F[n].level = (k : Int) := hlvl.out k _ (hFm.out _ (List.getElem_mem hnF))
          have hs1 := Lib.hid (Pl.spanLo_step hnF)
          have hs2 := Lib.hid (Pl.spanHi_step hnF)
          rw [hAF] at z1 z4 z5
          rw [hlv] at z1
          clear hAF hlv
          generalize F[n].least = p1 at *
          generalize F[n].greatest = q1 at *
          generalize Pl.spanLo (F.take (max n 1)) = S1 at *
          generalize Pl.spanHi (F.take (max n 1)) = S2 at *
          have hlt1 : decide (n < F.length) = true := decide_eq_true hnF
          go_wp2_with fail
          go_quiet (fail)
          go_wp2
          go_roundw
          case rel => exact ⟨n + 1, by omega, by go_num, by rw [hs1.out], by rw [hs2.out], below_drewN hbr _⟩
          case measure => simp [intOf]; omega
        · have hAT : A[n] = T[n - F.length]'(by have := congrArg List.length hAe.out; rw [List.length_append] at this; omega) := (List.getElem_of_eq hAe.out hnA).trans (List.getElem_append_right (by omega))
          have hTm := List.getElem_mem (l := T) (n := n - F.length) (by have := congrArg List.length hAe.out; rw [List.length_append] at this; omega)
          have hlv : (T[n - F.length]'(by have := congrArg List.length hAe.out; rw [List.length_append] at this; omega)).level = ((k + 1 : Nat) : Int) := hlvl.out (k + 1) _ (hTall.out _ hTm)
          rw [hAT, hlv] at z1
          have hlv2 : ((k + 1 : Nat) : Int) = (k : Int) + 1 := by omega
          rw [hlv2] at z1
          have hs1 : Pl.spanLo (F.take (max n 1)) = Pl.spanLo (F.take (max (n + 1) 1)) := by rw [List.take_of_length_le (by omega), List.take_of_length_le (by omega)]
          have hs2 : Pl.spanHi (F.take (max n 1)) = Pl.spanHi (F.take (max (n + 1) 1)) := by rw [List.take_of_length_le (by omega), List.take_of_length_le (by omega)]
          replace hs1 := Lib.hid hs1
          replace hs2 := Lib.hid hs2
          clear hAT hTm hlv hlv2 z4 z5
          generalize Pl.spanLo (F.take (max n 1)) = S1 at *
          generalize Pl.spanHi (F.take (max n 1)) = S2 at *
          have hlt1 : decide (n < F.length) = false := decide_eq_false hnF
          have hk1 : ((k : Int) + 1 == (k : Int)) = false := beq_eq_false_iff_ne.2 (by omega)
          have hk2 : ((k : Int) + 1 != (k : Int)) = true := by rw [bne, hk1]; rfl
          go_wp2_with fail
          go_quiet (fail)
          go_wp2
          go_roundw
          case rel => exact ⟨n + 1, by omega, by go_num, by rw [hs1.out], by rw [hs2.out], below_drewN hbr _⟩
          case measure => simp [intOf]; omega
        -- B]
      obtain rfl : n = A.length := by omega
      have hF : F.take (max A.length 1) = F := List.take_of_length_le (by omega)
      rw [hF]
      clear hnA hn hF
      obtain ⟨w4, rfl⟩ : ∃ w4 : World, w4 = wr := ⟨_, rfl⟩
      have hW4 := hW3.below hbr
      have hJ4 := hJ3.below hbr
      have hT4 := hT3.below hbr
      have hA4 : 0 < A.length → ∃ b off, gA = some ⟨b, off, none⟩ ∧ b < w4.heap.size ∧ ∀ i (hi : i < A.length), TbIn w4 b (off + i * 6) A[i] := fun h => by
        obtain ⟨b, o, e1, e2, e3⟩ := hxA h
        exact ⟨b, o, e1, Nat.lt_of_lt_of_le e2 hbr.size, fun i hi => (e3 i hi).block (hbr.block b e2)⟩
      replace hA4 := Lib.hid hA4
      clear hW3 hJ3 hT3 hxA hbr
      obtain ⟨x0, x1, x2, x3⟩ := hJ4.cells
      have hok := hW4.l7.k (k + 1) (by omega)
      have hwk : IntKind.i64.wrap ((k : Int) + 1) = (k : Int) + 1 := IntWalk.i64_in _ (by omega)
      have hk1a : (0 : Int) ≤ (k : Int) + 1 := by omega
      have hk1b : (k : Int) + 1 < 4 := by omega
      have hk1c : ((k : Int) + 1).toNat = k + 1 := by omega
      have hR4 := hW4.v7 (k + 1) (by omega)
      have hRl := hlen (k + 1) (by omega)
      obtain ⟨R, hRe⟩ : ∃ R, R = L.t (k + 1) := ⟨_, rfl⟩
      rw [← hRe] at hok hR4 hRl
      replace hTe : Hid (T = Pl.overs R (Pl.spanLo F) (Pl.spanHi F)) := Lib.hid (by rw [hTe.out, hRe])
      clear hRe
      go_wp2_with fail
      clear hwk hk1a hk1b hk1c hok
      obtain ⟨aR, cR, esR, hRc, hRc2, _, hxR⟩ := hR4
      injection esR with q1 q2 q3
      rw [q1, q3]
      clear q1 q2 q3
      obtain ⟨lo, hlo⟩ : ∃ lo, lo = Pl.spanLo F := ⟨_, rfl⟩
      obtain ⟨hi, hhi⟩ : ∃ hi, hi = Pl.spanHi F := ⟨_, rfl⟩
      rw [← hlo, ← hhi] at hTe ⊢
      replace hlo := Lib.hid hlo
      replace hhi := Lib.hid hhi
      go_loopw [17] (fun i W' => ∃ n : Nat, n ≤ R.length ∧ i = .int .i64 (n : Int) ∧ Below w4.heap.size w4 W') (fun i _ => R.length - (intOf i).toNat)
      case atStart => exact ⟨0, by omega, rfl, Below.refl _ _⟩
      case round =>
        obtain ⟨n, hn, rfl, hbr⟩ := hrel
        by_cases hnR : n < R.length
        · -- [C
          obtain ⟨bR, oR, rfl, hbR, hx⟩ := hxR (by omega)
          have hxn := (hx n hnR).block (hbr.block bR hbR)
          obtain ⟨z0, z1, z2, z3, z4, z5⟩ := hxn
          have hin := Lib.hid (Pl.inB_overs (List.getElem_mem hnR) lo hi)
          have PV := Lib.hid (overlap_any R[n] lo hi wr)
          have hxR0 := Lib.hid hx
          obtain ⟨x, hxe⟩ : ∃ x, x = R[n] := ⟨_, rfl⟩
          rw [← hxe] at hin PV z0 z1 z2 z3 z4 z5
          replace hxe := Lib.hid hxe
          rw [← hTe.out] at hin
          generalize Pl.overB x lo hi = ov at *
          clear hx hxR
          go_wp2_with fail
          refine PV.out.mono ?_
          rintro e w5 ⟨rfl, b5⟩
          have hb5 := hbr.trans (b5.mono hbr.size)
          clear PV b5 hbr z0 z1 z2 z3 z4 z5
          go_wp2_with fail
          have hxn5 := (hxR0.out n hnR).block (hb5.block bR hbR)
          rw [← hxe.out] at hxn5
          have hJ5 := hJ4.below hb5
          have hTl := hT4
          obtain ⟨aT, cT, esT, hTc, hTc2, _, hxT⟩ := hTl
          injection esT with q1 q2 q3
          subst q1 q3
          obtain ⟨wq, rfl⟩ : ∃ wq : World, wq = wr := ⟨_, rfl⟩
          go_loopw [19, 20] (fun b i W' => ∃ m : Nat, m ≤ T.length ∧ i = .int .i64 (m : Int) ∧ b = .bool (Pl.inB (T.take m) x) ∧ Below w5.heap.size w5 W') (fun _ i _ => T.length - (intOf i).toNat)
          case atStart => exact ⟨0, by omega, rfl, rfl, Below.refl _ _⟩
          case round =>
            obtain ⟨m, hm, rfl, rfl, hbm⟩ := hrel
            have hJm := hJ5.below hbm
            obtain ⟨x0, x1, x2, x3⟩ := hJm.cells
            by_cases hmT : m < T.length
            · obtain ⟨bT, oT, rfl, hbT, hxx⟩ := hxT (by omega)
              have hz4 : w4.heap.size ≤ w5.heap.size := hb5.size
              have hb6 := hb5.trans (hbm.mono hz4)
              obtain ⟨y0, y1, y2, y3, y4, y5⟩ := (hxx m hmT).block (hb6.block bT hbT)
              have hsc := Lib.hid (Pl.inB_succ hmT x)
              have hmI : (0 : Int) ≤ (m : Int) := by omega
              have hnI : (0 : Int) ≤ (n : Int) := by omega
              have hq := fun w => eql_tab T[m] x w
              unfold tabV at hq
              obtain ⟨z0, z1, z2, z3, z4, z5⟩ := hxn5.block (hbm.block bR (Nat.lt_of_lt_of_le hbR hz4))
              clear hxx hxT hJm hxn5
              generalize Pl.eqB T[m] x = eb at *
              generalize T[m] = y at *
              cases hb : Pl.inB (T.take m) x with
              | true =>
                rw [hb] at hsc
                replace hsc := Lib.hid hsc.out
                clear hb
                go_wp2_with fail
                go_quiet (fail)
                go_wp2
                go_roundw
                case rel => exact ⟨m + 1, by omega, by go_num, by rw [hsc.out]; rfl, below_drewN hbm _⟩
                case measure => simp [intOf]; omega
              | false =>
                rw [hb] at hsc
                replace hsc := Lib.hid hsc.out
                clear hb
                go_wp2_with fail
                go_quiet (fail)
                go_wp2
                go_roundw
                case rel => exact ⟨m + 1, by omega, by go_num, by rw [hsc.out]; rfl, below_drewN hbm _⟩
                case measure => simp [intOf]; omega
            · obtain rfl : m = T.length := by omega
              rw [List.take_of_length_le (Nat.le_refl _), hin.out]
              have hb6 := hb5.trans (hbm.mono hb5.size)
              clear hxT hxn5 hJ5 hbm hb5
              go_wp2
              go_roundw
              case rel => exact ⟨n + 1, by omega, by go_num, hb6⟩
              case measure => simp [intOf]; omega
          -- C]
        obtain rfl : n = R.length := by omega
        obtain ⟨w5, rfl⟩ : ∃ w5 : World, w5 = wr := ⟨_, rfl⟩
        have hW5 := hW4.below hbr
        have hJ5 := hJ4.below hbr
        have hA5 : 0 < A.length → ∃ b off, gA = some ⟨b, off, none⟩ ∧ b < w5.heap.size ∧ ∀ i (hi : i < A.length), TbIn w5 b (off + i * 6) A[i] := fun h => by
          obtain ⟨b, o, e1, e2, e3⟩ := hA4.out h
          exact ⟨b, o, e1, Nat.lt_of_lt_of_le e2 hbr.size, fun i hi => (e3 i hi).block (hbr.block b e2)⟩
        clear hW4 hJ4 hA4 hbr hT4 hxR hnR hn x0 x1 x2 x3 hTe
        have hFn0 : F ≠ [] := by intro e; rw [e] at hF0; simp at hF0
        have hFA := Lib.hid (show ∀ n, F ++ A.take n ≠ [] from fun n e => hFn0 (List.append_eq_nil_iff.1 e).1)
        go_wp2_with fail
        rw [hlo.out, hhi.out]
        go_loopw [12, 13, 21] (fun p q i W' => ∃ n : Nat, n ≤ A.length ∧ i = .int .i64 (n : Int) ∧ p = .string (Pl.spanLo (F ++ A.take n)) ∧ q = .string (Pl.spanHi (F ++ A.take n)) ∧ Below w5.heap.size w5 W') (fun _ _ i _ => A.length - (intOf i).toNat)
        case atStart => exact ⟨0, by omega, rfl, by simp, by simp, Below.refl _ _⟩
        case round =>
          obtain ⟨n, hn, rfl, rfl, rfl, hbr⟩ := hrel
          by_cases hnA : n < A.length
          · -- [D
            obtain ⟨bA, oA, rfl, hbA, hx⟩ := hA5 (by omega)
            obtain ⟨z0, z1, z2, z3, z4, z5⟩ := (hx n hnA).block (hbr.block bA hbA)
            have hnI : (0 : Int) ≤ (n : Int) := by omega
            have hs1 : Pl.spanLo (F ++ A.take (n + 1)) = Lib.minS (Pl.spanLo (F ++ A.take n)) A[n].least := by
              rw [List.take_succ_eq_append_getElem hnA, ← List.append_assoc, Pl.spanLo_snoc (hFA.out n)]
            have hs2 : Pl.spanHi (F ++ A.take (n + 1)) = Lib.maxS (Pl.spanHi (F ++ A.take n)) A[n].greatest := by
              rw [List.take_succ_eq_append_getElem hnA, ← List.append_assoc, Pl.spanHi_snoc (hFA.out n)]
            replace hs1 := Lib.hid hs1
            replace hs2 := Lib.hid hs2
            clear z0 z1 z2 z3 hx hA5
            generalize A[n].least = p1 at *
            generalize A[n].greatest = q1 at *
            generalize Pl.spanLo (F ++ A.take n) = S1 at *
            generalize Pl.spanHi (F ++ A.take n) = S2 at *
            go_wp2
            go_roundw
            case rel => exact ⟨n + 1, by omega, by go_num, by rw [hs1.out], by rw [hs2.out], hbr⟩
            case measure => simp [intOf]; omega
            -- D]
          obtain rfl : n = A.length := by omega
          obtain ⟨w6, rfl⟩ : ∃ w6 : World, w6 = wr := ⟨_, rfl⟩
          have hsp : Pl.spanLo (F ++ A.take A.length) = Pl.spanLo A ∧ Pl.spanHi (F ++ A.take A.length) = Pl.spanHi A := by
            rw [List.take_of_length_le (Nat.le_refl _), hAe.out]
            exact Pl.span_again F T hFn0
          rw [hsp.1, hsp.2]
          have hW6 := hW5.below hbr
          have hJ6 := hJ5.below hbr
          clear hsp hW5 hJ5 hA5 hbr hnA hn hFA hmn hmx
          obtain ⟨x0, x1, x2, x3⟩ := hJ6.cells
          have hwk : IntKind.i64.wrap ((k : Int) + 2) = (k : Int) + 2 := IntWalk.i64_in _ (by omega)
          go_wp2_with fail
          clear hwk
          go_loopw [22, 23] (fun b i W' => ∃ n : Nat, n ≤ 2 - k ∧ i = .int .i64 ((k + 2 + n : Nat) : Int) ∧ b = .bool (!Pl.noneDeep L A k n) ∧ Below w6.heap.size w6 W') (fun _ i _ => 4 - (intOf i).toNat)
          case atStart => exact ⟨0, by omega, by go_num, rfl, Below.refl _ _⟩
          case round =>
            obtain ⟨n, hn, rfl, rfl, hbr⟩ := hrel
            by_cases hnk : n < 2 - k
            · -- [E
              have hz := Lib.hid (Pl.deepB_zero L A k n)
              have hal := Lib.hid (Pl.deepB_all L A k n)
              obtain ⟨wo, rfl⟩ : ∃ wo : World, wo = wr := ⟨_, rfl⟩
              have hq4 : k + 2 + n < 4 := by omega
              have hqI : ((k + 2 + n : Nat) : Int) < 4 := by omega
              have hqI0 : (0 : Int) ≤ ((k + 2 + n : Nat) : Int) := by omega
              have hDl := hlen (k + 2 + n) hq4
              have hst := Lib.hid (fun i h => Pl.deepB_succ L A k n i h)
              rw [← hz.out]
              generalize Pl.deepB L A k n = dB at *
              have hqh := Lib.hid (show ((k + 2 + (n + 1) : Nat) : Int) = ((k + 2 + n : Nat) : Int) + 1 by omega)
              generalize k + 2 + n = q at *
              go_wp2_with fail
              go_loopw [22, 24] (fun b i W' => ∃ m : Nat, m ≤ (L.t q).length ∧ i = .int .i64 (m : Int) ∧ b = .bool (dB m) ∧ Below wo.heap.size wo W') (fun _ i _ => (L.t q).length - (intOf i).toNat)
              case atStart => exact ⟨0, by omega, rfl, rfl, Below.refl _ _⟩
              case round =>
                obtain ⟨m, hm, rfl, rfl, hbm⟩ := hrel
                have hb6 := hbr.trans (hbm.mono hbr.size)
                have hW7 := hW6.below hb6
                have hok := hW7.l7.k q hq4
                have hRq := hW7.v7 q hq4
                by_cases hmq : m < (L.t q).length
                · obtain ⟨aR, cR, esR, hRc, hRc2, _, hxR⟩ := hRq
                  injection esR with q1 q2 q3
                  obtain ⟨bR, oR, ea, hbR, hx⟩ := hxR (by omega)
                  rw [q1, ea] at hok
                  obtain ⟨z0, z1, z2, z3, z4, z5⟩ := hx m hmq
                  have PV := Lib.hid (overlap_any (L.t q)[m] (Pl.spanLo A) (Pl.spanHi A) wr)
                  have hs := Lib.hid (hst.out m hmq)
                  have hmI : (0 : Int) ≤ (m : Int) := by omega
                  clear hx hxR q1 q2 q3 hW7
                  generalize (L.t q)[m] = x at *
                  generalize Pl.overB x (Pl.spanLo A) (Pl.spanHi A) = ov at *
                  go_wp2_with fail
                  refine PV.out.mono ?_
                  rintro e w7 ⟨rfl, b7'⟩
                  have hb7 := hbm.trans (b7'.mono hbm.size)
                  clear PV z0 z1 z2 z3 z4 z5 hok
                  cases hdm : dB m with
                  | true =>
                    rw [hdm] at hs
                    replace hs := Lib.hid hs.out
                    clear hdm
                    go_wp2
                    go_roundw
                    case rel => exact ⟨m + 1, by omega, by go_num, by rw [hs.out]; rfl, hb7⟩
                    case measure => simp [intOf]; omega
                  | false =>
                    rw [hdm] at hs
                    replace hs := Lib.hid hs.out
                    clear hdm
                    go_wp2
                    go_roundw
                    case rel => exact ⟨m + 1, by omega, by go_num, by rw [hs.out]; rfl, hb7⟩
                    case measure => simp [intOf]; omega
                · obtain rfl : m = (L.t q).length := by omega
                  rw [hal.out]
                  clear hRq hW7
                  go_wp2
                  go_roundw
                  case rel => exact ⟨n + 1, by omega, by rw [hqh.out], rfl, hb6⟩
                  case measure => simp [intOf]; omega
              -- E]
            obtain rfl : n = 2 - k := by omega
            have hq4 : ((k + 2 + (2 - k) : Nat) : Int) = 4 := by omega
            rw [hq4, ← hbe.out]
            have hJ7 := hJ6.below hbr
            obtain ⟨x0, x1, x2, x3⟩ := hJ7.cells
            have hfin := Lib.hid (hW6.old.trans (hbr.mono hW6.old.size))
            clear hq4 hJ6 hJ7 hW6 hnk hn hbr
            go_wp2
            go_ret
            exact ⟨ret_bool (by simp), hfin.out⟩
end Go.Proofs.Ytekfaodjadinnaa
