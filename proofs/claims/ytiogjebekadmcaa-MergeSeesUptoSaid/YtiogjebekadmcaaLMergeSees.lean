
/- Walk: the law MergeSees returns true. Condition: rows whose bytes fit, together too. -/
import Derived.Test.YtiogjebekadmcaaWSees
import Derived.StillTailTactics
namespace Go.Proofs.Ytiogjebekadmcaa
open Go.RowKit

theorem ver_at {W W' : World} {b off : Nat} {l : List Ver} (h : RowIn W b off l) (hb : Below W.heap.size W W') {i : Nat} (hi : i < l.length) : VerIn W' b (off + i * 4) l[i] := (h.below hb).2 i hi

set_option maxRecDepth 100000 in
set_option maxHeartbeats 800000 in
theorem mergeSees_any (v fv : Value) (ls : List (List Ver)) (fs : List Nat) (bot : Bool) (w : World) (hv : LsAt w v ls) (hf : NumsAt w fv fs) (hl : ∀ l ∈ ls, l.length ≤ 2932031007317) (hll : ls.length ≤ 2932031007317) (ht : Pl.total ls ≤ 2932031007317) (hfl : fs.length * 8 ≤ 140737488355328) (hq : ∀ l ∈ ls, ∀ x ∈ l, x.seq ≤ 18446744073709551615) :
    Calls Try.prog 9 #[v, fv, .bool bot] w fun e w' => e = .returned (.bool true) ∧ Below w.heap.size w w' := by
  obtain ⟨ao, cap, rfl, hv0⟩ := id hv
  obtain ⟨fo, fcap, rfl, f1, f2, hfr⟩ := id hf
  have P0 := Lib.hid (fun W (hb : Below w.heap.size w W) => rows_any _ ls W (hv.below hb) hl hll)
  have PC := Lib.hid (fun W (hb : Below w.heap.size w W) => countAll_any _ ls W (hv.below hb) hl hll ht)
  have hml := Pl.mergeOf_length ls
  have hqm : Hid (∀ x ∈ Pl.mergeOf ls, x.seq ≤ 18446744073709551615) := Lib.hid (fun x hx => by
    obtain ⟨R, hR, hx'⟩ := Pl.merge_mem hx
    exact hq R hR x hx')
  clear hq
  go_enter Try.func9, Try.ntmps9
  go_wp2
  go_loopw [7, 8, 9] (fun i _ _ W' => ∃ k : Nat, k ≤ ls.length ∧ i = .int .i64 k ∧ Hid (∀ j (h : j < ls.length), j < k → Pl.Ris ls[j]) ∧ Below w.heap.size w W') (fun i _ _ _ => ls.length - (intOf i).toNat)
  case atStart => exact ⟨0, by omega, rfl, Lib.hid (fun j _ h => by omega), Below.refl _ _⟩
  case round =>
    obtain ⟨k, hk, rfl, hris, hb⟩ := hrel
    by_cases h1 : k < ls.length
    · obtain ⟨b, off, rfl, hbl0, hc⟩ := hv0 (by omega)
      obtain ⟨u, g1, g2⟩ := hc k h1
      have hlk := hl _ (List.getElem_mem h1)
      obtain ⟨l, hL⟩ : ∃ l, ls[k] = l := ⟨_, rfl⟩
      rw [hL] at g2 hlk
      have hnx : Hid (Pl.Ris l → ∀ j (h : j < ls.length), j < k + 1 → Pl.Ris ls[j]) := Lib.hid (fun hr j h hj => by
        by_cases e : j = k
        · subst e; rw [hL]; exact hr
        · exact hris.out j h (by omega))
      have l1 := (hb.cell (p := ⟨b, off + k, none⟩) hbl0).trans g1
      obtain ⟨ao2, cap2, rfl, c1, c2, hr2⟩ := g2.below hb
      obtain ⟨wo, rfl⟩ : ∃ wo : World, wo = wr := ⟨_, rfl⟩
      have hbo : b < wo.heap.size := Nat.lt_of_lt_of_le hbl0 hb.size
      clear hc hL hris g1 g2
      go_wp2
      go_loopw [8, 9] (fun i _ W' => ∃ m : Nat, m ≤ l.length ∧ i = .int .i64 ((m : Int) + 1) ∧ Hid (∀ q (h : q + 1 < l.length), q < m → Pl.vlt l[q] l[q + 1]) ∧ Below wo.heap.size wo W') (fun i _ _ => l.length + 2 - (intOf i).toNat)
      case atStart => exact ⟨0, by omega, rfl, Lib.hid (fun q _ h => by omega), Below.refl _ _⟩
      case round =>
        obtain ⟨m, hm, rfl, hvl, hb2⟩ := hrel
        have l2 := (hb2.cell (p := ⟨b, off + k, none⟩) hbo).trans l1
        by_cases h2 : m + 1 < l.length
        · obtain ⟨b2, off2, rfl, hrow⟩ := hr2 (by omega)
          obtain ⟨x0, x1, x2, x3⟩ := ver_at hrow hb2 h2
          obtain ⟨y0, y1, y2, y3⟩ := ver_at hrow hb2 (show m < l.length by omega)
          have hwr : IntKind.i64.wrap ((m : Int) + 1 - 1) = (m : Int) := IntWalk.i64_in _ (by omega) |>.trans (by omega)
          have hwr2 : IntKind.i64.wrap (m : Int) = (m : Int) := IntWalk.i64_in _ (by omega)
          have hwr3 : IntKind.i64.wrap ((m : Int) + 1) = (m : Int) + 1 := IntWalk.i64_in _ (by omega)
          have hge : (0 : Int) ≤ (m : Int) + 1 := by omega
          have hge2 : ¬ ((m : Int) + 1 < 0) := by omega
          have hd1 : (m : Int) + 1 - 1 = (m : Int) := by omega
          have hi1 : (m : Int) + 1 < (l.length : Int) := by omega
          have hi2 : (m : Int) < (l.length : Int) := by omega
          have ht : ((m : Int) + 1).toNat = m + 1 := by omega
          have P := Lib.hid (fun W => refLess_any (l[m]'(by omega)) l[m + 1] W)
          clear hrow
          cases hc : lessV (l[m]'(by omega)).key (l[m]'(by omega)).seq l[m + 1].key l[m + 1].seq
          · rw [hc] at P
            clear hc
            go_wp2
            go_still_tail 15, (by kernel_rfl)
            change wpList _ _ _ _ _ wr.drew
            go_wp2_with fail
            refine (P.out _).mono ?_
            rintro e1 w1 ⟨rfl, b1⟩
            go_wp2_with fail
            go_ret
            exact ⟨ret_bool (by rfl), (hb.trans (hb2.mono hb.size)).drew.trans (b1.mono (Nat.le_trans hb.size hb2.size))⟩
          · have hvl' : Hid (∀ q (h : q + 1 < l.length), q < m + 1 → Pl.vlt l[q] l[q + 1]) := Lib.hid (fun q h hq => by
              by_cases e : q = m
              · subst e; exact hc
              · exact hvl.out q h (by omega))
            rw [hc] at P
            clear hc
            go_wp2
            go_still_tail 15, (by kernel_rfl)
            change wpList _ _ _ _ _ wr.drew
            go_wp2_with fail
            refine (P.out _).mono ?_
            rintro e1 w1 ⟨rfl, b1⟩
            go_wp2_with fail
            go_roundw
            case rel => exact ⟨m + 1, by omega, by go_num, hvl', hb2.drew.trans (b1.mono hb2.size)⟩
            case measure => simp [intOf]; omega
        · have hR := hnx.out (Pl.ris_of_adj (fun q h => hvl.out q h (by omega)))
          replace hR := Lib.hid hR
          have hd : decide ((m : Int) + 1 < (l.length : Int)) = false := by simp; omega
          have hbw := hb.trans (hb2.mono hb.size)
          clear hvl hnx
          go_wp2
          go_roundw
          case rel => exact ⟨k + 1, by omega, by go_num, hR, hbw⟩
          case measure => simp [intOf]; omega
    · obtain rfl : k = ls.length := by omega
      have hR := Pl.merge_ris (Rs := ls) (fun R hR => by
        obtain ⟨j, hj, rfl⟩ := List.getElem_of_mem hR
        exact hris.out j hj hj)
      have hadj := Lib.hid (Pl.adj_of_ris hR)
      have hsee : Hid (∀ sq, (sq ∈ fs ∨ ∀ x ∈ Pl.mergeOf ls, x.seq ≤ sq) → Pl.pairsOf sq ⟨#[]⟩ ⟨#[]⟩ (Pl.keepOf fs bot (Pl.mergeOf ls)) = Pl.pairsOf sq ⟨#[]⟩ ⟨#[]⟩ (Pl.mergeOf ls)) := Lib.hid (fun sq h => Pl.keep_sees hR h)
      have hkl := Pl.keepOf_length fs bot (Pl.mergeOf ls)
      have hsome : Hid (Pl.mergeOf ls = [] → Pl.total ls = 0) := Lib.hid (fun e => by
        by_cases h0 : 0 < Pl.total ls
        · have := Pl.merge_some h0; rw [e] at this; simp at this
        · omega)
      obtain ⟨W1, rfl⟩ : ∃ X : World, X = wr := ⟨_, rfl⟩
      have P1 := Lib.hid (P0.out W1 hb)
      clear P0 hris hR
      go_wp2_with fail
      refine P1.out.mono ?_
      rintro e W2 ⟨o, gs, rfl, ho1, hf1, hb1⟩
      have hgl := hf1.len
      have P2 := Lib.hid (mmerge_any W1.heap.size o gs W2 ho1 hf1.one (by omega))
      have hbw2 := hb.trans (hb1.mono hb.size)
      clear P1 hb
      replace hgl := Lib.hid hgl
      go_wp2_with fail
      refine P2.out.mono ?_
      rintro e W3 ⟨rfl, u, hbx, ho2, hb2⟩
      have hbw3 := hbw2.trans (hb2.mono hbw2.size)
      have hF := (hf1.below hb2).toAt (hb1.trans (hb2.mono hb1.size)) ho2
      have P3 := Lib.hid (merge_call W2.heap.size u ls 0 W3 hbx hF hl hll ht)
      have hz0 : heads (Pl.mergeOf ls) 0 = Pl.mergeOf ls := heads_zero _
      rw [hz0] at P3
      clear P2 hbx hF ho2 hf1 hb1 hb2 hz0 ho1 hbw2
      generalize Pl.mergeOf ls = L at *
      replace hkl := hkl
      go_wp2_with fail
      refine P3.out.mono ?_
      rintro e W4 ⟨v10, rfl, hV4, hb3⟩
      have hbw4 := hbw3.trans (hb3.mono hbw3.size)
      obtain ⟨ao4, cap4, rfl, c3, c4, hr4⟩ := id hV4
      have P4 := Lib.hid (row_it _ L W4 hV4)
      clear P3 hbw3 hb3
      go_wp2_with fail
      refine P4.out.mono ?_
      rintro e W5 ⟨r5, rfl, hI5, hb4⟩
      have hbw5 := hbw4.trans (hb4.mono hbw4.size)
      have hV5 := hV4.below hb4
      have P5 := Lib.hid (keep_it _ _ L fs bot r5 W5 hI5 (hf.below hbw5) hfl)
      clear P4 hI5 hV4 hbw4 hb4
      go_wp2_with fail
      refine P5.out.mono ?_
      rintro e W6 ⟨s6, rfl, hK6, hb5⟩
      have hbw6 := hbw5.trans (hb5.mono hbw5.size)
      have hV6 := hV5.below hb5
      have P6 := Lib.hid (keep_call _ L fs bot r5 s6 0 W6 (by omega) hK6)
      have hz1 : heads (Pl.keepOf fs bot L) 0 = Pl.keepOf fs bot L := heads_zero _
      rw [hz1] at P6
      clear P5 hK6 hV5 hbw5 hb5 hz1
      generalize Pl.keepOf fs bot L = K at *
      go_wp2_with fail
      refine P6.out.mono ?_
      rintro e W7 ⟨v11, rfl, hW7, hb6⟩
      have hbw7 := hbw6.trans (hb6.mono hbw6.size)
      have hV7 := hV6.below hb6
      obtain ⟨ao7, cap7, rfl, c5, c6, _⟩ := id hW7
      clear P6 hV6 hbw6 hb6
      go_wp2
      go_loopw [12, 13] (fun i _ W' => ∃ m : Nat, m ≤ L.length ∧ i = .int .i64 ((m : Int) + 1) ∧ Below W7.heap.size W7 W') (fun i _ _ => L.length + 2 - (intOf i).toNat)
      case atStart => exact ⟨0, by omega, rfl, Below.refl _ _⟩
      case round =>
        obtain ⟨m, hm, rfl, hb2⟩ := hrel
        by_cases h2 : m + 1 < L.length
        · obtain ⟨b2, off2, rfl, hrow⟩ := hr4 (by omega)
          have hr7 : RowIn W7 b2 off2 L := by
            obtain ⟨_, _, e, _, _, h⟩ := hV7
            cases e
            obtain ⟨_, _, e, h⟩ := h (by omega)
            cases e; exact h
          obtain ⟨x0, x1, x2, x3⟩ := ver_at hr7 hb2 h2
          obtain ⟨y0, y1, y2, y3⟩ := ver_at hr7 hb2 (show m < L.length by omega)
          have hwr : IntKind.i64.wrap ((m : Int) + 1 - 1) = (m : Int) := IntWalk.i64_in _ (by omega) |>.trans (by omega)
          have hwr2 : IntKind.i64.wrap (m : Int) = (m : Int) := IntWalk.i64_in _ (by omega)
          have hwr3 : IntKind.i64.wrap ((m : Int) + 1) = (m : Int) + 1 := IntWalk.i64_in _ (by omega)
          have hge : (0 : Int) ≤ (m : Int) + 1 := by omega
          have hge2 : ¬ ((m : Int) + 1 < 0) := by omega
          have hd1 : (m : Int) + 1 - 1 = (m : Int) := by omega
          have hi1 : (m : Int) + 1 < (L.length : Int) := by omega
          have hi2 : (m : Int) < (L.length : Int) := by omega
          have ht : ((m : Int) + 1).toNat = m + 1 := by omega
          have P := Lib.hid (fun W => refLess_any (L[m]'(by omega)) L[m + 1] W)
          rw [hadj.out m h2] at P
          clear hrow hr7 hr4
          go_wp2
          go_still_tail 9, (by kernel_rfl)
          change wpList _ _ _ _ _ wr.drew
          go_wp2_with fail
          refine (P.out _).mono ?_
          rintro e1 w1 ⟨rfl, b1⟩
          go_wp2_with fail
          go_roundw
          case rel => exact ⟨m + 1, by omega, by go_num, hb2.drew.trans (b1.mono hb2.size)⟩
          case measure => simp [intOf]; omega
        · have hd : decide ((m : Int) + 1 < (L.length : Int)) = false := by simp; omega
          have hbw8 := hbw7.trans (hb2.mono hbw7.size)
          have hV8 := hV7.below hb2
          have hW8 := hW7.below hb2
          have PC1 := Lib.hid (PC.out wr hbw8)
          obtain ⟨W8, rfl⟩ : ∃ X : World, X = wr := ⟨_, rfl⟩
          have hgt : ¬ ((L.length : Int) < (K.length : Int)) := by omega
          clear hV7 hW7 hb2 hbw7 hr4 PC hadj
          have hkm : K.length ≤ 2932031007317 := by omega
          have hlm : L.length ≤ 2932031007317 := by omega
          rcases Classical.em (L = []) with h0 | h0
          case' inl =>
            have ht0 := hsome.out h0
            have hl0 : ((L.length : Int) == 0) = true := by rw [h0]; rfl
            rw [ht0] at PC1
            replace h0 := Lib.hid h0
            clear hsome ht0 ht hml hkl
            go_wp2_with fail
            refine PC1.out.mono ?_
            rintro e w9 ⟨rfl, he⟩
            obtain rfl : W8 = w9 := he.symm
            go_wp2_with fail
          case' inr =>
            have hl0 : ((L.length : Int) == 0) = false := by
              have := List.length_pos_iff.2 h0
              simp; omega
            replace h0 := Lib.hid h0
            clear hsome ht hml hkl
            go_wp2_with fail
          all_goals
            clear PC1 hl0 hgt hd
            have hf8 := hf.below hbw8
            clear hf hv hfr hv0 h0
            have PV := Lib.hid (fun W (hb : Below W8.heap.size W8 W) => row_it _ L W (hV8.below hb))
            have PW := Lib.hid (fun W (hb : Below W8.heap.size W8 W) => row_it _ K W (hW8.below hb))
            clear hV8 hW8
            go_loopw [15, 16, 17, 18, 19] (fun i _ _ _ _ W' => ∃ j : Int, i = .int .i64 j ∧ -1 ≤ j ∧ j ≤ fs.length ∧ Below W8.heap.size W8 W') (fun i _ _ _ _ _ => ((fs.length : Int) + 1 - intOf i).toNat)
            case atStart => exact ⟨-1, rfl, by omega, by omega, Below.refl _ _⟩
            case round =>
              obtain ⟨j, rfl, hj1, hj2, hb9⟩ := hrel
              rcases Classical.em (j < (fs.length : Int)) with hj3 | hj3
              · have hfs : fs.length ≤ 9223372036854775807 := by omega
                have hat : (j = -1 ∧ ∃ sq : Nat, Hid ((18446744073709551615 : Int) = (sq : Int)) ∧ Hid (Pl.pairsOf sq ⟨#[]⟩ ⟨#[]⟩ K = Pl.pairsOf sq ⟨#[]⟩ ⟨#[]⟩ L)) ∨ (∃ (m : Nat) (h : m < fs.length), j = (m : Int) ∧ Hid (Pl.pairsOf fs[m] ⟨#[]⟩ ⟨#[]⟩ K = Pl.pairsOf fs[m] ⟨#[]⟩ ⟨#[]⟩ L)) := by
                  by_cases e : j = -1
                  · exact .inl ⟨e, 18446744073709551615, Lib.hid rfl, Lib.hid (hsee.out _ (.inr hqm.out))⟩
                  · obtain ⟨m, rfl⟩ := Int.eq_ofNat_of_zero_le (show 0 ≤ j by omega)
                    exact .inr ⟨m, by omega, rfl, Lib.hid (hsee.out _ (.inl (List.getElem_mem _)))⟩
                rcases hat with ⟨rfl, sq, hsq, hpp⟩ | ⟨m, hm, rfl, hpp⟩
                case' inl => go_wp2_with fail
                case' inr =>
                  obtain ⟨fo2, fcap2, e2, _, _, hc2⟩ := hf8
                  cases e2
                  obtain ⟨b3, off3, rfl, hb3, hc3⟩ := hc2 (by omega)
                  have l3 := (hb9.cell (p := ⟨b3, off3 + m, none⟩) hb3).trans (hc3 m hm)
                  obtain ⟨sq, hsq0⟩ : ∃ sq, fs[m] = sq := ⟨_, rfl⟩
                  rw [hsq0] at hpp l3
                  obtain ⟨q, hq⟩ : ∃ q : Int, q = (sq : Int) := ⟨_, rfl⟩
                  rw [← hq] at l3
                  have hsq := Lib.hid hq
                  clear hq
                  clear hc2 hc3 hsq0
                  go_wp2_with fail
                all_goals
                  refine (PV.out wr hb9).mono ?_
                  rintro e Wa ⟨ra, rfl, hIa, hba⟩
                  have hwa := hb9.trans (hba.mono hb9.size)
                  have PA := Lib.hid (pairs_it _ L _ sq hsq.out ⟨#[]⟩ ⟨#[]⟩ ra Wa hIa)
                  clear hIa
                  go_wp2_with fail
                  refine PA.out.mono ?_
                  rintro e Wb ⟨sb, rfl, hPb, hbb⟩
                  have hwb := hwa.trans (hbb.mono hwa.size)
                  have PB := Lib.hid (pairs_call _ L sq ⟨#[]⟩ ⟨#[]⟩ ra sb 0 Wb (by omega) hPb)
                  rw [heads_zero] at PB
                  clear PA hPb hwa
                  go_wp2_with fail
                  refine PB.out.mono ?_
                  rintro e Wc ⟨v17, rfl, hVc, hbc⟩
                  have hwc := hwb.trans (hbc.mono hwb.size)
                  clear PB hwb
                  go_wp2_with fail
                  refine (PW.out Wc hwc).mono ?_
                  rintro e Wd ⟨rd, rfl, hId, hbd⟩
                  have hwd := hwc.trans (hbd.mono hwc.size)
                  have hVd := hVc.below hbd
                  have PD := Lib.hid (pairs_it _ K _ sq hsq.out ⟨#[]⟩ ⟨#[]⟩ rd Wd hId)
                  clear hId hVc hwc
                  go_wp2_with fail
                  refine PD.out.mono ?_
                  rintro e We ⟨se, rfl, hPe, hbe⟩
                  have hwe := hwd.trans (hbe.mono hwd.size)
                  have hVe := hVd.below hbe
                  have PE := Lib.hid (pairs_call _ K sq ⟨#[]⟩ ⟨#[]⟩ rd se 0 We (by omega) hPe)
                  rw [heads_zero, hpp.out] at PE
                  clear PD hPe hVd hwd
                  go_wp2_with fail
                  refine PE.out.mono ?_
                  rintro e Wf ⟨v18, rfl, hWf, hbf⟩
                  have hwf := hwe.trans (hbf.mono hwe.size)
                  have hVf := hVe.below hbf
                  have hpl := pairsOf_length sq ⟨#[]⟩ ⟨#[]⟩ L
                  have PG := Lib.hid (samePairs_same v17 v18 _ Wf hVf hWf (by omega))
                  clear PE hVe hwe hpl
                  go_wp2_with fail
                  refine PG.out.mono ?_
                  rintro e Wg ⟨rfl, hqg⟩
                  have hwg := hwf.trans ((hqg.below _).mono hwf.size)
                  clear hVf hWf PG hwf
                  go_wp2_with fail
                  go_roundw
                  case rel => exact ⟨_, by go_num, by omega, by omega, hwg⟩
                  case measure => simp [intOf]; omega
              · obtain rfl : j = (fs.length : Int) := by omega
                have hwe := hbw8.trans (hb9.mono hbw8.size)
                go_wp2_with fail
                go_ret
                exact ⟨ret_bool (by rfl), hwe⟩
end Go.Proofs.Ytiogjebekadmcaa
