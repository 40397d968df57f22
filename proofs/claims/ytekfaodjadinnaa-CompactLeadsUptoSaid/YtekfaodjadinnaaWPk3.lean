/- Walk: the document's compaction that is picked. Condition: the rows are short enough. -/
import Derived.Test.YtekfaodjadinnaaWPk0
import Derived.Deep.QuietTactic
import Derived.BigQuiet
import Derived.Deep.DeepCutAuto
namespace Go.Proofs.Ytekfaodjadinnaa
open Go.RowKit

namespace Pl
theorem fromI_hit {L : Lv} {af : Nat → ByteArray} {k i : Nat} (h : i < (L.t k).length) (h1 : Op.bytesLess (af k).toList (L.t k)[i].greatest.toList = true) (h2 : ∀ j (hj : j < (L.t k).length), j < i → Op.bytesLess (af k).toList (L.t k)[j].greatest.toList = false) : fromI L af k = i := by
  unfold fromI
  rw [behindI_some h h1 h2]
  rfl
theorem fromI_miss {L : Lv} {af : Nat → ByteArray} {k : Nat} (h2 : ∀ j (hj : j < (L.t k).length), Op.bytesLess (af k).toList (L.t k)[j].greatest.toList = false) : fromI L af k = 0 := by
  unfold fromI
  rw [behindI_none h2]
  rfl
end Pl

set_option maxRecDepth 100000 in
set_option maxHeartbeats 40000000 in
theorem refPick_any (c : Pl.Cfg) (L : Pl.Lv) (a : Nat → Option Addr) (cc : Nat → Nat) (af : Nat → ByteArray) (w : World) (hL : LvAt w L a cc) (hlen : ∀ k, k < 4 → (L.t k).length ≤ 536870912) :
    Calls Try.prog 10 #[cfgV c, lvV L a cc, .agg #[.string (af 0), .string (af 1), .string (af 2), .string (af 3)]] w (PkEnd w (Pl.pick c L af)) := by
  obtain ⟨R, hR⟩ : ∃ R, R = Pl.pick c L af := ⟨_, rfl⟩
  rw [← hR]
  have hhit : Hid (∀ k, k < 3 → Pl.due c L k = true → (∀ j, j < k → Pl.due c L j = false) → R = some (Pl.pickAt L af k)) := Lib.hid (fun k h1 h2 h3 => by rw [hR]; exact Pl.pick_hit h1 h2 h3)
  have hnone : Hid ((∀ j, j < 3 → Pl.due c L j = false) → R = none) := Lib.hid (fun h => by rw [hR]; exact Pl.pick_none h)
  clear hR
  have hP0 := PkW.start w c L a cc af
  unfold cfgV lvV
  go_enter Try.func10, Try.ntmps10
  go_wp2_with fail
  simp only [lvCells] at hP0
  generalize (((w.alloc (.cells #[.int .i64 c.c0, .int .i64 c.c1, .int .i64 c.c2, .int .i64 c.c3, .int .i64 c.c4, .int .i64 c.c5, .int .i64 c.c6, .int .u64 c.c7] 24)).alloc (.cells #[.int .u64 (L.next : Int), .int .u64 (L.seq : Int), .int .u64 (L.log : Int), .slice (a 0) (L.t 0).length (cc 0), .slice (a 1) (L.t 1).length (cc 1), .slice (a 2) (L.t 2).length (cc 2), .slice (a 3) (L.t 3).length (cc 3)] 30)).alloc (.cells #[.string (af 0), .string (af 1), .string (af 2), .string (af 3)] 26)).alloc (.cells #[.int .i64 0, .slice none 0 0, .slice none 0 0, .bool false] 35) = W0 at hP0 ⊢
  go_loopw [8] (fun i W' => ∃ k : Nat, k ≤ 3 ∧ i = .int .i64 (k : Int) ∧ PkW w c L a cc af W' ∧ ∀ j, j < k → Pl.due c L j = false) (fun i _ => 3 - (intOf i).toNat)
  case atStart => exact ⟨0, by omega, rfl, hP0, fun j h => absurd h (Nat.not_lt_zero _)⟩
  clear hP0
  case round =>
    obtain ⟨k, hk, rfl, hP, hall⟩ := hrel
    by_cases hk3 : k < 3
    case neg =>
      obtain rfl : k = 3 := by omega
      have hr := hnone.out hall
      subst hr
      obtain ⟨d0, d1, d2, d3⟩ := hP.rb.cells
      have hf := hP.rb.frz
      have hz := hP.lt
      have hPh := Lib.hid hP
      go_wp2
      refine bodyPost_ret (results_job2 rfl rfl rfl (show JbBox _ (w.heap.size + 1 + 1 + 1) 0 none 0 0 none 0 0 false from heap_four hPh.out.rb _ _ _ _)) rfl ⟨none, 0, none, 0, rfl, World.ownsRow_nil _ _ _ _, World.ownsRow_nil _ _ _ _, (keep_four _ _ _ _ _ _).below hPh.out.old (Nat.le_refl _) (fun q hq => by omega)⟩
    have hkI : (0 : Int) ≤ (k : Int) := by omega
    have hkI4 : (k : Int) < 4 := by omega
    have hbw := hP.old
    have hzr := hP.lt
    have PS := Lib.hid (refScore_any c L a cc (k : Int) wr (hL.below hP.old) (by omega) (fun j hj => by have := hlen j hj; omega))
    unfold cfgV lvV at PS
    obtain ⟨k0, k1, k2, k3, k4, k5, k6, k7⟩ := hP.cb.cells
    obtain ⟨p0, p1, p2, p3, p4, p5, p6⟩ := hP.lb.cells
    have hdue : Pl.due c L k = decide ((Pl.score c L (k : Int)).2 < (Pl.score c L (k : Int)).1) := rfl
    generalize (Pl.score c L (k : Int)).1 = sn at *
    generalize (Pl.score c L (k : Int)).2 = sm at *
    have hL1 := Lib.hid hL
    clear hL
    go_wp2_with fail
    refine PS.out.mono ?_
    rintro e w1 ⟨rfl, b1⟩
    have hP2 := hP.below b1
    clear PS k0 k1 k2 k3 k4 k5 k6 k7 p0 p1 p2 p3 p4 p5 p6 hP b1
    by_cases hd : sn ≤ sm
    · have hdf : Pl.due c L k = false := by rw [hdue]; exact decide_eq_false (by omega)
      have hall' := Lib.hid (show ∀ j, j < k + 1 → Pl.due c L j = false from fun j hj => by
        rcases Nat.lt_succ_iff_lt_or_eq.1 hj with h3 | rfl
        · exact hall j h3
        · exact hdf)
      clear hall hdue
      go_wp2
      go_roundw
      case rel => exact ⟨k + 1, by omega, by go_num, hP2, hall'.out⟩
      case measure => simp [intOf]; omega
    have hdt : Pl.due c L k = true := by rw [hdue]; exact decide_eq_true (by omega)
    have hr := hhit.out k hk3 hdt hall
    subst hr
    obtain ⟨hcr, h0⟩ := Pl.due_some hk3 hdt
    clear hall hdue hdt hhit hnone
    have hlk := hlen k (by omega)
    have hz2 := hP2.lt
    have hz2' : w.heap.size + 1 < w1.heap.size := hP2.lb.lt
    have hBb : Below w1.heap.size w1 (w1.alloc (.cells #[.int .i64 (k : Int), .slice none 0 0, .slice none 0 0, .bool false] 35)) := (Below.refl _ _).alloc (Nat.le_refl _) _
    have hJ0 : JbBox (w1.alloc (.cells #[.int .i64 (k : Int), .slice none 0 0, .slice none 0 0, .bool false] 35)) w1.heap.size (k : Int) none 0 0 none 0 0 false := World.alloc_heap_new _ _
    have hPc := hP2.below hBb
    have hjz : w.heap.size + 4 ≤ w1.heap.size := by omega
    go_upto_if 34 with (fail)
    generalize w1.alloc (.cells #[.int .i64 (k : Int), .slice none 0 0, .slice none 0 0, .bool false] 35) = wd at hBb hJ0 hPc ⊢
    generalize w1.heap.size = jb at *
    have hFI := Lib.hid (Pl.fromI_lt (af := af) h0)
    have hsome := Lib.hid (Pl.fromOf_some (c := c) (af := af) h0)
    clear hBb
    obtain ⟨F, hFe⟩ : ∃ F, F = Pl.fromOf L af k := ⟨_, rfl⟩
    replace hFe := Lib.hid hFe
    go_cut [] (fun wx => ∃ (a4 : Option Addr) (c4 : Nat), PkW w c L a cc af wx ∧ JbBox wx jb (k : Int) a4 F.length c4 none 0 0 false ∧ TOwn wx (w.heap.size + 4) (.slice a4 F.length c4) F)
    case first =>
      by_cases hk0 : k = 0
      · -- [A
        subst hk0
        have hF0 : F = L.t 0 := by rw [hFe.out]; unfold Pl.fromOf; rw [if_pos rfl]
        subst hF0
        have hok := hPc.lb.k 0 (by omega)
        have PA := Lib.hid (all_any (L.t 0) [] (.slice (a 0) (L.t 0).length (cc 0)) (.slice none 0 0) wd (hL1.out.below hPc.old 0 (by omega)) (TbsAt.nil _) (by omega) (by simp))
        rw [List.append_nil] at PA
        go_wp2_with fail
        refine PA.out.mono ?_
        rintro e w3 ⟨v3, rfl, hv3, b3⟩
        obtain ⟨a3, c3, hvs, -⟩ := hv3.at
        subst hvs
        have hP3 := hPc.below b3
        have hJ3 := hJ0.below b3
        have hjl := hJ3.lt
        have hjf := hJ3.frz
        have hjd := hJ0.lt
        obtain ⟨d0, d1, d2, d3⟩ := hJ3.cells
        have hks := Lib.hid (show Keep (fun q => q ≠ jb) w3 (w3.setCell ⟨jb, 1, none⟩ (.slice a3 (L.t 0).length c3)) from (Keep.refl _ _).setCell _ _ _ (fun h _ => h rfl))
        replace hP3 := Lib.hid hP3
        replace hJ3 := Lib.hid hJ3
        clear PA hok hPc hJ0 b3
        go_wp2
        go_meet
        exact ⟨a3, c3, hP3.out.keep hks.out (fun q hq => by show q ≠ jb; omega), heap_second hJ3.out, hks.out.ownsRow (row_base hv3 (by omega)) (fun q e => by have := (World.ownsRow.lt hv3 q e).1; show q ≠ jb; omega)⟩
        -- A]
      · -- [B
        have hkb : ((k : Int) == 0) = false := by simp; omega
        have hkb2 : decide ((k : Int) = 0) = false := decide_eq_false (by omega)
        go_wp2_with fail
        go_loopw [12] (fun i W' => ∃ n : Nat, n ≤ (L.t k).length ∧ i = .int .i64 (n : Int) ∧ Below wd.heap.size wd W' ∧ ∀ j (hj : j < (L.t k).length), j < n → Op.bytesLess (af k).toList (L.t k)[j].greatest.toList = false) (fun i _ => (L.t k).length - (intOf i).toNat)
        case atStart => exact ⟨0, by omega, rfl, Below.refl _ _, fun j _ h => absurd h (Nat.not_lt_zero _)⟩
        case round =>
          obtain ⟨n, hn, rfl, hbd, hall⟩ := hrel
          have hPr := hPc.below hbd
          have hJr := hJ0.below hbd
          have hTk := hL1.out.below hPr.old k (by omega)
          have hok := hPr.lb.k k (by omega)
          have haf := hPr.ab.k k (by omega)
          replace hbd := Lib.hid hbd
          clear hPc hJ0
          by_cases hnl : n < (L.t k).length
          · have hTk2 := hTk
            obtain ⟨ao1, cp1, es1, hcl, hcm, _, hc1⟩ := hTk2
            injection es1 with e1 e2 e3
            subst e3
            obtain ⟨b1, o1, ea, hbl1, hx1⟩ := hc1 h0
            replace e1 := e1.trans ea
            subst ea
            rw [e1] at hok hTk
            replace e1 := Lib.hid e1
            obtain ⟨x0, x1, x2, x3, x4, x5⟩ := hx1 n hnl
            clear hx1 hc1 e2
            obtain ⟨g, hg⟩ : ∃ g, g = (L.t k)[n].greatest := ⟨_, rfl⟩
            rw [← hg] at x5
            clear x0 x1 x2 x3 x4
            have hdn : decide (n < (L.t k).length) = true := decide_eq_true hnl
            have hnI : (0 : Int) ≤ (n : Int) := by omega
            have hleS := Pl.leS_or g (af k)
            cases hb : Op.bytesLess (af k).toList g.toList with
            | false =>
              have hle : (Op.bytesLess g.toList (af k).toList || g.toList == (af k).toList) = true := by rw [hleS]; unfold Pl.leS; rw [hb]; rfl
              have hall' := Lib.hid (show ∀ j (hj : j < (L.t k).length), j < n + 1 → Op.bytesLess (af k).toList (L.t k)[j].greatest.toList = false from fun j hj h => by
                rcases Nat.lt_succ_iff_lt_or_eq.1 h with h3 | rfl
                · exact hall j hj h3
                · rw [← hg]; exact hb)
              clear hleS hb hall hg hTk
              go_wp2_with fail
              go_quiet (fail)
              go_wp2
              go_roundw
              case rel => exact ⟨n + 1, by omega, by go_num, below_drewN hbd.out _, hall'.out⟩
              case measure => simp [intOf]; omega
            | true =>
              have hle : (Op.bytesLess g.toList (af k).toList || g.toList == (af k).toList) = false := by rw [hleS]; unfold Pl.leS; rw [hb]; rfl
              have hfi := Lib.hid (Pl.fromI_hit (L := L) (af := af) hnl (by rw [← hg]; exact hb) hall)
              have hne : decide (n = (L.t k).length) = false := decide_eq_false (by omega)
              have hne2 : ((n : Int) == ((L.t k).length : Int)) = false := by simp; omega
              have hnc : decide (cc k = n) = false := decide_eq_false (by omega)
              have hnc2 : ¬ (cc k = n) := by omega
              have hw1 : IntKind.i64.wrap ((n : Int) + 1) = (n : Int) + 1 := IntWalk.i64_in _ (by omega)
              have hT1 : TbsAt wr (.slice (some ⟨b1, o1 + n * 6, none⟩) 1 (cc k - n)) [(L.t k)[n]] := by
                have h1 := (hTk.drop n hn).take 1 (by rw [List.length_drop]; omega)
                rw [List.drop_eq_getElem_cons hnl, List.take_succ_cons, List.take_zero] at h1
                exact h1
              have hF1 : F = [(L.t k)[n]] := by
                rw [hFe.out]
                unfold Pl.fromOf
                rw [if_neg hk0, hfi.out, List.drop_eq_getElem_cons hnl, List.take_succ_cons, List.take_zero]
              replace hF1 := Lib.hid hF1
              have PA := Lib.hid (fun (nq : Nat) => all_any [(L.t k)[n]] [] (.slice (some ⟨b1, o1 + n * 6, none⟩) 1 (cc k - n)) (.slice none 0 0) (wr.drewN nq) (hT1.below (below_drewN (Below.refl _ _) nq)) (TbsAt.nil _) (by simp) (by simp))
              simp only [List.append_nil] at PA
              generalize (L.t k)[n] = X at *
              clear hleS hb hall hg
              go_wp2_with fail
              go_quiet (fail)
              go_wp2_with fail
              have hB3 : Below wr.heap.size wr (wr.drewN nq) := below_drewN (Below.refl _ _) _
              replace PA := PA.out nq
              refine PA.mono ?_
              rintro e w3 ⟨v3, rfl, hv3, b3⟩
              obtain ⟨a3, c3, hvs, -⟩ := hv3.at
              subst hvs
              have b3' := hB3.trans (b3.mono hB3.size)
              have hP3 := hPr.below b3'
              have hJ3 := hJr.below b3'
              have hjl := hJ3.lt
              have hjd := hJr.lt
              have hjf := hJ3.frz
              obtain ⟨d0, d1, d2, d3⟩ := hJ3.cells
              have hks := Lib.hid (show Keep (fun q => q ≠ jb) w3 (w3.setCell ⟨jb, 1, none⟩ (.slice a3 [X].length c3)) from (Keep.refl _ _).setCell _ _ _ (fun h _ => h rfl))
              replace hP3 := Lib.hid hP3
              replace hJ3 := Lib.hid hJ3
              have hq : wr.heap.size ≤ (wr.drewN nq).heap.size := hB3.size
              clear PA hok hPr hJr b3 b3' hB3
              go_wp2
              go_meet
              have hk2 := hks.out
              have hF2 := hF1.out
              subst hF2
              refine ⟨a3, c3, hP3.out.keep hk2 (fun q hq => by show q ≠ jb; omega), ?_, ?_⟩
              · exact heap_second (v := .slice a3 1 c3) hJ3.out
              · exact hk2.ownsRow (row_base hv3 (by omega)) (fun q e => by have := (World.ownsRow.lt hv3 q e).1; show q ≠ jb; omega)
          · obtain rfl : n = (L.t k).length := by omega
            have hfi := Lib.hid (Pl.fromI_miss (L := L) (af := af) (fun j hj => hall j hj hj))
            have hTk2 := hTk
            obtain ⟨ao1, cp1, es1, hcl, hcm, _, hc1⟩ := hTk2
            injection es1 with e1 e2 e3
            subst e3
            obtain ⟨b1, o1, ea, hbl1, hx1⟩ := hc1 h0
            replace e1 := e1.trans ea
            subst ea
            rw [e1] at hok hTk
            replace e1 := Lib.hid e1
            clear hx1 hc1 e2 hall
            have hdn : decide ((L.t k).length < (L.t k).length) = false := decide_eq_false (by omega)
            have hnc : decide (cc k = 0) = false := decide_eq_false (by omega)
            have hnc2 : ¬ (cc k = 0) := by omega
            have hT1 : TbsAt wr (.slice (some ⟨b1, o1, none⟩) 1 (cc k)) [(L.t k)[0]] := by
              have h1 := hTk.take 1 (by omega)
              have h2 : (L.t k).take 1 = [(L.t k)[0]] := by
                rw [List.take_succ_eq_append_getElem h0, List.take_zero, List.nil_append]
              rw [h2] at h1
              exact h1
            have hF1 : F = [(L.t k)[0]] := by
              rw [hFe.out]
              unfold Pl.fromOf
              rw [if_neg hk0, hfi.out, List.drop_eq_getElem_cons h0, List.take_succ_cons, List.take_zero]
            replace hF1 := Lib.hid hF1
            have PA := Lib.hid (fun (nq : Nat) => all_any [(L.t k)[0]] [] (.slice (some ⟨b1, o1, none⟩) 1 (cc k)) (.slice none 0 0) (wr.drewN nq) (hT1.below (below_drewN (Below.refl _ _) nq)) (TbsAt.nil _) (by simp) (by simp))
            simp only [List.append_nil] at PA
            generalize (L.t k)[0] = X at *
            go_wp2_with fail
            go_quiet (fail)
            go_wp2_with fail
            have hB3 : Below wr.heap.size wr (wr.drewN nq) := below_drewN (Below.refl _ _) _
            replace PA := PA.out nq
            refine PA.mono ?_
            rintro e w3 ⟨v3, rfl, hv3, b3⟩
            obtain ⟨a3, c3, hvs, -⟩ := hv3.at
            subst hvs
            have b3' := hB3.trans (b3.mono hB3.size)
            have hP3 := hPr.below b3'
            have hJ3 := hJr.below b3'
            have hjl := hJ3.lt
            have hjd := hJr.lt
            have hjf := hJ3.frz
            obtain ⟨d0, d1, d2, d3⟩ := hJ3.cells
            have hks := Lib.hid (show Keep (fun q => q ≠ jb) w3 (w3.setCell ⟨jb, 1, none⟩ (.slice a3 [X].length c3)) from (Keep.refl _ _).setCell _ _ _ (fun h _ => h rfl))
            replace hP3 := Lib.hid hP3
            replace hJ3 := Lib.hid hJ3
            have hq : wr.heap.size ≤ (wr.drewN nq).heap.size := hB3.size
            clear PA hok hPr hJr b3 b3' hB3
            go_wp2
            go_meet
            have hk2 := hks.out
            have hF2 := hF1.out
            subst hF2
            refine ⟨a3, c3, hP3.out.keep hk2 (fun q hq => by show q ≠ jb; omega), ?_, ?_⟩
            · exact heap_second (v := .slice a3 1 c3) hJ3.out
            · exact hk2.ownsRow (row_base hv3 (by omega)) (fun q e => by have := (World.ownsRow.lt hv3 q e).1; show q ≠ jb; omega)
        -- B]
    case rest =>
    obtain ⟨a4, c4, hP5, hJ5, hF5⟩ := hcut
    clear hPc hJ0 hFI
    have hF0 : 0 < F.length := by rw [hFe.out]; exact hsome.out
    have hFn : F.length ≤ 536870912 := by
      rw [hFe.out]
      unfold Pl.fromOf
      split
      · exact hlen 0 (by decide)
      · rw [List.length_take]; omega
    have hL := hL1.out
    obtain ⟨d0, d1, d2, d3⟩ := hJ5.cells
    have hjf := hJ5.frz
    have hj6 := hJ5.lt
    have PS1 := Lib.hid (bounds_any F (.slice a4 F.length c4) wc hF5.at hF0)
    go_wp2_with fail
    refine PS1.out.mono ?_
    rintro e w5 ⟨rfl, rfl⟩
    have hok := hP5.lb.k (k + 1) (by omega)
    have hz6 := hP5.lb.lt
    have hkw : IntKind.i64.wrap ((k : Int) + 1) = (k : Int) + 1 := IntWalk.i64_in _ (by omega)
    have hk1a : (0 : Int) ≤ (k : Int) + 1 := by omega
    have hk1b : (k : Int) + 1 < 4 := by omega
    have hk1c : ((k : Int) + 1).toNat = k + 1 := by omega
    have PO := Lib.hid (refOverlapping_any (L.t (k + 1)) (Pl.spanLo F) (Pl.spanHi F) (.slice (a (k + 1)) (L.t (k + 1)).length (cc (k + 1))) w5 (hL.below hP5.old (k + 1) (by omega)) (by have := hlen (k + 1) (by omega); omega))
    obtain ⟨T, hTe⟩ : ∃ T, T = Pl.overs (L.t (k + 1)) (Pl.spanLo F) (Pl.spanHi F) := ⟨_, rfl⟩
    have hTn : T.length ≤ 536870912 := by
      rw [hTe]
      exact Nat.le_trans (Pl.overs_length _ _ _) (hlen (k + 1) (by omega))
    rw [← hTe] at PO
    replace hTe := Lib.hid (show T = Pl.toOf L F k from hTe)
    clear PS1
    go_wp2_with fail
    refine PO.out.mono ?_
    rintro e w7 ⟨vz, rfl, hvz, b7⟩
    obtain ⟨a7, c7, hvs, -⟩ := hvz.at
    subst hvs
    have hP8 := hP5.below b7
    have hJ8 := hJ5.below b7
    have hF8 : TOwn w7 (w.heap.size + 4) (.slice a4 F.length c4) F := (Keep.of_below (fp := fun q => q < w5.heap.size) b7 (fun _ h _ => h)).ownsRow hF5 (fun q e => (World.ownsRow.lt hF5 q e).2)
    have hz65 := hP5.lt
    clear PO d0 d1 d2 d3 hjf hP5 hJ5 hF5 hok hz6 hkw hk1a hk1b hk1c
    obtain ⟨d0, d1, d2, d3⟩ := hJ8.cells
    have hjf := hJ8.frz
    have hj8 := hJ8.lt
    go_upto_region 17 with (fail)
    have hks : Keep (fun q => q ≠ jb) w7 (w7.setCell ⟨jb, 2, none⟩ (.slice a7 T.length c7)) := (Keep.refl _ _).setCell _ _ _ (fun h _ => h rfl)
    have hP9 := hP8.keep hks (fun q hq => by show q ≠ jb; omega)
    have hJ9 := heap_third (a3 := a7) (n3 := T.length) (c3 := c7) hJ8
    have hF9 : TOwn (w7.setCell ⟨jb, 2, none⟩ (.slice a7 T.length c7)) (w.heap.size + 4) (.slice a4 F.length c4) F := hks.ownsRow hF8 (fun q e => hJ8.not_row hF8 q e)
    have hT9 : TOwn (w7.setCell ⟨jb, 2, none⟩ (.slice a7 T.length c7)) (w.heap.size + 4) (.slice a7 T.length c7) T := hks.ownsRow (row_base hvz (by omega)) (fun q e => by have := (World.ownsRow.lt hvz q e).1; show q ≠ jb; omega)
    clear hP8 hJ8 hF8 hvz d0 d1 d2 d3 hj8 hjf b7
    generalize w7.setCell ⟨jb, 2, none⟩ (.slice a7 T.length c7) = w9 at *
    obtain ⟨d0, d1, d2, d3⟩ := hJ9.cells
    obtain ⟨A, hAe⟩ : ∃ A, A = F ++ T := ⟨_, rfl⟩
    have hA0 : 0 < A.length := by rw [hAe, List.length_append]; omega
    have PA := Lib.hid (all_any F T (.slice a4 F.length c4) (.slice a7 T.length c7) w9 hF9.at hT9.at (by omega) (by omega))
    rw [← hAe] at PA
    replace hAe := Lib.hid hAe
    go_wp2_with fail
    refine PA.out.mono ?_
    rintro e w10 ⟨vA, rfl, hvA, b10⟩
    obtain ⟨aA, cA, hvs, -⟩ := hvA.at
    subst hvs
    have PB := Lib.hid (bounds_any A (.slice aA A.length cA) w10 hvA.at hA0)
    go_wp2_with fail
    refine PB.out.mono ?_
    rintro e w11 ⟨rfl, rfl⟩
    have hP10 := hP9.below b10
    have hJ10 := hJ9.below b10
    have hF10 : TOwn w11 (w.heap.size + 4) (.slice a4 F.length c4) F := (Keep.of_below (fp := fun q => q < w9.heap.size) b10 (fun _ h _ => h)).ownsRow hF9 (fun q e => (World.ownsRow.lt hF9 q e).2)
    have hT10 : TOwn w11 (w.heap.size + 4) (.slice a7 T.length c7) T := (Keep.of_below (fp := fun q => q < w9.heap.size) b10 (fun _ h _ => h)).ownsRow hT9 (fun q e => (World.ownsRow.lt hT9 q e).2)
    clear hP9 hJ9 hF9 hT9 d0 d1 d2 d3 PA PB hvA b10
    obtain ⟨d0, d1, d2, d3⟩ := hJ10.cells
    have hjf := hJ10.frz
    have hj10 := hJ10.lt
    go_upto_region 19 with (fail)
    have hks : Keep (fun q => q ≠ jb) w11 (w11.setCell ⟨jb, 3, none⟩ (.bool true)) := (Keep.refl _ _).setCell _ _ _ (fun h _ => h rfl)
    have hP11 := hP10.keep hks (fun q hq => by show q ≠ jb; omega)
    have hJ11 := heap_fourth (b2 := true) hJ10
    have hF11 : TOwn (w11.setCell ⟨jb, 3, none⟩ (.bool true)) (w.heap.size + 4) (.slice a4 F.length c4) F := hks.ownsRow hF10 (fun q e => hJ10.not_row hF10 q e)
    have hT11 : TOwn (w11.setCell ⟨jb, 3, none⟩ (.bool true)) (w.heap.size + 4) (.slice a7 T.length c7) T := hks.ownsRow hT10 (fun q e => hJ10.not_row hT10 q e)
    clear hP10 hJ10 hF10 hT10 d0 d1 d2 d3 hj10 hjf
    generalize w11.setCell ⟨jb, 3, none⟩ (.bool true) = w12 at *
    have hn0 := Lib.hid (show Pl.noneDeep L A k 0 = true from rfl)
    have hkk : k ≤ 2 := by omega
    clear h0 hlk hF0 hA0 hcr hd hsome hks
    go_wp2_with fail
    go_loopw [15] (fun i W' => ∃ n : Nat, n ≤ 2 - k ∧ i = .int .i64 ((k + 2 + n : Nat) : Int) ∧ PkW w c L a cc af W' ∧ JbBox W' jb (k : Int) a4 F.length c4 a7 T.length c7 (Pl.noneDeep L A k n) ∧ TOwn W' (w.heap.size + 4) (.slice a4 F.length c4) F ∧ TOwn W' (w.heap.size + 4) (.slice a7 T.length c7) T) (fun i _ => 4 - (intOf i).toNat)
    case atStart => exact ⟨0, by omega, by go_num, hP11, by rw [hn0.out]; exact hJ11, hF11, hT11⟩
    case round =>
      obtain ⟨n, hn, rfl, hP, hJ, hF, hT⟩ := hrel
      by_cases hnk : n < 2 - k
      · have hok := hP.lb.k (k + 2 + n) (by omega)
        have hj := hJ.lt
        have hs := Lib.hid (show Pl.noneDeep L A k (n + 1) = (Pl.noneDeep L A k n && decide ((Pl.overs (L.t (k + 2 + n)) (Pl.spanLo A) (Pl.spanHi A)).length = 0)) from rfl)
        have PO := Lib.hid (refOverlapping_any (L.t (k + 2 + n)) (Pl.spanLo A) (Pl.spanHi A) (.slice (a (k + 2 + n)) (L.t (k + 2 + n)).length (cc (k + 2 + n))) wr (hL.below hP.old (k + 2 + n) (by omega)) (by have := hlen (k + 2 + n) (by omega); omega))
        generalize Pl.overs (L.t (k + 2 + n)) (Pl.spanLo A) (Pl.spanHi A) = ov at *
        obtain ⟨q, hq⟩ : ∃ q, q = k + 2 + n := ⟨_, rfl⟩
        have hq4 : q < 4 := by omega
        have hqI : (q : Int) < 4 := by omega
        have hqI0 : (0 : Int) ≤ (q : Int) := by omega
        rw [← hq] at PO hok ⊢
        have hqh := Lib.hid hq
        clear hq
        go_wp2_with fail
        refine PO.out.mono ?_
        rintro e w8 ⟨vz, rfl, hvz, b8⟩
        obtain ⟨a8, c8, hvs, -⟩ := hvz.at
        subst hvs
        have hP8 := Lib.hid (hP.below b8)
        have hJ8 := hJ.below b8
        have hF8 : TOwn w8 (w.heap.size + 4) (.slice a4 F.length c4) F := (Keep.of_below (fp := fun q => q < wr.heap.size) b8 (fun _ h _ => h)).ownsRow hF (fun q e => (World.ownsRow.lt hF q e).2)
        have hT8 : TOwn w8 (w.heap.size + 4) (.slice a7 T.length c7) T := (Keep.of_below (fp := fun q => q < wr.heap.size) b8 (fun _ h _ => h)).ownsRow hT (fun q e => (World.ownsRow.lt hT q e).2)
        clear PO hok hj hP hJ hF hT hvz b8
        have hj := hJ8.lt
        have hjf := hJ8.frz
        obtain ⟨d0, d1, d2, d3⟩ := hJ8.cells
        replace hJ8 := Lib.hid hJ8
        cases hb : Pl.noneDeep L A k n with
        | false =>
          rw [hb] at d3 hs
          replace hs : Hid (Pl.noneDeep L A k (n + 1) = false) := Lib.hid (by rw [hs.out]; rfl)
          have hkp := Lib.hid (show Keep (fun q => q ≠ jb) w8 (w8.setCell ⟨jb, 3, none⟩ (.bool false)) from (Keep.refl _ _).setCell _ _ _ (fun h _ => h rfl))
          clear hb
          go_wp2
          go_roundw
          case rel => exact ⟨n + 1, by omega, by rw [hqh.out]; go_num, hP8.out.keep hkp.out (fun q hq => by show q ≠ jb; omega), by rw [hs.out]; exact heap_fourth hJ8.out, hkp.out.ownsRow hF8 (fun q e => hJ8.out.not_row hF8 q e), hkp.out.ownsRow hT8 (fun q e => hJ8.out.not_row hT8 q e)⟩
          case measure => simp [intOf]; omega
        | true =>
          rw [hb] at d3 hs
          clear hb
          rcases Nat.eq_zero_or_pos ov.length with hz | hz
          · obtain rfl := List.eq_nil_of_length_eq_zero hz
            replace hs : Hid (Pl.noneDeep L A k (n + 1) = true) := Lib.hid (by rw [hs.out]; rfl)
            have hkp := Lib.hid (show Keep (fun q => q ≠ jb) w8 (w8.setCell ⟨jb, 3, none⟩ (.bool true)) from (Keep.refl _ _).setCell _ _ _ (fun h _ => h rfl))
            clear hz
            go_wp2
            go_roundw
            case rel => exact ⟨n + 1, by omega, by rw [hqh.out]; go_num, hP8.out.keep hkp.out (fun q hq => by show q ≠ jb; omega), by rw [hs.out]; exact heap_fourth hJ8.out, hkp.out.ownsRow hF8 (fun q e => hJ8.out.not_row hF8 q e), hkp.out.ownsRow hT8 (fun q e => hJ8.out.not_row hT8 q e)⟩
            case measure => simp [intOf]; omega
          · replace hs : Hid (Pl.noneDeep L A k (n + 1) = false) := Lib.hid (by rw [hs.out]; exact decide_eq_false (by omega))
            have hkp := Lib.hid (show Keep (fun q => q ≠ jb) w8 (w8.setCell ⟨jb, 3, none⟩ (.bool false)) from (Keep.refl _ _).setCell _ _ _ (fun h _ => h rfl))
            have hz1 : ((ov.length : Int) == 0) = false := by simp; intro e; subst e; simp at hz
            have hz2 : decide ((ov.length : Int) = 0) = false := decide_eq_false (by omega)
            go_wp2
            go_roundw
            case rel => exact ⟨n + 1, by omega, by rw [hqh.out]; go_num, hP8.out.keep hkp.out (fun q hq => by show q ≠ jb; omega), by rw [hs.out]; exact heap_fourth hJ8.out, hkp.out.ownsRow hF8 (fun q e => hJ8.out.not_row hF8 q e), hkp.out.ownsRow hT8 (fun q e => hJ8.out.not_row hT8 q e)⟩
            case measure => simp [intOf]; omega
      · obtain rfl : n = 2 - k := by omega
        have hRR : Pl.pickAt L af k = ⟨k, F, T, Pl.noneDeep L A k (2 - k)⟩ := by
          unfold Pl.pickAt Pl.bottomOf
          rw [← hFe.out, ← hTe.out, ← hAe.out]
        replace hRR := Lib.hid hRR
        have hq4 : ((k + 2 + (2 - k) : Nat) : Int) = 4 := by omega
        rw [hq4]
        clear hnk hn0 hq4
        have hrl := hP.lt
        have hj := hJ.lt
        have hRf := hP.rb.frz
        obtain ⟨d0, d1, d2, d3⟩ := hJ.cells
        obtain ⟨r0, r1, r2, r3⟩ := hP.rb.cells
        have hPh := Lib.hid hP
        generalize Pl.noneDeep L A k (2 - k) = bt at *
        go_wp2
        refine bodyPost_ret (results_job2 rfl rfl rfl (show JbBox _ (w.heap.size + 1 + 1 + 1) (k : Int) a4 F.length c4 a7 T.length c7 bt from heap_four hPh.out.rb _ _ _ _)) rfl ?_
        show PkEnd w (some (Pl.pickAt L af k)) _ _
        rw [hRR.out]
        exact ⟨a4, c4, a7, c7, rfl, (keep_four _ _ _ _ _ _).ownsRow (row_base hF (by omega)) (fun q e => by have := (World.ownsRow.lt hF q e).1; show q ≠ _; omega), (keep_four _ _ _ _ _ _).ownsRow (row_base hT (by omega)) (fun q e => by have := (World.ownsRow.lt hT q e).1; show q ≠ _; omega), (keep_four _ _ _ _ _ _).below hPh.out.old (Nat.le_refl _) (fun q hq => by show q ≠ _; omega)⟩
end Go.Proofs.Ytekfaodjadinnaa
