/- Walk: the compaction that is picked. Condition: the rows are short enough. -/
import Derived.Test.YtekfaodjadinnaaWPk0
import Derived.Deep.RegionWith
import Derived.StillTailTactics
import Derived.Deep.RegionHeld3
namespace Go.Proofs.Ytekfaodjadinnaa
open Go.RowKit

set_option maxRecDepth 100000 in
set_option maxHeartbeats 40000000 in
theorem pick_any (c : Pl.Cfg) (L : Pl.Lv) (a : Nat → Option Addr) (cc : Nat → Nat) (af : Nat → ByteArray) (w : World) (hL : LvAt w L a cc) (hlen : ∀ k, k < 4 → (L.t k).length ≤ 536870912) :
    Calls Try.prog 9 #[cfgV c, lvV L a cc, .agg #[.string (af 0), .string (af 1), .string (af 2), .string (af 3)]] w (PkEnd w (Pl.pick c L af)) := by
  obtain ⟨R, hR⟩ : ∃ R, R = Pl.pick c L af := ⟨_, rfl⟩
  rw [← hR]
  have hhit : Hid (∀ k, k < 3 → Pl.due c L k = true → (∀ j, j < k → Pl.due c L j = false) → R = some (Pl.pickAt L af k)) := Lib.hid (fun k h1 h2 h3 => by rw [hR]; exact Pl.pick_hit h1 h2 h3)
  have hnone : Hid ((∀ j, j < 3 → Pl.due c L j = false) → R = none) := Lib.hid (fun h => by rw [hR]; exact Pl.pick_none h)
  clear hR
  have hP0 := PkW.start w c L a cc af
  unfold cfgV lvV
  go_enter Try.func9, Try.ntmps9
  go_wp2_with fail
  simp only [lvCells] at hP0
  generalize (((w.alloc (.cells #[.int .i64 c.c0, .int .i64 c.c1, .int .i64 c.c2, .int .i64 c.c3, .int .i64 c.c4, .int .i64 c.c5, .int .i64 c.c6, .int .u64 c.c7] 24)).alloc (.cells #[.int .u64 (L.next : Int), .int .u64 (L.seq : Int), .int .u64 (L.log : Int), .slice (a 0) (L.t 0).length (cc 0), .slice (a 1) (L.t 1).length (cc 1), .slice (a 2) (L.t 2).length (cc 2), .slice (a 3) (L.t 3).length (cc 3)] 30)).alloc (.cells #[.string (af 0), .string (af 1), .string (af 2), .string (af 3)] 26)).alloc (.cells #[.int .i64 0, .slice none 0 0, .slice none 0 0, .bool false] 35) = W0 at hP0 ⊢
  go_loopw [8, 9, 10, 17] (fun _ _ _ i W' => ∃ k : Nat, k ≤ 3 ∧ i = .int .i64 (k : Int) ∧ PkW w c L a cc af W' ∧ ∀ j, j < k → Pl.due c L j = false) (fun _ _ _ i _ => 3 - (intOf i).toNat)
  case atStart => exact ⟨0, by omega, rfl, hP0, fun j h => absurd h (Nat.not_lt_zero _)⟩
  clear hP0
  case round =>
    obtain ⟨k, hk, rfl, hP, hall⟩ := hrel
    by_cases hk3 : k < 3
    case neg =>
      obtain rfl : k = 3 := by omega
      have hr := hnone.out hall
      subst hr
      obtain ⟨d0, d1, d2, d3⟩ := hP.rb.cells
      have hf := hP.rb.frz
      have hz := hP.lt
      have hPh := Lib.hid hP
      go_wp2
      refine bodyPost_ret (results_job2 rfl rfl rfl (show JbBox _ (w.heap.size + 1 + 1 + 1) 0 none 0 0 none 0 0 false from heap_four hPh.out.rb _ _ _ _)) rfl ⟨none, 0, none, 0, rfl, World.ownsRow_nil _ _ _ _, World.ownsRow_nil _ _ _ _, (keep_four _ _ _ _ _ _).below hPh.out.old (Nat.le_refl _) (fun q hq => by omega)⟩
    have hkI : (0 : Int) ≤ (k : Int) := by omega
    have hkI4 : (k : Int) < 4 := by omega
    have hB1 : Below wr.heap.size wr (wr.alloc (.cells #[.int .i64 (k : Int)] 3)) := (Below.refl _ _).alloc (Nat.le_refl _) _
    have hlb : (wr.alloc (.cells #[.int .i64 (k : Int)] 3)).heap[wr.heap.size]? = some (.cells #[.int .i64 (k : Int)] 3 (0, 0)) := World.alloc_heap_new _ _
    have hP1 := hP.below hB1
    have hbw := hP.old
    go_upto_region 4 with (fail)
    generalize wr.alloc (.cells #[.int .i64 (k : Int)] 3) = W1 at hB1 hlb hP1 ⊢
    have hlv0 : W1.cell? ⟨wr.heap.size, 0, none⟩ = some (.int .i64 (k : Int)) := by simp [World.cell?, hlb]
    have hl1 : wr.heap.size < W1.heap.size := (Array.getElem?_eq_some_iff.1 hlb).1
    have hzr := hP.lt
    have hLv := Lib.hid (fun (W : World) (h : Below w.heap.size w W) => hL.below h)
    have PS := Lib.hid (score_any c L a cc (k : Int) W1 (hL.below hP1.old) (by omega) (fun j hj => by have := hlen j hj; omega))
    unfold cfgV lvV at PS
    obtain ⟨k0, k1, k2, k3, k4, k5, k6, k7⟩ := hP1.cb.cells
    obtain ⟨p0, p1, p2, p3, p4, p5, p6⟩ := hP1.lb.cells
    have hdue : Pl.due c L k = decide ((Pl.score c L (k : Int)).2 < (Pl.score c L (k : Int)).1) := rfl
    generalize (Pl.score c L (k : Int)).1 = sn at *
    generalize (Pl.score c L (k : Int)).2 = sm at *
    go_wp2_with fail
    refine PS.out.mono ?_
    rintro e w1 ⟨rfl, b1⟩
    have hP2 := hP1.below b1
    have hlb2 := (b1.block wr.heap.size hl1).trans hlb
    have hl2 : wr.heap.size < w1.heap.size := (Array.getElem?_eq_some_iff.1 hlb2).1
    clear PS k0 k1 k2 k3 k4 k5 k6 k7 p0 p1 p2 p3 p4 p5 p6 hlv0 hlb hl1 hP1 hP b1 hB1
    generalize wr.heap.size = lb at *
    by_cases hd : sn ≤ sm
    · have hdf : Pl.due c L k = false := by rw [hdue]; exact decide_eq_false (by omega)
      have hall' := Lib.hid (show ∀ j, j < k + 1 → Pl.due c L j = false from fun j hj => by
        rcases Nat.lt_succ_iff_lt_or_eq.1 hj with h3 | rfl
        · exact hall j h3
        · exact hdf)
      clear hall hdue
      go_wp2
      go_roundw
      case rel => exact ⟨k + 1, by omega, by go_num, hP2, hall'.out⟩
      case measure => simp [intOf]; omega
    have hdt : Pl.due c L k = true := by rw [hdue]; exact decide_eq_true (by omega)
    have hr := hhit.out k hk3 hdt hall
    subst hr
    obtain ⟨hcr, h0⟩ := Pl.due_some hk3 hdt
    clear hall hdue hdt hhit hnone
    go_upto_region 6 with (fail)
    have hlk := hlen k (by omega)
    have hBa : Below w1.heap.size w1 w1.drew := (Below.refl _ _).drew
    have hBb : Below w1.heap.size w1 (w1.drew.alloc (.cells #[.int .i64 0, .slice none 0 0, .slice none 0 0, .bool false] 35)) := hBa.alloc (Nat.le_refl _) _
    have hZ := Lib.hid (show JbBox (w1.drew.alloc (.cells #[.int .i64 0, .slice none 0 0, .slice none 0 0, .bool false] 35)) w1.heap.size 0 none 0 0 none 0 0 false from World.alloc_heap_new _ _)
    have hok := hP2.lb.k k (by omega)
    have hz2 := hP2.lt
    have hz2' : w.heap.size + 1 < w1.heap.size := hP2.lb.lt
    have hw1 := hP2.old
    have PC := Lib.hid (fun (W : World) (h : Below w1.heap.size w1 W) => clone_any (L.t k) (.slice (a k) (L.t k).length (cc k)) W (hL.below (hw1.trans (h.mono hw1.size)) k (by omega)) (by omega))
    have hlv0 : w1.cell? ⟨lb, 0, none⟩ = some (.int .i64 (k : Int)) := by simp [World.cell?, hlb2]
    have hlvr := Lib.hid (fun (W : World) (h : Below w1.heap.size w1 W) => (h.cell (p := ⟨lb, 0, none⟩) hl2).trans hlv0)
    go_cut [11] (fun v wx => ∃ (jb : Nat) (a1 : Option Addr) (c1 : Nat), v = .pointer (some ⟨jb, 0, none⟩) ∧ JbBox wx jb (k : Int) a1 (L.t k).length c1 none 0 0 true ∧ TOwn wx (w.heap.size + 4) (.slice a1 (L.t k).length c1) (L.t k) ∧ Below w1.heap.size w1 wx ∧ w1.heap.size ≤ jb)
    case first =>
      -- [A
      go_region_with (first
        | (go_at_call 21; refine (PC.out _ hBa).mono ?_; rintro ex wz ⟨vz, rfl, hvz, hb2⟩; obtain ⟨az, cz, hvs, _⟩ := hvz.at; subst hvs; have hb2' := hBa.trans (hb2.mono hBa.size); have hlvz := hlvr.out wz hb2'; have hlz := Nat.lt_of_lt_of_le hl2 hb2'.size)
        | (go_at_call 21; refine (PC.out _ hBb).mono ?_; rintro ex wz ⟨vz, rfl, hvz, hb2⟩; obtain ⟨az, cz, hvs, _⟩ := hvz.at; subst hvs; have hb2' := hBb.trans (hb2.mono hBb.size); have hlvz := hlvr.out wz hb2'; have hlz := Nat.lt_of_lt_of_le hl2 hb2'.size; have hzz := hZ.out.below hb2; have ⟨m0, m1, m2, m3⟩ := hzz.cells; have mf := hzz.frz; have ml := hzz.lt; replace hzz := Lib.hid hzz))
      all_goals
        go_wp2
        go_meet
        first
          | exact ⟨w1.heap.size, az, cz, rfl, heap_four hzz.out _ _ _ _, (keep_four _ _ _ _ _ _).ownsRow (row_base hvz (show w.heap.size + 4 ≤ _ by simp; omega)) (fun q e => by have h1 := (World.ownsRow.lt hvz q e).1; simp at h1; show q ≠ _; omega), (keep_four _ _ _ _ _ _).below hb2' (Nat.le_refl _) (fun q hq => by omega), Nat.le_refl _⟩
          | exact ⟨wz.heap.size, az, cz, rfl, World.alloc_heap_new _ _, World.ownsRow.alloc (row_base hvz (show w.heap.size + 4 ≤ w1.heap.size by omega)) _, hb2'.alloc hb2'.size _, hb2'.size⟩
      -- A]
    case rest =>
    obtain ⟨jb, a1, c1, rfl, hJ, hF, hbc, hjl⟩ := hcut
    have hPc := hP2.below hbc
    have hlbc := (hbc.block lb hl2).trans hlb2
    have hlc : lb < wc.heap.size := (Array.getElem?_eq_some_iff.1 hlbc).1
    have hlz : w.heap.size + 4 ≤ lb := by omega
    have hjb : lb < jb := by omega
    clear PC hlv0 hlvr hok hZ hBa hBb hlb2 hbc hP2 hw1
    have hFI := Lib.hid (Pl.fromI_lt (af := af) h0)
    have hsome := Lib.hid (Pl.fromOf_some (c := c) (af := af) h0)
    generalize hw1s : w1.heap.size = z1 at *
    clear hw1s
    clear w1
    obtain ⟨F, hFe⟩ : ∃ F, F = Pl.fromOf L af k := ⟨_, rfl⟩
    replace hFe := Lib.hid hFe
    have hlvc : wc.cell? ⟨lb, 0, none⟩ = some (.int .i64 (k : Int)) := by simp [World.cell?, hlbc]
    go_upto_if 38 with (fail)
    go_cut [] (fun wx => ∃ (a4 : Option Addr) (c4 : Nat), PkW w c L a cc af wx ∧ wx.heap[lb]? = some (.cells #[.int .i64 (k : Int)] 3 (0, 0)) ∧ JbBox wx jb (k : Int) a4 F.length c4 none 0 0 true ∧ TOwn wx (w.heap.size + 4) (.slice a4 F.length c4) F)
    case first =>
      -- [B
      by_cases hk0 : k = 0
      · subst hk0
        have hF0 : F = L.t 0 := by rw [hFe.out]; unfold Pl.fromOf; rw [if_pos rfl]
        have hfin := Lib.hid (show PkW w c L a cc af wc ∧ wc.heap[lb]? = some (.cells #[.int .i64 ((0 : Nat) : Int)] 3 (0, 0)) ∧ JbBox wc jb ((0 : Nat) : Int) a1 F.length c1 none 0 0 true ∧ TOwn wc (w.heap.size + 4) (.slice a1 F.length c1) F from ⟨hPc, hlbc, by rw [hF0]; exact hJ, by rw [hF0]; exact hF⟩)
        clear hPc hlbc hJ hF hF0
        go_wp2
        go_meet
        exact ⟨a1, c1, hfin.out⟩
      · have hkI0 : (0 : Int) < (k : Int) := by omega
        have hlv0 : wc.cell? ⟨lb, 0, none⟩ = some (.int .i64 (k : Int)) := by simp [World.cell?, hlbc]
        obtain ⟨d0, d1, d2, d3⟩ := hJ.cells
        have hPI := Lib.hid (indexFunc_any (L.t k) (.slice a1 (L.t k).length c1) (w.heap.size + 1 + 1) lb k (af k) wc hF.at (by omega) (hPc.ab.k k (by omega)) hlv0 hPc.ab.lt hlc)
        have hjc := hJ.lt
        go_upto_region 8 with (fail)
        obtain ⟨wo, rfl⟩ : ∃ wo : World, wo = wc := ⟨_, rfl⟩
        go_cut [12] (fun v wx => v = .int .i64 ((Pl.fromI L af k : Nat) : Int) ∧ Below wo.heap.size wo wx)
        case first =>
          have hfd : Hid (Pl.fromI L af k = (Pl.behindI (L.t k) (af k)).getD 0) := Lib.hid rfl
          go_wp2_with fail
          refine hPI.out.mono ?_
          rintro e w3 ⟨rfl, b3⟩
          cases hbi : Pl.behindI (L.t k) (af k) with
          | none =>
            have hf0 : Pl.fromI L af k = 0 := by rw [hfd.out, hbi]; rfl
            replace hf0 := Lib.hid hf0
            clear hbi
            go_wp2
            go_meet
            exact ⟨by first | (rw [hf0.out]; done) | (rw [hf0.out]; rfl), b3⟩
          | some j =>
            have hf0 : Pl.fromI L af k = j := by rw [hfd.out, hbi]; rfl
            have hj0 : (0 : Int) ≤ (j : Int) := by omega
            replace hf0 := Lib.hid hf0
            clear hbi
            go_wp2
            go_meet
            exact ⟨by first | (rw [hf0.out]; done) | (rw [hf0.out]; rfl) | (rw [hf0.out]; simp; omega), b3⟩
        case rest =>
        obtain ⟨rfl, b3⟩ := hcut
        have hP4 := hPc.below b3
        have hJ4 := hJ.below b3
        have hF4 : TOwn wc (w.heap.size + 4) (.slice a1 (L.t k).length c1) (L.t k) := (Keep.of_below (fp := fun q => q < wo.heap.size) b3 (fun _ h _ => h)).ownsRow hF (fun q e => (World.ownsRow.lt hF q e).2)
        have hlb4 := (b3.block lb hlc).trans hlbc
        clear hPc hJ hF hlbc hPI b3 hlv0 d0 d1 d2 d3 hjc hlc
        obtain ⟨d0, d1, d2, d3⟩ := hJ4.cells
        have hjf := hJ4.frz
        have hjc := hJ4.lt
        have hFat := hF4.at
        obtain ⟨ao1, cp1, es1, _, _, _, hc1⟩ := hFat
        injection es1 with e1 e2 e3
        subst e1 e3
        obtain ⟨b1, o1, rfl, hbl1, hx1⟩ := hc1 h0
        have hfi := hFI.out
        have hfe := Lib.hid (show Pl.fromOf L af k = [(L.t k)[Pl.fromI L af k]] by
          unfold Pl.fromOf
          rw [if_neg hk0, List.drop_eq_getElem_cons hfi, List.take_succ_cons, List.take_zero])
        obtain ⟨x0, x1, x2, x3, x4, x5⟩ := hx1 _ hfi
        clear hx1 hc1
        generalize (L.t k)[Pl.fromI L af k] = x at *
        generalize Pl.fromI L af k = fi at *
        go_wp2_with fail
        go_meet
        have hk := ((Keep.refl (fun q => q ≠ jb) wc).setCell jb 1 (.slice (some ⟨wc.heap.size, 0, none⟩) 1 1) (fun h _ => h rfl)).alloc (.cells #[.int .u64 (x.num : Int), .int .i64 x.level, .int .i64 x.size, .int .i64 x.count, .string x.least, .string x.greatest] 40)
        have hF1 : F = [x] := by rw [hFe.out, hfe.out]
        subst hF1
        refine ⟨some ⟨wc.heap.size, 0, none⟩, 1, hP4.keep hk (fun q hq => by show q ≠ jb; omega), (hk.block lb (show lb ≠ jb by omega) (by omega)).trans hlb4, ?_, ?_⟩
        · have := heap_second (v := .slice (some ⟨wc.heap.size, 0, none⟩) 1 1) hJ4
          exact (((Below.refl _ _).alloc (Nat.le_refl _) _).block jb (Array.getElem?_eq_some_iff.1 this).1).trans this
        · have hs : (wc.setCell ⟨jb, 1, none⟩ (.slice (some ⟨wc.heap.size, 0, none⟩) 1 1)).heap.size = wc.heap.size := by simp [World.setCell]
          have := tab_one (wc.setCell ⟨jb, 1, none⟩ (.slice (some ⟨wc.heap.size, 0, none⟩) 1 1)) (w.heap.size + 4) x (by rw [hs]; omega)
          rw [hs] at this
          exact this
      -- B]
    case rest =>
    obtain ⟨a4, c4, hP5, hlb5, hJ5, hF5⟩ := hcut
    clear hPc hlbc hJ hF hlvc hlc hFI
    have hF0 : 0 < F.length := by rw [hFe.out]; exact hsome.out
    have hFn : F.length ≤ 536870912 := by
      rw [hFe.out]
      unfold Pl.fromOf
      split
      · exact hlen 0 (by decide)
      · rw [List.length_take]; omega
    obtain ⟨d0, d1, d2, d3⟩ := hJ5.cells
    have hj5 := hJ5.lt
    have PS1 := Lib.hid (span_any F (.slice a4 F.length c4) wc hF5.at hF0)
    go_wp2_with fail
    refine PS1.out.mono ?_
    rintro e w5 ⟨rfl, b5⟩
    have hP6 := hP5.below b5
    have hJ6 := hJ5.below b5
    have hl5 : lb < wc.heap.size := (Array.getElem?_eq_some_iff.1 hlb5).1
    have hlb6 := (b5.block lb hl5).trans hlb5
    have hF6 : TOwn w5 (w.heap.size + 4) (.slice a4 F.length c4) F := (Keep.of_below (fp := fun q => q < wc.heap.size) b5 (fun _ h _ => h)).ownsRow hF5 (fun q e => (World.ownsRow.lt hF5 q e).2)
    clear PS1 d0 d1 d2 d3 hj5 hP5 hJ5 hlb5 hF5 b5 hl5
    obtain ⟨d0, d1, d2, d3⟩ := hJ6.cells
    have hjf := hJ6.frz
    have hj6 := hJ6.lt
    have hl6 : lb < w5.heap.size := (Array.getElem?_eq_some_iff.1 hlb6).1
    have hlv6 : w5.cell? ⟨lb, 0, none⟩ = some (.int .i64 (k : Int)) := by simp [World.cell?, hlb6]
    have hok := hP6.lb.k (k + 1) (by omega)
    have hz6 := hP6.lb.lt
    have hkw : IntKind.i64.wrap ((k : Int) + 1) = (k : Int) + 1 := IntWalk.i64_in _ (by omega)
    have hk1a : (0 : Int) ≤ (k : Int) + 1 := by omega
    have hk1b : (k : Int) + 1 < 4 := by omega
    have hk1c : ((k : Int) + 1).toNat = k + 1 := by omega
    have PO := Lib.hid (overlapping_any (L.t (k + 1)) (Pl.spanLo F) (Pl.spanHi F) (.slice (a (k + 1)) (L.t (k + 1)).length (cc (k + 1))) w5 (hL.below hP6.old (k + 1) (by omega)) (by have := hlen (k + 1) (by omega); omega))
    obtain ⟨T, hTe⟩ : ∃ T, T = Pl.overs (L.t (k + 1)) (Pl.spanLo F) (Pl.spanHi F) := ⟨_, rfl⟩
    have hTn : T.length ≤ 536870912 := by
      rw [hTe]
      exact Nat.le_trans (Pl.overs_length _ _ _) (hlen (k + 1) (by omega))
    rw [← hTe] at PO
    replace hTe := Lib.hid (show T = Pl.toOf L F k from hTe)
    go_wp2_with fail
    refine PO.out.mono ?_
    rintro e w7 ⟨vz, rfl, hvz, b7⟩
    obtain ⟨a7, c7, hvs, -⟩ := hvz.at
    subst hvs
    have hP8 := hP6.below b7
    have hJ8 := hJ6.below b7
    have hlb8 := (b7.block lb hl6).trans hlb6
    have hF8 : TOwn w7 (w.heap.size + 4) (.slice a4 F.length c4) F := (Keep.of_below (fp := fun q => q < w5.heap.size) b7 (fun _ h _ => h)).ownsRow hF6 (fun q e => (World.ownsRow.lt hF6 q e).2)
    have hz65 := hP6.lt
    clear PO d0 d1 d2 d3 hjf hP6 hJ6 hlb6 hF6 hlv6 hok hz6
    obtain ⟨d0, d1, d2, d3⟩ := hJ8.cells
    have hjf := hJ8.frz
    have hj8 := hJ8.lt
    have hl8 : lb < w7.heap.size := (Array.getElem?_eq_some_iff.1 hlb8).1
    go_upto_region 12 with (fail)
    have hks : Keep (fun q => q ≠ jb) w7 (w7.setCell ⟨jb, 2, none⟩ (.slice a7 T.length c7)) := (Keep.refl _ _).setCell _ _ _ (fun h _ => h rfl)
    have hP9 := hP8.keep hks (fun q hq => by show q ≠ jb; omega)
    have hlb9 := (hks.block lb (show lb ≠ jb by omega) hl8).trans hlb8
    have hJ9 := heap_third (a3 := a7) (n3 := T.length) (c3 := c7) hJ8
    have hF9 : TOwn (w7.setCell ⟨jb, 2, none⟩ (.slice a7 T.length c7)) (w.heap.size + 4) (.slice a4 F.length c4) F := hks.ownsRow hF8 (fun q e => hJ8.not_row hF8 q e)
    have hT9 : TOwn (w7.setCell ⟨jb, 2, none⟩ (.slice a7 T.length c7)) (w.heap.size + 4) (.slice a7 T.length c7) T := hks.ownsRow (row_base hvz (by omega)) (fun q e => by have := (World.ownsRow.lt hvz q e).1; show q ≠ jb; omega)
    clear hP8 hlb8 hJ8 hF8 hvz d0 d1 d2 d3 hj8 hl8 hjf b7
    generalize w7.setCell ⟨jb, 2, none⟩ (.slice a7 T.length c7) = w9 at *
    obtain ⟨d0, d1, d2, d3⟩ := hJ9.cells
    have hj9 := hJ9.lt
    have hjf := hJ9.frz
    have hB9 : Below w9.heap.size w9 w9.drew := (Below.refl _ _).drew
    have PC := Lib.hid (clone_any F (.slice a4 F.length c4) w9.drew (hF9.at.below hB9) (by omega))
    have hlen2 := Lib.hid (show (F.length + T.length) * 64 ≤ 140737488355328 by omega)
    obtain ⟨A, hAe⟩ : ∃ A, A = F ++ T := ⟨_, rfl⟩
    have hA0 : 0 < A.length := by rw [hAe, List.length_append]; omega
    replace hAe := Lib.hid hAe
    have PSp := Lib.hid (fun W v (h : TOwn W w9.drew.heap.size v A) => span_any A v W h.at hA0)
    have hTr := Lib.hid (fun (W : World) (h : Below w9.heap.size w9 W) => hT9.at.below h)
    have hJr := Lib.hid (fun (W : World) (h : Below w9.heap.size w9 W) => (hJ9.below h).cells)
    have hJl := Lib.hid (fun (W : World) (h : Below w9.heap.size w9 W) => (hJ9.below h).lt)
    go_cut [13, 14] (fun v13 v14 wx => v13 = .string (Pl.spanLo A) ∧ v14 = .string (Pl.spanHi A) ∧ Below w9.heap.size w9 wx)
    case first =>
      -- [C
      go_region_held3 (fun W' => W'.cell? ⟨jb, 1, none⟩ = some (.slice a4 F.length c4) ∧ W'.cell? ⟨jb, 2, none⟩ = some (.slice a7 T.length c7)) (first | exact ⟨jC1, jC2⟩ | exact ⟨jB1, jB2⟩ | exact ⟨jA1, jA2⟩ | exact ⟨d1, d2⟩ | go_keep)
        (first
        | (go_at_call 21; refine PC.out.mono ?_; rintro ex wA ⟨vA, rfl, hvA, bA⟩; obtain ⟨aA, cA, hvs, _⟩ := hvA.at; subst hvs; have bA' := hB9.trans (bA.mono hB9.size); have uA := hTr.out wA bA'; have ⟨_, jA1, jA2, _⟩ := hJr.out wA bA'; have jAl := hJl.out wA bA'; have jAs := bA.size)
        | (go_at_call 24; refine (PSp.out _ _ hvB).mono ?_; rintro ex wC ⟨rfl, bC⟩; have bC' := bB'.trans (bC.mono bB'.size); have ⟨_, jC1, jC2, _⟩ := hJr.out wC bC')
        | (refine step_appT wA w9.drew.heap.size _ _ F T hvA jAs uA hlen2.out rfl (by rfl) (by rfl) (by rfl) ?_; intro vB wB hvB gB; rw [← hAe.out] at hvB; obtain ⟨aB, cB, hvs2, _⟩ := hvB.at; subst hvs2; have bB' := bA'.grown gB bA'.size (fun q e => (World.ownsRow.lt hvA q e).1); have ⟨_, jB1, jB2, _⟩ := hJr.out wB bB'))
      go_wp2
      go_meet
      exact ⟨rfl, rfl, bC'⟩
      -- C]
    case rest =>
    obtain ⟨rfl, rfl, b10⟩ := hcut
    have hlb10 := (b10.block lb (Array.getElem?_eq_some_iff.1 hlb9).1).trans hlb9
    have hP10 := hP9.below b10
    have hJ10 := hJ9.below b10
    have hF10 : TOwn wc (w.heap.size + 4) (.slice a4 F.length c4) F := (Keep.of_below (fp := fun q => q < w9.heap.size) b10 (fun _ h _ => h)).ownsRow hF9 (fun q e => (World.ownsRow.lt hF9 q e).2)
    have hT10 : TOwn wc (w.heap.size + 4) (.slice a7 T.length c7) T := (Keep.of_below (fp := fun q => q < w9.heap.size) b10 (fun _ h _ => h)).ownsRow hT9 (fun q e => (World.ownsRow.lt hT9 q e).2)
    clear hP9 hlb9 hJ9 hF9 hT9 d0 d1 d2 d3 hj9 hjf hB9 PC PSp hTr hJr hJl hlen2 hks
    have hlv : wc.cell? ⟨lb, 0, none⟩ = some (.int .i64 (k : Int)) := by simp [World.cell?, hlb10]
    have hl10 : lb < wc.heap.size := (Array.getElem?_eq_some_iff.1 hlb10).1
    have hjgt := hJ10.lt
    clear hkw hk1a hk1b hk1c
    have hkw : IntKind.i64.wrap ((k : Int) + 2) = (k : Int) + 2 := IntWalk.i64_in _ (by omega)
    have hk2a : (0 : Int) ≤ (k : Int) + 2 := by omega
    have hk2b : (k : Int) + 2 ≤ 4 := by omega
    have hk2c : ((k : Int) + 2).toNat = k + 2 := by omega
    go_upto_region 13 with (fail)
    obtain ⟨wd, rfl⟩ : ∃ wd : World, wd = wc := ⟨_, rfl⟩
    go_cut [79, 80, 81] (fun v79 v80 v81 wx => wx = wd ∧ v80 = .int .i64 (((2 - k : Nat)) : Int) ∧ v81 = .int .i64 ((0 : Nat) : Int) ∧ ∃ o : Nat, v79 = .slice (some ⟨w.heap.size + 1, o, none⟩) (2 - k) (2 - k) ∧ (k < 2 → o = 3 + (k + 2)))
    case first =>
      -- [D
      by_cases hk2 : k = 2
      · subst hk2
        go_wp2
        go_meet
        exact ⟨rfl, rfl, rfl, 3, rfl, fun h => absurd h (by decide)⟩
      · go_wp2
        go_meet
        exact ⟨rfl, by go_num, rfl, _, by go_num, fun h => rfl⟩
      -- D]
    case rest =>
    obtain ⟨rfl, rfl, rfl, o, rfl, ho⟩ := hcut
    clear hkw hk2a hk2b hk2c hlv
    have hn0 := Lib.hid (show Pl.noneDeep L A k 0 = true from rfl)
    have hbz : w.heap.size + 4 ≤ lb := by omega
    have hkk : k ≤ 2 := by omega
    clear h0 hlk hF0 hA0 hcr hd
    go_wp2
    go_loopw [81] (fun i W' => ∃ n : Nat, n ≤ 2 - k ∧ i = .int .i64 (n : Int) ∧ PkW w c L a cc af W' ∧ JbBox W' jb (k : Int) a4 F.length c4 a7 T.length c7 (Pl.noneDeep L A k n) ∧ TOwn W' (w.heap.size + 4) (.slice a4 F.length c4) F ∧ TOwn W' (w.heap.size + 4) (.slice a7 T.length c7) T) (fun i _ => 2 - k - (intOf i).toNat)
    case atStart => exact ⟨0, by omega, rfl, hP10, by rw [hn0.out]; exact hJ10, hF10, hT10⟩
    case round =>
      obtain ⟨n, hn, rfl, hP, hJ, hF, hT⟩ := hrel
      by_cases hnk : n < 2 - k
      · have hok := hP.lb.k (k + 2 + n) (by omega)
        rw [show 3 + (k + 2 + n) = o + n by rw [ho (by omega)]; omega] at hok
        have hj := hJ.lt
        have hjf := hJ.frz
        obtain ⟨d0, d1, d2, d3⟩ := hJ.cells
        have hs := Lib.hid (show Pl.noneDeep L A k (n + 1) = (Pl.noneDeep L A k n && decide ((Pl.overs (L.t (k + 2 + n)) (Pl.spanLo A) (Pl.spanHi A)).length = 0)) from rfl)
        have PO := Lib.hid (overlapping_any (L.t (k + 2 + n)) (Pl.spanLo A) (Pl.spanHi A) (.slice (a (k + 2 + n)) (L.t (k + 2 + n)).length (cc (k + 2 + n))) wr (hL.below hP.old (k + 2 + n) (by omega)) (by have := hlen (k + 2 + n) (by omega); omega))
        generalize Pl.overs (L.t (k + 2 + n)) (Pl.spanLo A) (Pl.spanHi A) = ov at *
        cases hb : Pl.noneDeep L A k n with
        | false =>
          rw [hb] at hJ d3 hs
          replace hs : Hid (Pl.noneDeep L A k (n + 1) = false) := Lib.hid (by rw [hs.out]; rfl)
          clear hb PO
          have hkp := Lib.hid (show Keep (fun q => q ≠ jb) wr (wr.setCell ⟨jb, 3, none⟩ (.bool false)) from (Keep.refl _ _).setCell _ _ _ (fun h _ => h rfl))
          have hJh := Lib.hid hJ
          have hPh := Lib.hid hP
          go_wp2
          go_roundw
          case rel => exact ⟨n + 1, by omega, by go_num, hPh.out.keep hkp.out (fun q hq => by show q ≠ jb; omega), by rw [hs.out]; exact heap_fourth hJh.out, hkp.out.ownsRow hF (fun q e => hJh.out.not_row hF q e), hkp.out.ownsRow hT (fun q e => hJh.out.not_row hT q e)⟩
          case measure => simp [intOf]; omega
        | true =>
          rw [hb] at hJ d3 hs
          clear hb
          go_wp2_with fail
          refine PO.out.mono ?_
          rintro e w8 ⟨vz, rfl, hvz, b8⟩
          obtain ⟨a8, c8, hvs, -⟩ := hvz.at
          subst hvs
          have hP8 := Lib.hid (hP.below b8)
          have hJ8 := hJ.below b8
          have hF8 : TOwn w8 (w.heap.size + 4) (.slice a4 F.length c4) F := (Keep.of_below (fp := fun q => q < wr.heap.size) b8 (fun _ h _ => h)).ownsRow hF (fun q e => (World.ownsRow.lt hF q e).2)
          have hT8 : TOwn w8 (w.heap.size + 4) (.slice a7 T.length c7) T := (Keep.of_below (fp := fun q => q < wr.heap.size) b8 (fun _ h _ => h)).ownsRow hT (fun q e => (World.ownsRow.lt hT q e).2)
          clear PO hok hj hjf d0 d1 d2 d3 hP hJ hF hT hvz b8
          have hj := hJ8.lt
          have hjf := hJ8.frz
          obtain ⟨d0, d1, d2, d3⟩ := hJ8.cells
          replace hJ8 := Lib.hid hJ8
          rcases Nat.eq_zero_or_pos ov.length with hz | hz
          · obtain rfl := List.eq_nil_of_length_eq_zero hz
            replace hs : Hid (Pl.noneDeep L A k (n + 1) = true) := Lib.hid (by rw [hs.out]; rfl)
            have hkp := Lib.hid (show Keep (fun q => q ≠ jb) w8 (w8.setCell ⟨jb, 3, none⟩ (.bool true)) from (Keep.refl _ _).setCell _ _ _ (fun h _ => h rfl))
            clear hz
            go_wp2
            go_roundw
            case rel => exact ⟨n + 1, by omega, by go_num, hP8.out.keep hkp.out (fun q hq => by show q ≠ jb; omega), by rw [hs.out]; exact heap_fourth hJ8.out, hkp.out.ownsRow hF8 (fun q e => hJ8.out.not_row hF8 q e), hkp.out.ownsRow hT8 (fun q e => hJ8.out.not_row hT8 q e)⟩
            case measure => simp [intOf]; omega
          · replace hs : Hid (Pl.noneDeep L A k (n + 1) = false) := Lib.hid (by rw [hs.out]; exact decide_eq_false (by omega))
            have hkp := Lib.hid (show Keep (fun q => q ≠ jb) w8 (w8.setCell ⟨jb, 3, none⟩ (.bool false)) from (Keep.refl _ _).setCell _ _ _ (fun h _ => h rfl))
            have hz1 : ((ov.length : Int) == 0) = false := by simp; intro e; subst e; simp at hz
            have hz2 : decide ((ov.length : Int) = 0) = false := decide_eq_false (by omega)
            go_wp2
            go_roundw
            case rel => exact ⟨n + 1, by omega, by go_num, hP8.out.keep hkp.out (fun q hq => by show q ≠ jb; omega), by rw [hs.out]; exact heap_fourth hJ8.out, hkp.out.ownsRow hF8 (fun q e => hJ8.out.not_row hF8 q e), hkp.out.ownsRow hT8 (fun q e => hJ8.out.not_row hT8 q e)⟩
            case measure => simp [intOf]; omega
      · obtain rfl : n = 2 - k := by omega
        have hRR : Pl.pickAt L af k = ⟨k, F, T, Pl.noneDeep L A k (2 - k)⟩ := by
          unfold Pl.pickAt Pl.bottomOf
          rw [← hFe.out, ← hTe.out, ← hAe.out]
        replace hRR := Lib.hid hRR
        have hnk2 : ¬ (((2 - k : Nat) : Nat) : Int) < (((2 - k : Nat) : Nat) : Int) := by omega
        clear hnk hn0
        have hrl := hP.lt
        have hj := hJ.lt
        have hRf := hP.rb.frz
        obtain ⟨d0, d1, d2, d3⟩ := hJ.cells
        obtain ⟨r0, r1, r2, r3⟩ := hP.rb.cells
        have hPh := Lib.hid hP
        generalize Pl.noneDeep L A k (2 - k) = bt at *
        go_wp2
        refine bodyPost_ret (results_job2 rfl rfl rfl (show JbBox _ (w.heap.size + 1 + 1 + 1) (k : Int) a4 F.length c4 a7 T.length c7 bt from heap_four hPh.out.rb _ _ _ _)) rfl ?_
        show PkEnd w (some (Pl.pickAt L af k)) _ _
        rw [hRR.out]
        exact ⟨a4, c4, a7, c7, rfl, (keep_four _ _ _ _ _ _).ownsRow (row_base hF (by omega)) (fun q e => by have := (World.ownsRow.lt hF q e).1; show q ≠ _; omega), (keep_four _ _ _ _ _ _).ownsRow (row_base hT (by omega)) (fun q e => by have := (World.ownsRow.lt hT q e).1; show q ≠ _; omega), (keep_four _ _ _ _ _ _).below hPh.out.old (Nat.le_refl _) (fun q hq => by show q ≠ _; omega)⟩
end Go.Proofs.Ytekfaodjadinnaa
