/- Walk: a version put into the document's table. Condition: rows whose bytes fit. -/
import Derived.Test.YtcfcijgnkbmlaaaWRefAdd6e
import Derived.Deep.RegionHeld3
import Derived.Laws.AppendOwnNone
import Derived.BigQuiet
namespace Go.Proofs.Ytcfcijgnkbmlaaa
open Go.RowKit Go.Shelf

set_option maxRecDepth 100000 in
set_option maxHeartbeats 6400000 in
theorem refAdd_any (R : Nat) (xs : List Ver) (hs : List Nat) (v : Ver) (h : Int) (w : World) (hR : RtAt w R xs hs) (hg : Pl.TGood xs hs) (hx : xs.length ≤ 2932031007316) :
    Calls Try.prog 48 #[.pointer (some ⟨R, 0, none⟩), .agg #[.string v.key, .int .u64 (v.seq : Int), .bool v.del, .string v.val], .int .i64 h] w fun e w' =>
      e = .returned (.int .i64 (Pl.addT xs hs v h).2.2) ∧ RtAt w' R (Pl.addT xs hs v h).1 (Pl.addT xs hs v h).2.1 ∧ Keep (fun q => q ≠ R) w w' := by
  obtain ⟨W0, hW0⟩ : ∃ W0, w.alloc (.cells #[.string v.key, .int .u64 (v.seq : Int), .bool v.del, .string v.val] 24) = W0 := ⟨_, rfl⟩
  have hb0 : Below w.heap.size w W0 := by rw [← hW0]; exact (Below.refl _ _).alloc (Nat.le_refl _) _
  have hV0 : VrAt w.heap.size v.key (v.seq : Int) v.del v.val W0 := by rw [← hW0]; exact VrAt.new _ _ _ _ _ _
  have ⟨f0, f1, f2, f3, fB⟩ := hV0
  have PM := Lib.hid (fun W => refMayM_any v.key v.seq v.del v.val W)
  have hkb : Hid (∀ {w' : World}, Below w.heap.size w w' → RtAt w' R xs hs ∧ Keep (fun q => q ≠ R) w w') := Lib.hid (fun hb => ⟨hR.below hb, Keep.of_below hb (fun _ _ h => h)⟩)
  by_cases hc : Pl.mayM v.key v.seq v.del v.val = false ∨ h < 1 ∨ 8 < h
  · have e : Pl.addT xs hs v h = (xs, hs, 1) := by unfold Pl.addT; rw [if_pos hc]
    rw [e]
    clear hR
    cases hm : Pl.mayM v.key v.seq v.del v.val
    · rw [hm] at PM
      go_enter Try.func48, Try.ntmps48
      go_wp2_with fail
      refine (PM.out _).mono ?_
      rintro e w1 ⟨rfl, b1⟩
      go_wp2_with fail
      go_ret
      have hbw := hb0.trans (b1.mono hb0.size)
      exact ⟨ret_int (by rfl), hkb.out hbw⟩
    · have hh : h < 1 ∨ 8 < h := by
        rcases hc with h1 | h1
        · rw [hm] at h1; cases h1
        · exact h1
      rw [hm] at PM
      rcases hh with hh | hh
      all_goals
        go_enter Try.func48, Try.ntmps48
        go_wp2_with fail
        refine (PM.out _).mono ?_
        rintro e w1 ⟨rfl, b1⟩
        go_wp2_with fail
        go_ret
        have hbw := hb0.trans (b1.mono hb0.size)
        exact ⟨ret_int (by rfl), hkb.out hbw⟩
  · have hm : Pl.mayM v.key v.seq v.del v.val = true := by
      cases hm : Pl.mayM v.key v.seq v.del v.val
      · exact absurd (.inl hm) hc
      · rfl
    have hh1 : ¬ h < 1 := fun h1 => hc (.inr (.inl h1))
    have hh2 : ¬ 8 < h := fun h1 => hc (.inr (.inr h1))
    rw [hm] at PM
    have hA := Pl.ahead_less hg.ris v
    obtain ⟨r, hr⟩ : ∃ r, r = Pl.addT xs hs v h := ⟨_, rfl⟩
    rw [← hr]
    unfold Pl.addT at hr
    rw [if_neg hc] at hr
    have hthere : Pl.thereV xs v = match xs[Pl.kOf xs v]? with | some x => placeV x.key x.seq v.key v.seq | none => false := rfl
    generalize Pl.thereV xs v = th at hr hthere
    generalize Pl.kOf xs v = k at *
    have hkx := hA.le
    by_cases hlast : k < xs.length
    case neg =>
      obtain rfl : k = xs.length := by omega
      rw [List.getElem?_eq_none (Nat.le_refl _)] at hthere
      rw [hthere] at hr
      rw [hr]
      by_cases hxe : xs = []
      · subst hxe
        have hhe : hs = [] := List.length_eq_zero_iff.1 hg.hl
        subst hhe
        exact refAdd_first R v h w hR hm hh1 hh2
      · exact refAdd_last R xs hs v h w hR hg.hl hx hxe hm hh1 hh2 (fun j hj => hA.yes j hj hj)
    replace hA := Lib.hid hA
    replace hr := Lib.hid hr
    replace hthere := Lib.hid hthere
    obtain ⟨L, H, hblk, hrl, hrh, hnil⟩ := id hR
    obtain ⟨gl, capl, rfl, l1, l2, hcl⟩ := own_vers2 hrl
    obtain ⟨gh, caph, rfl, k1, k2, hch⟩ := own_ints hrh
    have hRw := (Array.getElem?_eq_some_iff.1 hblk).1
    have cL : w.cell? ⟨R, 0, none⟩ = some (.slice gl xs.length capl) := (cell_of hblk).trans rfl
    have cH : w.cell? ⟨R, 1, none⟩ = some (.slice gh hs.length caph) := (cell_of hblk).trans rfl
    have hlb := fun q e => hrl.lt (k := q) e
    have hcl' := Lib.hid hcl
    have hWw : Hid (∀ {w' : World}, Below W0.heap.size W0 w' → Below w.heap.size w w') := Lib.hid (fun hb => hb0.trans (hb.mono hb0.size))
    have hz0 : w.heap.size < W0.heap.size := fB
    have hblkR := Lib.hid hblk
    clear hcl hch hblk hc
    go_enter Try.func48, Try.ntmps48
    go_wp2_with fail
    clear hW0
    refine (PM.out _).mono ?_
    rintro e wm ⟨rfl, bm⟩
    clear f0 f1 f2 f3 PM
    have cLm := ((hWw.out bm).cell (p := ⟨R, 0, none⟩) hRw).trans cL
    go_wp2
    go_loopw [8] (fun i W' => ∃ j : Nat, j ≤ k ∧ i = .int .i64 (j : Int) ∧ Below W0.heap.size W0 W') (fun i _ => xs.length - (intOf i).toNat)
    case atStart => exact ⟨0, by omega, rfl, bm⟩
    case round =>
      obtain ⟨j, hj, rfl, hbr⟩ := hrel
      have cLr := ((hWw.out hbr).cell (p := ⟨R, 0, none⟩) hRw).trans cL
      have ⟨y0, y1, y2, y3, yB⟩ := hV0.kept hbr
      by_cases hjn : j < xs.length
      · obtain ⟨bl, rfl, hob, hver⟩ := hcl'.out j hjn
        have hbl0 := (hlb bl hob).2
        obtain ⟨x0, x1, x2, x3⟩ := hver.kept ((hWw.out hbr).block bl hbl0)
        have hblr : bl < wr.heap.size := Nat.lt_of_lt_of_le hbl0 (hWw.out hbr).size
        have hRr : R < wr.heap.size := Nat.lt_of_lt_of_le hRw (hWw.out hbr).size
        have P := Lib.hid (fun W => refLess_any xs[j] v W)
        have hres : Hid (lessV xs[j].key xs[j].seq v.key v.seq = decide (j < k)) := Lib.hid (by
          by_cases h2 : j < k
          · rw [hA.out.yes j hjn h2]; simp [h2]
          · rw [hA.out.no j hjn (by omega)]; simp [h2])
        rw [hres.out] at P
        have hkp0 : Hid (∀ w1 : World, Below wr.heap.size wr w1 → w1.cell? ⟨R, 0, none⟩ = some (.slice (some ⟨bl, 0, none⟩) xs.length capl) ∧ w1.cell? ⟨bl, j * 4, none⟩ = some (.string xs[j].key) ∧ w1.cell? ⟨bl, j * 4 + 1, none⟩ = some (.int .u64 (xs[j].seq : Int)) ∧ w1.cell? ⟨bl, j * 4 + 2, none⟩ = some (.bool xs[j].del) ∧ w1.cell? ⟨bl, j * 4 + 3, none⟩ = some (.string xs[j].val) ∧ w1.cell? ⟨w.heap.size, 0, none⟩ = some (.string v.key) ∧ w1.cell? ⟨w.heap.size, 1, none⟩ = some (.int .u64 (v.seq : Int)) ∧ w1.cell? ⟨w.heap.size, 2, none⟩ = some (.bool v.del) ∧ w1.cell? ⟨w.heap.size, 3, none⟩ = some (.string v.val)) := Lib.hid (fun w1 hbl => ⟨(hbl.cell (p := ⟨R, 0, none⟩) hRr).trans cLr, (hbl.cell (p := ⟨bl, j * 4, none⟩) hblr).trans x0, (hbl.cell (p := ⟨bl, j * 4 + 1, none⟩) hblr).trans x1, (hbl.cell (p := ⟨bl, j * 4 + 2, none⟩) hblr).trans x2, (hbl.cell (p := ⟨bl, j * 4 + 3, none⟩) hblr).trans x3, (hbl.cell (p := ⟨w.heap.size, 0, none⟩) yB).trans y0, (hbl.cell (p := ⟨w.heap.size, 1, none⟩) yB).trans y1, (hbl.cell (p := ⟨w.heap.size, 2, none⟩) yB).trans y2, (hbl.cell (p := ⟨w.heap.size, 3, none⟩) yB).trans y3⟩)
        by_cases h2 : j < k
        · rw [decide_eq_true h2] at P
          go_wp2
          go_region_held3 (fun w' => w'.cell? ⟨R, 0, none⟩ = some (.slice (some ⟨bl, 0, none⟩) xs.length capl) ∧ w'.cell? ⟨bl, j * 4, none⟩ = some (.string xs[j].key) ∧ w'.cell? ⟨bl, j * 4 + 1, none⟩ = some (.int .u64 (xs[j].seq : Int)) ∧ w'.cell? ⟨bl, j * 4 + 2, none⟩ = some (.bool xs[j].del) ∧ w'.cell? ⟨bl, j * 4 + 3, none⟩ = some (.string xs[j].val) ∧ w'.cell? ⟨w.heap.size, 0, none⟩ = some (.string v.key) ∧ w'.cell? ⟨w.heap.size, 1, none⟩ = some (.int .u64 (v.seq : Int)) ∧ w'.cell? ⟨w.heap.size, 2, none⟩ = some (.bool v.del) ∧ w'.cell? ⟨w.heap.size, 3, none⟩ = some (.string v.val)) (first | exact ⟨cLr, x0, x1, x2, x3, y0, y1, y2, y3⟩ | exact hkp | go_keep)
            (first | (go_at_call 15; (with_reducible refine (P.out _).mono ?_); rintro e w1 ⟨rfl, hbl⟩; have hbq := below_seq ((Below.refl _ wr).drew) hbl; have hkp := hkp0.out w1 hbq))
          all_goals
            go_wp2
            go_roundw
            case rel => exact ⟨j + 1, by omega, by go_num, hbr.trans (hbq.mono hbr.size)⟩
            case measure => simp [intOf]; omega
        · obtain rfl : j = k := by omega
          rw [decide_eq_false h2] at P
          have hth2 := hthere.out
          rw [List.getElem?_eq_getElem hjn] at hth2
          replace hth2 := Lib.hid hth2
          have P2 := Lib.hid (fun W => refPlace_any xs[j] v W)
          go_wp2
          go_region_held3 (fun w' => w'.cell? ⟨R, 0, none⟩ = some (.slice (some ⟨bl, 0, none⟩) xs.length capl) ∧ w'.cell? ⟨bl, j * 4, none⟩ = some (.string xs[j].key) ∧ w'.cell? ⟨bl, j * 4 + 1, none⟩ = some (.int .u64 (xs[j].seq : Int)) ∧ w'.cell? ⟨bl, j * 4 + 2, none⟩ = some (.bool xs[j].del) ∧ w'.cell? ⟨bl, j * 4 + 3, none⟩ = some (.string xs[j].val) ∧ w'.cell? ⟨w.heap.size, 0, none⟩ = some (.string v.key) ∧ w'.cell? ⟨w.heap.size, 1, none⟩ = some (.int .u64 (v.seq : Int)) ∧ w'.cell? ⟨w.heap.size, 2, none⟩ = some (.bool v.del) ∧ w'.cell? ⟨w.heap.size, 3, none⟩ = some (.string v.val)) (first | exact ⟨cLr, x0, x1, x2, x3, y0, y1, y2, y3⟩ | exact hkp1 | go_keep)
            (first | (go_at_call 15; (with_reducible refine (P.out _).mono ?_); rintro e w1 ⟨rfl, hbl⟩; have hbq := below_seq ((Below.refl _ wr).drew) hbl; have hkp1 := hkp0.out w1 hbq))
          all_goals
            have hb1 := hbr.trans (hbq.mono hbr.size)
            obtain ⟨cL1, x0, x1, x2, x3, y0, y1, y2, y3⟩ := hkp1
            have hR1 : R < w1.heap.size := Nat.lt_of_lt_of_le hRr hbq.size
            have hbl1 : bl < w1.heap.size := Nat.lt_of_lt_of_le hblr hbq.size
            have yB1 : w.heap.size < w1.heap.size := Nat.lt_of_lt_of_le yB hbq.size
            have hkp2 : Hid (∀ w2 : World, Below w1.heap.size w1 w2 → w2.cell? ⟨R, 0, none⟩ = some (.slice (some ⟨bl, 0, none⟩) xs.length capl) ∧ w2.cell? ⟨bl, j * 4, none⟩ = some (.string xs[j].key) ∧ w2.cell? ⟨bl, j * 4 + 1, none⟩ = some (.int .u64 (xs[j].seq : Int)) ∧ w2.cell? ⟨bl, j * 4 + 2, none⟩ = some (.bool xs[j].del) ∧ w2.cell? ⟨bl, j * 4 + 3, none⟩ = some (.string xs[j].val) ∧ w2.cell? ⟨w.heap.size, 0, none⟩ = some (.string v.key) ∧ w2.cell? ⟨w.heap.size, 1, none⟩ = some (.int .u64 (v.seq : Int)) ∧ w2.cell? ⟨w.heap.size, 2, none⟩ = some (.bool v.del) ∧ w2.cell? ⟨w.heap.size, 3, none⟩ = some (.string v.val)) := Lib.hid (fun w2 hbl => ⟨(hbl.cell (p := ⟨R, 0, none⟩) hR1).trans cL1, (hbl.cell (p := ⟨bl, j * 4, none⟩) hbl1).trans x0, (hbl.cell (p := ⟨bl, j * 4 + 1, none⟩) hbl1).trans x1, (hbl.cell (p := ⟨bl, j * 4 + 2, none⟩) hbl1).trans x2, (hbl.cell (p := ⟨bl, j * 4 + 3, none⟩) hbl1).trans x3, (hbl.cell (p := ⟨w.heap.size, 0, none⟩) yB1).trans y0, (hbl.cell (p := ⟨w.heap.size, 1, none⟩) yB1).trans y1, (hbl.cell (p := ⟨w.heap.size, 2, none⟩) yB1).trans y2, (hbl.cell (p := ⟨w.heap.size, 3, none⟩) yB1).trans y3⟩)
            go_wp2
            cases hpl : placeV xs[j].key xs[j].seq v.key v.seq
            · rw [hpl] at P2
              have hre := hr.out
              rw [hth2.out, hpl] at hre
              replace hre := Lib.hid hre
              go_region_held3 (fun w' => w'.cell? ⟨R, 0, none⟩ = some (.slice (some ⟨bl, 0, none⟩) xs.length capl) ∧ w'.cell? ⟨bl, j * 4, none⟩ = some (.string xs[j].key) ∧ w'.cell? ⟨bl, j * 4 + 1, none⟩ = some (.int .u64 (xs[j].seq : Int)) ∧ w'.cell? ⟨bl, j * 4 + 2, none⟩ = some (.bool xs[j].del) ∧ w'.cell? ⟨bl, j * 4 + 3, none⟩ = some (.string xs[j].val) ∧ w'.cell? ⟨w.heap.size, 0, none⟩ = some (.string v.key) ∧ w'.cell? ⟨w.heap.size, 1, none⟩ = some (.int .u64 (v.seq : Int)) ∧ w'.cell? ⟨w.heap.size, 2, none⟩ = some (.bool v.del) ∧ w'.cell? ⟨w.heap.size, 3, none⟩ = some (.string v.val)) (first | exact ⟨cL1, x0, x1, x2, x3, y0, y1, y2, y3⟩ | exact hkp3 | go_keep)
                (first | (go_at_call 14; (with_reducible refine (P2.out _).mono ?_); rintro e w2 ⟨rfl, hbl2⟩; have hbq2 := below_seq ((Below.refl _ w1).drew) hbl2; have hkp3 := hkp2.out w2 hbq2))
              all_goals
                have hb2 := hb1.trans (hbq2.mono hb1.size)
                clear x0 x1 x2 x3 y0 y1 y2 y3 cL1 cLr hkp2
                obtain ⟨cLp, x0, x1, x2, x3, y0, y1, y2, y3⟩ := hkp3
                have cHp := ((hWw.out hb2).cell (p := ⟨R, 1, none⟩) hRw).trans cH
                have hhl := hg.hl
                obtain ⟨bh, hgh, hobh⟩ : ∃ bh, gh = some ⟨bh, 0, none⟩ ∧ (Value.slice gh hs.length caph).ownBlock = some bh := by
                  rcases own_at hrh with ⟨h0, _⟩ | ⟨g', cap', e', _⟩
                  · omega
                  · injection e' with e1 e2 e3
                    subst e1
                    exact ⟨g', rfl, rfl⟩
                subst hgh
                have hn0 := World.ownsRow_nil w2 w2.heap.size 24 4
                have hA1 := Lib.hid (part_take (W := w2) (W0 := w) hrl hob (hWw.out hb2) j)
                have hA3 := Lib.hid (fun (W : World) (hb : Below w2.heap.size w2 W) => part_drop (W := W) (W0 := w) hrl hob ((hWw.out hb2).trans (hb.mono (hWw.out hb2).size)) j)
                have hA4 := Lib.hid (fun (W : World) (hb : Below w2.heap.size w2 W) => ipart_take (W := W) (W0 := w) hrh hobh ((hWw.out hb2).trans (hb.mono (hWw.out hb2).size)) j)
                have hA6 := Lib.hid (fun (W : World) (hb : Below w2.heap.size w2 W) => ipart_drop (W := W) (W0 := w) hrh hobh ((hWw.out hb2).trans (hb.mono (hWw.out hb2).size)) j)
                have hs1 : (0 + j) * 48 ≤ 140737488355328 := by omega
                have hRp : R < w2.heap.size := Nat.lt_of_lt_of_le hRw (hWw.out hb2).size
                have hzp : w.heap.size < w2.heap.size := Nat.lt_of_lt_of_le hz0 hb2.size
                have hs2 : (0 + j + 1) * 48 ≤ 140737488355328 := by omega
                have hs3 : (j + 1 + (xs.length - j)) * 48 ≤ 140737488355328 := by omega
                have hs4 : (0 + j) * 8 ≤ 140737488355328 := by omega
                have hs5 : (0 + j + 1) * 8 ≤ 140737488355328 := by omega
                have hs6 : (j + 1 + (hs.length - j)) * 8 ≤ 140737488355328 := by omega
                have hblk2 := ((hWw.out hb2).block R hRw).trans hblkR.out
                have hjh : j < hs.length := by omega
                have hjh2 : j < caph := by omega
                replace hhl := Lib.hid hhl
                go_wp2_with (at_builtin; first
                  | (refine wpList_appPart (by rfl) _ _ 62 (by rfl) w5.heap.size 3 (.int .i64 0) 1 8 Try.underlying62 info_int6 rfl (by decide) (.slice (some ⟨g7, 0, none⟩) (j + 1) cap7) (j + 1) _ w7 ho7 hb7.size (by rfl) ⟨bh, j, none⟩ (hs.length - j) (caph - j) (hcells (hs.drop j)) (by rfl) (hA6.out w7 hc7).1 (hA6.out w7 hc7).2 (hcells_one_cell _) hs6 (by decide) ?_; intro v8 w8 ho8 hb8; obtain ⟨g8, cap8, rfl⟩ := own_slice ho8; have hc8 := hc7.trans (hb8.mono hc5.size); have hd8 := hb7.trans hb8; have hblk8 := (hc8.block R hRp).trans hblk2; have cL8 := (hc8.cell (p := ⟨R, 0, none⟩) hRp).trans cLp; have cH8 := (hc8.cell (p := ⟨R, 1, none⟩) hRp).trans cHp; have fL8 := frozen_of hblk8 (o := 0); have fH8 := frozen_of hblk8 (o := 1))
                  | (refine wpList_app1 (by rfl) _ _ 62 (by rfl) w5.heap.size 3 (.int .i64 0) 1 8 Try.underlying62 info_int6 rfl (by decide) v6 (0 + j) ([] ++ hcells (hs.take j)) w6 ho6 hb6.size (by rfl) #[.int .i64 h] 3 (by rfl) rfl (by simp [Value.oneCell']) hs5 (by decide) ?_; intro g7 cap7 w7 ho7 hgrow7 _ _; have hb7 := hb6.trans (((Below.refl w5.heap.size w6).alloc hb6.size _).grown hgrow7 (by simp; omega) (fun k e => (ho6.lt k e).1)); have hc7 := hc5.trans (hb7.mono hc5.size); rw [Nat.zero_add] at ho7; have cH7 := (hc7.cell (p := ⟨R, 1, none⟩) hRp).trans cHp)
                  | (refine wpList_appPart (by rfl) _ _ 62 (by rfl) w5.heap.size 3 (.int .i64 0) 1 8 Try.underlying62 info_int6 rfl (by decide) (.slice none 0 0) 0 [] w5 hn5 (Nat.le_refl _) (by rfl) ⟨bh, 0, none⟩ j caph (hcells (hs.take j)) (by rfl) ((hA4.out w5 hc5).1 (by omega)) (hA4.out w5 hc5).2 (hcells_one_cell _) hs4 (by decide) ?_; intro v6 w6 ho6 hb6; have hz6 := hb6.size)
                  | (refine wpList_appPart (by rfl) _ _ 45 (by rfl) w2.heap.size 24 (.agg #[.string .empty, .int .u64 0, .bool false, .string .empty]) 4 48 Try.underlying45 info_version rfl (by decide) (.slice (some ⟨g4, 0, none⟩) (j + 1) cap4) (j + 1) _ w4 ho4 hb4.size (by rfl) ⟨bl, j * 4, none⟩ (xs.length - j) (capl - j) (vcells (xs.drop j)) (by rfl) (hA3.out w4 hb4).1 (hA3.out w4 hb4).2 (vcells_one_cell _) hs3 (by decide) ?_; intro v5 w5 ho5 hb5; obtain ⟨g5, cap5, rfl⟩ := own_slice ho5; have hc5 := hb4.trans hb5; have hn5 := World.ownsRow_nil w5 w5.heap.size 3 1; have cH5 := (hc5.cell (p := ⟨R, 1, none⟩) hRp).trans cHp)
                  | (refine wpList_app1 (by rfl) _ _ 45 (by rfl) w2.heap.size 24 (.agg #[.string .empty, .int .u64 0, .bool false, .string .empty]) 4 48 Try.underlying45 info_version rfl (by decide) v1 (0 + j) ([] ++ vcells (xs.take j)) w3 ho1 hb3.size (by rfl) #[.string v.key, .int .u64 (v.seq : Int), .bool v.del, .string v.val] 24 (by rfl) rfl (by simp [Value.oneCell']) hs2 (by decide) ?_; intro g4 cap4 w4 ho4 hgrow4 _ _; have hb4 := hb3.trans (((Below.refl w2.heap.size w3).alloc hb3.size _).grown hgrow4 (by simp; omega) (fun k e => (ho1.lt k e).1)); rw [Nat.zero_add] at ho4; have cL4 := (hb4.cell (p := ⟨R, 0, none⟩) hRp).trans cLp)
                  | (refine wpList_appPart (by rfl) _ _ 45 (by rfl) w2.heap.size 24 (.agg #[.string .empty, .int .u64 0, .bool false, .string .empty]) 4 48 Try.underlying45 info_version rfl (by decide) (.slice none 0 0) 0 [] w2 hn0 (Nat.le_refl _) (by rfl) ⟨bl, 0, none⟩ j capl (vcells (xs.take j)) (by rfl) (hA1.out.1 (by omega)) hA1.out.2 (vcells_one_cell _) hs1 (by decide) ?_; intro v1 w3 ho1 hb3; have hz3 := hb3.size; have cL3 := (hb3.cell (p := ⟨R, 0, none⟩) hRp).trans cLp; have y03 := (hb3.cell (p := ⟨w.heap.size, 0, none⟩) hzp).trans y0; have y13 := (hb3.cell (p := ⟨w.heap.size, 1, none⟩) hzp).trans y1; have y23 := (hb3.cell (p := ⟨w.heap.size, 2, none⟩) hzp).trans y2; have y33 := (hb3.cell (p := ⟨w.heap.size, 3, none⟩) hzp).trans y3))
                have hb28 : Below w2.heap.size w2 w8 := hc8
                go_wp2
                have hkR : ∀ W, Keep (fun q => q ≠ R) W ((W.setCell ⟨R, 0, none⟩ (.slice g5 (j + 1 + (xs.length - j)) cap5)).setCell ⟨R, 1, none⟩ (.slice g8 (j + 1 + (hs.length - j)) cap8)) := fun W => ((Keep.refl _ W).setCell _ _ _ (fun h _ => h rfl)).setCell _ _ _ (fun h _ => h rfl)
                have hblk9 := heap_set4m (heap_set4m hblk8 0 (.slice g5 (j + 1 + (xs.length - j)) cap5)) 1 (.slice g8 (j + 1 + (hs.length - j)) cap8)
                have ho5' := (Keep.of_below (fp := fun q => q < w5.heap.size) hd8 (fun _ h _ => h)).ownsRow ho5 (fun q e => (ho5.lt q e).2)
                have hr5 := (hkR w8).ownsRow ho5' (fun q e => by have := (ho5'.lt q e).1; omega)
                have hr8 := (hkR w8).ownsRow ho8 (fun q e => by have := (ho8.lt q e).1; have := hc5.size; omega)
                have hk28 : Keep (fun q => q ≠ R) w ((w8.setCell ⟨R, 0, none⟩ (.slice g5 (j + 1 + (xs.length - j)) cap5)).setCell ⟨R, 1, none⟩ (.slice g8 (j + 1 + (hs.length - j)) cap8)) := (Keep.of_below (fp := fun q => q ≠ R) ((hWw.out hb2).trans (hb28.mono (hWw.out hb2).size)) (fun _ _ h => h)).trans (hkR w8) (fun _ h _ => h)
                go_ret
                refine ⟨ret_int (by rw [hre.out]; rfl), ?_, hk28⟩
                rw [hre.out]
                have ev : [] ++ vcells (xs.take j) ++ (#[.string v.key, .int .u64 (v.seq : Int), .bool v.del, .string v.val] : Array Value).toList ++ vcells (xs.drop j) = vcells (Pl.ins xs j v) := by
                  unfold Pl.ins
                  rw [vcells_append]
                  simp [vcells]
                have eh : [] ++ hcells (hs.take j) ++ (#[.int .i64 h] : Array Value).toList ++ hcells (hs.drop j) = hcells (Pl.ins hs j h.toNat) := by
                  unfold Pl.ins
                  rw [hcells_append]
                  have e1 : h = (h.toNat : Int) := by omega
                  simp [hcells]
                  omega
                refine ⟨(.slice g5 (j + 1 + (xs.length - j)) cap5), (.slice g8 (j + 1 + (hs.length - j)) cap8), hblk9, ?_, ?_, fun e => ?_⟩
                · show World.ownsRow _ (R + 1) _ 4 (.slice g5 (j + 1 + (xs.length - j)) cap5) (Pl.ins xs j v).length (vcells (Pl.ins xs j v))
                  rw [← ev, Pl.ins_length, show xs.length + 1 = j + 1 + (xs.length - j) by omega]
                  exact ownsRow_base hr5 (by omega)
                · show World.ownsRow _ (R + 1) _ 1 (.slice g8 (j + 1 + (hs.length - j)) cap8) (Pl.ins hs j h.toNat).length (hcells (Pl.ins hs j h.toNat))
                  rw [← eh, Pl.ins_length, show hs.length + 1 = j + 1 + (hs.length - j) by omega]
                  exact ownsRow_base hr8 (by have := hc5.size; omega)
                · have e2 : Pl.ins xs j v = [] := e
                  have := congrArg List.length e2
                  rw [Pl.ins_length] at this
                  simp at this
            · rw [hpl] at P2
              have hre := hr.out
              rw [hth2.out, hpl] at hre
              replace hre := Lib.hid hre
              go_region_held3 (fun w' => w'.cell? ⟨R, 0, none⟩ = some (.slice (some ⟨bl, 0, none⟩) xs.length capl) ∧ w'.cell? ⟨bl, j * 4, none⟩ = some (.string xs[j].key) ∧ w'.cell? ⟨bl, j * 4 + 1, none⟩ = some (.int .u64 (xs[j].seq : Int)) ∧ w'.cell? ⟨bl, j * 4 + 2, none⟩ = some (.bool xs[j].del) ∧ w'.cell? ⟨bl, j * 4 + 3, none⟩ = some (.string xs[j].val) ∧ w'.cell? ⟨w.heap.size, 0, none⟩ = some (.string v.key) ∧ w'.cell? ⟨w.heap.size, 1, none⟩ = some (.int .u64 (v.seq : Int)) ∧ w'.cell? ⟨w.heap.size, 2, none⟩ = some (.bool v.del) ∧ w'.cell? ⟨w.heap.size, 3, none⟩ = some (.string v.val)) (first | exact ⟨cL1, x0, x1, x2, x3, y0, y1, y2, y3⟩ | exact hkp3 | go_keep)
                (first | (go_at_call 14; (with_reducible refine (P2.out _).mono ?_); rintro e w2 ⟨rfl, hbl2⟩; have hbq2 := below_seq ((Below.refl _ w1).drew) hbl2; have hkp3 := hkp2.out w2 hbq2))
              all_goals
                have hb2 := hb1.trans (hbq2.mono hb1.size)
                go_wp2
                go_ret
                refine ⟨ret_int (by rw [hre.out]; rfl), ?_⟩
                rw [hre.out]
                exact hkb.out (hWw.out hb2)
      · omega
end Go.Proofs.Ytcfcijgnkbmlaaa
