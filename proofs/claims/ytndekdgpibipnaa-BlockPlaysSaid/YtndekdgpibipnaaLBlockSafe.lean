
/- Walk: the law BlockSafe returns true. Condition: acts that the form's reach lets. -/
import Derived.Test.YtndekdgpibipnaaPlainSf
import Derived.Deep.RegionWith
import Derived.Deep.DeepCutAuto
namespace Go.Proofs.Ytndekdgpibipnaa
open Go.RowKit

/-- one write of a law's -/
theorem below_cell {w W : World} {b o : Nat} {v : Value} (hb : Below w.heap.size w W) (hl : b < w.heap.size) (h : w.cell? ⟨b, o, none⟩ = some v) : W.cell? ⟨b, o, none⟩ = some v := (hb.cell (p := ⟨b, o, none⟩) hl).trans h

theorem info_bool : (Try.prog.info? 4).map (fun i => (i.zero, i.size, i.bytes)) = some (some (.bool false), 1, 1) := by kernel_rfl
/-- the cells of truths -/
def tcells (l : List Bool) : List Value := l.map Value.bool
/-- 'make([]bool, n)' -/
theorem make_bools (n : Nat) (hn : n ≤ 281474976710656) (w : World) :
    (Instr.makeSlice 28 (.int .i64 (n : Int)) (.int .i64 (n : Int))).run Try.prog w = .ok (.slice (some ⟨w.heap.size, 0, none⟩) n n) (w.alloc (.cells (tcells (List.replicate n false)).toArray 4)) := by
  obtain ⟨i, hi, hz0, hz1, hz2⟩ := info_parts info_bool
  have h := run_make (P := Try.prog) w 28 4 i (.bool false) Try.underlying28 hi hz0 .i64 .i64 (n : Int) (n : Int) (by omega) (by omega) (by rw [hz2]; omega) (by omega)
  have e : madeCells (Value.bool false).cells (n * i.size) = (tcells (List.replicate n false)).toArray := by
    rw [hz1]
    apply Array.ext
    · rw [size_madeCells]; simp [tcells]
    · intro j h1 h2
      have hj : j < n := by simpa [tcells] using h2
      simp [madeCells, tcells, Value.cells, Nat.mod_one]
  simp only [Int.toNat_natCast] at h
  rw [e] at h
  exact h
theorem blk_tcell {w : World} {b : Nat} {l : List Bool} (h : Blk w b (tcells l).toArray 4) {i : Nat} (hi : i < l.length) : w.cell? ⟨b, i, none⟩ = some (.bool l[i]) := by
  rw [h.cell]; simp [tcells, hi]
theorem blk_tset {w : World} {b : Nat} {l : List Bool} (h : Blk w b (tcells l).toArray 4) (i : Nat) (x : Bool) : Blk (w.setCell ⟨b, i, none⟩ (.bool x)) b (tcells (l.set i x)).toArray 4 := by
  have := h.set i (.bool x)
  rwa [List.setIfInBounds_toArray, show (tcells l).set i (.bool x) = tcells (l.set i x) from by simp [tcells, List.map_set]] at this
theorem blk_scell {w : World} {b : Nat} {l : List ByteArray} (h : Blk w b (scells l).toArray 9) {i : Nat} (hi : i < l.length) : w.cell? ⟨b, i, none⟩ = some (.string l[i]) := by
  rw [h.cell]; simp [scells, hi]
theorem blk_sset {w : World} {b : Nat} {l : List ByteArray} (h : Blk w b (scells l).toArray 9) (i : Nat) (x : ByteArray) : Blk (w.setCell ⟨b, i, none⟩ (.string x)) b (scells (l.set i x)).toArray 9 := by
  have := h.set i (.string x)
  rwa [List.setIfInBounds_toArray, scells_set] at this
theorem make40s (w : World) : (Instr.makeSlice 44 (.int .i64 40) (.int .i64 40)).run Try.prog w = .ok (.slice (some ⟨w.heap.size, 0, none⟩) 40 40) (w.alloc (.cells (scells (List.replicate 40 .empty)).toArray 9)) := make_strings 40 (by omega) w
theorem make40b (w : World) : (Instr.makeSlice 28 (.int .i64 40) (.int .i64 40)).run Try.prog w = .ok (.slice (some ⟨w.heap.size, 0, none⟩) 40 40) (w.alloc (.cells (tcells (List.replicate 40 false)).toArray 4)) := make_bools 40 (by omega) w
set_option maxRecDepth 100000 in
set_option maxHeartbeats 2000000 in
theorem safe_any (v1 v2 : Value) (l1 l2 : List AcT) (c : AcT) (u : Value) (w : World) (hv1 : ActsAt w v1 l1) (hv2 : ActsAt w v2 l2) (hu : BoolsAt w u c.keep) (hl1 : l1.length ≤ 2932031007317) (hl2 : l2.length ≤ 2932031007317) :
    Calls Try.prog 5 #[v1, v2, .agg #[.int .i64 c.kind, .int .i64 c.at', .int .i64 c.num, u]] w fun e w' => e = .returned (.bool true) ∧ Below w.heap.size w w' := by
  obtain ⟨W0, hW0⟩ : ∃ W0, W0 = w.alloc (.cells #[.int .i64 c.kind, .int .i64 c.at', .int .i64 c.num, u] 30) := ⟨_, rfl⟩
  have hA0 : Below w.heap.size w W0 := by rw [hW0]; exact (Below.refl _ w).alloc (Nat.le_refl _) _
  have z0 : W0.heap.size = w.heap.size + 1 := by rw [hW0, World.size_alloc]
  have hP0 : Blk W0 w.heap.size #[.int .i64 c.kind, .int .i64 c.at', .int .i64 c.num, u] 30 := by rw [hW0]; exact Blk.new w _ _
  replace hv1 := hv1.below hA0
  replace hv2 := hv2.below hA0
  replace hu := hu.below hA0
  obtain ⟨ao1, cap1, rfl, c1, c2, hat1⟩ := hv1
  obtain ⟨ao2, cap2, rfl, c3, c4, hat2⟩ := hv2
  have hnew := new40_any W0
  rw [hW0] at hnew
  replace hnew := Lib.hid hnew
  go_enter Try.func5, Try.ntmps5
  go_wp2_with (go_at_call 13; ((with_reducible refine hnew.out.mono ?_); rintro e w1 ⟨d, fp1, rfl, hD, hb1⟩))
  rw [← hW0] at hD hb1
  clear hnew
  go_loopw [9] (fun j wr => ∃ i : Nat, i ≤ l1.length ∧ j = .int .i64 i ∧ ∃ fp, DevAt W0.heap.size d (Pl.wrs (Pl.Dv.new 40) (l1.take i)) fp wr ∧ Below W0.heap.size W0 wr) (fun j _ => l1.length - (intOf j).toNat)
  case atStart => exact ⟨0, by omega, rfl, fp1, hD, hb1⟩
  case round =>
    obtain ⟨i, hi, rfl, fp, hD, hb⟩ := hrel
    clear hb1
    by_cases h1 : i < l1.length
    · obtain ⟨b, off, rfl, hlt, hc⟩ := hat1 (by omega)
      have hU := Pl.Un.new.wrs (l1.take i)
      have hsn := Lib.hid (Pl.wrs_snoc (Pl.Dv.new 40) (l1.take i) l1[i])
      rw [← List.take_succ_eq_append_getElem h1] at hsn
      obtain ⟨_, y1, y2, _⟩ := hc i h1
      clear hc hat1 hat2
      generalize l1[i] = x at y1 y2 hsn
      have x1 := below_cell hb hlt y1
      have x2 := below_cell hb hlt y2
      clear y1 y2
      generalize Pl.wrs (Pl.Dv.new 40) (l1.take i) = s at hD hU hsn
      have hUl : 0 + (l1.take i).length ≤ 5864062014634 := by rw [List.length_take]; omega
      generalize 0 + (l1.take i).length = kk at hU hUl
      have hDd : DevAt W0.heap.size d s fp wr.drew := hD.keep ((Keep.refl _ wr).drew)
      have hbd : Below W0.heap.size W0 wr.drew := hb.drew
      clear hD hb
      go_upto_region 7 with (fail)
      go_region_with (first
          | (go_at_call 16; ((with_reducible refine (filled256_any _ _).mono ?_); rintro e w3 ⟨rfl, hb3⟩; have hD3 := hDd.beyond hb3; have hb4 := hbd.trans (hb3.mono hbd.size); have x1' := (hb3.cell (p := ⟨b, off + i * 4 + 1, none⟩) (Nat.lt_of_lt_of_le hlt hbd.size)).trans x1; have hW := Lib.hid (write_wr x.at' (Pl.filled x.num 256) (Pl.filled_size x.num 256) hD3 hU hUl hb4.size)))
          | (go_at_call 15; ((with_reducible refine hW.out.mono ?_); rintro e w4 ⟨v4, rfl, fp4, hD4, st4⟩)))
      all_goals
        go_wp2
        go_roundw
        case rel => exact ⟨i + 1, by omega, by go_num, fp4, by rw [hsn.out]; exact hD4, below_step hb4 (Nat.le_refl _) hD3 st4⟩
        case measure => simp [intOf]; omega
    · obtain rfl : i = l1.length := by omega
      rw [List.take_of_length_le (Nat.le_refl _)] at hD
      have hU := Pl.Un.new.wrs l1
      generalize Pl.wrs (Pl.Dv.new 40) l1 = s1 at hD hU
      have hU2 := hU.flush
      have hS := Lib.hid (sync_un hD hU (by omega))
      obtain ⟨Z1, hZ1⟩ : ∃ Z1, Z1 = (List.replicate 40 ByteArray.empty) := ⟨_, rfl⟩
      obtain ⟨Z2, hZ2⟩ : ∃ Z2, Z2 = (List.replicate 40 false) := ⟨_, rfl⟩
      have hmk1 := make40s
      have hmk2 := make40b
      rw [← hZ1] at hmk1
      rw [← hZ2] at hmk2
      replace hmk2 := Lib.hid hmk2
      replace hZ1 := Lib.hid hZ1
      replace hZ2 := Lib.hid hZ2
      clear hat1
      go_wp2_with (go_at_call 17; ((with_reducible refine hS.out.mono ?_); rintro e w2 ⟨rfl, hD2, st2⟩))
      have hb2 := below_step hb (Nat.le_refl _) hD st2
      have hw0 : s1.act.flush.wait = [] := rfl
      generalize s1.act.flush = s2 at hD2 hU2 hw0
      clear hD st2 hb hS hU
      obtain ⟨W3, hW3⟩ : ∃ W3, W3 = w2.alloc (.cells (scells Z1).toArray 9) := ⟨_, rfl⟩
      have hH3 : Blk W3 w2.heap.size (scells (Pl.upTo 40 0 s2.read .empty)).toArray 9 := by rw [Pl.upTo_zero, ← hZ1.out, hW3]; exact Blk.new w2 _ _
      have hD3 : DevAt W0.heap.size d s2 fp W3 := by rw [hW3]; exact hD2.keep ((Keep.refl _ _).alloc _)
      have hb3 : Below W0.heap.size W0 W3 := by rw [hW3]; exact hb2.alloc hb2.size _
      have hf1 : ¬ fp w2.heap.size := fun h => by have := hD2.lt _ h; omega
      have hB1 := hb2.size
      rw [← hW3]
      clear hW3 hmk1 hD2 hb2 hZ1
      generalize w2.heap.size = g1 at hH3 hf1 hB1 ⊢
      go_loopw [11, 12, 13] (fun j _ _ wr => ∃ i : Nat, i ≤ 40 ∧ j = .int .i64 i ∧ DevAt W0.heap.size d s2 fp wr ∧ Blk wr g1 (scells (Pl.upTo 40 i s2.read .empty)).toArray 9 ∧ Below W0.heap.size W0 wr) (fun j _ _ _ => 40 - (intOf j).toNat)
      case atStart => exact ⟨0, by omega, rfl, hD3, hH3, hb3⟩
      case round =>
        obtain ⟨i, hi, rfl, hD, hH, hb⟩ := hrel
        clear hD3 hH3 hb3
        by_cases h1 : i < 40
        · have hR := Lib.hid (read_un hD hU2.2.1 hU2.1 i h1)
          have cH := blk_scell hH (i := i) (by rw [Pl.upTo_length _ _ hi]; exact h1)
          have zH := hH.frozen i
          have hH2 := blk_sset hH i (s2.read i)
          rw [Pl.upTo_set _ _ h1] at hH2
          have hD2 : DevAt W0.heap.size d s2 fp (wr.setCell ⟨g1, i, none⟩ (.string (s2.read i))) := hD.keep ((Keep.refl _ _).setCell _ _ _ (fun h _ => hf1 h))
          have hb2 : Below W0.heap.size W0 (wr.setCell ⟨g1, i, none⟩ (.string (s2.read i))) := hb.setCell hB1 _
          clear hD hH hb
          go_wp2_with (go_at_call 21; ((with_reducible refine hR.out.mono ?_); rintro e w4 ⟨rfl, rfl⟩))
          go_roundw
          case rel => exact ⟨i + 1, by omega, by go_num, hD2, hH2, hb2⟩
          case measure => simp [intOf]; omega
        · obtain rfl : i = 40 := by omega
          replace hmk2 := hmk2.out
          go_wp2
          obtain ⟨W5, hW5⟩ : ∃ W5, W5 = wr.alloc (.cells (tcells Z2).toArray 4) := ⟨_, rfl⟩
          have hT5 : Blk W5 wr.heap.size (tcells (Pl.wrote [])).toArray 4 := by rw [Pl.wrote_nil, ← hZ2.out, hW5]; exact Blk.new wr _ _
          have hD5 : DevAt W0.heap.size d s2 fp W5 := by rw [hW5]; exact hD.keep ((Keep.refl _ _).alloc _)
          have hH5 : Blk W5 g1 (scells (Pl.upTo 40 40 s2.read .empty)).toArray 9 := by rw [hW5]; exact hH.alloc _
          have hb5 : Below W0.heap.size W0 W5 := by rw [hW5]; exact hb.alloc hb.size _
          have hf2 : ¬ fp wr.heap.size := fun h => by have := hD.lt _ h; omega
          have hB2 := hb.size
          have hg12 : g1 ≠ wr.heap.size := fun e => by have := hH.lt; omega
          rw [← hW5]
          clear hW5 hmk2 hD hb hH hZ2
          generalize wr.heap.size = g2 at hT5 hf2 hB2 hg12 ⊢
          go_loopw [15, 16] (fun j _ wr => ∃ i : Nat, i ≤ l2.length ∧ j = .int .i64 i ∧ ∃ fp, DevAt W0.heap.size d (Pl.wrs s2 (l2.take i)) fp wr ∧ (¬ fp g1 ∧ ¬ fp g2) ∧ Blk wr g1 (scells (Pl.upTo 40 40 s2.read .empty)).toArray 9 ∧ Blk wr g2 (tcells (Pl.wrote (l2.take i))).toArray 4 ∧ Below W0.heap.size W0 wr) (fun j _ _ => l2.length - (intOf j).toNat)
          case atStart => exact ⟨0, by omega, rfl, fp, hD5, ⟨hf1, hf2⟩, hH5, hT5, hb5⟩
          case round =>
            obtain ⟨i, hi, rfl, fp, hD, ⟨hf1, hf2⟩, hH, hT, hb⟩ := hrel
            clear hD5 hH5 hT5 hb5
            by_cases h1 : i < l2.length
            · obtain ⟨b, off, rfl, hlt, hc⟩ := hat2 (by omega)
              have hU := hU2.wrs (l2.take i)
              have hsn := Lib.hid (Pl.wrs_snoc s2 (l2.take i) l2[i])
              have hti := List.take_succ_eq_append_getElem h1
              rw [← hti] at hsn
              obtain ⟨_, y1, y2, _⟩ := hc i h1
              have hwo := Lib.hid (fun k => Pl.wrote_in (l := l2.take i) (a := l2[i]) k)
              have hwn := Lib.hid (Pl.wrote_out (l := l2.take i) (a := l2[i]))
              rw [← hti] at hwo hwn
              clear hc hat2 hti
              have hUl : l1.length + 1 + (l2.take i).length ≤ 5864062014634 := by rw [List.length_take]; omega
              rw [Nat.zero_add] at hU
              generalize Pl.wrs s2 (l2.take i) = s at hD hU hsn
              generalize l1.length + 1 + (l2.take i).length = kk at hU hUl
              generalize l2[i] = x at y1 y2 hsn hwo hwn
              obtain ⟨xk, xa, xn, xl⟩ := x
              simp only at y1 y2 hsn hwo hwn
              have x1 := below_cell hb hlt y1
              by_cases hin : 0 ≤ xa ∧ xa < 40
              · skip
                obtain ⟨k, rfl⟩ := Int.eq_ofNat_of_zero_le hin.1
                have hk40 : k < 40 := by omega
                have hT2 := blk_tset hT k true
                rw [hwo.out k rfl] at hT2
                have cT := blk_tcell hT (i := k) (by rw [Pl.wrote_length]; exact hk40)
                have zT := hT.frozen k
                have kp : Keep (fun i => i ≠ g2) wr (wr.setCell ⟨g2, k, none⟩ (.bool true)) := (Keep.refl _ _).setCell _ _ _ (fun h _ => h rfl)
                have hD2 : DevAt W0.heap.size d s fp (wr.setCell ⟨g2, k, none⟩ (.bool true)) := hD.keep (kp.mono (fun i h _ e => hf2 (e ▸ h)))
                have hH2 := hH.keep kp hg12
                have hb2 : Below W0.heap.size W0 (wr.setCell ⟨g2, k, none⟩ (.bool true)) := hb.setCell hB2 _
                have x2 := below_cell hb2 hlt y2
                clear hD hH hT hb hwo hwn kp hin y1 y2
                go_wp2_with (first
                  | (go_at_call 16; ((with_reducible refine (filled256_any _ _).mono ?_); rintro e w5 ⟨rfl, hb5⟩; have hD5 := hD2.beyond hb5; have hb6 := hb2.trans (hb5.mono hb2.size); have hW := Lib.hid (write_wr (k : Int) (Pl.filled xn 256) (Pl.filled_size xn 256) hD5 hU hUl hb6.size)))
                  | (go_at_call 15; ((with_reducible refine hW.out.mono ?_); rintro e w6 ⟨v6, rfl, fp6, hD6, st6⟩)))
                have hH6 := (hH2.keep (f := fun _ => True) (Keep.of_below hb5 (fun _ _ h => h)) trivial)
                have hT6 := (hT2.keep (f := fun _ => True) (Keep.of_below hb5 (fun _ _ h => h)) trivial)
                have n1 := st6.other hf1 hH6.lt
                have n2 := st6.other hf2 hT6.lt
                have hH7 := hH6.keep st6.keep hf1
                have hT7 := hT6.keep st6.keep hf2
                go_roundw
                case rel =>
                  (repeat apply Exists.intro)
                  refine ⟨⟨i + 1, by omega, ?_, fp6, by rw [hsn.out]; exact hD6, ⟨n1, n2⟩, hH7, hT7, below_step hb6 (Nat.le_refl _) hD5 st6⟩, rfl⟩
                  go_num
                case measure => simp [intOf]; omega
              · skip
                have hT2 := hT
                rw [← hwn.out hin] at hT2
                have hD2 := hD
                have hH2 := hH
                have hb2 := hb
                have x2 := below_cell hb2 hlt y2
                clear hD hH hT hb hwo hwn y1 y2
                have hin' : xa < 0 ∨ 40 ≤ xa := by omega
                clear hin
                rcases hin' with hin | hin
                · go_wp2_with (first
                    | (go_at_call 16; ((with_reducible refine (filled256_any _ _).mono ?_); rintro e w5 ⟨rfl, hb5⟩; have hD5 := hD2.beyond hb5; have hb6 := hb2.trans (hb5.mono hb2.size); have hW := Lib.hid (write_wr xa (Pl.filled xn 256) (Pl.filled_size xn 256) hD5 hU hUl hb6.size)))
                    | (go_at_call 15; ((with_reducible refine hW.out.mono ?_); rintro e w6 ⟨v6, rfl, fp6, hD6, st6⟩)))
                  have hH6 := (hH2.keep (f := fun _ => True) (Keep.of_below hb5 (fun _ _ h => h)) trivial)
                  have hT6 := (hT2.keep (f := fun _ => True) (Keep.of_below hb5 (fun _ _ h => h)) trivial)
                  have n1 := st6.other hf1 hH6.lt
                  have n2 := st6.other hf2 hT6.lt
                  have hH7 := hH6.keep st6.keep hf1
                  have hT7 := hT6.keep st6.keep hf2
                  go_roundw
                  case rel =>
                    (repeat apply Exists.intro)
                    refine ⟨⟨i + 1, by omega, ?_, fp6, by rw [hsn.out]; exact hD6, ⟨n1, n2⟩, hH7, hT7, below_step hb6 (Nat.le_refl _) hD5 st6⟩, rfl⟩
                    go_num
                  case measure => simp [intOf]; omega
                · go_wp2_with (first
                    | (go_at_call 16; ((with_reducible refine (filled256_any _ _).mono ?_); rintro e w5 ⟨rfl, hb5⟩; have hD5 := hD2.beyond hb5; have hb6 := hb2.trans (hb5.mono hb2.size); have hW := Lib.hid (write_wr xa (Pl.filled xn 256) (Pl.filled_size xn 256) hD5 hU hUl hb6.size)))
                    | (go_at_call 15; ((with_reducible refine hW.out.mono ?_); rintro e w6 ⟨v6, rfl, fp6, hD6, st6⟩)))
                  have hH6 := (hH2.keep (f := fun _ => True) (Keep.of_below hb5 (fun _ _ h => h)) trivial)
                  have hT6 := (hT2.keep (f := fun _ => True) (Keep.of_below hb5 (fun _ _ h => h)) trivial)
                  have n1 := st6.other hf1 hH6.lt
                  have n2 := st6.other hf2 hT6.lt
                  have hH7 := hH6.keep st6.keep hf1
                  have hT7 := hT6.keep st6.keep hf2
                  go_roundw
                  case rel =>
                    (repeat apply Exists.intro)
                    refine ⟨⟨i + 1, by omega, ?_, fp6, by rw [hsn.out]; exact hD6, ⟨n1, n2⟩, hH7, hT7, below_step hb6 (Nat.le_refl _) hD5 st6⟩, rfl⟩
                    go_num
                  case measure => simp [intOf]; omega
            · obtain rfl : i = l2.length := by omega
              rw [List.take_of_length_le (Nat.le_refl _)] at hD hT
              have hU3 := hU2.wrs l2
              have hheld := Lib.hid (fun i hi hn => Pl.safe_held (s := s2) (l := l2) (i := i) hi hw0 hn c.keep c.at' (clamp c.num))
              have hl3 : ∀ k t n, ((Pl.wrs s2 l2).crash k t n).safe.length = 40 := fun k t n => (Pl.crashN_length _ _ _ _ _ _).trans hU3.1
              have hPw := hP0.keep (f := fun k => k = w.heap.size) (Keep.of_below hb (fun k h _ => by omega)) rfl
              have p1 := hPw.cell 1
              have p2 := hPw.cell 2
              have p3 := hPw.cell 3
              simp at p1 p2 p3
              have hub : 0 < c.keep.length → ∀ b, u.ownBlock = some b → ¬ fp b := fun h0 b e hf => by
                obtain ⟨_, _, rfl, _, _, h⟩ := hu
                obtain ⟨b', off, rfl, hlt, _⟩ := h h0
                have e' : b' = b := by simpa [Value.ownBlock] using e
                have := hD.fpB b hf
                omega
              have hC := Lib.hid (crash_any hD u c.keep (hu.below hb) hub c.at' c.num (by have := hU3.2.2.2.2.2; omega) (by have := hU3.2.2.2.2.1; omega))
              generalize hs3 : Pl.wrs s2 l2 = s3 at *
              clear hat2
              go_wp2_with (go_at_call 20; ((with_reducible refine hC.out.mono ?_); rintro e w6 ⟨⟨_, rfl⟩, hD6, st6⟩))
              have hH6 := hH.keep st6.keep hf1
              have hT6 := hT.keep st6.keep hf2
              have hb6 := below_step hb (Nat.le_refl _) hD st6
              have hl4 := hl3 c.keep c.at' (clamp c.num)
              have hd4 : (s3.crash c.keep c.at' (clamp c.num)).down = false := rfl
              generalize s3.crash c.keep c.at' (clamp c.num) = s4 at hD6 hheld hl4 hd4
              clear hC hPw p1 p2 p3 hub hD hb st6 hH hT hU3 hs3 hl3 hu hP0
              go_loopw [17, 18, 19] (fun j _ _ wr => ∃ i : Nat, i ≤ 40 ∧ j = .int .i64 i ∧ DevAt W0.heap.size d s4 fp wr ∧ Blk wr g1 (scells (Pl.upTo 40 40 s2.read .empty)).toArray 9 ∧ Blk wr g2 (tcells (Pl.wrote l2)).toArray 4 ∧ Below W0.heap.size W0 wr) (fun j _ _ _ => 40 - (intOf j).toNat)
              case atStart => exact ⟨0, by omega, rfl, hD6, hH6, hT6, hb6⟩
              case round =>
                obtain ⟨i, hi, rfl, hD, hH, hT, hb⟩ := hrel
                clear hD6 hH6 hT6 hb6
                by_cases h1 : i < 40
                · have hR := Lib.hid (read_un hD hd4 hl4 i h1)
                  have cH := blk_scell hH (i := i) (by rw [Pl.upTo_length _ _ (Nat.le_refl _)]; exact h1)
                  rw [Pl.upTo_get _ _ h1] at cH
                  have cT := blk_tcell hT (i := i) (by rw [Pl.wrote_length]; exact h1)
                  cases hw1 : (Pl.wrote l2)[i]'(by rw [Pl.wrote_length]; exact h1)
                  · rw [hw1] at cT
                    have hh := hheld.out i h1 hw1
                    rw [hh] at hR
                    clear hh hw1 hheld
                    go_wp2_with (go_at_call 21; ((with_reducible refine hR.out.mono ?_); rintro e w4 ⟨rfl, rfl⟩))
                    go_roundw
                    case rel => exact ⟨i + 1, by omega, by go_num, hD, hH, hT, hb⟩
                    case measure => simp [intOf]; omega
                  · rw [hw1] at cT
                    clear hw1 hheld
                    go_wp2_with (go_at_call 21; ((with_reducible refine hR.out.mono ?_); rintro e w4 ⟨rfl, rfl⟩))
                    go_roundw
                    case rel => exact ⟨i + 1, by omega, by go_num, hD, hH, hT, hb⟩
                    case measure => simp [intOf]; omega
                · obtain rfl : i = 40 := by omega
                  go_wp2
                  go_ret
                  exact ⟨rfl, hA0.trans (hb.mono (by omega))⟩
end Go.Proofs.Ytndekdgpibipnaa
