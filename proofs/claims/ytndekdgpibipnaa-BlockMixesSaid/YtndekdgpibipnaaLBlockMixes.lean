
/- Walk: the law BlockMixes returns true. Condition: acts that the form's reach lets. -/
import Derived.Test.YtndekdgpibipnaaPlainSf
import Derived.Test.YtndekdgpibipnaaWPend
import Derived.Deep.RegionWith
namespace Go.Proofs.Ytndekdgpibipnaa
open Go.RowKit

/-- is what was read of a block whole? -/
def Pl.whole (X : ByteArray) (i : Nat) (l : List AcT) : Bool := (X.toList == (Pl.zeros 256).toList) || l.any fun a => a.at' == (i : Int) && X.toList == (Pl.filled a.num 256).toList
theorem Pl.whole_snoc (X : ByteArray) (i : Nat) (l : List AcT) (a : AcT) : Pl.whole X i (l ++ [a]) = (Pl.whole X i l || (a.at' == (i : Int) && X.toList == (Pl.filled a.num 256).toList)) := by
  simp [Pl.whole, Bool.or_assoc]
theorem Pl.getD_rep {n i : Nat} (x : ByteArray) (h : i < n) : (List.replicate n x).getD i .empty = x := by
  rw [List.getD_eq_getElem?_getD, List.getElem?_replicate, if_pos h]; rfl
theorem Pl.mixes (l : List AcT) (keep : List Bool) (torn : Int) (n : Nat) : ∃ b : Nat, ∀ i, i < 40 → i ≠ b → Pl.whole (((Pl.wrs (Pl.Dv.new 40) l).crash keep torn n).read i) i l = true := by
  obtain ⟨b, hb⟩ := Pl.crash_one keep torn n (Pl.wrs (Pl.Dv.new 40) l).wait (Pl.wrs (Pl.Dv.new 40) l).safe (Pl.wrs (Pl.Dv.new 40) l).wait.length
  refine ⟨b, fun i hi hne => ?_⟩
  have hs : (Pl.wrs (Pl.Dv.new 40) l).safe = List.replicate 40 (Pl.zeros 256) := Pl.wrs_safe l _
  have h := hb i (by rw [hs]; simpa using hi) hne
  have e : ((Pl.wrs (Pl.Dv.new 40) l).crash keep torn n).read i = (Pl.crashN keep torn n (Pl.wrs (Pl.Dv.new 40) l).wait (Pl.wrs (Pl.Dv.new 40) l).wait.length (Pl.wrs (Pl.Dv.new 40) l).safe).getD i .empty := rfl
  rw [e]
  rcases h with h | ⟨p, hp, h1, h2⟩
  · rw [h, hs]
    rw [Pl.getD_rep _ hi]
    simp [Pl.whole]
  · rw [h2]
    rcases Pl.wrs_wait l _ p hp with h3 | ⟨a, ha, h3, h4, _⟩
    · cases h3
    · unfold Pl.whole
      rw [Bool.or_eq_true]
      right
      rw [List.any_eq_true]
      exact ⟨a, ha, by rw [h4]; simp; omega⟩
theorem below_cell' {w W : World} {b o : Nat} {v : Value} (hb : Below w.heap.size w W) (hl : b < w.heap.size) (h : w.cell? ⟨b, o, none⟩ = some v) : W.cell? ⟨b, o, none⟩ = some v := (hb.cell (p := ⟨b, o, none⟩) hl).trans h
theorem pending_none {B d : Nat} {s : Pl.Dv} {fp : Nat → Prop} {W : World} (h : DevAt B d s fp W) (hw : s.wait = []) : Calls Try.prog 23 #[.pointer (some ⟨d, 0, none⟩)] W fun e w' =>
    e = .returned (.slice (some ⟨W.heap.size, 0, none⟩) 0 0) ∧ Below W.heap.size W w' := by
  refine (pending_any h (by rw [hw]; simp)).mono ?_
  rintro e w' ⟨rfl, _, hb⟩
  rw [hw]
  exact ⟨rfl, hb⟩

set_option maxRecDepth 100000 in
set_option maxHeartbeats 2000000 in
theorem mixes_any (v1 : Value) (l1 : List AcT) (c : AcT) (u : Value) (w : World) (hv1 : ActsAt w v1 l1) (hu : BoolsAt w u c.keep) (hl1 : l1.length ≤ 2932031007317) :
    Calls Try.prog 4 #[v1, .agg #[.int .i64 c.kind, .int .i64 c.at', .int .i64 c.num, u]] w fun e w' => e = .returned (.bool true) ∧ Below w.heap.size w w' := by
  obtain ⟨W0, hW0⟩ : ∃ W0, W0 = w.alloc (.cells #[.int .i64 c.kind, .int .i64 c.at', .int .i64 c.num, u] 30) := ⟨_, rfl⟩
  have hA0 : Below w.heap.size w W0 := by rw [hW0]; exact (Below.refl _ w).alloc (Nat.le_refl _) _
  have z0 : W0.heap.size = w.heap.size + 1 := by rw [hW0, World.size_alloc]
  have hP0 : Blk W0 w.heap.size #[.int .i64 c.kind, .int .i64 c.at', .int .i64 c.num, u] 30 := by rw [hW0]; exact Blk.new w _ _
  replace hv1 := hv1.below hA0
  replace hu := hu.below hA0
  obtain ⟨ao1, cap1, rfl, c1, c2, hat1⟩ := hv1
  have hnew := new40_any W0
  rw [hW0] at hnew
  replace hnew := Lib.hid hnew
  go_enter Try.func4, Try.ntmps4
  go_wp2_with (go_at_call 13; ((with_reducible refine hnew.out.mono ?_); rintro e w1 ⟨d, fp1, rfl, hD, hb1⟩))
  rw [← hW0] at hD hb1
  clear hnew
  go_loopw [7] (fun j wr => ∃ i : Nat, i ≤ l1.length ∧ j = .int .i64 i ∧ ∃ fp, DevAt W0.heap.size d (Pl.wrs (Pl.Dv.new 40) (l1.take i)) fp wr ∧ Below W0.heap.size W0 wr) (fun j _ => l1.length - (intOf j).toNat)
  case atStart => exact ⟨0, by omega, rfl, fp1, hD, hb1⟩
  case round =>
    obtain ⟨i, hi, rfl, fp, hD, hb⟩ := hrel
    clear hb1
    by_cases h1 : i < l1.length
    · obtain ⟨b, off, rfl, hlt, hc⟩ := hat1 (by omega)
      have hU := Pl.Un.new.wrs (l1.take i)
      have hsn := Lib.hid (Pl.wrs_snoc (Pl.Dv.new 40) (l1.take i) l1[i])
      rw [← List.take_succ_eq_append_getElem h1] at hsn
      obtain ⟨_, y1, y2, _⟩ := hc i h1
      clear hc hat1
      generalize l1[i] = x at y1 y2 hsn
      have x1 := below_cell' hb hlt y1
      have x2 := below_cell' hb hlt y2
      clear y1 y2
      generalize Pl.wrs (Pl.Dv.new 40) (l1.take i) = s at hD hU hsn
      have hUl : 0 + (l1.take i).length ≤ 5864062014634 := by rw [List.length_take]; omega
      generalize 0 + (l1.take i).length = kk at hU hUl
      have hDd : DevAt W0.heap.size d s fp wr.drew := hD.keep ((Keep.refl _ wr).drew)
      have hbd : Below W0.heap.size W0 wr.drew := hb.drew
      clear hD hb
      go_upto_region 7 with (fail)
      go_region_with (first
          | (go_at_call 16; ((with_reducible refine (filled256_any _ _).mono ?_); rintro e w3 ⟨rfl, hb3⟩; have hD3 := hDd.beyond hb3; have hb4 := hbd.trans (hb3.mono hbd.size); have x1' := (hb3.cell (p := ⟨b, off + i * 4 + 1, none⟩) (Nat.lt_of_lt_of_le hlt hbd.size)).trans x1; have hW := Lib.hid (write_wr x.at' (Pl.filled x.num 256) (Pl.filled_size x.num 256) hD3 hU hUl hb4.size)))
          | (go_at_call 15; ((with_reducible refine hW.out.mono ?_); rintro e w4 ⟨v4, rfl, fp4, hD4, st4⟩)))
      all_goals
        go_wp2
        go_roundw
        case rel => exact ⟨i + 1, by omega, by go_num, fp4, by rw [hsn.out]; exact hD4, below_step hb4 (Nat.le_refl _) hD3 st4⟩
        case measure => simp [intOf]; omega
    · obtain rfl : i = l1.length := by omega
      rw [List.take_of_length_le (Nat.le_refl _)] at hD
      have hU3 := Pl.Un.new.wrs l1
      obtain ⟨bb, hmix⟩ := Pl.mixes l1 c.keep c.at' (clamp c.num)
      replace hmix := Lib.hid hmix
      have hl3 : ∀ k t n, ((Pl.wrs (Pl.Dv.new 40) l1).crash k t n).safe.length = 40 := fun k t n => (Pl.crashN_length _ _ _ _ _ _).trans hU3.1
      generalize Pl.wrs (Pl.Dv.new 40) l1 = s3 at hD hU3 hmix hl3
      have hPw := hP0.keep (f := fun k => k = w.heap.size) (Keep.of_below hb (fun k h _ => by omega)) rfl
      have p1 := hPw.cell 1
      have p2 := hPw.cell 2
      have p3 := hPw.cell 3
      simp at p1 p2 p3
      have hub : 0 < c.keep.length → ∀ b, u.ownBlock = some b → ¬ fp b := fun h0 b e hf => by
        obtain ⟨_, _, rfl, _, _, h⟩ := hu
        obtain ⟨b', off, rfl, hlt, _⟩ := h h0
        have e' : b' = b := by simpa [Value.ownBlock] using e
        have := hD.fpB b hf
        omega
      have hC := Lib.hid (crash_any hD u c.keep (hu.below hb) hub c.at' c.num (by have := hU3.2.2.2.2.2; omega) (by have := hU3.2.2.2.2.1; omega))
      go_wp2_with (go_at_call 20; ((with_reducible refine hC.out.mono ?_); rintro e w6 ⟨⟨_, rfl⟩, hD6, st6⟩))
      have hb6 := below_step hb (Nat.le_refl _) hD st6
      have hl4 := hl3 c.keep c.at' (clamp c.num)
      have hd4 : (s3.crash c.keep c.at' (clamp c.num)).down = false := rfl
      have hw4 : (s3.crash c.keep c.at' (clamp c.num)).wait = [] := rfl
      generalize s3.crash c.keep c.at' (clamp c.num) = s4 at hD6 hmix hl4 hd4 hw4
      clear hC hPw p1 p2 p3 hub hD hb st6 hU3 hl3 hu hP0
      go_loopw [8, 9, 10, 11, 12, 13] (fun tn j _ _ _ _ wr => ∃ i t : Nat, i ≤ 40 ∧ j = .int .i64 i ∧ tn = .int .i64 t ∧ t ≤ 1 ∧ (i ≤ bb → t = 0) ∧ DevAt W0.heap.size d s4 fp wr ∧ Below W0.heap.size W0 wr) (fun _ j _ _ _ _ _ => 40 - (intOf j).toNat)
      case atStart => exact ⟨0, 0, by omega, rfl, rfl, by omega, fun _ => rfl, hD6, hb6⟩
      case round =>
        obtain ⟨i, t, hi, rfl, rfl, ht, htb, hD, hb⟩ := hrel
        clear hD6 hb6
        by_cases h1 : i < 40
        · have hR := Lib.hid (read_un hD hd4 hl4 i h1)
          have hXs : (s4.read i).size = 256 := hD.wf.read (by rw [hl4]; exact h1)
          have hmi := Lib.hid (fun h => hmix.out i h1 h)
          generalize s4.read i = X at hR hXs hmi
          go_wp2_with (first
            | (go_at_call 21; ((with_reducible refine hR.out.mono ?_); rintro e w4 ⟨rfl, rfl⟩))
            | (go_at_call 22; ((with_reducible refine (noughts_any _).mono ?_); rintro e w5 ⟨rfl, hb5⟩)))
          have hD5 := hD.beyond hb5
          have hb6 := hb.trans (hb5.mono hb.size)
          have hXs' : ((X.size : Int) != 256) = false := by rw [hXs]; rfl
          clear hD hb hb5 hR hXs
          go_loopw [12, 13] (fun wh k wr => ∃ m : Nat, m ≤ l1.length ∧ k = .int .i64 m ∧ wh = .bool (Pl.whole X i (l1.take m)) ∧ DevAt W0.heap.size d s4 fp wr ∧ Below W0.heap.size W0 wr) (fun _ k _ => l1.length - (intOf k).toNat)
          case atStart => exact ⟨0, by omega, rfl, by simp [Pl.whole], hD5, hb6⟩
          case round =>
            obtain ⟨m, hm, rfl, rfl, hD, hb⟩ := hrel
            clear hD5 hb6
            by_cases h2 : m < l1.length
            · obtain ⟨b, off, rfl, hlt, hc⟩ := hat1 (by omega)
              have hws := Pl.whole_snoc X i (l1.take m) l1[m]
              rw [← List.take_succ_eq_append_getElem h2] at hws
              obtain ⟨_, y1, y2, _⟩ := hc m h2
              clear hc hat1
              generalize l1[m] = x at y1 y2 hws
              obtain ⟨xk, xa, xn, xl⟩ := x
              simp only at y1 y2 hws
              have x1 := below_cell' hb hlt y1
              have x2 := below_cell' hb hlt y2
              clear y1 y2
              cases hwm : Pl.whole X i (l1.take m)
              · rw [hwm, Bool.false_or] at hws
                by_cases ha : xa = (i : Int)
                · subst ha
                  rw [show (((i : Int)) == (i : Int)) = true from by simp, Bool.true_and] at hws
                  replace hws := Lib.hid hws
                  clear hwm
                  go_wp2_with (go_at_call 16; ((with_reducible refine (filled256_any _ _).mono ?_); rintro e w5 ⟨rfl, hb5⟩))
                  go_roundw
                  case rel => exact ⟨m + 1, by omega, by go_num, by rw [hws.out], hD.beyond hb5, hb.trans (hb5.mono hb.size)⟩
                  case measure => simp [intOf]; omega
                · have ha' : (xa == (i : Int)) = false := by simpa using ha
                  rw [ha', Bool.false_and] at hws
                  replace hws := Lib.hid hws
                  clear hwm
                  go_wp2
                  go_roundw
                  case rel => exact ⟨m + 1, by omega, by go_num, by rw [hws.out], hD, hb⟩
                  case measure => simp [intOf]; omega
              · rw [hwm, Bool.true_or] at hws
                replace hws := Lib.hid hws
                clear hwm
                go_wp2
                go_roundw
                case rel => exact ⟨m + 1, by omega, by go_num, by rw [hws.out], hD, hb⟩
                case measure => simp [intOf]; omega
            · obtain rfl : m = l1.length := by omega
              rw [List.take_of_length_le (Nat.le_refl _)]
              cases hwa : Pl.whole X i l1
              · have hib : i = bb := by
                  by_cases e : i = bb
                  · exact e
                  · rw [hmi.out e] at hwa; cases hwa
                have ht0 : t = 0 := htb (by omega)
                subst ht0
                clear hwa hmi
                go_wp2
                go_roundw
                case rel => exact ⟨i + 1, 1, by omega, by go_num, rfl, by omega, fun h => by omega, hD, hb⟩
                case measure => simp [intOf]; omega
              · clear hwa hmi
                go_wp2
                go_roundw
                case rel => exact ⟨i + 1, t, by omega, by go_num, rfl, ht, fun h => htb (by omega), hD, hb⟩
                case measure => simp [intOf]; omega
        · obtain rfl : i = 40 := by omega
          have hU := Lib.hid (up_is hD hd4)
          have hP := Lib.hid (pending_none hD hw4)
          go_wp2_with (first
            | (go_at_call 19; ((with_reducible refine hU.out.mono ?_); rintro e w4 ⟨rfl, rfl⟩))
            | (go_at_call 23; ((with_reducible refine hP.out.mono ?_); rintro e w5 ⟨rfl, hb5⟩)))
          go_ret
          exact ⟨rfl, hA0.trans ((hb.trans (hb5.mono hb.size)).mono (by omega))⟩
end Go.Proofs.Ytndekdgpibipnaa
