
/- Walks: the document's disk in memory: reads, Crash, New. Condition: lengths that memory lets. -/
import Derived.Test.YtndekdgpibipnaaWRefDv2
import Derived.Test.YtndekdgpibipnaaWDev5
import Derived.IntWalk
namespace Go.Proofs.Ytndekdgpibipnaa
open Go.RowKit

variable {B r : Nat} {sv wv : Value} {s : Pl.Dv} {fp fp' : Nat → Prop} {W W' : World}
set_option maxRecDepth 100000 in
theorem refRead_dead (i : Int) (h : RefAt B r s fp W) (hd : s.down = true) : Calls Try.prog 67 #[.pointer (some ⟨r, 0, none⟩), .int .i64 i] W fun e w' => e = .returned (.tuple #[.string .empty, .int .i64 4]) ∧ W = w' := by
  have hIs : ∃ b, Calls Try.prog 97 #[.pointer (some ⟨r, 0, none⟩), .int .i64 i] W fun e w' => e = .returned (.bool b) ∧ W = w' := by
    by_cases h1 : 0 ≤ i ∧ i < (s.safe.length : Int)
    · exact ⟨true, refIs_in i h h1.1 h1.2⟩
    · exact ⟨false, refIs_out i h (by omega)⟩
  obtain ⟨b, hIs⟩ := hIs
  replace hIs := Lib.hid hIs
  obtain ⟨sv, wv, h⟩ := h
  have c2 := h.blk.cell 2
  simp [hd] at c2
  clear h
  go_enter Try.func67, Try.ntmps67
  go_wp2_with (go_at_call 97; ((with_reducible refine hIs.out.mono ?_); rintro e w' ⟨rfl, rfl⟩))
  go_ret2
  exact ⟨rfl, rfl⟩
set_option maxRecDepth 100000 in
theorem refRead_bad (i : Int) (h : RefAt B r s fp W) (hd : s.down = false) (hi : i < 0 ∨ (s.safe.length : Int) ≤ i) : Calls Try.prog 67 #[.pointer (some ⟨r, 0, none⟩), .int .i64 i] W fun e w' => e = .returned (.tuple #[.string .empty, .int .i64 1]) ∧ W = w' := by
  have hIs := Lib.hid (refIs_out i h hi)
  obtain ⟨sv, wv, h⟩ := h
  have c2 := h.blk.cell 2
  simp [hd] at c2
  clear h
  go_enter Try.func67, Try.ntmps67
  go_wp2_with (go_at_call 97; ((with_reducible refine hIs.out.mono ?_); rintro e w' ⟨rfl, rfl⟩))
  go_ret2
  exact ⟨rfl, rfl⟩
set_option maxRecDepth 100000 in
set_option maxHeartbeats 1000000 in
theorem refRead_ok (i : Nat) (h : RefAt B r s fp W) (hd : s.down = false) (hi : i < s.safe.length) (hw : s.wait.length ≤ 9223372036854775807) : Calls Try.prog 67 #[.pointer (some ⟨r, 0, none⟩), .int .i64 (i : Int)] W fun e w' => e = .returned (.tuple #[.string (s.read i), .int .i64 0]) ∧ W = w' := by
  have hIs := Lib.hid (refIs_in i h (by omega) (by omega))
  obtain ⟨sv, wv, h⟩ := h
  have c2 := h.blk.cell 2
  have c1 := h.blk.cell 1
  have c0 := h.blk.cell 0
  simp [hd] at c2 c1 c0
  obtain ⟨gs, cs, rfl⟩ := h.safe_form (by omega)
  obtain ⟨ao, cap, rfl, hat⟩ := h.wait_at
  have cS : W.cell? ⟨gs, i, none⟩ = some (.string (s.safe[i]'hi)) := by
    rw [h.safe.cellAt i (by omega)]; exact scells_get s.safe i hi
  have hrd : s.read i = (Pl.lastW s.wait i).getD s.safe[i] := by unfold Pl.Dv.read; simp [List.getD_eq_getElem?_getD, hi]
  rw [hrd]
  have hw1 : IntKind.i64.wrap ((s.wait.length : Int) - 1) = (s.wait.length : Int) - 1 := IntWalk.i64_in _ (by omega)
  clear h hrd
  go_enter Try.func67, Try.ntmps67
  go_wp2_with (go_at_call 97; ((with_reducible refine hIs.out.mono ?_); rintro e w' ⟨rfl, rfl⟩))
  go_loopw [7] (fun v wr => ∃ k : Nat, k ≤ s.wait.length ∧ v = .int .i64 ((k : Int) - 1) ∧ Pl.lastW s.wait i = Pl.lastW (s.wait.take k) i ∧ wr = W) (fun v _ => (intOf v + 1).toNat)
  case atStart => exact ⟨s.wait.length, by omega, rfl, by rw [List.take_of_length_le (Nat.le_refl _)], rfl⟩
  case round =>
    obtain ⟨k, hk, rfl, hL, rfl⟩ := hrel
    cases k with
    | zero =>
      rw [List.take_zero] at hL
      rw [show Pl.lastW [] i = none from rfl] at hL
      replace hL := Lib.hid hL
      have e0 : ((0 : Nat) : Int) - 1 = -1 := rfl
      rw [e0]
      clear hat e0
      go_wp2
      go_ret2
      exact ⟨by rw [hL.out]; rfl, rfl⟩
    | succ j =>
      obtain ⟨g, rfl, hat2⟩ := hat (by omega)
      obtain ⟨x0, x1⟩ := hat2 j (by omega)
      have e0 : ((j + 1 : Nat) : Int) - 1 = (j : Int) := by omega
      rw [List.take_succ_eq_append_getElem (by omega), Pl.lastW_snoc] at hL
      have hj : j < s.wait.length := by omega
      have hw2 : IntKind.i64.wrap ((j : Int) - 1) = (j : Int) - 1 := IntWalk.i64_in _ (by omega)
      rw [e0]
      clear hat hat2
      generalize s.wait[j] = p at x0 x1 hL
      obtain ⟨q, x⟩ := p
      simp only at x0 x1 hL
      by_cases hq : q = i
      · rw [if_pos hq] at hL
        replace hL := Lib.hid hL
        have hq' : ((q : Int) == (i : Int)) = true := by simp; omega
        clear hq
        go_wp2
        go_ret2
        exact ⟨by rw [hL.out]; rfl, rfl⟩
      · rw [if_neg hq] at hL
        have hq' : ((q : Int) == (i : Int)) = false := by simp; omega
        replace hL := Lib.hid hL
        clear hq
        go_wp2
        go_roundw
        case rel => exact ⟨j, by omega, rfl, hL.out, trivial⟩
        case measure => simp [intOf]

set_option maxRecDepth 100000 in
set_option maxHeartbeats 1000000 in
theorem refCrash_gen (tn : Nat) (hcle : tn ≤ 256) (h : RefAt B r s fp W) (u : Value) (kl : List Bool) (hu : BoolsAt W u kl) (hub : 0 < kl.length → ∀ b, u.ownBlock = some b → ¬ fp b) (torn by' : Int) (hcl : (by' < 0 ∧ (tn : Int) = 0) ∨ (0 ≤ by' ∧ by' ≤ 256 ∧ (tn : Int) = by') ∨ (256 < by' ∧ (tn : Int) = 256)) (hw : s.wait.length ≤ 9223372036854775807) (he : s.epoch < 9223372036854775807) :
    Calls Try.prog 31 #[.pointer (some ⟨r, 0, none⟩), u, .int .i64 torn, .int .i64 by'] W fun e w' => (∃ v, e = .returned v) ∧ RefAt B r (s.crash kl torn tn) fp w' ∧ Step fp fp W w' := by
  obtain ⟨sv, wv, h⟩ := h
  obtain ⟨ao, cap, rfl, _⟩ := h.wait_at
  have hk1 := h.wf.wait
  obtain ⟨au, capu, rfl, hu1, hu2, hcu⟩ := hu
  go_enter Try.func31, Try.ntmps31
  go_upto_region 0 with (fail)
  go_cut [3] from 10 (fun v wx => v = .int .i64 (tn : Int) ∧ W = wx)
  case first =>
    go_wp2
    all_goals go_meet
    all_goals
      refine ⟨?_, rfl⟩
      refine val_i64 ?_
      rcases hcl with ⟨_, h2⟩ | ⟨_, _, h2⟩ | ⟨_, h2⟩
      all_goals first | exact h2.symm | (exfalso; omega) | omega
  case rest =>
    obtain ⟨rfl, rfl⟩ := hcut
    clear hcl
    go_wp2
    go_loopw [8, 9] (fun i _ wr => ∃ k : Nat, k ≤ s.wait.length ∧ i = .int .i64 k ∧ RefO B r sv (.slice ao s.wait.length cap) (s.ws (Pl.crashN kl torn tn s.wait k s.safe)) fp wr ∧ Step fp fp W wr) (fun i _ _ => s.wait.length - (intOf i).toNat)
    case atStart => exact ⟨0, by omega, rfl, h, Step.refl h.lt⟩
    case round =>
      obtain ⟨k, hk, rfl, hD, st⟩ := hrel
      clear h
      have c1 : wr.cell? ⟨r, 1, none⟩ = some (.slice ao s.wait.length cap) := hD.blk.cell 1
      by_cases h3 : k < s.wait.length
      · obtain ⟨ao', cap', e1, hat⟩ := hD.wait_at
        obtain ⟨g, e2, hat2⟩ := hat (by show 0 < s.wait.length; omega)
        cases e1
        subst e2
        have hx : wr.cell? ⟨g, k * 2, none⟩ = some (.int .i64 (s.wait[k].1 : Int)) ∧ wr.cell? ⟨g, k * 2 + 1, none⟩ = some (.string s.wait[k].2) := hat2 k h3
        have hpw := hk1 s.wait[k] (List.getElem_mem h3)
        have hll := Pl.crashN_length kl torn tn s.wait k s.safe
        have hnx := Pl.crashN_succ (keep := kl) (torn := torn) (n := tn) h3 s.safe
        have hzs : ∀ y ∈ Pl.crashN kl torn tn s.wait k s.safe, y.size = 256 := hD.wf.size
        clear hat hat2 hk1
        generalize s.wait[k] = p at hx hpw hnx
        obtain ⟨i, x⟩ := p
        obtain ⟨x0, x1⟩ := hx
        obtain ⟨hi, hxs⟩ := hpw
        replace hi : i < (Pl.crashN kl torn tn s.wait k s.safe).length := by rw [hll]; exact hi
        generalize Pl.crashN kl torn tn s.wait k s.safe = l at *
        have hli : (l[i]'hi).size = 256 := hzs _ (List.getElem_mem hi)
        obtain ⟨gs, cs, hsv⟩ := hD.safe_form (by show 0 < l.length; omega)
        replace hsv : sv = .slice (some ⟨gs, 0, none⟩) l.length cs := hsv
        subst hsv
        have hD1 := hD.alloc (.cells #[.int .i64 (i : Int), .string x] 115)
        have c0 : World.cell? (wr.alloc (.cells #[.int .i64 (i : Int), .string x] 115)) ⟨r, 0, none⟩ = some (.slice (some ⟨gs, 0, none⟩) l.length cs) := hD1.blk.cell 0
        have cS : World.cell? (wr.alloc (.cells #[.int .i64 (i : Int), .string x] 115)) ⟨gs, i, none⟩ = some (.string (l[i]'hi)) := by
          rw [hD1.safe.cellAt i (by show i < l.length * 1; omega)]; exact scells_get l i hi
        have zS := hD1.safe.frozenAt i
        have stA := Step.lay hD.lt (.cells #[.int .i64 (i : Int), .string x] 115)
        have hnx' := Lib.hid hnx
        clear hll hzs hnx
        by_cases h4 : (k : Int) = torn
        · have h4' : ((k : Int) == torn) = true := by simpa using h4
          obtain ⟨hD2, st2⟩ := hD1.setSafe (i := i) (x := Pl.tear x (l[i]'hi) tn) rfl (Pl.tear_size hxs hli hcle)
          have hD3 := hD2.drewN 1
          have st3 := (stA.trans st2).drewW 1
          have hN := hnx'.out
          rw [Pl.crash1_torn h4, show l.getD i .empty = l[i]'hi from by simp [List.getD_eq_getElem?_getD, hi]] at hN
          have hte : Pl.tear x (l[i]'hi) tn = x.extract 0 tn ++ (l[i]'hi).extract tn 256 := by unfold Pl.tear; rw [hli]
          rw [hte] at hD3 st3 hN
          replace hN := Lib.hid hN
          clear hD hD1 hD2 st2 h4 hnx' stA hte
          go_wp2
          go_region
          go_wp2
          go_roundw
          case rel => exact ⟨k + 1, by omega, by go_num, by rw [hN.out]; exact hD3, st.trans st3⟩
          case measure => simp [intOf]; omega
        · have h4' : ((k : Int) == torn) = false := by simpa using h4
          by_cases h5 : k < kl.length
          · obtain ⟨bu, ou, rfl, hbu, hcu2⟩ := hcu (by omega)
            have hck : World.cell? (wr.alloc (.cells #[.int .i64 (i : Int), .string x] 115)) ⟨bu, ou + k, none⟩ = some (.bool kl[k]) := ((st.keep.alloc _).cell (hub (by omega) bu rfl) (hcu2 k h5))
            have hgd : kl.getD k false = kl[k] := by simp [List.getD_eq_getElem?_getD, h5]
            clear hcu hcu2
            cases hkk : kl[k]
            · rw [hkk] at hck hgd
              have hN := hnx'.out
              rw [Pl.crash1_lose h4 hgd] at hN
              replace hN := Lib.hid hN
              clear hnx' h4 hgd hkk hD
              go_wp2
              go_roundw
              case rel => exact ⟨k + 1, by omega, by go_num, by rw [hN.out]; exact hD1, st.trans stA⟩
              case measure => simp [intOf]; omega
            · rw [hkk] at hck hgd
              have hN := hnx'.out
              rw [Pl.crash1_keep h4 hgd] at hN
              replace hN := Lib.hid hN
              obtain ⟨hD2, st2⟩ := hD1.setSafe (i := i) rfl hxs
              have hD3 := hD2.drewN 1
              have st3 := (stA.trans st2).drewW 1
              clear hnx' h4 hgd hkk hD hD1 hD2 st2 stA
              go_wp2
              go_region
              go_wp2
              go_roundw
              case rel => exact ⟨k + 1, by omega, by go_num, by rw [hN.out]; exact hD3, st.trans st3⟩
              case measure => simp [intOf]; omega
          · have hgd : kl.getD k false = false := by rw [List.getD_eq_getElem?_getD, List.getElem?_eq_none (by omega)]; rfl
            have hN := hnx'.out
            rw [Pl.crash1_lose h4 hgd] at hN
            replace hN := Lib.hid hN
            have h6 : kl.length ≤ k := by omega
            clear hnx' h4 hgd hD hcu h5
            go_wp2
            go_roundw
            case rel => exact ⟨k + 1, by omega, by go_num, by rw [hN.out]; exact hD1, st.trans stA⟩
            case measure => simp [intOf]; omega
      · obtain rfl : k = s.wait.length := by omega
        have z1 := hD.blk.frozen 1
        have b1 := hD.blk.set 1 (.slice none 0 0)
        simp at b1
        have z2 := b1.frozen 2
        have y2 := b1.cell 2
        have b2 := b1.set 2 (.bool false)
        simp at b2 y2
        have z3 := b2.frozen 3
        have y3 := b2.cell 3
        have b3 := b2.set 3 (.int .i64 0)
        simp at b3 y3
        have z5 := b3.frozen 5
        have y5 := b3.cell 5
        have b5 := b3.set 5 (.int .i64 ((s.epoch : Int) + 1))
        simp at b5 y5
        replace y5 : World.cell? (((wr.setCell ⟨r, 1, none⟩ (.slice none 0 0)).setCell ⟨r, 2, none⟩ (.bool false)).setCell ⟨r, 3, none⟩ (.int .i64 0)) ⟨r, 5, none⟩ = some (.int .i64 (s.epoch : Int)) := y5
        have kp := (keep_r wr r 1 (.slice none 0 0)).trans ((keep_r _ r 2 (.bool false)).trans ((keep_r _ r 3 (.int .i64 0)).trans (keep_r _ r 5 (.int .i64 ((s.epoch : Int) + 1))) (fun _ h _ => h)) (fun _ h _ => h)) (fun _ h _ => h)
        have e5 : ((s.epoch + 1 : Nat) : Int) = (s.epoch : Int) + 1 := by omega
        obtain ⟨hE, sE⟩ := hD.clean (s' := s.crash kl torn tn) kp rfl rfl (by simp only [Pl.Dv.crash]; rw [e5]; exact b5)
        clear b1 b2 b3 b5 kp hD
        go_wp2
        go_end0
        exact ⟨⟨_, rfl⟩, RefAt.of hE, st.trans sE⟩
theorem refCrash_any (h : RefAt B r s fp W) (u : Value) (kl : List Bool) (hu : BoolsAt W u kl) (hub : 0 < kl.length → ∀ b, u.ownBlock = some b → ¬ fp b) (torn by' : Int) (hw : s.wait.length ≤ 9223372036854775807) (he : s.epoch < 9223372036854775807) :
    Calls Try.prog 31 #[.pointer (some ⟨r, 0, none⟩), u, .int .i64 torn, .int .i64 by'] W fun e w' => (∃ v, e = .returned v) ∧ RefAt B r (s.crash kl torn (clamp by')) fp w' ∧ Step fp fp W w' :=
  refCrash_gen (clamp by') (clamp_le by') h u kl hu hub torn by' (by unfold clamp; omega) hw he
end Go.Proofs.Ytndekdgpibipnaa
