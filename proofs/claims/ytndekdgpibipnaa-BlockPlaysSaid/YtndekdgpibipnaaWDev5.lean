
/- Walks: a disk of blocks in memory: Crash. Condition: lengths that memory lets. -/
import Derived.Test.YtndekdgpibipnaaWDevU
import Derived.Test.YtndekdgpibipnaaActs
import Derived.Deep.DeepCutAuto
import Derived.WalkMore
namespace Go.Proofs.Ytndekdgpibipnaa
open Go.RowKit

theorem val_i64 {a b : Int} (h : a = b) : Value.int .i64 a = .int .i64 b := by rw [h]
/-- how many bytes of a block -/
def clamp (n : Int) : Nat := (min (max n 0) 256).toNat
theorem clamp_le (n : Int) : clamp n ≤ 256 := by unfold clamp; omega

variable {B d gs cs m : Nat} {vp : Value} {s : Pl.Dv} {fp : Nat → Prop} {W W' : World}
set_option maxRecDepth 100000 in
set_option maxHeartbeats 1000000 in
theorem crash_gen (tn : Nat) (hcle : tn ≤ 256) (h : DevAt B d s fp W) (u : Value) (kl : List Bool) (hu : BoolsAt W u kl) (hub : 0 < kl.length → ∀ b, u.ownBlock = some b → ¬ fp b) (torn by' : Int) (hcl : (by' < 0 ∧ (tn : Int) = 0) ∨ (0 ≤ by' ∧ by' ≤ 256 ∧ (tn : Int) = by') ∨ (256 < by' ∧ (tn : Int) = 256)) (hw : s.wait.length ≤ 9223372036854775807) (he : s.epoch < 9223372036854775807) :
    Calls Try.prog 20 #[.pointer (some ⟨d, 0, none⟩), u, .int .i64 torn, .int .i64 by'] W fun e w' => (∃ v, e = .returned v) ∧ DevAt B d (s.crash kl torn tn) fp w' ∧ Step fp fp W w' := by
  obtain ⟨gs, cs, vp, m, h⟩ := h
  have c1 := h.blk.cell 1
  simp at c1
  obtain ⟨ao, cap, hvp, _⟩ := h.wait_at
  subst hvp
  have hk1 := h.wf.wait
  obtain ⟨au, capu, rfl, hu1, hu2, hcu⟩ := hu
  go_enter Try.func20, Try.ntmps20
  go_step3
  go_upto_region 1 with (fail)
  go_cut [3] from 10 (fun v wx => v = .int .i64 (tn : Int) ∧ W = wx)
  case first =>
    go_wp2
    all_goals go_meet
    all_goals
      refine ⟨?_, rfl⟩
      refine val_i64 ?_
      rcases hcl with ⟨_, h2⟩ | ⟨_, _, h2⟩ | ⟨_, h2⟩
      all_goals first | exact h2.symm | (exfalso; omega) | omega
  case rest =>
    obtain ⟨rfl, rfl⟩ := hcut
    clear hcl
    go_wp2
    go_step3
    go_wp2
    go_loopw [8, 9, 20] (fun _ _ i wr => ∃ k : Nat, k ≤ s.wait.length ∧ i = .int .i64 k ∧ DevO B d gs cs (.slice ao s.wait.length cap) m (s.ws (Pl.crashN kl torn tn s.wait k s.safe)) fp wr ∧ Step fp fp W wr) (fun _ _ i _ => s.wait.length - (intOf i).toNat)
    case atStart => exact ⟨0, by omega, rfl, h, Step.refl h.lt⟩
    case round =>
      obtain ⟨k, hk, rfl, hD, st⟩ := hrel
      clear h
      by_cases h3 : k < s.wait.length
      · obtain ⟨ao', cap', e1, hat⟩ := hD.wait_at
        obtain ⟨g, e2, hat2⟩ := hat (by show 0 < s.wait.length; omega)
        cases e1
        subst e2
        have hx : wr.cell? ⟨g, k * 2, none⟩ = some (.int .i64 (s.wait[k].1 : Int)) ∧ wr.cell? ⟨g, k * 2 + 1, none⟩ = some (.string s.wait[k].2) := hat2 k h3
        have hpw := hk1 s.wait[k] (List.getElem_mem h3)
        have hll := Pl.crashN_length kl torn tn s.wait k s.safe
        have hnx := Pl.crashN_succ (keep := kl) (torn := torn) (n := tn) h3 s.safe
        have hzs : ∀ y ∈ Pl.crashN kl torn tn s.wait k s.safe, y.size = 256 := hD.wf.size
        clear hat hat2 hk1
        generalize s.wait[k] = p at hx hpw hnx
        obtain ⟨i, x⟩ := p
        obtain ⟨x0, x1⟩ := hx
        obtain ⟨hi, hxs⟩ := hpw
        replace hi : i < (Pl.crashN kl torn tn s.wait k s.safe).length := by rw [hll]; exact hi
        generalize Pl.crashN kl torn tn s.wait k s.safe = l at *
        have hli : (l[i]'hi).size = 256 := hzs _ (List.getElem_mem hi)
        have hD1 := hD.alloc (.cells #[.int .i64 (i : Int), .string x] 95)
        have c0 : World.cell? (wr.alloc (.cells #[.int .i64 (i : Int), .string x] 95)) ⟨d, 0, none⟩ = some (.slice (some ⟨gs, 0, none⟩) l.length cs) := hD1.blk.cell 0
        have cS : World.cell? (wr.alloc (.cells #[.int .i64 (i : Int), .string x] 95)) ⟨gs, i, none⟩ = some (.string (l[i]'hi)) := hD1.safe_at i hi
        have zS := hD1.safe.frozenAt i
        have stA := Step.lay hD.lt (.cells #[.int .i64 (i : Int), .string x] 95)
        have hnx' := Lib.hid hnx
        clear hll hzs hnx
        by_cases h4 : (k : Int) = torn
        · have h4' : ((k : Int) == torn) = true := by simpa using h4
          obtain ⟨hD2, st2⟩ := hD1.setSafe (i := i) (x := Pl.tear x (l[i]'hi) tn) (Pl.tear_size hxs hli hcle)
          have hD3 := hD2.drewN 1
          have st3 := (stA.trans st2).drewW 1
          have hN := hnx'.out
          rw [Pl.crash1_torn h4, show l.getD i .empty = l[i]'hi from by simp [List.getD_eq_getElem?_getD, hi]] at hN
          have hte : Pl.tear x (l[i]'hi) tn = x.extract 0 tn ++ (l[i]'hi).extract tn 256 := by unfold Pl.tear; rw [hli]
          rw [hte] at hD3 st3 hN
          replace hN := Lib.hid hN
          clear hD hD1 hD2 st2 h4 hnx' stA hte
          go_wp2
          go_region
          go_wp2
          go_roundw
          case rel => exact ⟨k + 1, by omega, by go_num, by rw [hN.out]; exact hD3, st.trans st3⟩
          case measure => simp [intOf]; omega
        · have h4' : ((k : Int) == torn) = false := by simpa using h4
          by_cases h5 : k < kl.length
          · obtain ⟨bu, ou, rfl, hbu, hcu2⟩ := hcu (by omega)
            have hck : World.cell? (wr.alloc (.cells #[.int .i64 (i : Int), .string x] 95)) ⟨bu, ou + k, none⟩ = some (.bool kl[k]) := ((st.keep.alloc _).cell (hub (by omega) bu rfl) (hcu2 k h5))
            have hgd : kl.getD k false = kl[k] := by simp [List.getD_eq_getElem?_getD, h5]
            clear hcu hcu2
            cases hkk : kl[k]
            · rw [hkk] at hck hgd
              have hN := hnx'.out
              rw [Pl.crash1_lose h4 hgd] at hN
              replace hN := Lib.hid hN
              clear hnx' h4 hgd hkk hD
              go_wp2
              go_roundw
              case rel => exact ⟨k + 1, by omega, by go_num, by rw [hN.out]; exact hD1, st.trans stA⟩
              case measure => simp [intOf]; omega
            · rw [hkk] at hck hgd
              have hN := hnx'.out
              rw [Pl.crash1_keep h4 hgd] at hN
              replace hN := Lib.hid hN
              obtain ⟨hD2, st2⟩ := hD1.setSafe (i := i) hxs
              have hD3 := hD2.drewN 1
              have st3 := (stA.trans st2).drewW 1
              clear hnx' h4 hgd hkk hD hD1 hD2 st2 stA
              go_wp2
              go_region
              go_wp2
              go_roundw
              case rel => exact ⟨k + 1, by omega, by go_num, by rw [hN.out]; exact hD3, st.trans st3⟩
              case measure => simp [intOf]; omega
          · have hgd : kl.getD k false = false := by rw [List.getD_eq_getElem?_getD, List.getElem?_eq_none (by omega)]; rfl
            have hN := hnx'.out
            rw [Pl.crash1_lose h4 hgd] at hN
            replace hN := Lib.hid hN
            have h6 : kl.length ≤ k := by omega
            clear hnx' h4 hgd hD hcu h5
            go_wp2
            go_roundw
            case rel => exact ⟨k + 1, by omega, by go_num, by rw [hN.out]; exact hD1, st.trans stA⟩
            case measure => simp [intOf]; omega
      · obtain rfl : k = s.wait.length := by omega
        have hP := Lib.hid (forget_any (DevAt.of hD))
        clear hD
        go_wp2_with (go_at_call 52; ((with_reducible refine hP.out.mono ?_); rintro e w2 ⟨⟨_, rfl⟩, ⟨gs2, cs2, vp2, m2, hF⟩, sF⟩; have z3 := hF.blk.frozen 3; have y3 := hF.blk.cell 3; have b1 := hF.blk.set 3 (.bool false); simp at b1 y3; have z4 := b1.frozen 4; have y4 := b1.cell 4; have b2 := b1.set 4 (.int .i64 0); simp at b2 y4; have z6 := b2.frozen 6; have y6 := b2.cell 6; have b3 := b2.set 6 (.int .i64 ((s.epoch : Int) + 1)); simp at b3 y6; replace y6 : World.cell? ((w2.setCell ⟨d, 3, none⟩ (.bool false)).setCell ⟨d, 4, none⟩ (.int .i64 0)) ⟨d, 6, none⟩ = some (.int .i64 (s.epoch : Int)) := y6))
        have kp := (keep_d w2 d 3 (.bool false)).trans ((keep_d _ d 4 (.int .i64 0)).trans (keep_d _ d 6 (.int .i64 ((s.epoch : Int) + 1))) (fun _ h _ => h)) (fun _ h _ => h)
        have e5 : ((s.epoch + 1 : Nat) : Int) = (s.epoch : Int) + 1 := by omega
        obtain ⟨hE, sE⟩ := hF.turn (s' := s.crash kl torn tn) kp rfl rfl (by simp only [Pl.Dv.crash]; rw [e5]; exact b3)
        rw [Exit.noGoto_normal]
        go_end0
        exact ⟨⟨_, rfl⟩, ⟨_, _, _, _, hE⟩, (st.trans sF).trans sE⟩
theorem crash_any (h : DevAt B d s fp W) (u : Value) (kl : List Bool) (hu : BoolsAt W u kl) (hub : 0 < kl.length → ∀ b, u.ownBlock = some b → ¬ fp b) (torn by' : Int) (hw : s.wait.length ≤ 9223372036854775807) (he : s.epoch < 9223372036854775807) :
    Calls Try.prog 20 #[.pointer (some ⟨d, 0, none⟩), u, .int .i64 torn, .int .i64 by'] W fun e w' => (∃ v, e = .returned v) ∧ DevAt B d (s.crash kl torn (clamp by')) fp w' ∧ Step fp fp W w' :=
  crash_gen (clamp by') (clamp_le by') h u kl hu hub torn by' (by unfold clamp; omega) hw he
end Go.Proofs.Ytndekdgpibipnaa
