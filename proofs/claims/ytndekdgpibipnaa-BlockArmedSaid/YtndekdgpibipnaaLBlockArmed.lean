
/- Walk: the law BlockArmed returns true. Condition: acts that the form's reach lets. -/
import Derived.Test.YtndekdgpibipnaaWDevU
import Derived.Test.YtndekdgpibipnaaActs
namespace Go.Proofs.Ytndekdgpibipnaa
open Go.RowKit

/-- a disk that was armed with n, behind i acts -/
def Arm (n : Int) (i : Nat) (s : Pl.Dv) : Prop := s.safe.length = 40 ∧ s.wait.length ≤ i ∧ s.armed ≤ 9223372036854775807 ∧ ((n ≤ 0 ∧ s.armed = 0 ∧ s.acts = i ∧ s.down = false) ∨ (0 < n ∧ (i : Int) < n ∧ (s.armed : Int) = n - i ∧ s.acts = i ∧ s.down = false) ∨ (0 < n ∧ n ≤ i ∧ (s.acts : Int) = n ∧ s.down = true))
/-- what an act is answered by -/
def armE (n : Int) (i : Nat) : Int := if n ≤ 0 ∨ (i : Int) + 1 < n then 0 else 4
theorem Arm.act {n : Int} {i : Nat} {s : Pl.Dv} (h : Arm n i s) (hd : s.down = false) {s' : Pl.Dv} (hs : s'.safe.length = 40) (hw : s'.wait.length ≤ i + 1) (ha : s'.acts = s.act.acts) (hr : s'.armed = s.act.armed) (hD : s'.down = s.act.down) : Arm n (i + 1) s' ∧ s.act.err = armE n i := by
  obtain ⟨h1, h2, h4, h3⟩ := h
  have e1 : s.act.acts = s.acts + 1 := rfl
  have e2 : s.act.armed = s.armed - 1 := rfl
  have e3 : s.act.down = if s.armed = 0 then s.down else decide (s.armed = 1) := rfl
  rcases h3 with ⟨a, b, c, e⟩ | ⟨a, b, c, e, f⟩ | ⟨a, b, c, e⟩
  · rw [if_pos b, hd] at e3
    refine ⟨⟨hs, hw, by omega, .inl ⟨a, by omega, by omega, by rw [hD, e3]⟩⟩, ?_⟩
    rw [Pl.Dv.err_up e3]; unfold armE; rw [if_pos (.inl a)]
  · have hne : s.armed ≠ 0 := by omega
    rw [if_neg hne] at e3
    by_cases h5 : (i : Int) + 1 < n
    · have e5 : decide (s.armed = 1) = false := by simp; omega
      rw [e5] at e3
      refine ⟨⟨hs, hw, by omega, .inr (.inl ⟨a, by omega, by omega, by omega, by rw [hD, e3]⟩)⟩, ?_⟩
      rw [Pl.Dv.err_up e3]; unfold armE; rw [if_pos (.inr h5)]
    · have e5 : decide (s.armed = 1) = true := by simp; omega
      rw [e5] at e3
      refine ⟨⟨hs, hw, by omega, .inr (.inr ⟨a, by omega, by omega, by rw [hD, e3]⟩)⟩, ?_⟩
      rw [Pl.Dv.err_down e3]; unfold armE; rw [if_neg (by omega)]
  · rw [hd] at e; cases e
theorem Arm.dead {n : Int} {i : Nat} {s : Pl.Dv} (h : Arm n i s) (hd : s.down = true) : Arm n (i + 1) s ∧ armE n i = 4 := by
  obtain ⟨h1, h2, h4, h3⟩ := h
  rcases h3 with ⟨a, b, c, e⟩ | ⟨a, b, c, e, f⟩ | ⟨a, b, c, e⟩
  · rw [hd] at e; cases e
  · rw [hd] at f; cases f
  · refine ⟨⟨h1, by omega, h4, .inr (.inr ⟨a, by omega, c, hd⟩)⟩, ?_⟩
    unfold armE; rw [if_neg (by omega)]

theorem Arm.up {n : Int} {i : Nat} {s : Pl.Dv} (h : Arm n (i + 1) s) (h2 : n ≤ 0 ∨ (i : Int) + 1 < n) : (s.acts : Int) = (i : Int) + 1 ∧ s.down = false := by
  obtain ⟨_, _, _, h3⟩ := h
  rcases h3 with ⟨a, b, c, e⟩ | ⟨a, b, c, e, f⟩ | ⟨a, b, c, e⟩
  · exact ⟨by omega, e⟩
  · exact ⟨by omega, f⟩
  · omega
theorem Arm.gone {n : Int} {i : Nat} {s : Pl.Dv} (h : Arm n (i + 1) s) (h2 : ¬ (n ≤ 0 ∨ (i : Int) + 1 < n)) : (s.acts : Int) = n ∧ s.down = true := by
  obtain ⟨_, _, _, h3⟩ := h
  rcases h3 with ⟨a, b, c, e⟩ | ⟨a, b, c, e, f⟩ | ⟨a, b, c, e⟩
  · omega
  · omega
  · exact ⟨c, e⟩

variable {B d : Nat} {s : Pl.Dv} {fp : Nat → Prop} {W : World} {n : Int} {i : Nat}
theorem armed_write (x : ByteArray) (hx : x.size = 256) (h : DevAt B d s fp W) (ha : Arm n i s) (hi : i ≤ 2932031007317) (hB : B ≤ W.heap.size) :
    Calls Try.prog 15 #[.pointer (some ⟨d, 0, none⟩), .int .i64 5, .string x] W fun e w' => e = .returned (.int .i64 (armE n i)) ∧ ∃ s' fp', DevAt B d s' fp' w' ∧ Step fp fp' W w' ∧ Arm n (i + 1) s' := by
  cases hd : s.down
  · obtain ⟨a1, a2⟩ := ha.act hd (s' := (s.put 5 x).act) ha.1 (by show (s.wait ++ [(5, x)]).length ≤ i + 1; have := ha.2.1; simp; omega) rfl rfl rfl
    have h5 : s.acts ≤ i := by have := ha.2.2.2; omega
    have h6 : s.armed ≤ 9223372036854775807 := ha.2.2.1
    refine (write_ok 5 x h hd (by rw [ha.1]; omega) hx hB (by rw [ha.1]; omega) (by have := ha.2.1; omega) (by omega) h6).mono ?_
    rintro e w' ⟨rfl, fp', hD, st⟩
    exact ⟨by rw [← a2]; rfl, _, _, hD, st, a1⟩
  · obtain ⟨a1, a2⟩ := ha.dead hd
    refine (write_dead 5 x h hd).mono ?_
    rintro e w' ⟨rfl, rfl⟩
    exact ⟨by rw [a2], _, _, h, Step.refl h.lt, a1⟩
theorem armed_sync (h : DevAt B d s fp W) (ha : Arm n i s) (hi : i ≤ 2932031007317) :
    Calls Try.prog 17 #[.pointer (some ⟨d, 0, none⟩)] W fun e w' => e = .returned (.int .i64 (armE n i)) ∧ ∃ s' fp', DevAt B d s' fp' w' ∧ Step fp fp' W w' ∧ Arm n (i + 1) s' := by
  cases hd : s.down
  · have h5 : s.acts ≤ i := by have := ha.2.2.2; omega
    have h6 : s.armed ≤ 9223372036854775807 := ha.2.2.1
    have h7 : s.wait.length ≤ i := ha.2.1
    cases hg : s.act.down
    · obtain ⟨a1, a2⟩ := ha.act hd (s' := s.act.flush) (by show (Pl.setAll s.safe s.wait).length = 40; rw [Pl.setAll_length, ha.1]) (Nat.zero_le _) rfl rfl rfl
      refine (sync_ok h hd (by omega) h6 hg (by omega)).mono ?_
      rintro e w' ⟨rfl, hD, st⟩
      exact ⟨by rw [← a2, Pl.Dv.err_up hg], _, _, hD, st, a1⟩
    · obtain ⟨a1, a2⟩ := ha.act hd (s' := s.act) ha.1 (by show s.wait.length ≤ i + 1; omega) rfl rfl rfl
      refine (sync_gone h hd (by omega) h6 hg).mono ?_
      rintro e w' ⟨rfl, hD, st⟩
      exact ⟨by rw [← a2, Pl.Dv.err_down hg], _, _, hD, st, a1⟩
  · obtain ⟨a1, a2⟩ := ha.dead hd
    refine (sync_dead h hd).mono ?_
    rintro e w' ⟨rfl, rfl⟩
    exact ⟨by rw [a2], _, _, h, Step.refl h.lt, a1⟩

set_option maxRecDepth 100000 in
set_option maxHeartbeats 2000000 in
theorem armed_any (n : Int) (v : Value) (l : List AcT) (w : World) (hn1 : -9223372036854775808 ≤ n) (hn2 : n ≤ 9223372036854775807) (hv : ActsAt w v l) (hl : l.length ≤ 2932031007317) :
    Calls Try.prog 3 #[.int .i64 n, v] w fun e w' => e = .returned (.bool true) ∧ Below w.heap.size w w' := by
  have hv0 := hv
  obtain ⟨ao, cap, rfl, c1, c2, hat⟩ := hv
  have hnew := Lib.hid (new40_any w)
  go_enter Try.func3, Try.ntmps3
  go_wp2_with (first
    | (go_at_call 13; ((with_reducible refine hnew.out.mono ?_); rintro e w1 ⟨d, fp1, rfl, hD, hb1⟩))
    | (go_at_call 14; ((with_reducible refine (arm_any n hD).mono ?_); rintro e w2 ⟨⟨_, rfl⟩, hD2, st2⟩)))
  go_loopw [6, 7, 8, 9, 10] (fun _ f j _ _ wr => ∃ (i : Nat) (s : Pl.Dv) (fp : Nat → Prop) (fi : Int), i ≤ l.length ∧ j = .int .i64 i ∧ f = .int .i64 fi ∧ ((n ≤ 0 ∧ fi = i) ∨ (0 < n ∧ fi = min (i : Int) (n - 1))) ∧ DevAt w.heap.size d s fp wr ∧ Arm n i s ∧ Below w.heap.size w wr) (fun _ _ j _ _ _ => l.length - (intOf j).toNat)
  case atStart =>
    refine ⟨0, _, _, 0, by omega, rfl, rfl, by omega, hD2, ⟨by simp [Pl.Dv.arm, Pl.Dv.new], by simp [Pl.Dv.arm, Pl.Dv.new], by simp [Pl.Dv.arm]; omega, ?_⟩, below_step hb1 (Nat.le_refl _) hD st2⟩
    by_cases h0 : n ≤ 0
    · exact .inl ⟨h0, by simp [Pl.Dv.arm]; omega, rfl, rfl⟩
    · exact .inr (.inl ⟨by omega, by simp; omega, by simp [Pl.Dv.arm]; omega, rfl, rfl⟩)
  case round =>
    obtain ⟨i, s, fp, fi, hi, rfl, rfl, hfi, hD, ha, hb⟩ := hrel
    clear hD2 st2 hb1
    by_cases h1 : i < l.length
    · obtain ⟨b, off, rfl, hlt, hc⟩ := hat (by omega)
      obtain ⟨x0, _, x2, _⟩ := (hc i h1).below hlt hb
      clear hc hat
      generalize l[i] = x at x0 x2
      have hS := Lib.hid (armed_sync hD ha (by omega))
      have hw1 : IntKind.i64.wrap (fi + 1) = fi + 1 := IntWalk.i64_in _ (by omega)
      by_cases h2 : n ≤ 0 ∨ (i : Int) + 1 < n
      · have hE : armE n i = 0 := by unfold armE; rw [if_pos h2]
        rw [hE] at hS
        cases hp : (x.kind.tmod 2 == 0)
        · go_wp2_with (first
            | (go_at_call 16; ((with_reducible refine (filled256_any _ _).mono ?_); rintro e w3 ⟨rfl, hb3⟩; have hD3 := hD.beyond hb3; have hbb3 := hb.trans (hb3.mono hb.size); have hW := armed_write (Pl.filled x.num 256) (Pl.filled_size x.num 256) hD3 ha (by omega) hbb3.size; rw [hE] at hW; replace hW := Lib.hid hW))
            | (go_at_call 15; ((with_reducible refine hW.out.mono ?_); rintro e w4 ⟨rfl, s4, fp4, hD4, st4, ha4⟩; have ⟨q1, q2⟩ := ha4.up h2; have hAc := Lib.hid (acts_is hD4 q1); have hUp := Lib.hid (up_is hD4 q2)))
            | (go_at_call 17; ((with_reducible refine hS.out.mono ?_); rintro e w4 ⟨rfl, s4, fp4, hD4, st4, ha4⟩; have ⟨q1, q2⟩ := ha4.up h2; have hAc := Lib.hid (acts_is hD4 q1); have hUp := Lib.hid (up_is hD4 q2)))
            | (go_at_call 18; ((with_reducible refine hAc.out.mono ?_); rintro e w5 ⟨rfl, rfl⟩))
            | (go_at_call 19; ((with_reducible refine hUp.out.mono ?_); rintro e w5 ⟨rfl, rfl⟩)))
          all_goals
            go_roundw
            case rel => exact ⟨i + 1, s4, fp4, fi + 1, by omega, by go_num, by go_num, by omega, hD4, ha4, below_step hb (Nat.le_refl _) hD st4⟩
            case measure => simp [intOf]; omega
        · go_wp2_with (first
            | (go_at_call 16; ((with_reducible refine (filled256_any _ _).mono ?_); rintro e w3 ⟨rfl, hb3⟩; have hD3 := hD.beyond hb3; have hbb3 := hb.trans (hb3.mono hb.size); have hW := armed_write (Pl.filled x.num 256) (Pl.filled_size x.num 256) hD3 ha (by omega) hbb3.size; rw [hE] at hW; replace hW := Lib.hid hW))
            | (go_at_call 15; ((with_reducible refine hW.out.mono ?_); rintro e w4 ⟨rfl, s4, fp4, hD4, st4, ha4⟩; have ⟨q1, q2⟩ := ha4.up h2; have hAc := Lib.hid (acts_is hD4 q1); have hUp := Lib.hid (up_is hD4 q2)))
            | (go_at_call 17; ((with_reducible refine hS.out.mono ?_); rintro e w4 ⟨rfl, s4, fp4, hD4, st4, ha4⟩; have ⟨q1, q2⟩ := ha4.up h2; have hAc := Lib.hid (acts_is hD4 q1); have hUp := Lib.hid (up_is hD4 q2)))
            | (go_at_call 18; ((with_reducible refine hAc.out.mono ?_); rintro e w5 ⟨rfl, rfl⟩))
            | (go_at_call 19; ((with_reducible refine hUp.out.mono ?_); rintro e w5 ⟨rfl, rfl⟩)))
          all_goals
            go_roundw
            case rel => exact ⟨i + 1, s4, fp4, fi + 1, by omega, by go_num, by go_num, by omega, hD4, ha4, below_step hbb3 (Nat.le_refl _) hD3 st4⟩
            case measure => simp [intOf]; omega
      · have hE : armE n i = 4 := by unfold armE; rw [if_neg h2]
        rw [hE] at hS
        cases hp : (x.kind.tmod 2 == 0)
        · go_wp2_with (first
            | (go_at_call 16; ((with_reducible refine (filled256_any _ _).mono ?_); rintro e w3 ⟨rfl, hb3⟩; have hD3 := hD.beyond hb3; have hbb3 := hb.trans (hb3.mono hb.size); have hW := armed_write (Pl.filled x.num 256) (Pl.filled_size x.num 256) hD3 ha (by omega) hbb3.size; rw [hE] at hW; replace hW := Lib.hid hW))
            | (go_at_call 15; ((with_reducible refine hW.out.mono ?_); rintro e w4 ⟨rfl, s4, fp4, hD4, st4, ha4⟩; have ⟨q1, q2⟩ := ha4.gone h2; have hAc := Lib.hid (acts_is hD4 q1); have hUp := Lib.hid (up_is hD4 q2)))
            | (go_at_call 17; ((with_reducible refine hS.out.mono ?_); rintro e w4 ⟨rfl, s4, fp4, hD4, st4, ha4⟩; have ⟨q1, q2⟩ := ha4.gone h2; have hAc := Lib.hid (acts_is hD4 q1); have hUp := Lib.hid (up_is hD4 q2)))
            | (go_at_call 18; ((with_reducible refine hAc.out.mono ?_); rintro e w5 ⟨rfl, rfl⟩))
            | (go_at_call 19; ((with_reducible refine hUp.out.mono ?_); rintro e w5 ⟨rfl, rfl⟩)))
          all_goals
            go_roundw
            case rel => exact ⟨i + 1, s4, fp4, fi, by omega, by go_num, by go_num, by omega, hD4, ha4, below_step hb (Nat.le_refl _) hD st4⟩
            case measure => simp [intOf]; omega
        · go_wp2_with (first
            | (go_at_call 16; ((with_reducible refine (filled256_any _ _).mono ?_); rintro e w3 ⟨rfl, hb3⟩; have hD3 := hD.beyond hb3; have hbb3 := hb.trans (hb3.mono hb.size); have hW := armed_write (Pl.filled x.num 256) (Pl.filled_size x.num 256) hD3 ha (by omega) hbb3.size; rw [hE] at hW; replace hW := Lib.hid hW))
            | (go_at_call 15; ((with_reducible refine hW.out.mono ?_); rintro e w4 ⟨rfl, s4, fp4, hD4, st4, ha4⟩; have ⟨q1, q2⟩ := ha4.gone h2; have hAc := Lib.hid (acts_is hD4 q1); have hUp := Lib.hid (up_is hD4 q2)))
            | (go_at_call 17; ((with_reducible refine hS.out.mono ?_); rintro e w4 ⟨rfl, s4, fp4, hD4, st4, ha4⟩; have ⟨q1, q2⟩ := ha4.gone h2; have hAc := Lib.hid (acts_is hD4 q1); have hUp := Lib.hid (up_is hD4 q2)))
            | (go_at_call 18; ((with_reducible refine hAc.out.mono ?_); rintro e w5 ⟨rfl, rfl⟩))
            | (go_at_call 19; ((with_reducible refine hUp.out.mono ?_); rintro e w5 ⟨rfl, rfl⟩)))
          all_goals
            go_roundw
            case rel => exact ⟨i + 1, s4, fp4, fi, by omega, by go_num, by go_num, by omega, hD4, ha4, below_step hbb3 (Nat.le_refl _) hD3 st4⟩
            case measure => simp [intOf]; omega
    · obtain rfl : i = l.length := by omega
      by_cases h0 : n ≤ 0
      · obtain rfl : fi = (l.length : Int) := by omega
        clear hfi
        go_wp2
        go_ret
        exact ⟨ret_bool rfl, hb⟩
      · have h3 : 0 < n := by omega
        have hw1 : IntKind.i64.wrap (n - 1) = n - 1 := IntWalk.i64_in _ (by omega)
        by_cases h5 : (l.length : Int) ≤ n - 1
        · obtain rfl : fi = (l.length : Int) := by omega
          have e1 : min (l.length : Int) (n - 1) = l.length := by omega
          clear hfi h0
          go_wp2
          all_goals
            go_ret
            exact ⟨ret_bool (by simp; try omega), hb⟩
        · obtain rfl : fi = n - 1 := by omega
          have e1 : min (l.length : Int) (n - 1) = n - 1 := by omega
          clear hfi h0
          go_wp2
          all_goals
            go_ret
            exact ⟨ret_bool (by simp; try omega), hb⟩
end Go.Proofs.Ytndekdgpibipnaa
