
/- Walks: the runs of blocks, as a sequence. Condition: blocks that a root may have. -/
import Derived.Test.YtndekdgpibipnaaQGu
import Derived.Test.YtndekdgpibipnaaQGn
import Derived.Deep.QuietTactic
import Derived.Deep.DeepCutAuto
import Derived.BigQuiet
import Derived.IntWalk
import Derived.Lib.Hide

namespace Go.Proofs.Ytndekdgpibipnaa
open Go.RowKit Go.Shelf

attribute [local go_sem] Oper.semAt_some

def encR (x : Int × Nat) : Array Value := #[.int .i64 x.1, .int .i64 (x.2 : Int)]

theorem runs_in (n : Nat) (ao : Option Addr) (len cap : Nat) (w : World) :
    CallsIn Fence.wide n Try.prog 58 #[.slice ao len cap] w fun e w' => e = .returned (.func (.func 90) #[] #[.pointer (some ⟨w.heap.size, 0, none⟩)]) ∧ w' = w.alloc (.cells #[.slice ao len cap] 41) := by
  refine callsIn_of_wp Try.func58 rfl trivial ?_ rfl
  simp only [Try.ntmps58, List.size_toArray, List.length_cons, List.length_nil, Nat.reduceAdd, Nat.reduceSub, Array.replicate_succ, Array.replicate_zero, List.push_toArray, List.append_toArray, List.nil_append, List.cons_append]
  gi_wp2
  go_ret
  exact ⟨rfl, rfl⟩

/-- what a slice that is cut off from its beginning holds in its variable -/
structure Rest (W : World) (b rb off len i : Nat) (ao : Option Addr) (cap : Nat) : Prop where
  box : Boxed W b 41 (.slice ao (len - i) cap)
  le : len - i ≤ cap
  cap : cap ≤ 9223372036854775807
  at' : i < len → ao = some ⟨rb, off + i, none⟩
def lenAt (b : Nat) (W : World) : Nat := match W.cell? ⟨b, 0, none⟩ with | some (.slice _ n _) => n | _ => 0

set_option maxRecDepth 100000 in
set_option maxHeartbeats 2000000 in
theorem runs1_seq (n b rb off : Nat) (ao : Option Addr) (cap : Nat) (l : List Int) (w : World) (hl : l.length ≤ 16384) (hlo : ∀ x ∈ l, 0 ≤ x ∧ x ≤ 16384)
    (hR : Rest w b rb off l.length 0 ao cap) (hrb : rb ≠ b) (hrow : ∀ i (hi : i < l.length), w.cell? ⟨rb, off + i, none⟩ = some (.int .i64 l[i])) :
    SeqG Fence.wide n Try.prog 90 #[.pointer (some ⟨b, 0, none⟩)] encR (fun k => k = b ∨ (0 < l.length ∧ k = rb)) (fun k => 0 < l.length ∧ k = rb) (fun ys => ys = Pl.runsOf l) (fun ys => ys <+: Pl.runsOf l) w := by
  intro lp J Jx W fp hkm hd hlt hJ hJx hY h0
  have hB0 := hkm.boxed (.inl rfl) hR.box
  have hrow1 := Lib.hid (fun i (hi : i < l.length) => hkm.cell (b := rb) (o := off + i) (.inr ⟨by omega, rfl⟩) (hrow i hi))
  have hbl := hB0.lt
  have hrbl : Hid (0 < l.length → rb < W.heap.size) := Lib.hid (fun h => by
    have := hrow1.out 0 h
    obtain ⟨o, ho, _⟩ := not_walk_of_cell this
    exact (Array.getElem?_eq_some_iff.1 ho).1)
  refine callsIn_of_wp Try.func90 rfl trivial (wpIn_wide.2 ?_) rfl
  simp only [Try.ntmps90, List.size_toArray, List.length_cons, List.length_nil, Nat.reduceAdd, Nat.reduceSub, Array.replicate_succ, Array.replicate_zero, List.push_toArray, List.append_toArray, List.nil_append, List.cons_append]
  go_wp2
  go_loopw [3] (fun _ W' => ∃ (i : Nat) (pre : List (Int × Nat)) (ao' : Option Addr) (cap' : Nat), i ≤ l.length ∧ Pl.runsOf l = pre ++ Pl.runsOf (l.drop i) ∧ Rest W' b rb off l.length i ao' cap' ∧ Keep (fun k => 0 < l.length ∧ k = rb) W W' ∧ ∃ fp', (∀ z, fp' z → fp z ∨ W.heap.size ≤ z) ∧ (∀ z, fp' z → z < W'.heap.size) ∧ J pre fp' W')
    (fun _ W' => lenAt b W')
  case atStart => exact ⟨0, [], ao, cap, by omega, by simp, ⟨hB0, hR.le, hR.cap, hR.at'⟩, Keep.refl _ _, fp, fun _ h => .inl h, hlt, h0⟩
  case round =>
    obtain ⟨i, pre, ao', cap', hi, hpre, hRr, hkp, fp', hn', hlt', hJ'⟩ := hrel
    have cB := hRr.box.cell
    have hlA : lenAt b wr = l.length - i := by unfold lenAt; rw [cB]
    by_cases hil : i < l.length
    case neg =>
      obtain rfl : i = l.length := by omega
      have e0 : l.length - l.length = 0 := by omega
      rw [e0] at cB
      rw [List.drop_length, Pl.runsOf_nil, List.append_nil] at hpre
      clear hlA
      go_wp2
      go_end0
      exact SeqEnd.all hkp hn' hlt' pre hpre.symm hJ'
    have e1 := hRr.at' hil
    subst e1
    have r1 := hRr.le
    have r2 := hRr.cap
    have hd1 := Pl.runsOf_drop hil
    have hup1 := Pl.upR_drop_pos hil
    have hup2 := Pl.upR_le l[i] (l.drop i)
    rw [List.length_drop] at hup2
    have hfr := hRr.box.frozen
    have hrw := Lib.hid (fun k (hk : i + k < l.length) => hkp.cell (b := rb) (o := off + (i + k)) ⟨by omega, rfl⟩ (hrow1.out (i + k) hk))
    have hab := hlo l[i] (List.getElem_mem hil)
    have hbd := Lib.hid (fun k (hk : i + k < l.length) => hlo l[i + k] (List.getElem_mem hk))
    have hgo : Hid (∀ k (hk : i + k < l.length), k ≤ Pl.upR l[i] (l.drop i) → (l[i + k] = l[i] + (k : Int) ↔ k < Pl.upR l[i] (l.drop i))) := Lib.hid (fun k hk hle => by
      have h1 : k < (l.drop i).length := by rw [List.length_drop]; omega
      have := Pl.upR_lt (a := l[i]) (l := l.drop i) (j := k) h1 hle
      rwa [List.getElem_drop] at this)
    have ha0 := hrw.out 0 (by omega)
    simp only [Nat.add_zero] at ha0
    have hnl : l.length - i = (l.drop i).length := by rw [List.length_drop]
    generalize hU : Pl.upR l[i] (l.drop i) = U at *
    replace hU := Lib.hid hU
    replace hpre := Lib.hid hpre
    replace hd1 := Lib.hid hd1
    replace hlA := Lib.hid hlA
    clear hnl
    have hlo' := Lib.hid hlo
    clear hlo
    generalize hm : l.length - i = m at *
    replace hm := Lib.hid hm
    generalize l[i] = a at *
    have hm0 : 0 < m := by have := hm.out; omega
    have hm1 : m ≤ 16384 := by have := hm.out; omega
    obtain ⟨wo, rfl⟩ : ∃ wo : World, wo = wr := ⟨_, rfl⟩
    have hbo : b < wo.heap.size := hRr.box.lt
    have hbox := Lib.hid hRr.box
    have hro : rb < wo.heap.size := Nat.lt_of_lt_of_le (hrbl.out (by omega)) hkp.size
    have hnf : ∀ z, z < W.heap.size → ¬ fp z → ¬ fp' z := fun z h1 h2 h3 => by
      rcases hn' z h3 with h | h
      · exact h2 h
      · omega
    have hbf : ¬ fp' b := hnf b hbl (fun h => hd b h (.inl rfl))
    have hrf : ¬ fp' rb := hnf rb (hrbl.out (by omega)) (fun h => hd rb h (.inr ⟨by omega, rfl⟩))
    clear hRr
    go_wp2
    go_loopw [3] (fun s W' => ∃ k : Nat, 1 ≤ k ∧ k ≤ U ∧ s = .int .i64 (k : Int) ∧ Below wo.heap.size wo W') (fun s _ => U - (intOf s).toNat)
    case atStart => exact ⟨1, Nat.le_refl _, hup1, rfl, Below.refl _ _⟩
    case round =>
      obtain ⟨k, hk1, hk2, rfl, hbk⟩ := hrel
      have cBk := (hbk.cell (p := ⟨b, 0, none⟩) hbo).trans cB
      have cak := (hbk.cell (p := ⟨rb, off + i, none⟩) hro).trans ha0
      have hgi1 : (0 : Int) ≤ (k : Int) := by omega
      by_cases hkU : k < U
      · have hkm : i + k < l.length := by have := hm.out; omega
        have hy := (hgo.out k hkm hk2).2 hkU
        have cy0 : wo.cell? ⟨rb, off + i + k, none⟩ = some (.int .i64 l[i + k]) := by rw [Nat.add_assoc]; exact hrw.out k hkm
        have cy := (hbk.cell (p := ⟨rb, off + i + k, none⟩) hro).trans cy0
        clear cy0
        generalize l[i + k] = y at *
        have hw1 : IntKind.i64.wrap (a + (k : Int)) = a + (k : Int) := IntWalk.i64_in _ (by omega)
        have hy1 : (y == a + (k : Int)) = true := by simpa using hy
        have hkm1 : (k : Int) < (m : Int) := by omega
        have hkm2 : decide ((k : Int) < (m : Int)) = true := decide_eq_true hkm1
        have hkm3 : decide (k < m) = true := decide_eq_true (by omega)
        have hkm4 : k < m := by omega
        replace hy := Lib.hid hy
        go_wp2
        go_quiet (fail)
        go_wp2
        go_roundw
        case rel => exact ⟨k + 1, by omega, by omega, by go_num, below_drewN hbk nq⟩
        case measure => simp [intOf]; omega
      obtain rfl : k = U := by omega
      have hUU := hU
      go_wp2
      go_cut [22] (fun v wx => v = .bool false ∧ Below wo.heap.size wo wx)
      case first =>
        by_cases hkm : k < m
        · have hkl : i + k < l.length := by have := hm.out; omega
          have hy : ¬ l[i + k] = a + (k : Int) := fun e => absurd ((hgo.out k hkl (Nat.le_refl _)).1 e) (Nat.lt_irrefl _)
          have cy0 : wo.cell? ⟨rb, off + i + k, none⟩ = some (.int .i64 l[i + k]) := by rw [Nat.add_assoc]; exact hrw.out k hkl
          have cy := (hbk.cell (p := ⟨rb, off + i + k, none⟩) hro).trans cy0
          clear cy0
          generalize l[i + k] = y at *
          have hw1 : IntKind.i64.wrap (a + (k : Int)) = a + (k : Int) := IntWalk.i64_in _ (by omega)
          have hy1 : (y == a + (k : Int)) = false := by simpa using hy
          have hkm1 : (k : Int) < (m : Int) := by omega
          have hkm2 : decide ((k : Int) < (m : Int)) = true := decide_eq_true hkm1
          have hkm3 : decide (k < m) = true := decide_eq_true (by omega)
          go_quiet (fail)
          go_wp2
          go_meet
          exact ⟨by first | rfl | simp, below_drewN hbk nq⟩
        · have hkm1 : ¬ (k : Int) < (m : Int) := by omega
          have hkm2 : decide ((k : Int) < (m : Int)) = false := decide_eq_false hkm1
          have hkm3 : decide (k < m) = false := decide_eq_false hkm
          go_quiet (fail)
          go_wp2
          go_meet
          exact ⟨by first | rfl | simp, below_drewN hbk nq⟩
      case rest =>
      obtain ⟨rfl, hbc⟩ := hcut
      clear cBk cak hbk
      have cBc := (hbc.cell (p := ⟨b, 0, none⟩) hbo).trans cB
      have cac := (hbc.cell (p := ⟨rb, off + i, none⟩) hro).trans ha0
      have hkc := fun f : Nat → Prop => Keep.of_below (fp := fun z => f z ∧ z < wo.heap.size) hbc (fun _ h _ => h.2)
      have hJc := hJ _ _ _ _ hJ' (Keep.of_below (fp := fp') hbc (fun z hz _ => hlt' z hz))
      have hltc : ∀ z, fp' z → z < wc.heap.size := fun z hz => Nat.lt_of_lt_of_le (hlt' z hz) hbc.size
      have hpre2 : pre ++ [(a, k)] <+: Pl.runsOf l := by
        rw [hpre.out, hd1.out]
        exact ⟨Pl.runsOf (l.drop (i + k)), by simp⟩
      have hpre3 := Lib.hid (show Pl.runsOf l = (pre ++ [(a, k)]) ++ Pl.runsOf (l.drop (i + k)) by rw [hpre.out, hd1.out]; simp)
      obtain ⟨fn, tmps, assign, body, hy, hRd⟩ := hY pre (a, k) fp' _ hJc hltc hpre2
      unfold encR at hy
      clear hY
      go_upto_region 4 with (fail)
      refine (wpIn_wide (n := n)).1 ?_
      gi_wp2
      refine ⟨fun h => (by cases h), hRd.mono ?_⟩
      have hkR : Keep (fun z => 0 < l.length ∧ z = rb) W wc := hkp.trans (hkc (fun z => z = rb)) (fun z h _ => ⟨h.2, by rw [h.2]; exact hro⟩)
      rintro e W3 (⟨rfl, fp3, hJ3, st3⟩ | ⟨rfl, fp3, hJ3, st3⟩)
      all_goals
        clear hy
        have hk3 : Keep (fun z => 0 < l.length ∧ z = rb) W W3 := hkR.trans st3.keep (fun z h _ => h.2 ▸ hrf)
        have hn3 : ∀ z, fp3 z → fp z ∨ W.heap.size ≤ z := fun z h => by
          rcases st3.new z h with h | h
          · exact hn' z h
          · have := hkR.size; right; omega
      · have hbox3 : Boxed W3 b 41 (.slice (some ⟨rb, off + i, none⟩) m cap') := st3.keep.boxed hbf ((Keep.of_below (fp := fun z => z = b) hbc (fun z h _ => by rw [h]; exact hbo)).boxed rfl (by rw [← hm.out]; exact hbox.out))
        have cB3 := hbox3.cell
        have fB3 := hbox3.frozen
        have lB3 := hbox3.lt
        have hf3 : ¬ fp3 b := st3.other hbf (Nat.lt_of_lt_of_le hbo hbc.size)
        have hq1 : (0 : Int) ≤ (k : Int) := by omega
        have hq2 : (k : Int) ≤ (m : Int) := by omega
        have hmk : ((m : Int) - (k : Int)).toNat = m - k := by omega
        by_cases hcU : cap' = k
        · have hkm : k = m := by omega
          subst hkm
          subst hcU
          gi_wp2
          go_wp2
          generalize hW4 : W3.setCell ⟨b, 0, none⟩ _ = W4
          have hb4 := hbox3.set (.slice (some ⟨rb, off + i, none⟩) 0 0)
          rw [hW4] at hb4
          have hkp4 : ∀ f : Nat → Prop, ¬ f b → Keep f W3 W4 := fun f hf => by rw [← hW4]; exact (Keep.refl f W3).setCell _ _ _ (fun h _ => hf h)
          have hz4 : W4.heap.size = W3.heap.size := by rw [← hW4]; simp [World.setCell]
          refine ⟨⟨i + cap', pre ++ [(a, cap')], _, _, by have := hm.out; omega, hpre3.out, ⟨by rw [show l.length - (i + cap') = 0 by have := hm.out; omega]; exact hb4, by have := hm.out; omega, by omega, fun h => (by have := hm.out; omega)⟩, hk3.trans (hkp4 (fun z => 0 < l.length ∧ z = rb) (fun h => hrb h.2.symm)) (fun z h _ => h), fp3, hn3, fun z hz => by rw [hz4]; exact st3.lt z hz, hJ _ _ _ _ hJ3 (hkp4 fp3 hf3)⟩, ?_⟩
          have e4 : lenAt b W4 = 0 := by unfold lenAt; rw [hb4.cell]
          rw [e4, hlA.out]
          have := hm.out
          omega
        · gi_wp2
          go_wp2
          generalize hW4 : W3.setCell ⟨b, 0, none⟩ _ = W4
          have hb4 := hbox3.set (.slice (some ⟨rb, off + i + k, none⟩) (m - k) (cap' - k))
          rw [hW4] at hb4
          have hkp4 : ∀ f : Nat → Prop, ¬ f b → Keep f W3 W4 := fun f hf => by rw [← hW4]; exact (Keep.refl f W3).setCell _ _ _ (fun h _ => hf h)
          have hz4 : W4.heap.size = W3.heap.size := by rw [← hW4]; simp [World.setCell]
          refine ⟨⟨i + k, pre ++ [(a, k)], _, _, by have := hm.out; omega, hpre3.out, ⟨by rw [show l.length - (i + k) = (m - k) by have := hm.out; omega]; exact hb4, by have := hm.out; omega, by omega, fun h => (by rw [Nat.add_assoc])⟩, hk3.trans (hkp4 (fun z => 0 < l.length ∧ z = rb) (fun h => hrb h.2.symm)) (fun z h _ => h), fp3, hn3, fun z hz => by rw [hz4]; exact st3.lt z hz, hJ _ _ _ _ hJ3 (hkp4 fp3 hf3)⟩, ?_⟩
          have e4 : lenAt b W4 = (m - k) := by unfold lenAt; rw [hb4.cell]
          rw [e4, hlA.out]
          have := hm.out
          omega
      · gi_wp2
        go_wp2
        refine bodyPost_ret (results_none rfl _ _ _) rfl ?_
        exact SeqEnd.part hk3 hn3 st3.lt _ hpre2 hJ3
end Go.Proofs.Ytndekdgpibipnaa
