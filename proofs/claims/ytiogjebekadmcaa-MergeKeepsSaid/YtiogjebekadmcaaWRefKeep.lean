
/- Walk: the document's Keep. Condition: rows whose bytes fit. -/
import Derived.Test.YtiogjebekadmcaaWRef9
import Derived.Test.YtiogjebekadmcaaWFloor
import Derived.Test.YtiogjebekadmcaaPlainKp2
import Derived.Test.YtiogjebekadmcaaApp1
namespace Go.Proofs.Ytiogjebekadmcaa
open Go.RowKit

theorem keep_append5 {B : Nat} {W0 wr w1 : World} {v : Value} {L nd : List Ver} {x : Ver} {g0 cap ng : Nat} {tmp : Obj} (hr : wr.ownsRow B 44 4 v L.length (vcells L)) (hb : Below B W0 wr) (hB : B ≤ wr.heap.size) (hn : RowIn wr ng 0 nd) (hd : ∀ q, v.ownBlock = some q → q ≠ ng)
    (hown' : w1.ownsRow B 44 4 (.slice (some ⟨g0, 0, none⟩) (L.length + 1) cap) (L.length + 1) (vcells L ++ vcells [x])) (hgrow : (wr.alloc tmp).grownBy w1 v.ownBlock) (hat : v.ownBlock = some g0 ∨ wr.heap.size ≤ g0) :
    w1.ownsRow B 44 4 (.slice (some ⟨g0, 0, none⟩) (L.length + 1) cap) (L ++ [x]).length (vcells (L ++ [x])) ∧ Below B W0 w1 ∧ B ≤ w1.heap.size ∧ RowIn w1 ng 0 nd ∧ ∀ q, (Value.slice (some ⟨g0, 0, none⟩) (L.length + 1) cap).ownBlock = some q → q ≠ ng := by
  have h1 := hb.alloc hB tmp
  have hs : (wr.alloc tmp).heap.size = wr.heap.size + 1 := by simp
  have h2 := hgrow.size
  have h3 := hn.1
  refine ⟨by rw [List.length_append, List.length_singleton, vcells_append]; exact hown', h1.grown hgrow (by omega) (fun k e => (hr.lt k e).1), by omega, hn.kept (by omega) ((hgrow.block ng (by omega) (fun e => hd ng e.symm rfl)).trans (((Below.refl wr.heap.size wr).alloc (Nat.le_refl _) tmp).block ng h3)), fun q e => ?_⟩
  have : g0 = q := by simpa [Value.ownBlock] using e
  subst this
  rcases hat with h | h
  · exact hd _ h
  · omega

set_option maxRecDepth 100000 in
set_option maxHeartbeats 800000 in
theorem refKeep_any (v fv : Value) (l : List Ver) (fs : List Nat) (bot : Bool) (w : World) (hv : VersAt w v l) (hN : NumsAt w fv fs) (hl : l.length ≤ 2932031007317) :
    Calls Try.prog 19 #[v, fv, .bool bot] w fun e w' => ∃ v', e = .returned v' ∧ VersAt w' v' (Pl.keepOf fs bot l) ∧ Below w.heap.size w w' := by
  have P := Lib.hid (groups_any v l w hv hl)
  obtain ⟨ao, cap, rfl, c1, c2, hv⟩ := hv
  go_enter Try.func19, Try.ntmps19
  go_wp2_with (go_at_call 35; refine P.out.mono ?_; rintro e w2 ⟨v2, rfl, g, hg, hgl, howng⟩)
  obtain ⟨hg0, hgle, hge, hg00, hglast, hgrp⟩ := hg.at
  have hbg := howng.below
  rcases own_at howng.1 with ⟨h0, _⟩ | ⟨gb, gcap, rfl, gp1, gp2, gp3, gp4, hgc⟩
  · omega
  have hgat : ∀ k (hk : k < g.length), w2.cell? ⟨gb, k, none⟩ = some (.int .i64 (g[k] : Int)) := fun k hk => (hgc k (by omega)).trans (icells_get g k hk)
  clear P hgc howng hg
  have hVb : 0 < l.length → ∃ b off, ao = some ⟨b, off, none⟩ ∧ RowIn w2 b off l := fun hi => by
    obtain ⟨b, off, e, hr⟩ := hv hi
    exact ⟨b, off, e, hr.below hbg⟩
  have hN2 := hN.below hbg
  clear hv hN
  have hgD : ∀ k (hk : k < g.length), g[k]?.getD 0 = g[k] := fun k hk => by rw [List.getElem?_eq_getElem hk]; rfl
  have hz0 : Hid (Pl.keepOf fs bot (l.take (g[0]?.getD 0)) = []) := by show _ = _; rw [hg00]; rfl
  go_wp2
  go_loopw [7, 9, 10, 11, 12, 13, 14] (fun o k _ _ _ _ _ W => ∃ kk : Nat, kk + 1 ≤ g.length ∧ k = .int .i64 kk ∧ Own w2.heap.size 44 4 o (Pl.keepOf fs bot (l.take (g[kk]?.getD 0))).length (vcells (Pl.keepOf fs bot (l.take (g[kk]?.getD 0)))) w2 W) (fun _ k _ _ _ _ _ _ => g.length - (intOf k).toNat)
  case atStart => exact ⟨0, by omega, rfl, by rw [hz0.out]; exact Own.nil (Below.refl _ _) (Nat.le_refl _)⟩
  case round =>
    obtain ⟨kk, hk1, rfl, hown⟩ := hrel
    by_cases h2 : kk + 1 < g.length
    · obtain ⟨hab, hst, hin⟩ := hgrp kk h2
      have hble := hgle (kk + 1) h2
      have ga := (hown.below.cell (p := ⟨gb, kk, none⟩) gp2).trans (hgat kk (by omega))
      have gbc := (hown.below.cell (p := ⟨gb, kk + 1, none⟩) gp2).trans (hgat (kk + 1) h2)
      have hD1 := Lib.hid (hgD (kk + 1) h2)
      rw [hgD kk (by omega)] at hown
      have hks := Lib.hid (Pl.keepOf_seg (fs := fs) (bot := bot) hab hble hst hin)
      have hkl := Pl.keepOf_length fs bot (l.take g[kk])
      rw [List.length_take] at hkl
      have hsl := Pl.seg_length l (a := g[kk]) hble
      have hns := fun i (q1 : g[kk] ≤ i) (q2 : i < g[kk + 1]) => Lib.hid (Pl.needN_seg (fs := fs) (l := l) q1 q2 hble)
      have hnl := Pl.needN_length fs (Pl.seg l g[kk] g[kk + 1])
      generalize ha : g[kk] = a at *
      generalize hb : g[kk + 1] = b at *
      have hne : 0 < (Pl.needN fs (Pl.seg l a b) (b - a)).length := by
        have := Pl.needN_ne (fs := fs) (g := Pl.seg l a b) (n := b - a - 1) (by omega)
        rwa [show b - a - 1 + 1 = b - a by omega] at this
      have hk1e : Hid (Pl.keep1 fs bot (Pl.seg l a b) = Pl.trim bot (Pl.needN fs (Pl.seg l a b) (b - a))) := by show _ = _; unfold Pl.keep1 Pl.need; rw [hsl]
      obtain ⟨rb, off, rfl, hrow⟩ := hVb (by omega)
      replace hrow := hrow.below (hown.below.mono (Nat.le_refl _))
      have hN3 := hN2.below (hown.below.mono (Nat.le_refl _))
      clear hVb hN2 hgat hgle hge hg00 hglast hgrp hgD hst hin
      obtain ⟨W3, rfl⟩ : ∃ X : World, X = wr := ⟨_, rfl⟩
      obtain ⟨PA, hPA⟩ : ∃ X, Pl.keepOf fs bot (l.take a) = X := ⟨_, rfl⟩
      obtain ⟨s, hs⟩ : ∃ X, Pl.seg l a b = X := ⟨_, rfl⟩
      rw [hPA] at hks hown hkl
      rw [hs] at hks hsl hns hnl hne hk1e
      clear hPA hs
      have hgbl : gb < W3.heap.size := by have := hown.below.size; omega
      go_wp2
      go_loopw [10, 11, 12, 13] (fun nv i _ _ W' => ∃ i0 : Nat, a ≤ i0 ∧ i0 ≤ b ∧ i = .int .i64 i0 ∧ Own W3.heap.size 44 4 nv (Pl.needN fs s (i0 - a)).length (vcells (Pl.needN fs s (i0 - a))) W3 W') (fun _ i _ _ _ => b - (intOf i).toNat)
      case atStart => exact ⟨a, by omega, by omega, rfl, by rw [Nat.sub_self]; exact Own.nil (Below.refl _ _) (Nat.le_refl _)⟩
      case round =>
        obtain ⟨i, hi1, hi2, rfl, hnd⟩ := hrel
        have gaw := (hnd.below.cell (p := ⟨gb, kk, none⟩) hgbl).trans ga
        have gbw := (hnd.below.cell (p := ⟨gb, kk + 1, none⟩) hgbl).trans gbc
        by_cases h3 : i < b
        · have hiL : i < l.length := by omega
          have hnq := hns i hi1 h3
          have hnli := Pl.needN_length fs s (i - a)
          obtain ⟨y0, y1, y2, y3⟩ := (hrow.below hnd.below).2 i hiL
          obtain ⟨fao, fcap, rfl, f1, f2, hf⟩ := hN3.below hnd.below
          have hfl : fs.length ≤ 9223372036854775807 := by omega
          by_cases hia : i = a
          · subst hia
            have hB : Pl.needB fs l i i hiL = true := by unfold Pl.needB; simp
            rw [hB] at hnq
            simp only [if_true] at hnq
            generalize l[i] = x at *
            obtain ⟨W4, rfl⟩ : ∃ X : World, X = wr := ⟨_, rfl⟩
            obtain ⟨n4, rfl⟩ : ∃ X : Value, X = u10 := ⟨_, rfl⟩
            replace hnq := Lib.hid hnq
            clear hB hns hne hk1e hks hD1 hf
            go_wp2
            go_loopw [12, 13] (fun bv j W' => ∃ (j0 n : Nat), j0 ≤ fs.length ∧ j = .int .i64 j0 ∧ bv = .bool true ∧ W' = W4.drewN n) (fun _ j _ => fs.length - (intOf j).toNat)
            case atStart => exact ⟨0, 0, by omega, rfl, rfl, rfl⟩
            case round =>
              obtain ⟨j, n, hj, rfl, rfl, rfl⟩ := hrel
              by_cases h4 : j < fs.length
              · go_wp2
                go_quiet (fail)
                go_wp2
                go_roundw
                case rel => exact ⟨j + 1, _, by omega, by go_num, rfl, rfl⟩
                case measure => simp [intOf]; omega
              · go_wp2_with (at_builtin; go_must (refine wpList_app (by rfl) _ _ 22 (by rfl) W3.heap.size 44 (.agg #[.string .empty, .int .u64 0, .bool false, .string .empty]) 4 48 Try.underlying22 info_version rfl (by decide) _ (Pl.needN fs s (i - i)).length (vcells (Pl.needN fs s (i - i))) W3 _ (hnd.drewN n) (by rfl) #[.string x.key, .int .u64 (x.seq : Int), .bool x.del, .string x.val] 1 (by rfl) (by rfl) (by simp [Value.oneCell']) (by omega) (by omega) ?_; intro v' w1 hown1))
                go_roundw
                case rel => exact ⟨i + 1, by omega, by omega, by go_num, by rw [hnq.out, List.length_append, List.length_singleton, vcells_append]; exact hown1⟩
                case measure => simp [intOf]; omega

          · obtain ⟨m, rfl⟩ : ∃ m, i = m + 1 := ⟨i - 1, by omega⟩
            have hm1 : m < l.length := by omega
            obtain ⟨_, q1, _, _⟩ := (hrow.below hnd.below).2 m hm1
            have hB : Pl.needB fs l a (m + 1) hiL = (fs.take fs.length).any (fun f => decide (l[m + 1].seq ≤ f) && decide (f < l[m].seq)) := by unfold Pl.needB; rw [decide_eq_false hia, Bool.false_or, Pl.any_all]; rfl
            rw [hB] at hnq
            clear hB hns hne hk1e hks hD1
            have hat := fun j (h : j < fs.length) => Lib.hid (Pl.any_take (p := fun f => decide (l[m + 1].seq ≤ f) && decide (f < l[m].seq)) h)
            generalize l[m + 1] = x at *
            generalize l[m] = pv at *
            obtain ⟨pr, hpr⟩ : ∃ pr : Nat → Bool, pr = fun f => decide (x.seq ≤ f) && decide (f < pv.seq) := ⟨_, rfl⟩
            have hp : ∀ f, Hid (pr f = (decide (x.seq ≤ f) && decide (f < pv.seq))) := fun f => by show _ = _; rw [hpr]
            rw [← hpr] at hnq hat
            clear hpr
            have hwr : IntKind.i64.wrap ((m : Int) + 1 - 1) = (m : Int) := IntWalk.i64_in _ (by omega) |>.trans (by omega)
            have hd1 : (m : Int) + 1 - 1 = (m : Int) := by omega
            obtain ⟨W4, rfl⟩ : ∃ X : World, X = wr := ⟨_, rfl⟩
            obtain ⟨n4, rfl⟩ : ∃ X : Value, X = u10 := ⟨_, rfl⟩
            replace hnq := Lib.hid hnq
            replace hf := Lib.hid hf
            replace hia := Lib.hid hia
            have hdec : (((m : Int) + 1) == (a : Int)) = false := by have := hia.out; simp; omega
            go_wp2
            go_loopw [12, 13] (fun bv j W' => ∃ (j0 n : Nat), j0 ≤ fs.length ∧ j = .int .i64 j0 ∧ bv = .bool ((fs.take j0).any pr) ∧ W' = W4.drewN n) (fun _ j _ => fs.length - (intOf j).toNat)
            case atStart => exact ⟨0, 0, by omega, rfl, rfl, rfl⟩
            case round =>
              obtain ⟨j, n, hj, rfl, rfl, rfl⟩ := hrel
              by_cases h4 : j < fs.length
              · have hat' := (hat j h4).out
                cases hA : (fs.take j).any pr
                · obtain ⟨fb, foff, rfl, hflt, hfc⟩ := hf.out (by omega)
                  have z0 := hfc j h4
                  rw [hA, Bool.false_or] at hat'
                  clear hfc hat hf hp hA hnq
                  generalize fs[j] = f at *
                  by_cases e1 : x.seq ≤ f
                  · by_cases e2 : f < pv.seq
                    · rw [decide_eq_true e1, decide_eq_true e2] at hat'
                      replace hat' := Lib.hid hat'
                      go_wp2
                      go_quiet (fail)
                      go_wp2
                      go_roundw
                      case rel => exact ⟨j + 1, _, by omega, by go_num, by rw [hat'.out]; rfl, rfl⟩
                      case measure => simp [intOf]; omega
                    · rw [decide_eq_true e1, decide_eq_false e2] at hat'
                      replace hat' := Lib.hid hat'
                      go_wp2
                      go_quiet (fail)
                      go_wp2
                      go_roundw
                      case rel => exact ⟨j + 1, _, by omega, by go_num, by rw [hat'.out]; rfl, rfl⟩
                      case measure => simp [intOf]; omega
                  · rw [decide_eq_false e1] at hat'
                    replace hat' := Lib.hid hat'
                    go_wp2
                    go_quiet (fail)
                    go_wp2
                    go_roundw
                    case rel => exact ⟨j + 1, _, by omega, by go_num, by rw [hat'.out]; rfl, rfl⟩
                    case measure => simp [intOf]; omega
                · rw [hA, Bool.true_or] at hat'
                  replace hat' := Lib.hid hat'
                  clear hat hf hp hnq
                  go_wp2
                  go_quiet (fail)
                  go_wp2
                  go_roundw
                  case rel => exact ⟨j + 1, _, by omega, by go_num, by rw [hat'.out], rfl⟩
                  case measure => simp [intOf]; omega
              · obtain rfl : j = fs.length := by omega
                cases hA : (fs.take fs.length).any pr
                · have hnq' := hnq.out
                  rw [hA] at hnq'
                  simp only [Bool.false_eq_true, if_false, List.append_nil] at hnq'
                  replace hnq' := Lib.hid hnq'
                  clear hat hf hp hnq hA
                  go_wp2
                  go_roundw
                  case rel => exact ⟨m + 1 + 1, by omega, by omega, by go_num, by rw [hnq'.out]; exact hnd.drewN n⟩
                  case measure => simp [intOf]; omega
                · have hnq' := hnq.out
                  rw [hA] at hnq'
                  simp only [if_true] at hnq'
                  replace hnq' := Lib.hid hnq'
                  clear hat hf hp hnq hA
                  go_wp2_with (at_builtin; go_must (refine wpList_app (by rfl) _ _ 22 (by rfl) W3.heap.size 44 (.agg #[.string .empty, .int .u64 0, .bool false, .string .empty]) 4 48 Try.underlying22 info_version rfl (by decide) _ (Pl.needN fs s (m + 1 - a)).length (vcells (Pl.needN fs s (m + 1 - a))) W3 _ (hnd.drewN n) (by rfl) #[.string x.key, .int .u64 (x.seq : Int), .bool x.del, .string x.val] 1 (by rfl) (by rfl) (by simp [Value.oneCell']) (by omega) (by omega) ?_; intro v' w1 hown1))
                  go_roundw
                  case rel => exact ⟨m + 1 + 1, by omega, by omega, by go_num, by rw [hnq'.out, List.length_append, List.length_singleton, vcells_append]; exact hown1⟩
                  case measure => simp [intOf]; omega
        · have hib : i = b := by omega
          subst hib
          have hnli := hnl (i - a)
          generalize Pl.needN fs s (i - a) = nd at *
          rcases own_at hnd.1 with ⟨h0, _⟩ | ⟨ng, ncap, rfl, np1, np2, np3, np4, hnc⟩
          · omega
          have hrn : RowIn wr ng 0 nd := ⟨np2, fun j hj => by
            have hp := vcells_get nd j hj
            simp only [Nat.zero_add]
            exact ⟨(hnc _ (by omega)).trans hp.1, (hnc _ (by omega)).trans hp.2.1, (hnc _ (by omega)).trans hp.2.2.1, (hnc _ (by omega)).trans hp.2.2.2⟩⟩
          have hout := hown.beyond hnd.below
          have hdis : ∀ q, u7.ownBlock = some q → q ≠ ng := fun q e => by have := (hown.1.lt q e).2; omega
          clear hnc hns hrow hN3 hnd hown hnl
          obtain ⟨W4, rfl⟩ : ∃ X : World, X = wr := ⟨_, rfl⟩
          go_wp2
          go_loopw [10] (fun v10 W' => ∃ m : Nat, m ≤ nd.length ∧ v10 = .slice (some ⟨ng, 0, none⟩) m ncap ∧ Hid (Pl.trimN bot nd m = Pl.trim bot nd) ∧ W' = W4) (fun v10 _ => match v10 with | .slice _ m _ => m | _ => 0)
          case atStart => exact ⟨nd.length, Nat.le_refl _, rfl, (by show _ = _; rfl), rfl⟩
          case round =>
            obtain ⟨m, hm, rfl, htr, rfl⟩ := hrel
            have ways : (bot = true ∧ ∃ q, ∃ hq : q < nd.length, m = q + 1 ∧ nd[q].del = true) ∨ (bot = false) ∨ (bot = true ∧ m = 0) ∨ (bot = true ∧ ∃ q, ∃ hq : q < nd.length, m = q + 1 ∧ nd[q].del = false) := by
              cases bot
              · exact .inr (.inl rfl)
              · cases m with
                | zero => exact .inr (.inr (.inl ⟨rfl, rfl⟩))
                | succ q =>
                  have hq : q < nd.length := by omega
                  cases hd : nd[q].del
                  · exact .inr (.inr (.inr ⟨rfl, q, hq, rfl, hd⟩))
                  · exact .inl ⟨rfl, q, hq, rfl, hd⟩
            rcases ways with ⟨rfl, q, hq, rfl, hdl⟩ | hw
            · obtain ⟨_, _, p2, _⟩ := hrn.2 q hq
              simp only [Nat.zero_add, hdl] at p2
              have htr' := Lib.hid ((Pl.trimN_on (bot := true) (l := nd) hq rfl hdl).symm.trans htr.out)
              clear htr hrn hk1e hdl hks hout hdis
              go_wp2
              go_roundw
              case rel => exact ⟨q, by omega, by go_num, htr', trivial⟩
              case measure => simp
            · have hkt : Pl.keep1 fs bot s = nd.take m := by
                rw [hk1e.out, ← htr.out]
                refine Pl.trimN_end (by omega) ?_
                rcases hw with rfl | ⟨rfl, rfl⟩ | ⟨rfl, q, hq, rfl, hdl⟩
                · exact .inr (.inl rfl)
                · exact .inl rfl
                · exact .inr (.inr ⟨q, hq, rfl, hdl⟩)
              replace hkt := Lib.hid hkt
              clear hk1e htr
              rcases hw with rfl | ⟨rfl, rfl⟩ | ⟨rfl, q, hq, rfl, hdl⟩
              · go_wp2
                go_loopw [7, 14] (fun o j W' => ∃ k : Nat, k ≤ m ∧ j = .int .i64 k ∧ W'.ownsRow w2.heap.size 44 4 o (PA.length + k) (vcells (PA ++ nd.take k)) ∧ Below w2.heap.size w2 W' ∧ w2.heap.size ≤ W'.heap.size ∧ RowIn W' ng 0 nd ∧ ∀ q, o.ownBlock = some q → q ≠ ng) (fun _ j _ => m - (intOf j).toNat)
                case atStart => exact ⟨0, by omega, rfl, by rw [List.take_zero, List.append_nil]; exact hout.1, hout.2.1, hout.2.2, hrn, hdis⟩
                case round =>
                  obtain ⟨k, hk, rfl, ho5, hb5, hs5, hr5, hd5⟩ := hrel
                  clear hout hrn hdis
                  by_cases h5 : k < m
                  · have h6 : k < nd.length := by omega
                    obtain ⟨x0, x1, x2, x3⟩ := hr5.2 k h6
                    simp only [Nat.zero_add] at x0 x1 x2 x3
                    have htk := Lib.hid (List.take_succ_eq_append_getElem h6)
                    have hlk : (PA ++ nd.take k).length + 1 ≤ 2932031007317 := by rw [List.length_append, List.length_take]; omega
                    generalize nd[k] = x at *
                    obtain ⟨L, hL⟩ : ∃ L, PA ++ nd.take k = L := ⟨_, rfl⟩
                    have hLk : PA.length + k = L.length := by rw [← hL, List.length_append, List.length_take]; omega
                    rw [hL] at hlk
                    rw [hL, hLk] at ho5
                    have htk2 : PA ++ nd.take (k + 1) = L ++ [x] := by rw [htk.out, ← List.append_assoc, hL]
                    replace htk2 := Lib.hid htk2
                    clear hL htk
                    go_wp2_with (at_builtin; go_must (refine wpList_app1 (by rfl) _ _ 22 (by rfl) w2.heap.size 44 (.agg #[.string .empty, .int .u64 0, .bool false, .string .empty]) 4 48 Try.underlying22 info_version rfl (by decide) _ L.length (vcells L) wr ho5 hs5 (by rfl) #[.string x.key, .int .u64 (x.seq : Int), .bool x.del, .string x.val] 44 (by rfl) rfl (by simp [Value.oneCell']) (by omega) (by decide) ?_; intro g0 cap0 w1 hown' hgrow hat hg0; obtain ⟨p1, p2, p3, p4, p5⟩ := keep_append5 (x := x) ho5 hb5 hs5 hr5 hd5 hown' hgrow hat))
                    go_roundw
                    case rel => exact ⟨k + 1, by omega, by go_num, by rw [htk2.out, show PA.length + (k + 1) = (L ++ [x]).length from by rw [List.length_append, List.length_singleton, ← hLk]; omega]; exact p1, p5⟩
                    case measure => simp [intOf]; omega
                  · have hkM : k = m := by omega
                    subst hkM
                    go_wp2
                    go_roundw
                    case rel => exact ⟨kk + 1, by omega, by go_num, by rw [hD1.out, hks.out, hkt.out, List.length_append, List.length_take, Nat.min_eq_left (by omega)]; exact ⟨ho5, hb5, hs5⟩⟩
                    case measure => simp [intOf]; omega
              · go_wp2
                go_loopw [7, 14] (fun o j W' => ∃ k : Nat, k ≤ 0 ∧ j = .int .i64 k ∧ W'.ownsRow w2.heap.size 44 4 o (PA.length + k) (vcells (PA ++ nd.take k)) ∧ Below w2.heap.size w2 W' ∧ w2.heap.size ≤ W'.heap.size ∧ RowIn W' ng 0 nd ∧ ∀ q, o.ownBlock = some q → q ≠ ng) (fun _ j _ => 0 - (intOf j).toNat)
                case atStart => exact ⟨0, by omega, rfl, by rw [List.take_zero, List.append_nil]; exact hout.1, hout.2.1, hout.2.2, hrn, hdis⟩
                case round =>
                  obtain ⟨k, hk, rfl, ho5, hb5, hs5, hr5, hd5⟩ := hrel
                  clear hout hrn hdis
                  have hkM : k = 0 := by omega
                  subst hkM
                  go_wp2
                  go_roundw
                  case rel => exact ⟨kk + 1, by omega, by go_num, by rw [hD1.out, hks.out, hkt.out, List.length_append, List.length_take, Nat.min_eq_left (by omega)]; exact ⟨ho5, hb5, hs5⟩⟩
                  case measure => simp [intOf]; omega
              · obtain ⟨_, _, p2, _⟩ := hrn.2 q hq
                simp only [Nat.zero_add, hdl] at p2
                clear hdl
                go_wp2
                clear p2
                rw [show ((q : Int) + 1) = ((q + 1 : Nat) : Int) from by simp]
                generalize q + 1 = m at *
                go_loopw [7, 14] (fun o j W' => ∃ k : Nat, k ≤ m ∧ j = .int .i64 k ∧ W'.ownsRow w2.heap.size 44 4 o (PA.length + k) (vcells (PA ++ nd.take k)) ∧ Below w2.heap.size w2 W' ∧ w2.heap.size ≤ W'.heap.size ∧ RowIn W' ng 0 nd ∧ ∀ q, o.ownBlock = some q → q ≠ ng) (fun _ j _ => m - (intOf j).toNat)
                case atStart => exact ⟨0, by omega, rfl, by rw [List.take_zero, List.append_nil]; exact hout.1, hout.2.1, hout.2.2, hrn, hdis⟩
                case round =>
                  obtain ⟨k, hk, rfl, ho5, hb5, hs5, hr5, hd5⟩ := hrel
                  clear hout hrn hdis
                  by_cases h5 : k < m
                  · have h6 : k < nd.length := by omega
                    obtain ⟨x0, x1, x2, x3⟩ := hr5.2 k h6
                    simp only [Nat.zero_add] at x0 x1 x2 x3
                    have htk := Lib.hid (List.take_succ_eq_append_getElem h6)
                    have hlk : (PA ++ nd.take k).length + 1 ≤ 2932031007317 := by rw [List.length_append, List.length_take]; omega
                    generalize nd[k] = x at *
                    obtain ⟨L, hL⟩ : ∃ L, PA ++ nd.take k = L := ⟨_, rfl⟩
                    have hLk : PA.length + k = L.length := by rw [← hL, List.length_append, List.length_take]; omega
                    rw [hL] at hlk
                    rw [hL, hLk] at ho5
                    have htk2 : PA ++ nd.take (k + 1) = L ++ [x] := by rw [htk.out, ← List.append_assoc, hL]
                    replace htk2 := Lib.hid htk2
                    clear hL htk
                    go_wp2_with (at_builtin; go_must (refine wpList_app1 (by rfl) _ _ 22 (by rfl) w2.heap.size 44 (.agg #[.string .empty, .int .u64 0, .bool false, .string .empty]) 4 48 Try.underlying22 info_version rfl (by decide) _ L.length (vcells L) wr ho5 hs5 (by rfl) #[.string x.key, .int .u64 (x.seq : Int), .bool x.del, .string x.val] 44 (by rfl) rfl (by simp [Value.oneCell']) (by omega) (by decide) ?_; intro g0 cap0 w1 hown' hgrow hat hg0; obtain ⟨p1, p2, p3, p4, p5⟩ := keep_append5 (x := x) ho5 hb5 hs5 hr5 hd5 hown' hgrow hat))
                    go_roundw
                    case rel => exact ⟨k + 1, by omega, by go_num, by rw [htk2.out, show PA.length + (k + 1) = (L ++ [x]).length from by rw [List.length_append, List.length_singleton, ← hLk]; omega]; exact p1, p5⟩
                    case measure => simp [intOf]; omega
                  · have hkM : k = m := by omega
                    subst hkM
                    go_wp2
                    go_roundw
                    case rel => exact ⟨kk + 1, by omega, by go_num, by rw [hD1.out, hks.out, hkt.out, List.length_append, List.length_take, Nat.min_eq_left (by omega)]; exact ⟨ho5, hb5, hs5⟩⟩
                    case measure => simp [intOf]; omega
    · have hkk : kk + 1 = g.length := by omega
      have e : l.take (g[kk]?.getD 0) = l := by rw [hglast kk hkk]; simp
      rw [e] at hown
      clear hgat hgle hge hg00 hglast hgrp hgD e hkk
      go_wp2
      go_ret
      exact ⟨_, rfl, own_vers hown.1, hbg.trans (hown.below.mono hbg.size)⟩
end Go.Proofs.Ytiogjebekadmcaa
