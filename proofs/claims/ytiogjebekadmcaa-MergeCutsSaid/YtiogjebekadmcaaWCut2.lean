
/- Walks: a row cut into lists: the sequence itself. Condition: rows whose bytes fit. -/
import Derived.Test.YtiogjebekadmcaaWCut
import Derived.Test.YtiogjebekadmcaaWRefCut
namespace Go.Proofs.Ytiogjebekadmcaa
open Go.RowKit Go.Shelf

attribute [local go_sem] Oper.semAt_some


theorem wrap_vsz (a : Nat) (z : Ver) : wrap64 (wrap64 (a : Int) + wrap64 (wrap64 ((z.key.size : Int) + (z.val.size : Int)) + 16)) = wrap64 ((a + Pl.vsz z : Nat) : Int) := by
  unfold Pl.vsz wrap64; omega
theorem wrap_none : wrap64 ((Pl.vsum [] : Nat) : Int) = 0 := by simp [Pl.vsum, wrap64]
theorem bigB_false {by' : Int} {l : List Ver} (h : wrap64 (Pl.vsum l : Int) < by') : bigB by' l = false := by unfold bigB; simp; omega
theorem bigB_true {by' : Int} {l : List Ver} (h : ¬ wrap64 (Pl.vsum l : Int) < by') : bigB by' l = true := by unfold bigB; simp; omega

set_option maxRecDepth 100000 in
set_option maxHeartbeats 800000 in
theorem cut1_seq (n : Nat) (hn : 4 ≤ n) (bR bS bB : Nat) (by' : Int) (v : Value) (l : List Ver) (w : World) (R : Nat → Prop) (U : Nat → Prop) (hl : l.length * 48 ≤ 140737488355328)
    (hR : Boxed w bR 22 v) (hv : VersAt w v l) (hTv : 0 < l.length → ∀ k, v.ownBlock = some k → R k) (hTR : R bR) (hUd : U = fun k => k = bS ∨ k = bB) (hRU : ∀ k, U k → ¬ R k) (hRw : ∀ k, R k → k < w.heap.size)
    (hS : Boxed w bS 30 (.func (.func 34) #[] #[.pointer (some ⟨bR, 0, none⟩)])) (hBy : Boxed w bB 3 (.int .i64 by')) :
    SeqK Fence.wide n Try.prog 37 #[.pointer (some ⟨bS, 0, none⟩), .pointer (some ⟨bB, 0, none⟩)] ElV (fun k => R k ∨ U k) (fun k => R k ∨ U k)
      (fun ys => ys = Pl.cutsOf (bigB by') l) (fun ys => ys <+: Pl.cutsOf (bigB by') l) w := by
  intro lp J Jx Wi fp hkm hd hlt hJ hJx hY h0
  have h1n : 1 ≤ n := by omega
  have uS : U bS := by rw [hUd]; exact .inl rfl
  have uB : U bB := by rw [hUd]; exact .inr rfl
  have hS1 := hkm.boxed (.inr uS) hS
  have hB1 := hkm.boxed (.inr uB) hBy
  have hR1 := hkm.boxed (.inl hTR) hR
  have hv1 : VersAt Wi v l := by
    obtain ⟨ao, cap, rfl, c1, c2, h⟩ := hv
    refine ⟨ao, cap, rfl, c1, c2, fun h0 => ?_⟩
    obtain ⟨b, off, rfl, hr⟩ := h h0
    exact ⟨b, off, rfl, hr.kept hkm.size (hkm.block b (.inl (hTv h0 b rfl)) hr.1)⟩
  have hUw : ∀ k, U k → k < Wi.heap.size := by rw [hUd]; exact fun k h => h.elim (fun h => h ▸ hS1.lt) (fun h => h ▸ hB1.lt)
  clear hUd
  have hRW : ∀ k, R k → k < Wi.heap.size := fun k h => Nat.lt_of_lt_of_le (hRw k h) hkm.size
  have cS0 := hS1.cell
  have ltS0 := hS1.lt
  have cS1 := (((hS1.alloc (.cells #[.func (.yield lp) #[] #[]] 67)).alloc (.cells #[.slice none 0 0] 22)).alloc (.cells #[.int .i64 0] 3)).cell
  have b0 := Boxed.new Wi 67 (.func (.yield lp) #[] #[])
  have b1 := Boxed.new (Wi.alloc (.cells #[.func (.yield lp) #[] #[]] 67)) 22 (.slice none 0 0)
  have b2 := Boxed.new ((Wi.alloc (.cells #[.func (.yield lp) #[] #[]] 67)).alloc (.cells #[.slice none 0 0] 22)) 3 (.int .i64 0)
  have bG := Boxed.new (((Wi.alloc (.cells #[.func (.yield lp) #[] #[]] 67)).alloc (.cells #[.slice none 0 0] 22)).alloc (.cells #[.int .i64 0] 3)) 30 (.func (.func 34) #[] #[.pointer (some ⟨bR, 0, none⟩)])
  simp only [World.size_alloc] at b0 b1 b2 bG
  have b0 := ((b0.alloc (.cells #[.slice none 0 0] 22)).alloc (.cells #[.int .i64 0] 3)).alloc (.cells #[.func (.func 34) #[] #[.pointer (some ⟨bR, 0, none⟩)]] 30)
  have b1 := (b1.alloc (.cells #[.int .i64 0] 3)).alloc (.cells #[.func (.func 34) #[] #[.pointer (some ⟨bR, 0, none⟩)]] 30)
  have b2 := b2.alloc (.cells #[.func (.func 34) #[] #[.pointer (some ⟨bR, 0, none⟩)]] 30)
  have hk0 : ∀ f : Nat → Prop, Keep f Wi ((((Wi.alloc (.cells #[.func (.yield lp) #[] #[]] 67)).alloc (.cells #[.slice none 0 0] 22)).alloc (.cells #[.int .i64 0] 3)).alloc (.cells #[.func (.func 34) #[] #[.pointer (some ⟨bR, 0, none⟩)]] 30)) := fun f => ((((Keep.refl f Wi).alloc _).alloc _).alloc _).alloc _
  have hz : ((((Wi.alloc (.cells #[.func (.yield lp) #[] #[]] 67)).alloc (.cells #[.slice none 0 0] 22)).alloc (.cells #[.int .i64 0] 3)).alloc (.cells #[.func (.func 34) #[] #[.pointer (some ⟨bR, 0, none⟩)]] 30)).heap.size = Wi.heap.size + 4 := by simp
  have hUn : ∀ k, U k → ¬ (k = Wi.heap.size ∨ k = Wi.heap.size + 1 ∨ k = Wi.heap.size + 2) := fun k h => by have := hUw k h; omega
  refine callsIn_of_wp_marks Try.func37 rfl trivial ?_ rfl
  simp only [Try.ntmps37, List.size_toArray, List.length_cons, List.length_nil, Nat.reduceAdd, Nat.reduceSub, Array.replicate_succ, Array.replicate_zero, List.push_toArray, List.append_toArray, List.nil_append, List.cons_append]
  gi_wp2_with (refine ⟨trivial, ?_⟩; gi_at_call 38; refine (callsIn_wide.2 (mgroups_any _ _ _)).mono ?_; rintro e w' ⟨rfl, rfl⟩)
  generalize ((((Wi.alloc (.cells #[.func (.yield lp) #[] #[]] 67)).alloc (.cells #[.slice none 0 0] 22)).alloc (.cells #[.int .i64 0] 3)).alloc (.cells #[.func (.func 34) #[] #[.pointer (some ⟨bR, 0, none⟩)]] 30)) = W0 at b0 b1 b2 bG hk0 hz ⊢
  have hR2 := (hk0 R).boxed hTR hR1
  have hv2 : VersAt W0 v l := by
    obtain ⟨ao, cap, rfl, c1, c2, h⟩ := hv1
    refine ⟨ao, cap, rfl, c1, c2, fun h0 => ?_⟩
    obtain ⟨b, off, rfl, hr⟩ := h h0
    exact ⟨b, off, rfl, hr.kept (hk0 R).size ((hk0 R).block b (hTv h0 b rfl) hr.1)⟩
  have hfm : ∀ k, fp k → ¬ U k ∧ ¬ R k ∧ k < Wi.heap.size := fun k h => ⟨fun h1 => hd k h (.inr h1), fun h1 => hd k h (.inl h1), hlt k h⟩
  have hJ0 := hJ _ _ _ _ h0 (hk0 fp)
  have it0 : ItS J U W0 [] (fun k => k = Wi.heap.size ∨ k = Wi.heap.size + 1 ∨ k = Wi.heap.size + 2) fp W0 :=
    ⟨hJ0, Keep.refl _ _, fun k h => by have := hUw k h; omega, fun k h => by omega, fun k h => by have := hlt k h; omega, fun k h h1 => by have := hlt k h1; omega, fun k h h1 => hUn k h h1, fun k h h1 => (hfm k h1).1 h⟩
  have hB3 := hB1
  replace hB1 := (hk0 U).boxed uB hB1
  refine wpIn_rangeK (F := Fence.wide) rfl h1n (gf := 63) (lb := #[.pointer (some ⟨Wi.heap.size + 1 + 1 + 1, 0, none⟩)]) rfl trivial (enters_of Try.func63 (by kernel_rfl) rfl)
    (groups1_seq (n - 1) (by omega) bR (Wi.heap.size + 1 + 1 + 1) v l W0 R (fun k => k = Wi.heap.size + 1 + 1 + 1) hl hR2 hv2 hTv hTR rfl (fun k h h1 => by have := hRW k h1; omega) (fun k h => by have := hRW k h; omega) bG) rfl
    (by rintro k (h | h); have := hRW k h; omega; omega) (fun _ h => h)
    (fun pre fp W => ∃ v, It J U W0 (CutO Wi.heap.size lp v (Pl.cst (bigB by') pre).2 (wrap64 (Pl.vsum (Pl.cst (bigB by') pre).2 : Int))) (Pl.cst (bigB by') pre).1 fp W)
    (fun c pre fp W => c = .ret ∧ ∃ out, out <+: Pl.cutsOf (bigB by') l ∧ EndSt Jx U W0 out fp W)
    (fun pre x a' fp W => ∃ v v', It J U W0 (WithEl (CutO Wi.heap.size lp v (Pl.cst (bigB by') pre).2 (wrap64 (Pl.vsum (Pl.cst (bigB by') pre).2 : Int))) ElV x v') (Pl.cst (bigB by') pre).1 fp W ∧ a' = { tmps := #[.func (.yield lp) #[] #[], .pointer (some ⟨bS, 0, none⟩), .pointer (some ⟨bB, 0, none⟩), .pointer (some ⟨Wi.heap.size, 0, none⟩), .pointer (some ⟨Wi.heap.size + 1, 0, none⟩), .pointer (some ⟨Wi.heap.size + 1 + 1, 0, none⟩), v', undef, undef, .func (.func 34) #[] #[.pointer (some ⟨bR, 0, none⟩)], .func (.func 63) #[] #[.pointer (some ⟨Wi.heap.size + 1 + 1 + 1, 0, none⟩)], v', undef, undef, undef, undef, undef, undef, undef, undef, undef, undef, undef, undef, undef, undef, undef, undef, undef, undef, undef, undef, undef, undef, undef, undef, undef, undef, undef, undef, undef, undef, undef, undef, undef], defers := [] })
    ?_ ?_ ?_ (uni U (fun k => k = Wi.heap.size ∨ k = Wi.heap.size + 1 ∨ k = Wi.heap.size + 2) fp) ?_ ?_ ?_ ?assign ?body ?done ?stop
  case assign =>
    intro l' pre x v2 ef fp1 W K ⟨v1, hI⟩ hlt1 hel hef _ _ hpre hK
    clear hY
    obtain ⟨fo, fj, rfl, hO, it⟩ := hI
    gi_wp2
    refine hK _ _ _ ((Step.refl (fun k h => ?_)).more (fun _ h => h) (fun k h => ?_)) ⟨v1, v2, ⟨_, fj, rfl, ⟨fo, ef, fun _ => Iff.rfl, fun k h h1 => (hef k h1).1 (.inr (.inl h)), hO, hel⟩, it.take (fun k h => (hef k h).1) (fun k h => (hef k h).2.2)⟩, rfl⟩
    · exact h.elim (hlt1 k) (fun h => (hef k h).2.2)
    · rcases h with h | (h | h) | h
      · exact .inl (.inl h)
      · exact .inl (.inr (.inl h))
      · exact .inr h
      · exact .inl (.inr (.inr h))
  case body =>
    rintro l' pre x a' fp1 W ⟨v1, v2, ⟨fo, fj, rfl, ⟨f1, ef, hs, hde, hO, hel⟩, it⟩, rfl⟩ hlt1 hnw hkR hpre
    have HK := (hk0 (fun k => R k ∨ U k)).trans ((hkR.mono (fun k h _ => .inl h : ∀ k, R k → k < W0.heap.size → R k ∨ k = Wi.heap.size + 1 + 1 + 1)).or it.keep) (fun _ h _ => h)
    have hRd : ∀ k, R k ∨ U k → ¬ f1 k := fun k h h1 => by
      have h2 := (hs k).2 (.inl h1)
      rcases h with h | h
      · rcases hnw k (.inr (.inl h2)) with (h3 | h3 | h3) | h3
        · exact hRU k h3 h
        · have := hRW k h; omega
        · exact (hfm k h3).2.1 h
        · have := hRW k h; omega
      · exact it.uo k h h2
    clear hkR hnw
    have hlen := Pl.cst_length (big := bigB by') pre x l hpre
    have hyl := Lib.hid (fun h => Pl.cst_yield (big := bigB by') hpre h)
    have hss := Lib.hid (Pl.cst_snoc (big := bigB by') pre x)
    have hB2 : Wi.heap.size + 3 ≤ W.heap.size := by have := it.keep.size; omega
    clear b0 b1 b2
    clear b0 b1 b2
    clear hR hv hTv hTR hRU hRw hS hkm hd h0 hS1 hR1 hv1 hRW cS0 ltS0 hR2 hv2 hz hk0 cS1 bG uS hJ0 it0 hB3 hBy
    generalize hG : Pl.cst (bigB by') pre = s at *
    obtain ⟨out, g⟩ := s
    simp only at hO it hlen
    clear hG
    cases x with
    | nil => exact absurd rfl hel.2.1
    | cons y r =>
      obtain ⟨b, cap, rfl, _, hbl⟩ := own_cons hel.1
      have c1 := hO.2.1.cell
      have hlo : ∀ k, f1 k → k < W.heap.size := fun k h => it.olt k ((hs k).2 (.inl h))
      have hln : g.length + (r.length + 1) ≤ l.length := hlen
      gi_wp2_with (gi_at_builtin; go_must (refine wpListIn_appv (by rfl) _ _ 22 (by rfl) (Wi.heap.size + 3) 44 (.agg #[.string .empty, .int .u64 0, .bool false, .string .empty]) 4 48 Try.underlying22 info_version rfl (by decide) v1 g.length (vcells g) W hO.2.2.2.1 hB2 (by rfl) b r.length cap (vcells (y :: r)) 0 hel.1 (by rfl) (vcells_cell _) (by omega) (by decide) ?_; intro g0 cap0 w1 hown' hgrow hat hg0; have ⟨bL1, hW2⟩ := CutO.append (x := y :: r) hO hlo rfl hown' hgrow hat hg0; have cL1 := bL1.cell; have fL1 := bL1.frozen))
      obtain ⟨hO2, st2⟩ := hW2 _ rfl
      have hkE : Keep ef W (w1.setCell ⟨Wi.heap.size + 1, 0, none⟩ (.slice (some ⟨g0, 0, none⟩) (g.length + (y :: r).length) cap0)) := st2.keep.mono (fun k h _ h1 => hde k h1 h)
      have hrow := own_vers (hkE.ownsRow hel.1 hel.2.2)
      clear hW2 cL1 fL1 bL1 hown' hgrow hat hg0 c1
      rw [show g.length + (y :: r).length = g.length + (r.length + 1) from rfl] at hO2 st2 hkE hrow
      generalize (w1.setCell ⟨Wi.heap.size + 1, 0, none⟩ (.slice (some ⟨g0, 0, none⟩) (g.length + (r.length + 1)) cap0)) = W2 at *
      have hB4 := (it.keep.trans st2.keep (fun k h _ h1 => it.uo k h ((hs k).2 (.inl h1)))).boxed uB hB1
      have hUB3 : bB ≠ Wi.heap.size + 1 + 1 := fun e => hUn bB uB (.inr (.inr e))
      obtain ⟨_, _, e, _, _, hrow⟩ := hrow
      obtain ⟨_, off, e2, hrow⟩ := hrow (by simp)
      obtain rfl : off = 0 := by cases e; cases e2; rfl
      cases e; cases e2
      gi_loopw [17] (fun i wr => ∃ k : Nat, k ≤ r.length + 1 ∧ i = .int .i64 k ∧ Boxed wr (Wi.heap.size + 1 + 1) 3 (.int .i64 (wrap64 (Pl.vsum (g ++ (y :: r).take k) : Int))) ∧ Keep (fun k => k ≠ Wi.heap.size + 1 + 1) W2 wr) (fun i _ => r.length + 1 - (intOf i).toNat)
      case atStart => exact ⟨0, by omega, rfl, by simpa using hO2.2.2.1, Keep.refl _ _⟩
      case round =>
        obtain ⟨k, hk, rfl, hb, hkp⟩ := hrel
        have cN := hb.cell
        have fN := hb.frozen
        by_cases h1 : k < r.length + 1
        · have hrk := hrow.kept hkp.size (hkp.block b (fun e => by
            have := (hO2.2.2.1.not_row (t := 3) (e := 44) (by decide) (hkE.ownsRow hel.1 hel.2.2))
            exact this (by rw [e]; rfl)) hrow.1)
          obtain ⟨x0, x1, x2, x3⟩ := hrk.2 k h1
          simp only [Nat.zero_add] at x0 x1 x2 x3
          have hsn : Pl.vsum (g ++ (y :: r).take (k + 1)) = Pl.vsum (g ++ (y :: r).take k) + Pl.vsz (y :: r)[k] := by
            rw [List.take_succ_eq_append_getElem h1, ← List.append_assoc, Pl.vsum_append _ [_], Pl.vsum_one]
          replace hsn := Lib.hid hsn
          generalize (y :: r)[k] = z at *
          have hb2 := hb.alloc (.cells #[.string z.key, .int .u64 (z.seq : Int), .bool z.del, .string z.val] 44)
          have cN2 := hb2.cell
          have fN2 := hb2.frozen
          clear hrk
          gi_wp2
          go_roundw
          case rel =>
            refine ⟨k + 1, by omega, by go_num, ?_, ?_⟩
            · rw [hsn.out, ← wrap_vsz]
              exact hb2.set _
            · exact (hkp.alloc _).setCell _ _ _ (fun h _ => h rfl)
          case measure => simp [intOf]; omega
        · obtain rfl : k = r.length + 1 := by omega
          have cB := (hkp.boxed hUB3 hB4).cell
          have e4 : (y :: r).take (r.length + 1) = y :: r := List.take_of_length_le (by simp)
          rw [e4] at hb cN
          clear e4
          obtain ⟨hO3, st3⟩ := hO2.count st2.lt hb hkp
          obtain ⟨it3, st4⟩ := it.step hJ ((st2.trans st3).more (fun k h => (hs k).2 (.inl h)) (fun _ h => h))
          have c0 := hO3.1.cell
          have c1 := hO3.2.1.cell
          by_cases hsm : wrap64 (Pl.vsum (g ++ y :: r) : Int) < by'
          · have hss' := hss.out
            rw [Pl.cst1_small (bigB_false hsm)] at hss'
            replace hss' := Lib.hid hss'
            clear hY hyl hss
            gi_wp2
            exact ⟨_, ⟨_, by rw [hss'.out]; exact ⟨_, fj, rfl, hO3, it3⟩⟩, st4⟩
          · have hss' := hss.out
            have hyl' := hyl.out (bigB_true hsm)
            rw [Pl.cst1_big (bigB_true hsm)] at hss'
            replace hss' := Lib.hid hss'
            obtain ⟨s1, s2, hCB, hEl, sown⟩ := hO3.split (by simp)
            have it4 := it3.less s1
            obtain ⟨fn, tmps, assign, body, hy, hRd⟩ := hY out (g ++ y :: r) _ _ fj _ it4.j it4.jlt hEl (fun k h => ⟨it4.oj k (.inr h), by have := (sown k h).1; omega, (sown k h).2⟩) (HK.trans (st2.trans st3).keep (fun k h _ => hRd k h)) hyl'
            clear hY hyl hss
            gi_wp2
            refine ⟨fun h => (by cases h), (roundIn_wide hRd).mono ?_⟩
            rintro e W3 (⟨rfl, fj3, hJ3, st5⟩ | ⟨rfl, fj3, hJ3, st5⟩)
            · clear hy
              obtain ⟨it5, k5, st6⟩ := it4.yield (fun _ => Iff.rfl) s2 st5 hJ3
              have hCB' := hCB.keep k5 ⟨.inl rfl, .inr (.inl rfl), .inr (.inr rfl)⟩
              obtain ⟨hO6, st7⟩ := hCB'.fresh (fo := fun k => k = Wi.heap.size ∨ k = Wi.heap.size + 1 ∨ k = Wi.heap.size + 1 + 1) (fun _ h => h) it5.olt
              obtain ⟨it7, st8⟩ := it5.step hJ st7
              have d1 := hCB'.2.1.cell
              have d2 := hCB'.2.1.frozen
              have d3 := (hCB'.2.2.other (show Wi.heap.size + 1 + 1 ≠ Wi.heap.size + 1 by omega) (.slice none 0 0)).cell
              have d4 := (hCB'.2.2.other (show Wi.heap.size + 1 + 1 ≠ Wi.heap.size + 1 by omega) (.slice none 0 0)).frozen
              have st9 := (st4.more (fun _ h => h) (uni_more s1)).trans (st6.trans st8)
              clear hkp hO3 hO2 it5 it4 it3 c0 c1 cN fN hb
              gi_wp2
              exact ⟨_, ⟨_, by rw [hss'.out]; exact ⟨_, fj3, rfl, by rw [wrap_none]; exact hO6, it7⟩⟩, st9⟩
            · clear hy
              obtain ⟨it5, k5, st6⟩ := it4.yield (fun _ => Iff.rfl) s2 st5 hJ3
              have st9 := (st4.more (fun _ h => h) (uni_more s1)).trans st6
              gi_wp2
              exact ⟨_, ⟨rfl, _, hyl', it5.toEnd⟩, st9⟩
  case done =>
    rintro D ys fp2 W2 hD hnD hnew hlt2 hkT rfl ⟨v1, fo, fj, rfl, hO, it⟩ hK
    have hDW := (Array.getElem?_eq_some_iff.1 hK).1
    have hne : ∀ k, uni U fo fj k → U k ∨ fp k ∨ Wi.heap.size ≤ k := fun k h => by
      rcases hnew k h with (h | h | h) | h
      · exact .inl h
      · right; right; omega
      · exact .inr (.inl h)
      · right; right; omega
    have hRf : ∀ k, R k → ¬ uni U fo fj k := fun k h h2 => by
      rcases hne k h2 with h3 | h3 | h3
      · exact hRU k h3 h
      · exact (hfm k h3).2.1 h
      · have := hRW k h; omega
    replace hkT : Keep R W0 W2 := hkT.mono (fun k h _ => .inl h)
    have c0 := hO.1.cell
    have c1 := hO.2.1.cell
    have hE0 : ∀ s, Pl.cst (bigB by') (Pl.grps l) = s → Pl.cutsOf (bigB by') l = Pl.gend s := fun s h => by unfold Pl.cutsOf; rw [h]
    generalize hG : Pl.cst (bigB by') (Pl.grps l) = s at *
    replace hE0 := hE0 _ rfl
    obtain ⟨out, g⟩ := s
    simp only at hO it
    clear hG
    cases g with
    | nil =>
      have hE := Lib.hid (hE0.trans (Pl.gend_none rfl)).symm
      clear hE0
      obtain ⟨fj2, hj, hk, hn2, hl2⟩ := it.toEnd.finish hJ hk0 hRW hUw hkT (by omega) hnD hne
      obtain ⟨ao, cap, rfl⟩ := own_nil hO.2.2.2.1
      clear hY
      gi_wp2
      refine ⟨by simp, .inl ⟨_, _, rfl, run_takeDeferred hK, ?_⟩⟩
      refine ⟨_, results_none rfl _ _ _, ?_⟩
      exact SeqEnd.all hk hn2 hl2 _ hE.out hj
    | cons a r =>
      have hE := Lib.hid (hE0.trans (Pl.gend_some (by simp))).symm
      clear hE0
      obtain ⟨s1, s2, hCB, hEl, sown⟩ := hO.split (by simp)
      have it4 := it.less s1
      obtain ⟨fn, tmps, assign, body, hy, hRd⟩ := hY out (a :: r) _ _ fj _ it4.j it4.jlt hEl (fun k h => ⟨it4.oj k (.inr h), by have := (sown k h).1; omega, (sown k h).2⟩) ((hk0 (fun k => R k ∨ U k)).trans (hkT.or it.keep) (fun _ h _ => h)) (by rw [← hE.out]; exact List.prefix_refl _)
      obtain ⟨b, cap, rfl, _, hbl⟩ := own_cons hO.2.2.2.1
      have hpos : 0 < r.length + 1 := by omega
      clear hY
      gi_wp2
      refine hRd.mono ?_
      rintro e W3 (⟨rfl, fj3, hJ3, st3⟩ | ⟨rfl, fj3, hJ3, st3⟩)
      all_goals
        clear hy
        obtain ⟨it5, k5, st6⟩ := it4.yield (fun _ => Iff.rfl) s2 st3 hJ3
        have q2 := st6.more (uni_more s1) (fun _ h => h)
        have hK3 := (q2.keep.block D hnD hDW).trans hK
        have hnD3 := q2.other hnD hDW
        have hn3 : ∀ k, uni U (fun k => k = Wi.heap.size ∨ k = Wi.heap.size + 1 ∨ k = Wi.heap.size + 1 + 1) fj3 k → U k ∨ fp k ∨ Wi.heap.size ≤ k := fun k h => by
          rcases q2.new k h with h | h
          · exact hne k h
          · have := it.keep.size; right; right; omega
        gi_wp2
        refine ⟨by simp, .inl ⟨_, _, rfl, run_takeDeferred hK3, ?_⟩⟩
        refine ⟨_, results_none rfl _ _ _, ?_⟩
      · obtain ⟨fj2, hj, hk, hn2, hl2⟩ := it5.toEnd.finish hJ hk0 hRW hUw (hkT.trans q2.keep (fun i h _ => hRf i h)) (by omega) hnD3 hn3
        exact SeqEnd.all hk hn2 hl2 _ hE.out hj
      · obtain ⟨fj2, hj, hk, hn2, hl2⟩ := it5.toEnd.finish hJx hk0 hRW hUw (hkT.trans q2.keep (fun i h _ => hRf i h)) (by omega) hnD3 hn3
        exact SeqEnd.part hk hn2 hl2 _ (by rw [hE.out]; exact List.prefix_refl _) hj
  case stop =>
    rintro D c pre fp2 W2 hD hnD hnew hlt2 hkT hpre ⟨rfl, out, ho, h⟩ hK
    have hne : ∀ k, fp2 k → U k ∨ fp k ∨ Wi.heap.size ≤ k := fun k h => by
      rcases hnew k h with (h | h | h) | h
      · exact .inl h
      · right; right; omega
      · exact .inr (.inl h)
      · right; right; omega
    replace hkT : Keep R W0 W2 := hkT.mono (fun k h _ => .inl h)
    clear hY
    gi_wp2
    refine ⟨by simp, .inl ⟨_, _, rfl, run_takeDeferred hK, ?_⟩⟩
    refine ⟨_, results_none rfl _ _ _, ?_⟩
    obtain ⟨fj, hj, hk, hn2, hl2⟩ := h.finish hJx hk0 hRW hUw hkT (by omega) hnD hne
    exact SeqEnd.part hk hn2 hl2 _ ho hj
  · rintro pre fp W W' ⟨v, h⟩ hk
    exact ⟨v, h.abide (cutO_abide _ _ _ _ _) hJ hk⟩
  · rintro c pre fp W W' ⟨hc, out, ho, h⟩ hkp
    exact ⟨hc, out, ho, h.abide hJx hkp⟩
  · rintro pre x a' _ fp W W' ⟨v, v', h, he⟩ hk
    exact ⟨v, v', h.abide (withEl_abide (cutO_abide _ _ _ _ _) elV_abide _ _) hJ hk, he⟩
  · rintro k (h | h | h) h1
    · rcases h1 with h1 | h1
      · exact hRU k h h1
      · have := hUw k h; omega
    · rcases h1 with h1 | h1
      · have := hRW k h1; omega
      · omega
    · rcases h1 with h1 | h1
      · exact (hfm k h).2.1 h1
      · have := hlt k h; omega
  · exact it0.lt
  · exact ⟨_, _, _, rfl, ⟨b0, b1, by rw [show wrap64 ((Pl.vsum (Pl.cst (bigB by') []).2 : Nat) : Int) = 0 from wrap_none]; exact b2, World.ownsRow_nil _ _ _ _, .inl rfl, .inr (.inl rfl), .inr (.inr rfl), fun k e => by cases e⟩, it0⟩
end Go.Proofs.Ytiogjebekadmcaa
