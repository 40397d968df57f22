
/- Walks: the groups of a row, as a sequence of lists: the sequence itself. Condition: rows whose bytes fit. -/
import Derived.Test.YtiogjebekadmcaaWGroups
namespace Go.Proofs.Ytiogjebekadmcaa
open Go.RowKit Go.Shelf

attribute [local go_sem] Oper.semAt_some

theorem roundIn_wide {P : Program} {l' n m l f : Nat} {tmps : Array Value} {assign body : Code} {w : World} {R : Ending → World → Prop} (h : RoundIn Fence.wide n P l f tmps assign body w R) : RoundIn (Fence.wide.inRound l') m P l f tmps assign body w R :=
  ⟨h.1, fun c cs _ => h.2 c cs (fun d hd => by cases hd)⟩
/-- a list of one's own: its slice, its first one -/
theorem own_cons {W : World} {base : Nat} {v : Value} {a : Ver} {r : List Ver} (h : W.ownsRow base 44 4 v (a :: r).length (vcells (a :: r))) :
    ∃ b cap, v = .slice (some ⟨b, 0, none⟩) (r.length + 1) cap ∧ W.cell? ⟨b, 0, none⟩ = some (.string a.key) ∧ b < W.heap.size := by
  obtain ⟨b, cap, rfl⟩ := ownsRow_succ h
  refine ⟨b, cap, rfl, ?_, (h.lt b rfl).2⟩
  have := h.cells (g := b) rfl 0 (.string a.key) (by simp [vcells])
  simpa [Addr.add] using this
theorem own_nil {W : World} {base : Nat} {v : Value} {xs : List Value} (h : W.ownsRow base 44 4 v 0 xs) : ∃ ao cap, v = .slice ao 0 cap := by
  rcases h.2 with ⟨rfl, _⟩ | ⟨g, cap, cur, rfl, _⟩
  · exact ⟨_, _, rfl⟩
  · exact ⟨_, _, rfl⟩

theorem Step.ofDrewN {f g : Nat → Prop} {W W' : World} {n : Nat} (h : Step f g (W.drewN n) W') : Step f g W W' :=
  ⟨⟨h.keep.os, h.keep.tape, h.keep.output, h.keep.size, h.keep.block⟩, h.new, h.lt⟩
theorem gnew_eq {a x : Ver} {r : List Ver} (h : Pl.gnew (a :: r) x = false) : (a.key.toList == x.key.toList) = true := by simpa [Pl.gnew] using h
theorem gnew_ne {a x : Ver} {r : List Ver} (h : Pl.gnew (a :: r) x = true) : (a.key.toList == x.key.toList) = false := by simpa [Pl.gnew] using h

set_option maxRecDepth 100000 in
set_option maxHeartbeats 800000 in
theorem groups1_seq (n : Nat) (hn : 3 ≤ n) (bR bS : Nat) (v : Value) (l : List Ver) (w : World) (R : Nat → Prop) (U : Nat → Prop) (hl : l.length * 48 ≤ 140737488355328)
    (hR : Boxed w bR 22 v) (hv : VersAt w v l) (hTv : 0 < l.length → ∀ k, v.ownBlock = some k → R k) (hTR : R bR) (hUd : U = fun k => k = bS) (hRU : ∀ k, U k → ¬ R k) (hRw : ∀ k, R k → k < w.heap.size)
    (hS : Boxed w bS 30 (.func (.func 34) #[] #[.pointer (some ⟨bR, 0, none⟩)])) :
    SeqK Fence.wide n Try.prog 63 #[.pointer (some ⟨bS, 0, none⟩)] ElV (fun k => R k ∨ U k) (fun k => R k ∨ U k)
      (fun ys => ys = Pl.grps l) (fun ys => ys <+: Pl.grps l) w := by
  intro lp J Jx Wi fp hkm hd hlt hJ hJx hY h0
  have h1n : 1 ≤ n := by omega
  have uS : U bS := by rw [hUd]
  have hS1 := hkm.boxed (.inr uS) hS
  have hR1 := hkm.boxed (.inl hTR) hR
  have hv1 : VersAt Wi v l := by
    obtain ⟨ao, cap, rfl, c1, c2, h⟩ := hv
    refine ⟨ao, cap, rfl, c1, c2, fun h0 => ?_⟩
    obtain ⟨b, off, rfl, hr⟩ := h h0
    exact ⟨b, off, rfl, hr.kept hkm.size (hkm.block b (.inl (hTv h0 b rfl)) hr.1)⟩
  have hUw : ∀ k, U k → k < Wi.heap.size := by rw [hUd]; exact fun k h => h ▸ hS1.lt
  have hRW : ∀ k, R k → k < Wi.heap.size := fun k h => Nat.lt_of_lt_of_le (hRw k h) hkm.size
  have hnf : ∀ (f : Nat) (l : Array Value) (w : World), (binOp .eql 30 (.func (.func f) #[] l) .nilFunc).run Try.prog w = .ok (.bool false) w := fun f l w => by kernel_rfl
  have cS0 := hS1.cell
  have ltS0 := hS1.lt
  have cS1 := ((hS1.alloc (.cells #[.func (.yield lp) #[] #[]] 67)).alloc (.cells #[.slice none 0 0] 22)).cell
  have b0 := Boxed.new Wi 67 (.func (.yield lp) #[] #[])
  have b1 := Boxed.new (Wi.alloc (.cells #[.func (.yield lp) #[] #[]] 67)) 22 (.slice none 0 0)
  simp only [World.size_alloc] at b0 b1
  have b0 := b0.alloc (.cells #[.slice none 0 0] 22)
  have hk0 : ∀ f : Nat → Prop, Keep f Wi ((Wi.alloc (.cells #[.func (.yield lp) #[] #[]] 67)).alloc (.cells #[.slice none 0 0] 22)) := fun f => ((Keep.refl f Wi).alloc _).alloc _
  have hz : ((Wi.alloc (.cells #[.func (.yield lp) #[] #[]] 67)).alloc (.cells #[.slice none 0 0] 22)).heap.size = Wi.heap.size + 2 := by simp
  refine callsIn_of_wp_marks Try.func63 rfl trivial ?_ rfl
  simp only [Try.ntmps63, List.size_toArray, List.length_cons, List.length_nil, Nat.reduceAdd, Nat.reduceSub, Array.replicate_succ, Array.replicate_zero, List.push_toArray, List.append_toArray, List.nil_append, List.cons_append]
  gi_wp2
  generalize ((Wi.alloc (.cells #[.func (.yield lp) #[] #[]] 67)).alloc (.cells #[.slice none 0 0] 22)) = W0 at cS1 b0 b1 hk0 hz ⊢
  have hS2 := (hk0 U).boxed uS hS1
  have hR2 := (hk0 R).boxed hTR hR1
  have hv2 : VersAt W0 v l := by
    obtain ⟨ao, cap, rfl, c1, c2, h⟩ := hv1
    refine ⟨ao, cap, rfl, c1, c2, fun h0 => ?_⟩
    obtain ⟨b, off, rfl, hr⟩ := h h0
    exact ⟨b, off, rfl, hr.kept (hk0 R).size ((hk0 R).block b (hTv h0 b rfl) hr.1)⟩
  have hfm : ∀ k, fp k → ¬ U k ∧ ¬ R k ∧ k < Wi.heap.size := fun k h => ⟨fun h1 => hd k h (.inr h1), fun h1 => hd k h (.inl h1), hlt k h⟩
  refine wpIn_rangeK (F := Fence.wide) rfl h1n (gf := 34) (lb := #[.pointer (some ⟨bR, 0, none⟩)]) rfl trivial (enters_of Try.func34 (by kernel_rfl) rfl)
    (row1_seqK (n - 1) (by omega) bR v l W0 R (by omega) hR2 hv2 hTR hTv) rfl (fun k h => by have := hRW k h; omega) (fun _ h => h)
    (fun pre fp W => ∃ v, GrpSt J U (fun _ => False) W0 Wi.heap.size lp (Pl.gst pre).1 (Pl.gst pre).2 v fp W)
    (fun c pre fp W => c = .ret ∧ ∃ out, out <+: Pl.grps l ∧ EndSt Jx U W0 out fp W)
    (fun pre x a' fp W => ∃ bx, (∃ v, GrpSt J U (fun k => k = bx) W0 Wi.heap.size lp (Pl.gst pre).1 (Pl.gst pre).2 v fp W) ∧ (VrAt bx x.key (x.seq : Int) x.del x.val W ∧ fp bx ∧ Wi.heap.size + 2 ≤ bx) ∧ a' = { tmps := #[.func (.yield lp) #[] #[], .pointer (some ⟨bS, 0, none⟩), .pointer (some ⟨Wi.heap.size, 0, none⟩), .pointer (some ⟨Wi.heap.size + 1, 0, none⟩), .pointer (some ⟨bx, 0, none⟩), .func (.func 34) #[] #[.pointer (some ⟨bR, 0, none⟩)], .bool false, .func (.func 34) #[] #[.pointer (some ⟨bR, 0, none⟩)], .agg #[.string x.key, .int .u64 (x.seq : Int), .bool x.del, .string x.val], undef, undef, undef, undef, undef, undef, undef, undef, undef, undef, undef, undef, undef, undef, undef, undef, undef, undef, undef, undef, undef, undef, undef, undef, undef, undef], defers := [] })
    ?_ ?_ ?_ (fun k => U k ∨ fp k ∨ k = Wi.heap.size ∨ k = Wi.heap.size + 1) ?_ ?_ ?_ ?assign ?body ?done ?stop
  case assign =>
    rintro l' pre x v2 ef fp W K ⟨v, hp⟩ hlt ⟨rfl, he⟩ hef hnw hkR hlen hK
    clear hY
    have hsz := hp.1.lt
    have hs2 := hp.2.2.2.2.2.1.size
    unfold Ver.v
    gi_wp2
    refine hK _ _ _ ((Step.alloc hlt _).more (fun _ h => .inl h) (fun _ h => h)) ⟨W.heap.size, ⟨v, hp.lay hJ hlt _⟩, ⟨VrAt.new _ _ _ _ _ _, .inr rfl, by omega⟩, rfl⟩
  case body =>
    rintro l' pre x a' fp W ⟨bx, ⟨v, hp⟩, ⟨⟨x0, x1, x2, x3, xB⟩, hbx, hbx2⟩, rfl⟩ hlt hnw hkR hlen
    have HK := (hk0 (fun k => R k ∨ U k)).trans (hkR.or hp.2.2.2.2.2.1) (fun _ h _ => h)
    clear hkR hnw
    have c0 := hp.1.cell
    have c1 := hp.2.1.cell
    have z1 := hp.2.1.frozen
    have hss := Pl.gst_snoc pre x
    have hlen2 := Pl.gst_lt hlen
    have hyl := Lib.hid (fun h => Pl.gst_yield hlen h)
    have hB2 : Wi.heap.size + 2 ≤ W.heap.size := hp.2.1.lt
    clear hR hv hTv hTR hRU hRw hS hkm hd h0 hS1 hR1 hv1 hUw hRW hnf cS0 ltS0 hS2 hR2 hv2 hfm hz hk0 cS1 b1 b0 uS hUd
    generalize hG : Pl.gst pre = s at *
    obtain ⟨out, g⟩ := s
    simp only at hp hlen2 hss hyl
    cases hgn : Pl.gnew g x
    · rw [Pl.gst1_old hgn] at hss
      have hss' := Lib.hid hss
      clear hss hY hyl hG
      cases g with
      | nil =>
        clear hgn
        obtain ⟨ao, cap, rfl⟩ := own_nil hp.2.2.1
        gi_wp2
        refine wpIn_round_quiet (by kernel_rfl) (by kernel_rfl) (by rintro ⟨a, w, h⟩; exact h) (by kernel_rfl) ?_
        repeat go_big_quiet_step (fail)
        refine wpQuiet_nil ?_
        rintro _ ⟨nq, rfl⟩
        have hp' := hp.drewN hJ nq
        gi_wp2_with (gi_at_builtin; go_must (refine wpListIn_app1 (by rfl) _ _ 22 (by rfl) (Wi.heap.size + 2) 44 (.agg #[.string .empty, .int .u64 0, .bool false, .string .empty]) 4 48 Try.underlying22 info_version rfl (by decide) _ ([] : List Ver).length (vcells []) (W.drewN nq) hp'.2.2.1 (by first | exact hB2 | exact hB3) (by rfl) #[.string x.key, .int .u64 (x.seq : Int), .bool x.del, .string x.val] 44 (by rfl) rfl (by simp [Value.oneCell']) (by omega) (by decide) ?_; intro g0 cap0 w1 hown' hgrow hat hg0; have ⟨bL1, hW2⟩ := GrpSt.append (x := x) hJ hp' hlt hown' hgrow hat hg0; have cL1 := bL1.cell; have fL1 := bL1.frozen))
        obtain ⟨q1, st⟩ := hW2 _ rfl
        exact ⟨_, ⟨_, by rw [hss'.out]; exact q1⟩, st.ofDrewN⟩
      | cons a r =>
        have hke := gnew_eq hgn
        clear hgn
        obtain ⟨b, cap, rfl, ca, hbl⟩ := own_cons hp.2.2.1
        have hpos : 0 < r.length + 1 := by omega
        gi_wp2
        refine wpIn_round_quiet (by kernel_rfl) (by kernel_rfl) (by rintro ⟨a, w, h⟩; exact h) (by kernel_rfl) ?_
        repeat go_big_quiet_step (fail)
        refine wpQuiet_nil ?_
        rintro _ ⟨nq, rfl⟩
        have hp' := hp.drewN hJ nq
        gi_wp2_with (gi_at_builtin; go_must (refine wpListIn_app1 (by rfl) _ _ 22 (by rfl) (Wi.heap.size + 2) 44 (.agg #[.string .empty, .int .u64 0, .bool false, .string .empty]) 4 48 Try.underlying22 info_version rfl (by decide) _ (a :: r).length (vcells (a :: r)) (W.drewN nq) hp'.2.2.1 (by first | exact hB2 | exact hB3) (by rfl) #[.string x.key, .int .u64 (x.seq : Int), .bool x.del, .string x.val] 44 (by rfl) rfl (by simp [Value.oneCell']) (by omega) (by decide) ?_; intro g0 cap0 w1 hown' hgrow hat hg0; have ⟨bL1, hW2⟩ := GrpSt.append (x := x) hJ hp' hlt hown' hgrow hat hg0; have cL1 := bL1.cell; have fL1 := bL1.frozen))
        obtain ⟨q1, st⟩ := hW2 _ rfl
        exact ⟨_, ⟨_, by rw [hss'.out]; exact q1⟩, st.ofDrewN⟩
    · cases g with
      | nil => simp [Pl.gnew] at hgn
      | cons a r =>
        have hyl' := hyl.out hgn
        rw [Pl.gst1_new hgn] at hss
        have hss' := Lib.hid hss
        have hke := gnew_ne hgn
        clear hss hyl hG hgn
        obtain ⟨b, cap, rfl, ca, hbl⟩ := own_cons hp.2.2.1
        have hpos : 0 < r.length + 1 := by omega
        gi_wp2
        refine wpIn_round_quiet (by kernel_rfl) (by kernel_rfl) (by rintro ⟨a, w, h⟩; exact h) (by kernel_rfl) ?_
        repeat go_big_quiet_step (fail)
        refine wpQuiet_nil ?_
        rintro _ ⟨nq, rfl⟩
        have hp' := hp.drewN hJ nq
        obtain ⟨fj, ef, hj, j2, hel, hef, kT⟩ := hp'.yield hlt (by simp)
        obtain ⟨fn, tmps, assign, body, hy, hRd⟩ := hY out (a :: r) _ ef fj _ hj j2 hel (fun k h => ⟨(hef k h).1, by have := (hef k h).2.1; omega, (hef k h).2.2⟩) (HK.drewN nq) hyl'
        clear hY ca
        skip
        gi_wp2
        refine ⟨fun h => (by cases h), (roundIn_wide hRd).mono ?_⟩
        rintro e W3 (⟨rfl, fj3, hJ3, st3⟩ | ⟨rfl, fj3, hJ3, st3⟩)
        · clear hy
          obtain ⟨q1, q2, q3, q4, q5⟩ := kT _ _ _ _ hJ3 st3
          obtain ⟨p1, p2⟩ := q5 hJ
          obtain ⟨y0, y1, y2, y3, _⟩ := VrAt.keep (show VrAt bx x.key (x.seq : Int) x.del x.val (W.drewN nq) from ⟨x0, x1, x2, x3, xB⟩) q4 rfl
          have zc := q3.frozen
          have cc := q3.cell
          have hB3 : Wi.heap.size + 2 ≤ (W3.setCell ⟨Wi.heap.size + 1, 0, none⟩ (.slice none 0 0)).heap.size := by have := p2.keep.size; have e : (W.drewN nq).heap.size = W.heap.size := rfl; omega
          clear c0 c1 z1 x0 x1 x2 x3 kT q5 q4
          gi_wp2_with (gi_at_builtin; go_must (refine wpListIn_app1 (by rfl) _ _ 22 (by rfl) (Wi.heap.size + 2) 44 (.agg #[.string .empty, .int .u64 0, .bool false, .string .empty]) 4 48 Try.underlying22 info_version rfl (by decide) _ ([] : List Ver).length (vcells []) (W3.setCell ⟨Wi.heap.size + 1, 0, none⟩ (.slice none 0 0)) p1.2.2.1 hB3 (by rfl) #[.string x.key, .int .u64 (x.seq : Int), .bool x.del, .string x.val] 44 (by rw [size_cell]; rfl) rfl (by simp [Value.oneCell']) (by simp only [List.length_nil]; omega) (by decide) ?_; intro g0 cap0 w1 hown' hgrow hat hg0; have ⟨bL1, hW2⟩ := GrpSt.append (x := x) hJ p1 p2.lt hown' hgrow hat hg0; have cL1 := bL1.cell; have fL1 := bL1.frozen))
          obtain ⟨q6, st⟩ := hW2 _ rfl
          exact ⟨_, ⟨_, by rw [hss'.out]; exact q6⟩, p2.ofDrewN.trans st⟩
        · clear hy
          obtain ⟨q1, q2, q3, q4, q5⟩ := kT _ _ _ _ hJ3 st3
          gi_wp2
          exact ⟨_, ⟨rfl, _, hyl', q1⟩, q2.ofDrewN⟩
  case done =>
    rintro D ys fp2 W2 hD hnD hnew hlt2 hkT rfl ⟨v2, hp⟩ hK
    have hDW := (Array.getElem?_eq_some_iff.1 hK).1
    have hne : ∀ k, fp2 k → U k ∨ fp k ∨ Wi.heap.size ≤ k := fun k h => by
      rcases hnew k h with (h | h | h | h) | h
      · exact .inl h
      · exact .inr (.inl h)
      · right; right; omega
      · right; right; omega
      · right; right; omega
    have hRf : ∀ k, R k → ¬ fp2 k := fun k h h2 => by
      rcases hne k h2 with h3 | h3 | h3
      · exact hRU k h3 h
      · exact (hfm k h3).2.1 h
      · have := hRW k h; omega
    have c0 := hp.1.cell
    have c1 := hp.2.1.cell
    generalize hG : Pl.gst ys = s at *
    obtain ⟨out, g⟩ := s
    simp only at hp
    cases g with
    | nil =>
      have hE : out = Pl.grps ys := by unfold Pl.grps; rw [hG, Pl.gend_none rfl]
      obtain ⟨fj, hj, hk, hn2, hl2⟩ := hp.toEnd.finish hJ hk0 hRW hUw hkT (by omega) hnD hne
      obtain ⟨ao, cap, rfl⟩ := own_nil hp.2.2.1
      replace hE := Lib.hid hE
      clear hY hG
      gi_wp2
      refine ⟨by simp, .inl ⟨_, _, rfl, run_takeDeferred hK, ?_⟩⟩
      refine ⟨_, results_none rfl _ _ _, ?_⟩
      exact SeqEnd.all hk hn2 hl2 _ hE.out hj
    | cons a r =>
      have hE : out ++ [a :: r] = Pl.grps ys := by unfold Pl.grps; rw [hG, Pl.gend_some (by simp)]
      obtain ⟨fj, ef, hj, j2, hel, hef, kT⟩ := hp.yield hlt2 (by simp)
      obtain ⟨fn, tmps, assign, body, hy, hRd⟩ := hY out (a :: r) v2 ef fj _ hj j2 hel (fun k h => ⟨(hef k h).1, by have := (hef k h).2.1; omega, (hef k h).2.2⟩) ((hk0 (fun k => R k ∨ U k)).trans (hkT.or hp.2.2.2.2.2.1) (fun _ h _ => h)) (by rw [hE]; exact List.prefix_refl _)
      obtain ⟨b, cap, rfl, _, hbl⟩ := own_cons hp.2.2.1
      have hpos : 0 < r.length + 1 := by omega
      replace hE := Lib.hid hE
      clear hY hG
      gi_wp2
      refine hRd.mono ?_
      rintro e W3 (⟨rfl, fj3, hJ3, st3⟩ | ⟨rfl, fj3, hJ3, st3⟩)
      all_goals
        clear hy
        obtain ⟨q1, q2, _⟩ := kT _ _ _ _ hJ3 st3
        have hK3 := (q2.keep.block D hnD hDW).trans hK
        have hnD3 := q2.other hnD hDW
        have hn3 : ∀ k, fp2 k ∨ fj3 k → U k ∨ fp k ∨ Wi.heap.size ≤ k := fun k h => by
          rcases q2.new k h with h | h
          · exact hne k h
          · right; right; omega
        gi_wp2
        refine ⟨by simp, .inl ⟨_, _, rfl, run_takeDeferred hK3, ?_⟩⟩
        refine ⟨_, results_none rfl _ _ _, ?_⟩
      · obtain ⟨fj, hj, hk, hn2, hl2⟩ := q1.finish hJ hk0 hRW hUw (hkT.trans q2.keep (fun i h _ => hRf i h)) (by omega) hnD3 hn3
        exact SeqEnd.all hk hn2 hl2 _ hE.out hj
      · obtain ⟨fj, hj, hk, hn2, hl2⟩ := q1.finish hJx hk0 hRW hUw (hkT.trans q2.keep (fun i h _ => hRf i h)) (by omega) hnD3 hn3
        exact SeqEnd.part hk hn2 hl2 _ (by rw [hE.out]; exact List.prefix_refl _) hj
  case stop =>
    rintro D c pre fp2 W2 hD hnD hnew hlt2 hkT hpre ⟨rfl, out, ho, h⟩ hK
    have hne : ∀ k, fp2 k → U k ∨ fp k ∨ Wi.heap.size ≤ k := fun k h => by
      rcases hnew k h with (h | h | h | h) | h
      · exact .inl h
      · exact .inr (.inl h)
      · right; right; omega
      · right; right; omega
      · right; right; omega
    clear hY
    gi_wp2
    refine ⟨by simp, .inl ⟨_, _, rfl, run_takeDeferred hK, ?_⟩⟩
    refine ⟨_, results_none rfl _ _ _, ?_⟩
    obtain ⟨fj, hj, hk, hn2, hl2⟩ := h.finish hJx hk0 hRW hUw hkT (by omega) hnD hne
    exact SeqEnd.part hk hn2 hl2 _ ho hj
  · rintro pre fp W W' ⟨v, hp⟩ hkp
    exact ⟨v, hp.abide hJ hkp⟩
  · rintro c pre fp W W' ⟨hc, out, ho, h⟩ hkp
    exact ⟨hc, out, ho, h.abide hJx hkp⟩
  · rintro pre x a' _ fp W W' ⟨bx, ⟨v, hp⟩, ⟨hv, hf⟩, he⟩ hkp
    exact ⟨bx, ⟨v, hp.abide hJ hkp⟩, ⟨hv.keep hkp hf.1, hf⟩, he⟩
  · rintro k (h | h | h)
    · exact hRU k h
    · exact (hfm k h).2.1
    · intro h1; have := hRW k h1; omega
  · rintro k (h | h | h)
    · have := hUw k h; omega
    · have := (hfm k h).2.2; omega
    · omega
  · refine ⟨_, b0, b1, World.ownsRow_nil _ _ _ _, ⟨.inr (.inr (.inl rfl)), .inr (.inr (.inr rfl)), fun k e => by cases e⟩, fun k h => ⟨.inl h, hUw k h⟩, Keep.refl _ _, fp, hJ _ _ _ _ h0 (hk0 fp), fun k h => .inr (.inl h), fun k h => by have := hlt k h; omega, ⟨fun h => by have := (hfm _ h).2.2; omega, fun h => by have := (hfm _ h).2.2; omega, fun k e => by cases e⟩, fun k h h1 => (hfm k h1).1 h, fun k h => h.elim⟩
end Go.Proofs.Ytiogjebekadmcaa
