
/- Walk: the law MergeCuts returns true. Condition: rows that the form's reach lets. -/
import Derived.Test.YtiogjebekadmcaaWCut2
import Derived.Test.YtiogjebekadmcaaWRefCut
import Derived.Test.YtiogjebekadmcaaRoundH
import Derived.Test.YtiogjebekadmcaaMarks
import Derived.Maps.AppendAt
namespace Go.Proofs.Ytiogjebekadmcaa
open Go.RowKit Go.Shelf

attribute [local go_sem] Oper.semAt_some

theorem results_bool {fn : Func} {p : Tmp} (h : fn.results = #[.cell p 4]) {tmps : Array Value} {b : Nat} {v : Value} {w : World} (hp : tmps.getD p undef = .pointer (some ⟨b, 0, none⟩)) (hc : w.cell? ⟨b, 0, none⟩ = some v) :
    (results fn tmps).run Try.prog w = .ok v w := by
  have hp' : tmps[p]?.getD undef = .pointer (some ⟨b, 0, none⟩) := by simpa using hp
  have hu := Try.underlying4
  have hl : (loadVar 4 ⟨b, 0, none⟩).run Try.prog w = .ok v w := by simp [loadVar, isAgg, Sem.run_bind, run_underlying hu w, go_sem, hc]
  simp [results, h, hp', asAddr, hl]

/-- 'append(v, x)' of one element, as a step of a region that draws -/
theorem step_app1 {P : Program} {ops : Array Oper} {o : Oper} {a : Act} {K : Act → World → Prop} {Q : Exit → Act → World → Prop} {E : Prop} (hgd : o.guard = none) (s x : Operand) (t : TypeId)
    (ho : o.op = .call { callee := .builtin .append, args := #[s, x], argTypes := #[t, t] })
    (B : Nat) (e : TypeId) (z : Value) (size bytes : Nat) (ht : P.underlying t = some (.slice e)) (hi : (P.info? e).map (fun i => (i.zero, i.size, i.bytes)) = some (some z, size, bytes)) (hzs : z.cells.size = size) (hsz : 0 < size)
    (v : Value) (k : Nat) (xs : List Value) (w0 : World) (hr : w0.ownsRow B e size v k xs) (hB : B ≤ w0.heap.size) (hs : a.eval s = v) (cs : Array Value) (et : TypeId)
    (hx : a.eval x = .slice (some ⟨w0.heap.size, 0, none⟩) 1 1) (hl : cs.size = size) (h1 : ∀ u ∈ cs.toList, u.oneCell' = true) (h63 : (k + 1) * bytes ≤ 140737488355328) (hb0 : 0 < bytes)
    (h : ∀ g cap w', w'.ownsRow B e size (.slice (some ⟨g, 0, none⟩) (k + 1) cap) (k + 1) (xs ++ cs.toList) → (w0.alloc (.cells cs et)).grownBy w' v.ownBlock → (v.ownBlock = some g ∨ w0.heap.size ≤ g) → g < w'.heap.size →
      K (a.put o.dst (.slice (some ⟨g, 0, none⟩) (k + 1) cap)) w') : if Region.wanted o (yielded ops a.tmps) = true then Oper.wp P o a (w0.alloc (.cells cs et)).drew K Q else E := by
  have hw : Region.wanted o (yielded ops a.tmps) = true := by simp [Region.wanted, hgd]
  rw [if_pos hw]
  obtain ⟨i, hi', hz0, hz1, hz2⟩ := info_parts hi
  have hk : k + 1 ≤ 140737488355328 := Nat.le_trans (Nat.le_mul_of_pos_right (k + 1) hb0) h63
  have hr' : (w0.alloc (.cells cs et)).drew.ownsRow B e size v k xs := hr.alloc _
  obtain ⟨v', w', hrun, h2, h3, _, h5⟩ := run_append_own_at (P := P) (w0.alloc (.cells cs et)).drew B t o.type e i z size bytes ht hi' hz0 hz1 hz2 hzs hsz v k xs hr' ⟨w0.heap.size, 0, none⟩ 1 1 cs.toList (by simpa using hl) (fun j u hj => by
    have hw : (w0.alloc (.cells cs et)).drew.cell? ⟨w0.heap.size, j, none⟩ = cs[j]? := World.cell?_alloc_mark w0 cs et (0, 0) j
    have ha : (⟨w0.heap.size, 0, none⟩ : Addr).add j = ⟨w0.heap.size, j, none⟩ := by rw [Addr.add_lit]; simp
    rw [ha, hw, ← Array.getElem?_toList]; exact hj) h1 (by unfold maxLen; omega) h63 (by show B ≤ (w0.alloc _).heap.size; simp; omega)
  obtain ⟨g, cap, rfl⟩ := ownsRow_succ h2
  unfold Oper.wp
  simp [execOp, ho, resolve, invoke, builtin, hs, hx, hrun, Result.andThen]
  refine h g cap w' h2 ⟨h3.os, h3.tape, h3.output, h3.size, h3.block⟩ ?_ (h2.lt g rfl).2
  rcases h5 with h5 | h5
  · exact .inl h5.symm
  · right
    have : g = (w0.alloc (.cells cs et)).heap.size := by simpa [Value.ownBlock] using h5
    rw [World.size_alloc] at this
    omega
theorem cell_set_other (W : World) (b o p : Nat) (v u : Value) (h : p ≠ o) (hc : W.cell? ⟨b, p, none⟩ = some u) : (W.setCell ⟨b, o, none⟩ v).cell? ⟨b, p, none⟩ = some u := by
  rw [World.cell?_setCell_other _ _ _ _ (fun e => h (by cases e; rfl))]; exact hc
theorem VerIn.setOther {W : World} {b o q : Nat} {x : Ver} {v : Value} (h : VerIn W b o x) (h1 : q < o) : VerIn (W.setCell ⟨b, q, none⟩ v) b o x :=
  ⟨cell_set_other _ _ _ _ _ _ (by omega) h.1, cell_set_other _ _ _ _ _ _ (by omega) h.2.1, cell_set_other _ _ _ _ _ _ (by omega) h.2.2.1, cell_set_other _ _ _ _ _ _ (by omega) h.2.2.2⟩
/-- a block of cells that may be written to -/
def Free (W : World) (b : Nat) : Prop := ∃ cur e, W.heap[b]? = some (.cells cur e (0, 0))
theorem Free.frozen {W : World} {b o : Nat} (h : Free W b) : W.frozen? ⟨b, o, none⟩ = false := by
  obtain ⟨cur, e, h⟩ := h
  simp [World.frozen?, h]
theorem Free.keep {W W' : World} {b : Nat} {f : Nat → Prop} (h : Free W b) (hk : Keep f W W') (hf : f b) : Free W' b := by
  obtain ⟨cur, e, h⟩ := h
  exact ⟨cur, e, (hk.block b hf (Array.getElem?_eq_some_iff.1 h).1).trans h⟩
theorem Free.set {W : World} {b o : Nat} (h : Free W b) (v : Value) : Free (W.setCell ⟨b, o, none⟩ v) b := by
  obtain ⟨cur, e, h⟩ := h
  obtain ⟨hlt, hk⟩ := Array.getElem?_eq_some_iff.1 h
  refine ⟨cur.setIfInBounds o v, e, ?_⟩
  show (W.heap.modify b _)[b]? = _
  rw [Array.getElem?_eq_getElem (by rw [Array.size_modify]; exact hlt), Array.getElem_modify_self, hk]
  simp
theorem free_own {W : World} {base n sz g c : Nat} {e : TypeId} {xs : List Value} (h : W.ownsRow base e sz (.slice (some ⟨g, 0, none⟩) n c) n xs) : Free W g := by
  rcases h.2 with ⟨h, _⟩ | ⟨g', cap, cur, h1, _, h2, _⟩
  · cases h
  · cases h1
    exact ⟨cur, e, h2⟩

/-- the law's variables: what was collected, how many lists came, what is wanted; below B nothing has turned but what the iterator has (T) -/
def CutL (w : World) (T : Nat → Prop) (n5 : Nat) (v1 : Value) (vs : List Value) (va : Value) (acc : List Ver) (m : Nat) (fp : Nat → Prop) (W : World) : Prop :=
  Boxed W w.heap.size 4 (.bool false) ∧ Boxed W n5 37 v1 ∧ Boxed W (n5 + 1) 22 va ∧ Boxed W (n5 + 1 + 1) 3 (.int .i64 m) ∧
    W.ownsRow (n5 + 3) 44 4 va acc.length (vcells acc) ∧ W.ownsRow (w.heap.size + 1) 22 1 v1 vs.length vs ∧ (∀ k, v1.ownBlock = some k → k < n5) ∧ w.heap.size + 1 ≤ n5 ∧
    (fp w.heap.size ∧ fp n5 ∧ fp (n5 + 1) ∧ fp (n5 + 1 + 1) ∧ (∀ k, va.ownBlock = some k → fp k) ∧ (∀ k, v1.ownBlock = some k → fp k)) ∧ (∀ k, k < w.heap.size → ¬ T k → fp k) ∧ Keep (fun k => k < w.heap.size ∧ ¬ T k) w W

variable {w : World} {T : Nat → Prop} {n5 : Nat} {v1 : Value} {vs : List Value} {va : Value} {acc : List Ver} {m : Nat} {fp : Nat → Prop} {W : World}
theorem cutL_abide (w : World) (T : Nat → Prop) (n5 : Nat) (v1 : Value) (vs : List Value) (va : Value) (acc : List Ver) (m : Nat) : AbideO (CutL w T n5 v1 vs va acc m) := by
  rintro fp W W' ⟨h0, h1, h2, h3, h4, h5, h6, h7, ⟨f0, f1, f2, f3, f4, f5⟩, h8, h9⟩ hk
  exact ⟨hk.boxed f0 h0, hk.boxed f1 h1, hk.boxed f2 h2, hk.boxed f3 h3, hk.ownsRow h4 f4, hk.ownsRow h5 f5, h6, h7, ⟨f0, f1, f2, f3, f4, f5⟩, h8, h9.trans hk (fun k hk _ => h8 k hk.1 hk.2)⟩
theorem CutL.append (h : CutL w T n5 v1 vs va acc m fp W) (hlt : ∀ k, fp k → k < W.heap.size) {w1 : World} {tmp : Obj} {x : Ver} {g0 cap q : Nat} (hq : q = acc.length)
    (hown' : w1.ownsRow (n5 + 3) 44 4 (.slice (some ⟨g0, 0, none⟩) (q + 1) cap) (q + 1) (vcells acc ++ vcells [x])) (hgrow : (W.alloc tmp).grownBy w1 va.ownBlock) (hat : va.ownBlock = some g0 ∨ W.heap.size ≤ g0) (hg0 : g0 < w1.heap.size) :
    Boxed w1 (n5 + 1) 22 va ∧ ∀ W2, W2 = w1.setCell ⟨n5 + 1, 0, none⟩ (.slice (some ⟨g0, 0, none⟩) (q + 1) cap) →
      CutL w T n5 v1 vs (.slice (some ⟨g0, 0, none⟩) (q + 1) cap) (acc ++ [x]) m (fun k => fp k ∨ k = g0) W2 ∧ Step fp (fun k => fp k ∨ k = g0) W W2 := by
  obtain ⟨h0, h1, h2, h3, h4, h5, h6, h7, ⟨f0, f1, f2, f3, f4, f5⟩, h8, h9⟩ := h
  subst hq
  have q0 := (h0.alloc tmp).kept hgrow (h0.not_row (by decide) h4)
  have q1 := (h1.alloc tmp).kept hgrow (h1.not_row (by decide) h4)
  have q2 := (h2.alloc tmp).kept hgrow (h2.not_row (by decide) h4)
  have q3 := (h3.alloc tmp).kept hgrow (h3.not_row (by decide) h4)
  refine ⟨q2, ?_⟩
  rintro W2 rfl
  have hg1 : g0 ≠ n5 + 1 := fun e => by have := (hown'.lt g0 rfl).1; omega
  have hva : ∀ k, va.ownBlock = some k → n5 + 3 ≤ k := fun k e => (h4.lt k e).1
  have st : Step fp (fun k => fp k ∨ k = g0) W (w1.setCell ⟨n5 + 1, 0, none⟩ (.slice (some ⟨g0, 0, none⟩) (acc.length + 1) cap)) := by
    refine ⟨(((Keep.refl _ W).alloc tmp).grown hgrow (fun k e h _ => h (f4 k e))).setCell _ _ _ (fun h _ => h f2), ?_, ?_⟩
    · rintro k (hk | rfl)
      · exact .inl hk
      · exact hat.imp (f4 _) id
    · rintro k (hk | rfl)
      · rw [size_cell]; have := hgrow.size; rw [World.size_alloc] at this; have := hlt k hk; omega
      · rw [size_cell]; exact hg0
  have kp : ∀ f : Nat → Prop, (∀ k, va.ownBlock = some k → ¬ f k) → ¬ f (n5 + 1) → Keep f W (w1.setCell ⟨n5 + 1, 0, none⟩ (.slice (some ⟨g0, 0, none⟩) (acc.length + 1) cap)) := fun f a b =>
    (((Keep.refl _ W).alloc tmp).grown hgrow (fun k e h _ => a k e h)).setCell _ _ _ (fun h _ => b h)
  have hr2 := hown'.kept (grownBy_setCell' w1 (n5 + 1) (.slice (some ⟨g0, 0, none⟩) (acc.length + 1) cap)) (.inr (by simpa [Value.ownBlock] using hg1))
  refine ⟨⟨q0.other (by omega) _, q1.other (by omega) _, q2.set _, q3.other (by omega) _, by rw [List.length_append, List.length_singleton, vcells_append]; exact hr2, ?_, h6, h7, ⟨.inl f0, .inl f1, .inl f2, .inl f3, fun k e => .inr (by simpa [Value.ownBlock] using e.symm), fun k e => .inl (f5 k e)⟩, fun k a b => .inl (h8 k a b), h9.trans (kp (fun k => k < w.heap.size) (fun k e h => by have := hva k e; omega) (by omega)) (fun k h _ => h.1)⟩, st⟩
  exact (kp (fun k => k < n5) (fun k e h => by have := hva k e; omega) (by omega)).ownsRow h5 h6
/-- the count turned -/
theorem CutL.count (h : CutL w T n5 v1 vs va acc m fp W) (hlt : ∀ k, fp k → k < W.heap.size) (m' : Nat) :
    CutL w T n5 v1 vs va acc m' fp (W.setCell ⟨n5 + 1 + 1, 0, none⟩ (.int .i64 m')) ∧ Step fp fp W (W.setCell ⟨n5 + 1 + 1, 0, none⟩ (.int .i64 m')) := by
  obtain ⟨h0, h1, h2, h3, h4, h5, h6, h7, ⟨f0, f1, f2, f3, f4, f5⟩, h8, h9⟩ := h
  have hva : ∀ k, va.ownBlock = some k → n5 + 3 ≤ k := fun k e => (h4.lt k e).1
  have kp : ∀ f : Nat → Prop, ¬ f (n5 + 1 + 1) → Keep f W (W.setCell ⟨n5 + 1 + 1, 0, none⟩ (.int .i64 m')) := fun f b => (Keep.refl _ W).setCell _ _ _ (fun h _ => b h)
  refine ⟨⟨h0.other (by omega) _, h1.other (by omega) _, h2.other (by omega) _, h3.set _, (kp (fun k => n5 + 3 ≤ k) (by omega)).ownsRow h4 hva, (kp (fun k => k < n5) (by omega)).ownsRow h5 h6, h6, h7, ⟨f0, f1, f2, f3, f4, f5⟩, h8, h9.trans (kp (fun k => k < w.heap.size) (by omega)) (fun k h _ => h.1)⟩, Step.cell hlt f3 _⟩
/-- all that lay there lies as it lay -/
theorem CutL.below (h : CutL w T n5 v1 vs va acc m fp W) (hT : Keep T w W) : Below w.heap.size w W := by
  obtain ⟨h0, h1, h2, h3, h4, h5, h6, h7, _, h8, h9⟩ := h
  exact ⟨h9.os, h9.tape, h9.output, h9.size, fun k hk => by
    by_cases ht : T k
    · exact hT.block k ht hk
    · exact h9.block k ⟨hk, ht⟩ hk⟩

/-- with a variable laid on top that still is as it was -/
theorem below_box {w w0 W : World} {t : TypeId} {v : Value} (h0 : Below w.heap.size w w0) (hz : w0.heap.size = w.heap.size + 1) (b0 : Boxed w0 w.heap.size t v) (h : Below w.heap.size w W) (b : Boxed W w.heap.size t v) : Below w0.heap.size w0 W :=
  ⟨h.os.trans h0.os.symm, h.tape.trans h0.tape.symm, h.output.trans h0.output.symm, by have := b.lt; omega, fun k hk => by
    by_cases hk' : k < w.heap.size
    · exact (h.block k hk').trans (h0.block k hk').symm
    · obtain rfl : k = w.heap.size := by omega
      exact Eq.trans b b0.symm⟩
theorem slice_at {W : World} {B n : Nat} {e : TypeId} {v : Value} {xs : List Value} (h : W.ownsRow B e 1 v n xs) (h0 : 0 < n) : ∃ g cap, v = .slice (some ⟨g, 0, none⟩) n cap ∧ n ≤ cap ∧ ∀ j (hj : j < xs.length), W.cell? ⟨g, j, none⟩ = some xs[j] := by
  obtain ⟨m, rfl⟩ : ∃ m, n = m + 1 := ⟨n - 1, by omega⟩
  have h' := h
  rcases h.2 with ⟨_, h1⟩ | ⟨g, cap, cur, rfl, h1, h2, h3, _⟩
  · omega
  · refine ⟨g, cap, rfl, h3, fun j hj => ?_⟩
    rw [h'.cellAt j (by have := h'.1; omega), List.getElem?_eq_getElem hj]
theorem own_slice {W : World} {B n sz : Nat} {e : TypeId} {v : Value} {xs : List Value} (h : W.ownsRow B e sz v n xs) : ∃ ao cap, v = .slice ao n cap := by
  rcases h.2 with ⟨rfl, rfl⟩ | ⟨g, cap, cur, rfl, _⟩
  · exact ⟨_, _, rfl⟩
  · exact ⟨_, _, rfl⟩
theorem prefix_at {α : Type} {pre l : List α} {x : α} (h : pre ++ [x] <+: l) : ∃ hl : pre.length < l.length, l[pre.length] = x := by
  obtain ⟨r, rfl⟩ := h
  exact ⟨by simp, by simp⟩

theorem fl_le {big : List Ver → Bool} {l x : List Ver} {pre : List (List Ver)} (h : pre ++ [x] <+: Pl.cutsOf big l) : (Pl.fl pre).length + x.length ≤ l.length := by
  obtain ⟨r, hr⟩ := h
  have := congrArg Pl.fl hr
  rw [Pl.cuts_fl, Pl.fl_append, Pl.fl_snoc] at this
  have := congrArg List.length this
  simp only [List.length_append] at this
  omega

set_option maxRecDepth 100000 in
set_option maxHeartbeats 2000000 in
theorem mergeCuts_any (v : Value) (l : List Ver) (by' : Int) (w : World) (hv : VersAt w v l) (hl : l.length ≤ 2932031007317) :
    Calls Try.prog 4 #[v, .int .i64 by'] w fun e w' => e = .returned (.bool true) ∧ Below w.heap.size w w' := by
  obtain ⟨ao, cap, rfl, c1, c2, hrow⟩ := hv
  have hv : VersAt w (.slice ao l.length cap) l := ⟨ao, cap, rfl, c1, c2, hrow⟩
  have hb0 : Below w.heap.size w (w.alloc (.cells #[.bool false] 4)) := (Below.refl _ _).alloc (Nat.le_refl _) _
  have bR0 := Boxed.new w 4 (.bool false)
  have hz0 : (w.alloc (.cells #[.bool false] 4)).heap.size = w.heap.size + 1 := by simp
  have hnf : ∀ (f : Nat) (l : Array Value) (w : World), (binOp .eql 40 (.func (.func f) #[] l) .nilFunc).run Try.prog w = .ok (.bool false) w := fun f l w => by kernel_rfl
  refine (callsIn_wide (n := 9)).1 ?_
  refine callsIn_of_wp_marks Try.func4 rfl trivial (wpIn_wide.2 ?_) rfl
  simp only [Try.ntmps4, List.size_toArray, List.length_cons, List.length_nil, Nat.reduceAdd, Nat.reduceSub, Array.replicate_succ, Array.replicate_zero, List.push_toArray, List.append_toArray, List.nil_append, List.cons_append]
  go_wp2_with fail
  generalize w.alloc (.cells #[.bool false] 4) = w0 at hb0 bR0 hz0 ⊢
  have P1 := Lib.hid (refCut_any (.slice ao l.length cap) l by' w0 (hv.below hb0) hl)
  ((with_reducible refine P1.out.mono ?_); rintro e w1 ⟨v1, vs, rfl, hls, hown⟩)
  obtain ⟨ao1, cap1, rfl⟩ := own_slice hown.1
  go_wp2_with (first | (go_at_call 11; refine (row_any _ _ _ _).mono ?_; rintro e w' ⟨rfl, rfl⟩) | (go_at_call 16; refine (mcut_any _ _ _ _).mono ?_; rintro e w' ⟨rfl, rfl⟩))
  have b5 := Boxed.new w1 37 (.slice ao1 vs.length cap1)
  have b6 := Boxed.new (w1.alloc (.cells #[.slice ao1 vs.length cap1] 37)) 22 (.slice none 0 0)
  have b7 := Boxed.new ((w1.alloc (.cells #[.slice ao1 vs.length cap1] 37)).alloc (.cells #[.slice none 0 0] 22)) 3 (.int .i64 0)
  have b8 := Boxed.new (((w1.alloc (.cells #[.slice ao1 vs.length cap1] 37)).alloc (.cells #[.slice none 0 0] 22)).alloc (.cells #[.int .i64 0] 3)) 22 (.slice ao l.length cap)
  have b9 := Boxed.new ((((w1.alloc (.cells #[.slice ao1 vs.length cap1] 37)).alloc (.cells #[.slice none 0 0] 22)).alloc (.cells #[.int .i64 0] 3)).alloc (.cells #[.slice ao l.length cap] 22)) 30 (.func (.func 34) #[] #[.pointer (some ⟨w1.heap.size + 1 + 1 + 1, 0, none⟩)])
  have b10 := Boxed.new (((((w1.alloc (.cells #[.slice ao1 vs.length cap1] 37)).alloc (.cells #[.slice none 0 0] 22)).alloc (.cells #[.int .i64 0] 3)).alloc (.cells #[.slice ao l.length cap] 22)).alloc (.cells #[.func (.func 34) #[] #[.pointer (some ⟨w1.heap.size + 1 + 1 + 1, 0, none⟩)]] 30)) 3 (.int .i64 by')
  simp only [World.size_alloc] at b5 b6 b7 b8 b9 b10
  replace b5 := (((((b5.alloc (.cells #[.slice none 0 0] 22)).alloc (.cells #[.int .i64 0] 3)).alloc (.cells #[.slice ao l.length cap] 22)).alloc (.cells #[.func (.func 34) #[] #[.pointer (some ⟨w1.heap.size + 1 + 1 + 1, 0, none⟩)]] 30)).alloc (.cells #[.int .i64 by'] 3))
  replace b6 := ((((b6.alloc (.cells #[.int .i64 0] 3)).alloc (.cells #[.slice ao l.length cap] 22)).alloc (.cells #[.func (.func 34) #[] #[.pointer (some ⟨w1.heap.size + 1 + 1 + 1, 0, none⟩)]] 30)).alloc (.cells #[.int .i64 by'] 3))
  replace b7 := (((b7.alloc (.cells #[.slice ao l.length cap] 22)).alloc (.cells #[.func (.func 34) #[] #[.pointer (some ⟨w1.heap.size + 1 + 1 + 1, 0, none⟩)]] 30)).alloc (.cells #[.int .i64 by'] 3))
  replace b8 := ((b8.alloc (.cells #[.func (.func 34) #[] #[.pointer (some ⟨w1.heap.size + 1 + 1 + 1, 0, none⟩)]] 30)).alloc (.cells #[.int .i64 by'] 3))
  replace b9 := (b9.alloc (.cells #[.int .i64 by'] 3))
  have hk0 : ∀ f : Nat → Prop, Keep f w1 ((((((w1.alloc (.cells #[.slice ao1 vs.length cap1] 37)).alloc (.cells #[.slice none 0 0] 22)).alloc (.cells #[.int .i64 0] 3)).alloc (.cells #[.slice ao l.length cap] 22)).alloc (.cells #[.func (.func 34) #[] #[.pointer (some ⟨w1.heap.size + 1 + 1 + 1, 0, none⟩)]] 30)).alloc (.cells #[.int .i64 by'] 3)) := fun f => (((((Keep.refl f w1).alloc _).alloc _).alloc _).alloc _).alloc _ |>.alloc _
  have hz : ((((((w1.alloc (.cells #[.slice ao1 vs.length cap1] 37)).alloc (.cells #[.slice none 0 0] 22)).alloc (.cells #[.int .i64 0] 3)).alloc (.cells #[.slice ao l.length cap] 22)).alloc (.cells #[.func (.func 34) #[] #[.pointer (some ⟨w1.heap.size + 1 + 1 + 1, 0, none⟩)]] 30)).alloc (.cells #[.int .i64 by'] 3)).heap.size = w1.heap.size + 6 := by simp
  generalize ((((((w1.alloc (.cells #[.slice ao1 vs.length cap1] 37)).alloc (.cells #[.slice none 0 0] 22)).alloc (.cells #[.int .i64 0] 3)).alloc (.cells #[.slice ao l.length cap] 22)).alloc (.cells #[.func (.func 34) #[] #[.pointer (some ⟨w1.heap.size + 1 + 1 + 1, 0, none⟩)]] 30)).alloc (.cells #[.int .i64 by'] 3)) = W0 at b5 b6 b7 b8 b9 b10 hk0 hz ⊢
  have hb1 := hown.below
  have hsz1 := hb1.size
  have hbW0 : Below w.heap.size w W0 := (hk0 (fun _ => True)).below (hb0.trans (hb1.mono (by omega))) (Nat.le_refl _) (fun _ _ => trivial)
  have bRW : Boxed W0 w.heap.size 4 (.bool false) := (hk0 (fun _ => True)).boxed trivial ((hb1.block _ (by omega)).trans bR0)
  have hv0 := hv.below hbW0
  have how := (hk0 (fun _ => True)).ownsRow hown.1 (fun _ _ => trivial)
  rw [hz0] at how
  have hol : ∀ k, (Value.slice ao1 vs.length cap1).ownBlock = some k → w.heap.size + 1 ≤ k ∧ k < w1.heap.size := fun k e => by have := hown.1.lt k e; omega
  have hls' := Lib.hid hls
  obtain ⟨T, hT⟩ : ∃ T : Nat → Prop, T = fun k => 0 < l.length ∧ (Value.slice ao l.length cap).ownBlock = some k := ⟨_, rfl⟩
  have hTlt : ∀ k, T k → k < w.heap.size := by
    rw [hT]
    rintro k ⟨h0, hk⟩
    obtain ⟨b, off, rfl, hr⟩ := hrow h0
    have e : b = k := by simpa [Value.ownBlock] using hk
    have := hr.1
    omega
  have hTv : 0 < l.length → ∀ k, (Value.slice ao l.length cap).ownBlock = some k → T k := by rw [hT]; exact fun a k b => ⟨a, b⟩
  clear hT hrow P1
  have hcl := Lib.hid hls.1
  refine wpIn_wide.1 (wpIn_rangeK (n := 9) (F := Fence.wide) rfl (by omega) (gf := 37) (lb := #[.pointer (some ⟨w1.heap.size + 1 + 1 + 1 + 1, 0, none⟩), .pointer (some ⟨w1.heap.size + 1 + 1 + 1 + 1 + 1, 0, none⟩)]) rfl trivial (enters_of Try.func37 (by kernel_rfl) rfl)
    (cut1_seq 8 (by omega) (w1.heap.size + 1 + 1 + 1) (w1.heap.size + 1 + 1 + 1 + 1) (w1.heap.size + 1 + 1 + 1 + 1 + 1) by' (.slice ao l.length cap) l W0 (fun k => k = w1.heap.size + 1 + 1 + 1 ∨ T k) (fun k => k = w1.heap.size + 1 + 1 + 1 + 1 ∨ k = w1.heap.size + 1 + 1 + 1 + 1 + 1) (by omega) b8 hv0 (fun h0 k e => .inr (hTv h0 k e)) (.inl rfl) rfl
      (by rintro k h (h1 | h1); omega; have := hTlt k h1; omega) (by rintro k (h1 | h1); omega; have := hTlt k h1; omega) b9 b10) rfl
    (by rintro k ((h1 | h1) | h1); omega; have := hTlt k h1; omega; omega) (fun _ h => h)
    (fun pre fp W => ∃ va, CutL w T w1.heap.size (.slice ao1 vs.length cap1) vs va (Pl.fl pre) pre.length fp W)
    (fun _ _ _ _ => False)
    (fun pre x a' fp W => ∃ va v', WithEl (CutL w T w1.heap.size (.slice ao1 vs.length cap1) vs va (Pl.fl pre) pre.length) ElV x v' fp W ∧ a' = { tmps := #[.slice ao l.length cap, .int .i64 by', undef, undef, .pointer (some ⟨w.heap.size, 0, none⟩), .pointer (some ⟨w1.heap.size, 0, none⟩), .pointer (some ⟨w1.heap.size + 1, 0, none⟩), .pointer (some ⟨w1.heap.size + 1 + 1, 0, none⟩), .func (.func 37) #[] #[.pointer (some ⟨w1.heap.size + 1 + 1 + 1 + 1, 0, none⟩), .pointer (some ⟨w1.heap.size + 1 + 1 + 1 + 1 + 1, 0, none⟩)], v', undef, undef, undef, .slice ao l.length cap, .int .i64 by', .slice ao1 vs.length cap1, .slice ao l.length cap, .func (.func 34) #[] #[.pointer (some ⟨w1.heap.size + 1 + 1 + 1, 0, none⟩)], .int .i64 by', .func (.func 37) #[] #[.pointer (some ⟨w1.heap.size + 1 + 1 + 1 + 1, 0, none⟩), .pointer (some ⟨w1.heap.size + 1 + 1 + 1 + 1 + 1, 0, none⟩)], .func (.func 37) #[] #[.pointer (some ⟨w1.heap.size + 1 + 1 + 1 + 1, 0, none⟩), .pointer (some ⟨w1.heap.size + 1 + 1 + 1 + 1 + 1, 0, none⟩)], .bool false, .func (.func 37) #[] #[.pointer (some ⟨w1.heap.size + 1 + 1 + 1 + 1, 0, none⟩), .pointer (some ⟨w1.heap.size + 1 + 1 + 1 + 1 + 1, 0, none⟩)], v', undef, undef, undef, undef, undef, undef, undef, undef, undef, undef, undef, undef, undef, undef, undef, undef, undef, undef, undef, undef, undef, undef, undef, undef, undef, undef, undef, undef, undef, undef, undef, undef, undef, undef, undef, undef, undef, undef, undef, undef, undef, undef, undef, undef, undef, undef], defers := [] })
    ?_ ?_ ?_ (fun k => (k < w.heap.size ∧ ¬ T k) ∨ k = w.heap.size ∨ k = w1.heap.size ∨ k = w1.heap.size + 1 ∨ k = w1.heap.size + 1 + 1 ∨ (Value.slice ao1 vs.length cap1).ownBlock = some k) ?_ ?_ ?_ ?assign ?body ?done ?stop)
  case assign =>
    intro l' pre x v2 ef fp1 W K ⟨va, hI⟩ hlt1 hel hef _ _ hpre hK
    gi_wp2
    refine hK _ _ _ (Step.refl (fun k h => h.elim (hlt1 k) (fun h => (hef k h).2.2))) ⟨va, v2, ⟨fp1, ef, fun _ => Iff.rfl, fun k h h1 => (hef k h1).1 h, hI, hel⟩, rfl⟩
  case body =>
    rintro l' pre x a' fp1 W ⟨va, v2, ⟨f1, ef, hs, hde, hO, hel⟩, rfl⟩ hlt1 hnw hkR hpre
    have hkT : Keep T W0 W := hkR.mono (fun k h _ => .inl (.inr h))
    have hbW := hO.below ((Keep.of_below hbW0 (fun k h _ => hTlt k h)).trans hkT (fun _ h _ => h))
    obtain ⟨hpl, hpx⟩ := prefix_at hpre
    have hpv : pre.length < vs.length := by have := hcl.out; omega
    have hfx := fl_le hpre
    have hp9 : pre.length < 2932031007317 := by
      have := Pl.rc_length (big := bigB by') l []
      rw [← Pl.cuts_rc] at this
      omega
    have hvn : VersAt W vs[pre.length] x := by
      have := (hls.2 pre.length hpv hpl).below (below_box hb0 hz0 bR0 hbW hO.1)
      rwa [hpx] at this
    cases x with
    | nil => exact absurd rfl hel.2.1
    | cons y r =>
      obtain ⟨b, cap2, rfl, _, hbl⟩ := own_cons hel.1
      have c5 := hO.2.1.cell
      have c7 := hO.2.2.2.1.cell
      have z7 := hO.2.2.2.1.frozen
      obtain ⟨gw, capw, e1, hcw, hcells⟩ := slice_at hO.2.2.2.2.2.1 (by omega)
      cases e1
      have cW := hcells pre.length hpv
      have hpos : 0 < r.length + 1 := by omega
      have P2 := Lib.hid (same_same _ _ (y :: r) W (own_vers hel.1) hvn)
      have hfx' : (Pl.fl pre).length + (r.length + 1) ≤ l.length := hfx
      have hd1 : decide (vs.length ≤ pre.length) = false := by simp; omega
      have hd2 : ((r.length : Int) + 1 == 0) = false := by simp; omega
      clear bR0 hnf b5 b6 b7 b8 b9 b10 hk0 hz bRW hv0 how hls' hls hcells
      gi_wp2_with (refine ⟨trivial, ?_⟩; gi_at_call 17; ((with_reducible refine (CallsIn.inRound l' (callsIn_wide.2 P2.out)).mono ?_); rintro e w' ⟨rfl, nq, rfl⟩))
      have hO' := cutL_abide _ _ _ _ _ _ _ _ _ _ _ hO ((Keep.refl f1 W).drewN nq)
      have hf1 : ∀ k, f1 k → k < W.heap.size := fun k h => hlt1 k ((hs k).2 (.inl h))
      have hb1 : ¬ f1 b := fun h => hde b h (hel.2.2 b rfl)
      have hrow : ∀ i (hi : i < (y :: r).length), VerIn W b (i * 4) (y :: r)[i] := fun i hi => by
        obtain ⟨_, _, e, _, _, hr⟩ := own_vers hel.1
        cases e
        obtain ⟨_, off, e2, hr⟩ := hr (by simp)
        obtain rfl : off = 0 := by cases e2; rfl
        cases e2
        have := hr.2 i hi
        rwa [Nat.zero_add] at this
      have hfr := free_own hel.1
      gi_loopw [11] (fun i wr => ∃ (k : Nat) (va : Value) (fk : Nat → Prop), k ≤ r.length + 1 ∧ i = .int .i64 k ∧ CutL w T w1.heap.size (.slice (some ⟨gw, 0, none⟩) vs.length cap1) vs va (Pl.fl pre ++ (y :: r).take k) pre.length fk wr ∧ Keep (fun k => ¬ fp1 k) W wr ∧ (∀ k, fk k → f1 k ∨ W.heap.size ≤ k) ∧ (∀ k, fk k → k < wr.heap.size) ∧ Free wr b ∧ ∀ i (hi : i < (y :: r).length), k ≤ i → VerIn wr b (i * 4) (y :: r)[i]) (fun i _ => r.length + 1 - (intOf i).toNat)
      case atStart => exact ⟨0, va, f1, by omega, rfl, by simpa using hO', (Keep.refl _ _).drewN nq, fun k h => .inl h, hf1, hfr.keep ((Keep.refl (fun _ => True) W).drewN nq) trivial, fun i hi _ => (hrow i hi).kept rfl⟩
      case round =>
        obtain ⟨k, va, fk, hk, rfl, hOk, hkp, hnf, hfl, hF, hrk⟩ := hrel
        have hkb : ¬ fk b := fun h => by
          rcases hnf b h with h | h
          · exact hb1 h
          · omega
        by_cases h1 : k < r.length + 1
        · obtain ⟨x0, x1, x2, x3⟩ := hrk k h1 (Nat.le_refl _)
          have c6 := hOk.2.2.1.cell
          have htk : Hid ((y :: r).take (k + 1) = (y :: r).take k ++ [(y :: r)[k]]) := (by show _ = _; exact List.take_succ_eq_append_getElem h1)
          generalize (y :: r)[k] = z at *
          have c6' := (hOk.2.2.1.alloc (.cells #[.string z.key, .int .u64 (z.seq : Int), .bool z.del, .string z.val] 44)).cell
          gi_wp2
          have hB3 : w1.heap.size + 3 ≤ wr.heap.size := by have := hkp.size; have := hO.2.2.2.1.lt; omega
          obtain ⟨q, hq⟩ : ∃ q, q = (Pl.fl pre ++ (y :: r).take k).length := ⟨_, rfl⟩
          have hrq := hOk.2.2.2.2.1
          rw [← hq] at hrq
          have hlk : (q + 1) * 48 ≤ 140737488355328 := by have : q = (Pl.fl pre).length + k := (by rw [hq, List.length_append, List.length_take]; simp; omega); omega
          replace hq := Lib.hid hq
          refine wpIn_region_any (by kernel_rfl) (wpAnyIn_of_wpAny (by rintro ⟨a, w, h⟩; exact h) (by kernel_rfl) _ _ _ _ ?_)
          change wpAny _ _ _ _ _ _ _ wr.drew
          refine wpAny_take (i := 1) (oi := { dst := some 48, op := .move (.tmp 9), type := 22, pos := "law.go:152", after := #[], guard := none }) (v := ?_) rfl (by kernel_rfl) (by kernel_rfl) (by kernel_rfl) (fun _ _ _ h => h) (Or.inl ⟨by rfl, (by intro w; go_simp; with_reducible rfl)⟩) ?_
          try simp only [Act.put, List.setIfInBounds_toArray, List.set_cons_zero, List.set_cons_succ]
          refine wpAny_take (i := 2) (oi := { dst := some 49, op := .move (.tmp 11), type := 3, pos := "law.go:152", after := #[], guard := none }) (v := ?_) rfl (by kernel_rfl) (by kernel_rfl) (by kernel_rfl) (fun _ _ _ h => h) (Or.inl ⟨by rfl, (by intro w; go_simp; with_reducible rfl)⟩) ?_
          try simp only [Act.put, List.setIfInBounds_toArray, List.set_cons_zero, List.set_cons_succ]
          refine wpAny_take (i := 3) (oi := { dst := some 50, op := .indexAddr 22 (.tmp 48) (.tmp 49), type := 0, pos := "law.go:152", after := #[{ on := 1, ground := .data }, { on := 2, ground := .data }], guard := none }) (v := ?_) rfl (by kernel_rfl) (by kernel_rfl) (by kernel_rfl) (fun _ _ _ h => h) (Or.inl ⟨by rfl, (by intro w; go_simp; with_reducible rfl)⟩) ?_
          try simp only [Act.put, List.setIfInBounds_toArray, List.set_cons_zero, List.set_cons_succ]
          refine wpAny_ready (rs := [0, 4]) (by kernel_rfl) (by simp) ?_
          refine AllReady.cons (o := { dst := some 47, op := .load 22 (.tmp 6), type := 22, pos := "law.go:152", after := #[], guard := none }) rfl (fun K hK => ?w0) (AllReady.cons (o := { dst := some 51, op := .load 44 (.tmp 50), type := 44, pos := "law.go:152", after := #[{ on := 3, ground := .data }], guard := none }) rfl (fun K hK => ?w4) AllReady.nil)
          case' w4 =>
            go_simp
            refine hK _ _ ?_
            clear hK K
            try simp only [Act.put, List.setIfInBounds_toArray, List.set_cons_zero, List.set_cons_succ]
            refine wpAny_ready (rs := [0, 5]) (by kernel_rfl) (by simp) ?_
            refine AllReady.cons (o := { dst := some 47, op := .load 22 (.tmp 6), type := 22, pos := "law.go:152", after := #[], guard := none }) rfl (fun K hK => ?w40) (AllReady.cons (o := { dst := some 52, op := .buildSlice 22 1 #[(0, .tmp 51)], type := 22, pos := "law.go:152", after := #[{ on := 4, ground := .data }], guard := none }) rfl (fun K hK => ?w45) AllReady.nil)
            case' w45 =>
              go_simp
              refine hK _ _ ?_
              clear hK K
              try simp only [Act.put, List.setIfInBounds_toArray, List.set_cons_zero, List.set_cons_succ]
              refine wpAny_ready (rs := [0]) (by kernel_rfl) (by simp) ?_
              refine AllReady.cons (o := { dst := some 47, op := .load 22 (.tmp 6), type := 22, pos := "law.go:152", after := #[], guard := none }) rfl (fun K hK => ?_) AllReady.nil
              go_simp
              refine hK _ _ ?_
              clear hK K
              try simp only [Act.put, List.setIfInBounds_toArray, List.set_cons_zero, List.set_cons_succ]
              refine wpAny_ready (rs := [6]) (by kernel_rfl) (by simp) ?_
              refine AllReady.cons (o := { dst := some 53, op := .call { callee := .builtin .append, args := #[.tmp 47, .tmp 52], argTypes := #[22, 22] }, type := 22, pos := "law.go:152", after := #[{ on := 0, ground := .data }, { on := 5, ground := .data }], guard := none }) rfl (fun K hK => ?_) AllReady.nil
              refine step_app1 (by rfl) _ _ 22 (by rfl) (w1.heap.size + 3) 44 (.agg #[.string .empty, .int .u64 0, .bool false, .string .empty]) 4 48 Try.underlying22 info_version rfl (by decide) va q (vcells (Pl.fl pre ++ (y :: r).take k)) wr hrq hB3 (by rfl) #[.string z.key, .int .u64 (z.seq : Int), .bool z.del, .string z.val] 44 (by rfl) rfl (by simp [Value.oneCell']) hlk (by decide) ?_
              intro g0 cap0 w3 hown' hgrow hat hg0
              have ⟨bL1, hW2⟩ := CutL.append (x := z) hOk hfl hq.out hown' hgrow hat hg0
              have cL1 := bL1.cell
              have fL1 := bL1.frozen
              refine hK _ _ ?_
              clear hK K
              try simp only [Act.put, List.setIfInBounds_toArray, List.set_cons_zero, List.set_cons_succ]
              refine wpAny_ready (rs := [7]) (by kernel_rfl) (by simp) ?_
              refine AllReady.cons (o := { dst := none, op := .store 22 (.tmp 6) (.tmp 53), type := 0, pos := "law.go:152", after := #[{ on := 6, ground := .data }, { on := 6, ground := .chain }, { on := 0, ground := .phase }, { on := 1, ground := .phase }, { on := 2, ground := .phase }, { on := 3, ground := .phase }, { on := 4, ground := .phase }, { on := 5, ground := .phase }, { on := 6, ground := .phase }], guard := none }) rfl (fun K hK => ?_) AllReady.nil
              go_simp
              refine hK _ _ ?_
              clear hK K
              refine wpAny_done (by kernel_rfl) ?_ _
            case' w40 =>
              go_simp
              refine hK _ _ ?_
              clear hK K
              try simp only [Act.put, List.setIfInBounds_toArray, List.set_cons_zero, List.set_cons_succ]
              refine wpAny_ready (rs := [5]) (by kernel_rfl) (by simp) ?_
              refine AllReady.cons (o := { dst := some 52, op := .buildSlice 22 1 #[(0, .tmp 51)], type := 22, pos := "law.go:152", after := #[{ on := 4, ground := .data }], guard := none }) rfl (fun K hK => ?_) AllReady.nil
              go_simp
              refine hK _ _ ?_
              clear hK K
              try simp only [Act.put, List.setIfInBounds_toArray, List.set_cons_zero, List.set_cons_succ]
              refine wpAny_ready (rs := [6]) (by kernel_rfl) (by simp) ?_
              refine AllReady.cons (o := { dst := some 53, op := .call { callee := .builtin .append, args := #[.tmp 47, .tmp 52], argTypes := #[22, 22] }, type := 22, pos := "law.go:152", after := #[{ on := 0, ground := .data }, { on := 5, ground := .data }], guard := none }) rfl (fun K hK => ?_) AllReady.nil
              refine step_app1 (by rfl) _ _ 22 (by rfl) (w1.heap.size + 3) 44 (.agg #[.string .empty, .int .u64 0, .bool false, .string .empty]) 4 48 Try.underlying22 info_version rfl (by decide) va q (vcells (Pl.fl pre ++ (y :: r).take k)) wr hrq hB3 (by rfl) #[.string z.key, .int .u64 (z.seq : Int), .bool z.del, .string z.val] 44 (by rfl) rfl (by simp [Value.oneCell']) hlk (by decide) ?_
              intro g0 cap0 w3 hown' hgrow hat hg0
              have ⟨bL1, hW2⟩ := CutL.append (x := z) hOk hfl hq.out hown' hgrow hat hg0
              have cL1 := bL1.cell
              have fL1 := bL1.frozen
              refine hK _ _ ?_
              clear hK K
              try simp only [Act.put, List.setIfInBounds_toArray, List.set_cons_zero, List.set_cons_succ]
              refine wpAny_ready (rs := [7]) (by kernel_rfl) (by simp) ?_
              refine AllReady.cons (o := { dst := none, op := .store 22 (.tmp 6) (.tmp 53), type := 0, pos := "law.go:152", after := #[{ on := 6, ground := .data }, { on := 6, ground := .chain }, { on := 0, ground := .phase }, { on := 1, ground := .phase }, { on := 2, ground := .phase }, { on := 3, ground := .phase }, { on := 4, ground := .phase }, { on := 5, ground := .phase }, { on := 6, ground := .phase }], guard := none }) rfl (fun K hK => ?_) AllReady.nil
              go_simp
              refine hK _ _ ?_
              clear hK K
              refine wpAny_done (by kernel_rfl) ?_ _
          case' w0 =>
            go_simp
            refine hK _ _ ?_
            clear hK K
            try simp only [Act.put, List.setIfInBounds_toArray, List.set_cons_zero, List.set_cons_succ]
            refine wpAny_ready (rs := [4]) (by kernel_rfl) (by simp) ?_
            refine AllReady.cons (o := { dst := some 51, op := .load 44 (.tmp 50), type := 44, pos := "law.go:152", after := #[{ on := 3, ground := .data }], guard := none }) rfl (fun K hK => ?_) AllReady.nil
            go_simp
            refine hK _ _ ?_
            clear hK K
            try simp only [Act.put, List.setIfInBounds_toArray, List.set_cons_zero, List.set_cons_succ]
            refine wpAny_ready (rs := [5]) (by kernel_rfl) (by simp) ?_
            refine AllReady.cons (o := { dst := some 52, op := .buildSlice 22 1 #[(0, .tmp 51)], type := 22, pos := "law.go:152", after := #[{ on := 4, ground := .data }], guard := none }) rfl (fun K hK => ?_) AllReady.nil
            go_simp
            refine hK _ _ ?_
            clear hK K
            try simp only [Act.put, List.setIfInBounds_toArray, List.set_cons_zero, List.set_cons_succ]
            refine wpAny_ready (rs := [6]) (by kernel_rfl) (by simp) ?_
            refine AllReady.cons (o := { dst := some 53, op := .call { callee := .builtin .append, args := #[.tmp 47, .tmp 52], argTypes := #[22, 22] }, type := 22, pos := "law.go:152", after := #[{ on := 0, ground := .data }, { on := 5, ground := .data }], guard := none }) rfl (fun K hK => ?_) AllReady.nil
            refine step_app1 (by rfl) _ _ 22 (by rfl) (w1.heap.size + 3) 44 (.agg #[.string .empty, .int .u64 0, .bool false, .string .empty]) 4 48 Try.underlying22 info_version rfl (by decide) va q (vcells (Pl.fl pre ++ (y :: r).take k)) wr hrq hB3 (by rfl) #[.string z.key, .int .u64 (z.seq : Int), .bool z.del, .string z.val] 44 (by rfl) rfl (by simp [Value.oneCell']) hlk (by decide) ?_
            intro g0 cap0 w3 hown' hgrow hat hg0
            have ⟨bL1, hW2⟩ := CutL.append (x := z) hOk hfl hq.out hown' hgrow hat hg0
            have cL1 := bL1.cell
            have fL1 := bL1.frozen
            refine hK _ _ ?_
            clear hK K
            try simp only [Act.put, List.setIfInBounds_toArray, List.set_cons_zero, List.set_cons_succ]
            refine wpAny_ready (rs := [7]) (by kernel_rfl) (by simp) ?_
            refine AllReady.cons (o := { dst := none, op := .store 22 (.tmp 6) (.tmp 53), type := 0, pos := "law.go:152", after := #[{ on := 6, ground := .data }, { on := 6, ground := .chain }, { on := 0, ground := .phase }, { on := 1, ground := .phase }, { on := 2, ground := .phase }, { on := 3, ground := .phase }, { on := 4, ground := .phase }, { on := 5, ground := .phase }, { on := 6, ground := .phase }], guard := none }) rfl (fun K hK => ?_) AllReady.nil
            go_simp
            refine hK _ _ ?_
            clear hK K
            refine wpAny_done (by kernel_rfl) ?_ _
          all_goals
            obtain ⟨hO2, st2⟩ := hW2 _ rfl
            clear hW2 hown' hgrow hat hg0 cL1 fL1 bL1
            generalize (w3.setCell ⟨w1.heap.size + 1, 0, none⟩ (.slice (some ⟨g0, 0, none⟩) (q + 1) cap0)) = W2 at hO2 st2 ⊢
            have hbw : b < wr.heap.size := by have := hkp.size; omega
            have hbk : Keep (fun i => i = b) wr W2 := st2.keep.mono (fun i e _ h => hkb (e ▸ h))
            have x0' := hbk.cell rfl x0
            have hF2 := hF.keep hbk rfl
            have fF := hF2.frozen (o := k * 4)
            have hg0 : g0 ≠ b := fun e => by
              rcases st2.new g0 (.inr rfl) with h | h
              · exact hkb (e ▸ h)
              · omega
            have hkc : Keep (fun i => i ≠ b) W2 (W2.setCell ⟨b, k * 4, none⟩ (.string ⟨#[63]⟩)) := (Keep.refl _ _).setCell _ _ _ (fun h _ => h rfl)
            have hO3 := cutL_abide _ _ _ _ _ _ _ _ _ _ _ hO2 (hkc.mono (fun i h _ e => by
              rcases h with h | h
              · exact hkb (e ▸ h)
              · exact hg0 (h.symm.trans e)))
            gi_wp2
            go_roundw
            case rel =>
              refine ⟨k + 1, _, fun i => fk i ∨ i = g0, by omega, by go_num, by rw [htk.out, ← List.append_assoc]; exact hO3, ?_, ?_, ?_, hF2.set _, ?_⟩
              · refine (hkp.trans st2.keep (fun i h hi hh => ?_)).trans hkc (fun i h _ e => h ((hs i).2 (.inr (by rw [e]; exact hel.2.2 b rfl))))
                rcases hnf i hh with h2 | h2
                · exact h ((hs i).2 (.inl h2))
                · omega
              · rintro i (h | rfl)
                · exact hnf i h
                · rcases st2.new i (.inr rfl) with h | h
                  · exact hnf i h
                  · have := hkp.size; right; omega
              · intro i h
                have := st2.lt i h
                simpa [World.setCell] using this
              · intro i hi hki
                exact ((hrk i hi (by omega)).kept (hbk.block b rfl hbw)).setOther (by omega)
            case measure => simp [intOf]; omega
        · obtain rfl : k = r.length + 1 := by omega
          have e4 : (y :: r).take (r.length + 1) = y :: r := List.take_of_length_le (by simp)
          rw [e4] at hOk
          clear e4 c7 z7
          have c7 := hOk.2.2.2.1.cell
          have z7 := hOk.2.2.2.1.frozen
          obtain ⟨hO4, st4⟩ := hOk.count hfl (pre.length + 1)
          have e5 : ((pre.length + 1 : Nat) : Int) = (pre.length : Int) + 1 := by omega
          rw [e5] at hO4 st4
          clear e5
          gi_wp2
          refine ⟨fk, ⟨va, by rw [Pl.fl_snoc, List.length_append, List.length_singleton]; exact hO4⟩, ?_⟩
          refine Step.trans (g := fk) ⟨hkp, fun i h => (hnf i h).imp (fun h => (hs i).2 (.inl h)) id, hfl⟩ st4
  case done =>
    rintro D ys fp2 W2 hD hnD hnew hlt2 hkT rfl ⟨va, hO⟩ hK
    have hbW := hO.below ((Keep.of_below hbW0 (fun k h _ => hTlt k h)).trans (hkT.mono (fun k h _ => .inl (.inr h))) (fun _ h _ => h))
    rw [Pl.cuts_fl] at hO
    have P3 := Lib.hid (same_same va _ l W2 (own_vers hO.2.2.2.2.1) (hv.below hbW))
    have c5 := hO.2.1.cell
    have c6 := hO.2.2.1.cell
    have c7 := hO.2.2.2.1.cell
    have c4 := hO.1.cell
    have z4 := hO.1.frozen
    have hqe : (((Pl.cutsOf (bigB by') l).length : Int) == (vs.length : Int)) = true := by
      rw [hcl.out]; simp
    have bR := hO.1
    have hDB : w.heap.size < D := by omega
    clear hO hkT hnew hlt2 b5 b6 b7 b8 b9 b10 hk0 hz bRW hv0 how hls' hls bR0 hcl
    go_wp2_with (go_at_call 17; ((with_reducible refine P3.out.mono ?_); rintro e w' ⟨rfl, nq, rfl⟩))
    have bR4 : Boxed ((W2.drewN nq).setCell ⟨w.heap.size, 0, none⟩ (.bool true)) w.heap.size 4 (.bool true) := Boxed.set (W := W2.drewN nq) _ bR
    have hb4 : Below w.heap.size w ((W2.drewN nq).setCell ⟨w.heap.size, 0, none⟩ (.bool true)) := (below_drewN hbW nq).setCell (Nat.le_refl _) _
    have hK4 : ((W2.drewN nq).setCell ⟨w.heap.size, 0, none⟩ (.bool true)).heap[D]? = some (.deferred (some [])) := by
      have hk : Keep (fun k => k ≠ w.heap.size) W2 ((W2.drewN nq).setCell ⟨w.heap.size, 0, none⟩ (.bool true)) := ((Keep.refl _ W2).drewN nq).setCell _ _ _ (fun h _ => h rfl)
      exact (hk.block D (by omega) (Array.getElem?_eq_some_iff.1 hK).1).trans hK
    refine leaves_marks [D] _ ((Marked.nil _).cons hK4 (by simp)) (fun W' hk' => ?_)
    have hDn : w.heap.size ∉ [D] := fun h => by have := List.mem_singleton.1 h; omega
    exact ⟨_, results_bool rfl rfl (hk'.boxed hDn bR4).cell, rfl, hk'.below hb4 (Nat.le_refl _) (fun z hz h => by have := List.mem_singleton.1 h; omega)⟩
  case stop => exact fun _ _ _ _ _ _ _ _ _ _ _ h _ => h.elim
  · rintro pre fp W W' ⟨v, h⟩ hk
    exact ⟨v, cutL_abide _ _ _ _ _ _ _ _ _ _ _ h hk⟩
  · exact fun _ _ _ _ _ h _ => h
  · rintro pre x a' _ fp W W' ⟨v, v', h, he⟩ hk
    exact ⟨v, v', withEl_abide (cutL_abide _ _ _ _ _ _ _ _) elV_abide _ _ _ _ _ h hk, he⟩
  · rintro k (h | h | h | h | h | h) ((h1 | h1) | h1)
    all_goals first | omega | (have := hTlt k h1; omega) | exact h.2 h1 | (have := hol k h; omega) | (have := hol k h; have := hTlt k h1; omega)
  · rintro k (h | h | h | h | h | h)
    all_goals first | omega | (have := hol k h; omega)
  · exact ⟨_, bRW, b5, b6, b7, World.ownsRow_nil _ _ _ _, how, fun k e => (hol k e).2, by omega, ⟨.inr (.inl rfl), .inr (.inr (.inl rfl)), .inr (.inr (.inr (.inl rfl))), .inr (.inr (.inr (.inr (.inl rfl)))), fun k e => (by cases e), fun k e => .inr (.inr (.inr (.inr (.inr e))))⟩, fun k a b => .inl ⟨a, b⟩, Keep.of_below hbW0 (fun k h _ => h.1)⟩
end Go.Proofs.Ytiogjebekadmcaa
