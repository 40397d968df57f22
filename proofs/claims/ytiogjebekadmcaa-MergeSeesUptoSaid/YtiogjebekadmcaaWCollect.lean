
/- Walks: a sequence of versions collected by the library; a source drawn from. Condition: rows whose bytes fit. -/
import Derived.Test.YtiogjebekadmcaaWColl9
import Derived.Test.YtiogjebekadmcaaWRef9
namespace Go.Proofs.Ytiogjebekadmcaa
open Go.RowKit Go.Shelf

attribute [local go_sem] Oper.semAt_some

/-- in W, pre has been collected in the variable lb (a slice of the call's own) -/
def Col1 (w : World) (T : Nat → Prop) (lb : Nat) (pre : List Ver) (fp : Nat → Prop) (W : World) : Prop :=
  (∃ v, Boxed W lb 22 v ∧ W.ownsRow w.heap.size 44 4 v pre.length (vcells pre) ∧ fp lb ∧ (∀ k, v.ownBlock = some k → fp k)) ∧ (∀ k, k < w.heap.size → ¬ T k → fp k) ∧ Keep (fun k => k < w.heap.size ∧ ¬ T k) w W
theorem Col1.abide (w : World) (T : Nat → Prop) (lb : Nat) : Abide (Col1 w T lb) := by
  rintro pre fp W W' ⟨⟨v, bL, hr, fL, fR⟩, hT, hk⟩ hkp
  exact ⟨⟨v, hkp.boxed fL bL, hkp.ownsRow hr fR, fL, fR⟩, hT, hk.trans hkp (fun i hi _ => hT i hi.1 hi.2)⟩
theorem Col1.more {w : World} {T : Nat → Prop} {lb : Nat} {pre : List Ver} {fp fp' : Nat → Prop} {W : World} (h : Col1 w T lb pre fp W) (hs : ∀ k, fp k → fp' k) : Col1 w T lb pre fp' W := by
  obtain ⟨⟨v, bL, hr, fL, fR⟩, hT, hk⟩ := h
  exact ⟨⟨v, bL, hr, hs _ fL, fun k e => hs _ (fR k e)⟩, fun k h1 h2 => hs _ (hT k h1 h2), hk⟩
theorem Col1.append {w : World} {T : Nat → Prop} {lb : Nat} {pre : List Ver} {fp : Nat → Prop} {W w1 : World} {v : Value} {tmp : Obj} {x : Ver} {g cap : Nat}
    (hC : (∀ k, k < w.heap.size → ¬ T k → fp k) ∧ Keep (fun k => k < w.heap.size ∧ ¬ T k) w W)
    (bL : Boxed W lb 22 v) (hr : W.ownsRow w.heap.size 44 4 v pre.length (vcells pre)) (fL : fp lb) (fR : ∀ k, v.ownBlock = some k → fp k)
    (hlt : ∀ k, fp k → k < W.heap.size) (hlw : w.heap.size ≤ lb)
    (hown' : w1.ownsRow w.heap.size 44 4 (.slice (some ⟨g, 0, none⟩) (pre.length + 1) cap) (pre.length + 1) (vcells pre ++ vcells [x])) (hgrow : (W.alloc tmp).grownBy w1 v.ownBlock) (hat : v.ownBlock = some g ∨ W.heap.size ≤ g) (hg : g < w1.heap.size) :
    Boxed w1 lb 22 v ∧ ∀ W2, W2 = w1.setCell ⟨lb, 0, none⟩ (.slice (some ⟨g, 0, none⟩) (pre.length + 1) cap) →
      Step fp (fun k => fp k ∨ k = g) W W2 ∧ Col1 w T lb (pre ++ [x]) (fun k => fp k ∨ k = g) W2 := by
  obtain ⟨hT, hk⟩ := hC
  have hte : 22 ≠ 44 := by decide
  have bL1 : Boxed w1 lb 22 v := (bL.alloc tmp).kept hgrow (bL.not_row hte hr)
  refine ⟨bL1, ?_⟩
  rintro W2 rfl
  have bL2 := bL1.set (.slice (some ⟨g, 0, none⟩) (pre.length + 1) cap)
  have hr2 := hown'.kept (grownBy_setCell' w1 lb (.slice (some ⟨g, 0, none⟩) (pre.length + 1) cap)) (.inr (bL1.not_row hte hown').symm)
  have hsz : W.heap.size ≤ w1.heap.size := by have := hgrow.size; simp at this; omega
  have hstep : Keep (fun k => ¬ fp k) W (w1.setCell ⟨lb, 0, none⟩ (.slice (some ⟨g, 0, none⟩) (pre.length + 1) cap)) :=
    (((Keep.refl _ W).alloc tmp).grown hgrow (fun k e h _ => h (fR k e))).setCell _ _ _ (fun h _ => h fL)
  refine ⟨⟨hstep, ?_, ?_⟩, ⟨_, bL2, ?_, .inl fL, fun k e => ?_⟩, fun k h1 h2 => .inl (hT k h1 h2), ?_⟩
  · intro k hk
    rcases hk with h | rfl
    · exact .inl h
    · rcases hat with h | h
      · exact .inl (fR _ h)
      · exact .inr h
  · intro k hk
    show k < (w1.setCell _ _).heap.size
    rw [show (w1.setCell ⟨lb, 0, none⟩ (.slice (some ⟨g, 0, none⟩) (pre.length + 1) cap)).heap.size = w1.heap.size from by simp [World.setCell]]
    rcases hk with h | rfl
    · have := hlt k h; omega
    · exact hg
  · rw [vcells_append, List.length_append, List.length_singleton]
    exact hr2
  · right
    have h2 : g = k := by simpa [Value.ownBlock] using e
    exact h2.symm
  · exact ((hk.alloc tmp).grown hgrow (fun k e h _ => by have := (hr.lt k e).1; omega)).setCell _ _ _ (fun h _ => by omega)

set_option maxRecDepth 100000 in
set_option maxHeartbeats 4000000 in
theorem appendSeq_in (n : Nat) (hn : 3 ≤ n) (gf : Nat) (lbv : Array Value) (w : World) (T : Nat → Prop) (xs : List Ver) (N : Nat) (hT : ∀ k, T k → k < w.heap.size) (hNb : (N + 1) * 48 ≤ 140737488355328)
    (eg : ∀ args w, (callFunc gf args).run Try.prog w = .ok (.enter gf args) w)
    (hit : ∀ W : World, Keep T w W → SeqF Fence.wide (n - 1) Try.prog gf lbv encV T T (fun ys => ys = xs) (fun ys => ys <+: xs) N W) :
    CallsIn Fence.wide n Try.prog 66 #[.slice none 0 0, .func (.func gf) #[] lbv] w fun e w' =>
      ∃ v, e = .returned v ∧ w'.ownsRow w.heap.size 44 4 v xs.length (vcells xs) ∧ Below w.heap.size w w' := by
  have h1 : 1 ≤ n := by omega
  refine callsIn_of_wp_marks Try.func66 rfl trivial ?_ rfl
  simp only [Try.ntmps66, List.size_toArray, List.length_cons, List.length_nil, Nat.reduceAdd, Nat.reduceSub, Array.replicate_succ, Array.replicate_zero, List.push_toArray, List.append_toArray, List.nil_append, List.cons_append]
  have bL := Boxed.new w 22 (.slice none 0 0)
  have hk : ∀ f : Nat → Prop, Keep f w (w.alloc (.cells #[.slice none 0 0] 22)) := fun f => (Keep.refl f w).alloc _
  have hz : (w.alloc (.cells #[.slice none 0 0] 22)).heap.size = w.heap.size + 1 := by simp
  gi_wp2
  generalize (w.alloc (.cells #[.slice none 0 0] 22)) = W0 at bL hk hz ⊢
  obtain ⟨i0, hi, hz0, hz1, hz2⟩ := info_parts info_version
  refine wpIn_rangeF (F := Fence.wide) rfl h1 (gf := gf) (lb := lbv) rfl trivial eg
    (hit W0 (hk T)) (fun _ => rfl) (fun k h => by have := hT k h; omega) (fun k h => by have := hT k h; omega)
    (fun pre fp W => Col1 w T w.heap.size pre fp W)
    (fun _ _ _ _ => False)
    (fun pre x a' fp W => Col1 w T w.heap.size pre fp W ∧ ∃ bx, (VrAt bx x.key (x.seq : Int) x.del x.val W ∧ fp bx) ∧ a' = (
      { tmps := #[.slice none 0 0, .func (.func gf) #[] lbv, .pointer (some ⟨w.heap.size, 0, none⟩), undef, .slice none 0 0, .pointer (some ⟨bx, 0, none⟩), .func (.func gf) #[] lbv, .agg #[.string x.key, .int .u64 (x.seq : Int), .bool x.del, .string x.val], undef, undef, undef, undef, undef], defers := [] } : Act))
    ?_ ?_ ?_ (fun k => (k < w.heap.size ∧ ¬ T k) ∨ k = w.heap.size) ?_ ?_ ?_ ?assign ?body ?done ?stop
  case assign =>
    intro l pre x fp W K hC hlt hlen hK
    clear hit
    unfold encV
    gi_wp2
    refine hK _ _ _ (Step.alloc hlt _) ⟨(Col1.abide _ _ _ _ _ _ _ hC ((Keep.refl _ _).alloc _)).more (fun _ h => .inl h), W.heap.size, ⟨VrAt.new _ _ _ _ _ _, .inr rfl⟩, rfl⟩
  case body =>
    rintro l pre x a' fp W ⟨⟨⟨v, bL, hr, fL, fR⟩, hT2, hk2⟩, bx, ⟨⟨x0, x1, x2, x3, xB⟩, hbx⟩, rfl⟩ hlt hlen
    clear hit
    have cL := bL.cell
    have hlb : pre.length + 1 ≤ N := hlen
    gi_wp2_with (gi_at_builtin; go_must (refine wpListIn_app1 (by rfl) _ _ 22 (by rfl) w.heap.size 44 (.agg #[.string .empty, .int .u64 0, .bool false, .string .empty]) 4 48 Try.underlying22 info_version rfl (by decide) v pre.length (vcells pre) W hr (by have := hk2.size; omega) (by rfl) #[.string x.key, .int .u64 (x.seq : Int), .bool x.del, .string x.val] 44 (by rfl) rfl (by simp [Value.oneCell']) (by omega) (by decide) ?_; intro g cap w1 hown' hgrow hat hg; have ⟨bL1, hW2⟩ := Col1.append (x := x) ⟨hT2, hk2⟩ bL hr fL fR hlt (Nat.le_refl _) hown' hgrow hat hg; have cL1 := bL1.cell; have fL1 := bL1.frozen))
    obtain ⟨st, hC2⟩ := hW2 _ rfl
    exact ⟨_, hC2, st⟩
  case done =>
    rintro D ys fp W hD hnD hnew hlt hkT rfl ⟨⟨v, bL, hr, fL, fR⟩, hT2, hk2⟩ hK
    clear hit
    have cL := bL.cell
    gi_wp2
    refine ⟨by simp, .inl ⟨_, _, rfl, run_takeDeferred hK, ?_⟩⟩
    exact ⟨_, results_tmp rfl _ _ _, v, rfl, ownsRow_putObj hr _ hK rfl, from_below hk2 ((hk T).trans hkT (fun _ h _ => h)) (by omega)⟩
  case stop =>
    rintro D c pre fp W hD hnD hnew hlt hkT hpre h hK
    exact h.elim
  · exact Col1.abide _ _ _
  · rintro c pre fp W W' h hkp
    exact h.elim
  · rintro pre x a' _ fp W W' ⟨h, bx, ⟨hv, hf⟩, he⟩ hkp
    exact ⟨Col1.abide _ _ _ _ _ _ _ h hkp, bx, ⟨hv.keep hkp hf, hf⟩, he⟩
  · rintro k h1 h2
    have := hT k h2
    rcases h1 with h1 | h1
    · exact h1.2 h2
    · omega
  · rintro k h1
    rcases h1 with h1 | h1 <;> omega
  · exact ⟨⟨_, bL, World.ownsRow_nil _ _ _ _, .inr rfl, fun k e => by cases e⟩, fun k h1 h2 => .inl ⟨h1, h2⟩, hk _⟩
end Go.Proofs.Ytiogjebekadmcaa
