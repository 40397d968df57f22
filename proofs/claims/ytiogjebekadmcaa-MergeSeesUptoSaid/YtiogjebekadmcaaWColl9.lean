
/- Walks: what is collected of a sequence of versions, or of pairs. Condition: rows whose bytes fit. -/
import Derived.Test.YtiogjebekadmcaaWSeqV
import Derived.Test.YtiogjebekadmcaaOwn
import Derived.Test.YtiogjebekadmcaaPlainMg
namespace Go.Proofs.Ytiogjebekadmcaa
open Go.RowKit Go.Shelf

attribute [local go_sem] Oper.semAt_some

def encP (x : Pl.PV) : Array Value := #[.agg #[.string x.1, .string x.2]]
/-- the cells of versions -/
def vcells : List Ver → List Value
  | [] => []
  | x :: l => .string x.key :: .int .u64 (x.seq : Int) :: .bool x.del :: .string x.val :: vcells l
theorem vcells_append : ∀ l r : List Ver, vcells (l ++ r) = vcells l ++ vcells r
  | [], _ => rfl
  | x :: l, r => by simp [vcells, vcells_append l r]
theorem vcells_length : ∀ l : List Ver, (vcells l).length = l.length * 4
  | [] => rfl
  | x :: l => by simp only [vcells, List.length_cons, vcells_length l]; omega
theorem vcells_one (x : Ver) : vcells [x] = [.string x.key, .int .u64 (x.seq : Int), .bool x.del, .string x.val] := rfl
/-- the cells of pairs -/
def pcells : List Pl.PV → List Value
  | [] => []
  | x :: l => .string x.1 :: .string x.2 :: pcells l
theorem pcells_append : ∀ l r : List Pl.PV, pcells (l ++ r) = pcells l ++ pcells r
  | [], _ => rfl
  | x :: l, r => by simp [pcells, pcells_append l r]
theorem pcells_length : ∀ l : List Pl.PV, (pcells l).length = l.length * 2
  | [] => rfl
  | x :: l => by simp only [pcells, List.length_cons, pcells_length l]; omega
theorem pcells_one (x : Pl.PV) : pcells [x] = [.string x.1, .string x.2] := rfl

/-- the first ones, if so many are asked for -/
def heads {α : Type} (xs : List α) (most : Int) : List α := if 0 < most ∧ most ≤ xs.length then xs.take most.toNat else xs
theorem heads_none {α : Type} {xs : List α} {most : Int} (h : ¬ (0 < most ∧ most ≤ xs.length)) : heads xs most = xs := by unfold heads; rw [if_neg h]
theorem heads_some {α : Type} {xs pre : List α} {most : Int} (hp : pre <+: xs) (h : (pre.length : Int) = most) (h0 : 0 < most) : heads xs most = pre := by
  have hl := hp.length_le
  unfold heads
  rw [if_pos ⟨h0, by omega⟩, show most.toNat = pre.length from by omega]
  exact (List.prefix_iff_eq_take.1 hp).symm
/-- what lay in w lies as it lay: what is the iterator's, and what is not -/
theorem from_below {w W : World} {T : Nat → Prop} {D : Nat} (h : Keep (fun k => k < w.heap.size ∧ ¬ T k) w W) (h2 : Keep T w W) (hD : w.heap.size ≤ D) : Below w.heap.size w (W.putObj D (.deferred none)) := by
  have hB : Below w.heap.size w W := ⟨h.os, h.tape, h.output, h.size, fun k hk => by
    by_cases ht : T k
    · exact h2.block k ht hk
    · exact h.block k ⟨hk, ht⟩ hk⟩
  have hg := grownBy_putObj' W D (.deferred none)
  exact ⟨hg.os.trans hB.os, hg.tape.trans hB.tape, hg.output.trans hB.output, Nat.le_trans hB.size hg.size, fun k hk => (hg.block k (by have := hB.size; omega) (fun e => by cases e; omega)).trans (hB.block k hk)⟩
theorem info_version : (Try.prog.info? 44).map (fun i => (i.zero, i.size, i.bytes)) = some (some (.agg #[.string .empty, .int .u64 0, .bool false, .string .empty]), 4, 48) := by kernel_rfl
theorem info_pair : (Try.prog.info? 72).map (fun i => (i.zero, i.size, i.bytes)) = some (some (.agg #[.string .empty, .string .empty]), 2, 32) := by kernel_rfl
/-- a pair lies in a variable -/
def PrAt (B : Nat) (x : Pl.PV) (W : World) : Prop := W.cell? ⟨B, 0, none⟩ = some (.string x.1) ∧ W.cell? ⟨B, 1, none⟩ = some (.string x.2) ∧ B < W.heap.size
theorem PrAt.new (w : World) (x : Pl.PV) (t : TypeId) : PrAt w.heap.size x (w.alloc (.cells #[.string x.1, .string x.2] t)) :=
  ⟨World.cell?_alloc_mark w _ t (0, 0) 0, World.cell?_alloc_mark w _ t (0, 0) 1, by simp⟩
theorem PrAt.keep {B : Nat} {x : Pl.PV} {W W' : World} {fp : Nat → Prop} (h : PrAt B x W) (hb : Keep fp W W') (hf : fp B) : PrAt B x W' := by
  obtain ⟨h0, h1, hB⟩ := h
  exact ⟨hb.cell hf h0, hb.cell hf h1, Nat.lt_of_lt_of_le hB hb.size⟩

set_option maxRecDepth 100000 in
set_option maxHeartbeats 4000000 in
theorem pairs_in (n : Nat) (hn : 3 ≤ n) (gf : Nat) (lbv : Array Value) (most : Int) (w : World) (T : Nat → Prop) (xs : List Pl.PV) (N : Nat) (hT : ∀ k, T k → k < w.heap.size) (hNb : (N + 1) * 32 ≤ 140737488355328)
    (eg : ∀ args w, (callFunc gf args).run Try.prog w = .ok (.enter gf args) w)
    (hit : ∀ W : World, Keep T w W → SeqF Fence.wide (n - 1) Try.prog gf lbv encP T T (fun ys => ys = xs) (fun ys => ys <+: xs) N W) :
    CallsIn Fence.wide n Try.prog 13 #[.func (.func gf) #[] lbv, .int .i64 most] w fun e w' =>
      ∃ v, e = .returned v ∧ w'.ownsRow w.heap.size 72 2 v (heads xs most).length (pcells (heads xs most)) ∧ Below w.heap.size w w' := by
  have h1 : 1 ≤ n := by omega
  have hnf : ∀ (l : Array Value) (w : World), (binOp .eql 27 (.func (.func gf) #[] l) .nilFunc).run Try.prog w = .ok (.bool false) w := fun l w => by kernel_rfl
  refine callsIn_of_wp_marks Try.func13 rfl trivial ?_ rfl
  simp only [Try.ntmps13, List.size_toArray, List.length_cons, List.length_nil, Nat.reduceAdd, Nat.reduceSub, Array.replicate_succ, Array.replicate_zero, List.push_toArray, List.append_toArray, List.nil_append, List.cons_append]
  have bM := Boxed.new w 3 (.int .i64 most)
  have bL := Boxed.new (w.alloc (.cells #[.int .i64 most] 3)) 32 (.slice none 0 0)
  simp only [World.size_alloc] at bL
  have bM := bM.alloc (.cells #[.slice none 0 0] 32)
  have hk : ∀ f : Nat → Prop, Keep f w ((w.alloc (.cells #[.int .i64 most] 3)).alloc (.cells #[.slice none 0 0] 32)) := fun f => ((Keep.refl f w).alloc _).alloc _
  have hz : ((w.alloc (.cells #[.int .i64 most] 3)).alloc (.cells #[.slice none 0 0] 32)).heap.size = w.heap.size + 2 := by simp
  gi_wp2
  generalize ((w.alloc (.cells #[.int .i64 most] 3)).alloc (.cells #[.slice none 0 0] 32)) = W0 at bM bL hk hz ⊢
  obtain ⟨i0, hi, hz0, hz1, hz2⟩ := info_parts info_pair
  refine wpIn_rangeF (F := Fence.wide) rfl h1 (gf := gf) (lb := lbv) rfl trivial eg
    (hit W0 (hk T)) (fun _ => rfl) (fun k h => by have := hT k h; omega) (fun k h => by have := hT k h; omega)
    (fun pre fp W => Coll w T w.heap.size (w.heap.size + 1) 3 32 72 2 pcells most pre fp W ∧ (0 < most → (pre.length : Int) < most))
    (fun c pre fp W => c = .exit 0 ∧ Coll w T w.heap.size (w.heap.size + 1) 3 32 72 2 pcells most pre fp W ∧ (pre.length : Int) = most ∧ 0 < most)
    (fun pre x a' fp W => (Coll w T w.heap.size (w.heap.size + 1) 3 32 72 2 pcells most pre fp W ∧ (0 < most → (pre.length : Int) < most)) ∧ ∃ bx, (PrAt bx x W ∧ fp bx) ∧ a' = (
      { tmps := #[.func (.func gf) #[] lbv, .int .i64 most, undef, .pointer (some ⟨w.heap.size, 0, none⟩), .slice none 0 0, .pointer (some ⟨w.heap.size + 1, 0, none⟩), .pointer (some ⟨bx, 0, none⟩),
      .func (.func gf) #[] lbv, .bool false, .func (.func gf) #[] lbv, .agg #[.string x.1, .string x.2], undef, undef, undef, undef, undef, undef, undef, undef, undef], defers := [] } : Act))
    ?_ ?_ ?_ (fun k => (k < w.heap.size ∧ ¬ T k) ∨ k = w.heap.size ∨ k = w.heap.size + 1) ?_ ?_ ?_ ?assign ?body ?done ?stop
  case assign =>
    intro l pre x fp W K ⟨hC, hm⟩ hlt hlen hK
    clear hit
    unfold encP
    gi_wp2
    refine hK _ _ _ (Step.alloc hlt _) ⟨⟨(Coll.abide _ _ _ _ _ _ _ _ _ _ _ _ _ _ hC ((Keep.refl _ _).alloc _)).more (fun _ h => .inl h), hm⟩, W.heap.size, ⟨PrAt.new _ _ _, .inr rfl⟩, rfl⟩
  case body =>
    rintro l pre x a' fp W ⟨⟨⟨⟨v, bM, bL, hr, fM, fL, fR⟩, hT2, hk2⟩, hm⟩, bx, ⟨⟨x0, x1, xB⟩, hbx⟩, rfl⟩ hlt hlen
    clear hit
    have cM := bM.cell
    have cL := bL.cell
    have hlb : pre.length + 1 ≤ N := hlen
    gi_wp2_with (gi_at_builtin; go_must (refine wpListIn_app1 (by rfl) _ _ 32 (by rfl) w.heap.size 72 (.agg #[.string .empty, .string .empty]) 2 32 Try.underlying32 info_pair rfl (by decide) v pre.length (pcells pre) W hr (by have := hk2.size; omega) (by rfl) #[.string x.1, .string x.2] 72 (by rfl) rfl (by simp [Value.oneCell']) (by omega) (by decide) ?_; intro g cap w1 hown' hgrow hat hg; have ⟨bL1, bM1, hW2⟩ := Coll.append (x := x) ⟨hT2, hk2⟩ bM bL hr fM fL fR hlt (by omega) (by omega) (by decide) (by decide) hown' hgrow hat hg (by rw [pcells_append, pcells_one]); have cL1 := bL1.cell; have fL1 := bL1.frozen; have cM1 := bM1.cell))
    all_goals
      obtain ⟨bM2, bL2, st, hC2⟩ := hW2 _ rfl
      have hl : ((pre ++ [x]).length : Int) = (pre.length : Int) + 1 := by simp
    · have he : ((pre.length : Int) + 1 == most) = true := by assumption
      exact ⟨_, ⟨rfl, hC2, by rw [hl]; exact eq_of_beq he, by have := eq_of_beq he; omega⟩, st⟩
    · have he : ((pre.length : Int) + 1 == most) = false := by assumption
      refine ⟨_, ⟨hC2, fun h => ?_⟩, st⟩
      have h2 := hm h
      have h3 : ¬ (pre.length : Int) + 1 = most := by simpa using he
      rw [hl]; omega
  case done =>
    rintro D ys fp W hD hnD hnew hlt hkT rfl ⟨⟨⟨v, bM, bL, hr, fM, fL, fR⟩, hT2, hk2⟩, hm⟩ hK
    clear hit
    have cL := bL.cell
    gi_wp2
    refine ⟨by simp, .inl ⟨_, _, rfl, run_takeDeferred hK, ?_⟩⟩
    refine ⟨_, results_tmp rfl _ _ _, v, rfl, ?_, ?_⟩
    · rw [heads_none (fun h => by have := hm h.1; omega)]
      exact ownsRow_putObj hr _ hK rfl
    · exact from_below hk2 ((hk T).trans hkT (fun _ h _ => h)) (by omega)
  case stop =>
    rintro D c pre fp W hD hnD hnew hlt hkT hpre ⟨rfl, ⟨⟨v, bM, bL, hr, fM, fL, fR⟩, hT2, hk2⟩, hm, h0⟩ hK
    clear hit
    have cL := bL.cell
    gi_wp2
    refine ⟨by simp, .inl ⟨_, _, rfl, run_takeDeferred hK, ?_⟩⟩
    refine ⟨_, results_tmp rfl _ _ _, v, rfl, ?_, ?_⟩
    · rw [heads_some hpre hm h0]
      exact ownsRow_putObj hr _ hK rfl
    · exact from_below hk2 ((hk T).trans hkT (fun _ h _ => h)) (by omega)
  · rintro pre fp W W' ⟨h, hm⟩ hkp
    exact ⟨Coll.abide _ _ _ _ _ _ _ _ _ _ _ _ _ _ h hkp, hm⟩
  · rintro c pre fp W W' ⟨hc, h, hm⟩ hkp
    exact ⟨hc, Coll.abide _ _ _ _ _ _ _ _ _ _ _ _ _ _ h hkp, hm⟩
  · rintro pre x a' _ fp W W' ⟨⟨h, hm⟩, bx, ⟨hv, hf⟩, he⟩ hkp
    exact ⟨⟨Coll.abide _ _ _ _ _ _ _ _ _ _ _ _ _ _ h hkp, hm⟩, bx, ⟨hv.keep hkp hf, hf⟩, he⟩
  · rintro k h1 h2
    have := hT k h2
    rcases h1 with h1 | h1 | h1
    · exact h1.2 h2
    · omega
    · omega
  · rintro k h1
    rcases h1 with h1 | h1 | h1 <;> omega
  · exact ⟨⟨⟨_, bM, bL, World.ownsRow_nil _ _ _ _, .inr (.inl rfl), .inr (.inr rfl), fun k e => by cases e⟩, fun k h1 h2 => .inl ⟨h1, h2⟩, hk _⟩, fun h => by simpa using h⟩

set_option maxRecDepth 100000 in
set_option maxHeartbeats 4000000 in
theorem list_in (n : Nat) (hn : 3 ≤ n) (gf : Nat) (lbv : Array Value) (most : Int) (w : World) (T : Nat → Prop) (xs : List Ver) (N : Nat) (hT : ∀ k, T k → k < w.heap.size) (hNb : (N + 1) * 48 ≤ 140737488355328)
    (eg : ∀ args w, (callFunc gf args).run Try.prog w = .ok (.enter gf args) w)
    (hit : ∀ W : World, Keep T w W → SeqF Fence.wide (n - 1) Try.prog gf lbv encV T T (fun ys => ys = xs) (fun ys => ys <+: xs) N W) :
    CallsIn Fence.wide n Try.prog 20 #[.func (.func gf) #[] lbv, .int .i64 most] w fun e w' =>
      ∃ v, e = .returned v ∧ w'.ownsRow w.heap.size 44 4 v (heads xs most).length (vcells (heads xs most)) ∧ Below w.heap.size w w' := by
  have h1 : 1 ≤ n := by omega
  have hnf : ∀ (l : Array Value) (w : World), (binOp .eql 30 (.func (.func gf) #[] l) .nilFunc).run Try.prog w = .ok (.bool false) w := fun l w => by kernel_rfl
  refine callsIn_of_wp_marks Try.func20 rfl trivial ?_ rfl
  simp only [Try.ntmps20, List.size_toArray, List.length_cons, List.length_nil, Nat.reduceAdd, Nat.reduceSub, Array.replicate_succ, Array.replicate_zero, List.push_toArray, List.append_toArray, List.nil_append, List.cons_append]
  have bM := Boxed.new w 3 (.int .i64 most)
  have bL := Boxed.new (w.alloc (.cells #[.int .i64 most] 3)) 22 (.slice none 0 0)
  simp only [World.size_alloc] at bL
  have bM := bM.alloc (.cells #[.slice none 0 0] 22)
  have hk : ∀ f : Nat → Prop, Keep f w ((w.alloc (.cells #[.int .i64 most] 3)).alloc (.cells #[.slice none 0 0] 22)) := fun f => ((Keep.refl f w).alloc _).alloc _
  have hz : ((w.alloc (.cells #[.int .i64 most] 3)).alloc (.cells #[.slice none 0 0] 22)).heap.size = w.heap.size + 2 := by simp
  gi_wp2
  generalize ((w.alloc (.cells #[.int .i64 most] 3)).alloc (.cells #[.slice none 0 0] 22)) = W0 at bM bL hk hz ⊢
  obtain ⟨i0, hi, hz0, hz1, hz2⟩ := info_parts info_version
  refine wpIn_rangeF (F := Fence.wide) rfl h1 (gf := gf) (lb := lbv) rfl trivial eg
    (hit W0 (hk T)) (fun _ => rfl) (fun k h => by have := hT k h; omega) (fun k h => by have := hT k h; omega)
    (fun pre fp W => Coll w T w.heap.size (w.heap.size + 1) 3 22 44 4 vcells most pre fp W ∧ (0 < most → (pre.length : Int) < most))
    (fun c pre fp W => c = .exit 0 ∧ Coll w T w.heap.size (w.heap.size + 1) 3 22 44 4 vcells most pre fp W ∧ (pre.length : Int) = most ∧ 0 < most)
    (fun pre x a' fp W => (Coll w T w.heap.size (w.heap.size + 1) 3 22 44 4 vcells most pre fp W ∧ (0 < most → (pre.length : Int) < most)) ∧ ∃ bx, (VrAt bx x.key (x.seq : Int) x.del x.val W ∧ fp bx) ∧ a' = (
      { tmps := #[.func (.func gf) #[] lbv, .int .i64 most, undef, .pointer (some ⟨w.heap.size, 0, none⟩), .slice none 0 0, .pointer (some ⟨w.heap.size + 1, 0, none⟩), .pointer (some ⟨bx, 0, none⟩),
      .func (.func gf) #[] lbv, .bool false, .func (.func gf) #[] lbv, .agg #[.string x.key, .int .u64 (x.seq : Int), .bool x.del, .string x.val], undef, undef, undef, undef, undef, undef, undef, undef, undef], defers := [] } : Act))
    ?_ ?_ ?_ (fun k => (k < w.heap.size ∧ ¬ T k) ∨ k = w.heap.size ∨ k = w.heap.size + 1) ?_ ?_ ?_ ?assign ?body ?done ?stop
  case assign =>
    intro l pre x fp W K ⟨hC, hm⟩ hlt hlen hK
    clear hit
    unfold encV
    gi_wp2
    refine hK _ _ _ (Step.alloc hlt _) ⟨⟨(Coll.abide _ _ _ _ _ _ _ _ _ _ _ _ _ _ hC ((Keep.refl _ _).alloc _)).more (fun _ h => .inl h), hm⟩, W.heap.size, ⟨VrAt.new _ _ _ _ _ _, .inr rfl⟩, rfl⟩
  case body =>
    rintro l pre x a' fp W ⟨⟨⟨⟨v, bM, bL, hr, fM, fL, fR⟩, hT2, hk2⟩, hm⟩, bx, ⟨⟨x0, x1, x2, x3, xB⟩, hbx⟩, rfl⟩ hlt hlen
    clear hit
    have cM := bM.cell
    have cL := bL.cell
    have hlb : pre.length + 1 ≤ N := hlen
    gi_wp2_with (gi_at_builtin; go_must (refine wpListIn_app1 (by rfl) _ _ 22 (by rfl) w.heap.size 44 (.agg #[.string .empty, .int .u64 0, .bool false, .string .empty]) 4 48 Try.underlying22 info_version rfl (by decide) v pre.length (vcells pre) W hr (by have := hk2.size; omega) (by rfl) #[.string x.key, .int .u64 (x.seq : Int), .bool x.del, .string x.val] 44 (by rfl) rfl (by simp [Value.oneCell']) (by omega) (by decide) ?_; intro g cap w1 hown' hgrow hat hg; have ⟨bL1, bM1, hW2⟩ := Coll.append (x := x) ⟨hT2, hk2⟩ bM bL hr fM fL fR hlt (by omega) (by omega) (by decide) (by decide) hown' hgrow hat hg (by rw [vcells_append, vcells_one]); have cL1 := bL1.cell; have fL1 := bL1.frozen; have cM1 := bM1.cell))
    all_goals
      obtain ⟨bM2, bL2, st, hC2⟩ := hW2 _ rfl
      have hl : ((pre ++ [x]).length : Int) = (pre.length : Int) + 1 := by simp
    · have he : ((pre.length : Int) + 1 == most) = true := by assumption
      exact ⟨_, ⟨rfl, hC2, by rw [hl]; exact eq_of_beq he, by have := eq_of_beq he; omega⟩, st⟩
    · have he : ((pre.length : Int) + 1 == most) = false := by assumption
      refine ⟨_, ⟨hC2, fun h => ?_⟩, st⟩
      have h2 := hm h
      have h3 : ¬ (pre.length : Int) + 1 = most := by simpa using he
      rw [hl]; omega
  case done =>
    rintro D ys fp W hD hnD hnew hlt hkT rfl ⟨⟨⟨v, bM, bL, hr, fM, fL, fR⟩, hT2, hk2⟩, hm⟩ hK
    clear hit
    have cL := bL.cell
    gi_wp2
    refine ⟨by simp, .inl ⟨_, _, rfl, run_takeDeferred hK, ?_⟩⟩
    refine ⟨_, results_tmp rfl _ _ _, v, rfl, ?_, ?_⟩
    · rw [heads_none (fun h => by have := hm h.1; omega)]
      exact ownsRow_putObj hr _ hK rfl
    · exact from_below hk2 ((hk T).trans hkT (fun _ h _ => h)) (by omega)
  case stop =>
    rintro D c pre fp W hD hnD hnew hlt hkT hpre ⟨rfl, ⟨⟨v, bM, bL, hr, fM, fL, fR⟩, hT2, hk2⟩, hm, h0⟩ hK
    clear hit
    have cL := bL.cell
    gi_wp2
    refine ⟨by simp, .inl ⟨_, _, rfl, run_takeDeferred hK, ?_⟩⟩
    refine ⟨_, results_tmp rfl _ _ _, v, rfl, ?_, ?_⟩
    · rw [heads_some hpre hm h0]
      exact ownsRow_putObj hr _ hK rfl
    · exact from_below hk2 ((hk T).trans hkT (fun _ h _ => h)) (by omega)
  · rintro pre fp W W' ⟨h, hm⟩ hkp
    exact ⟨Coll.abide _ _ _ _ _ _ _ _ _ _ _ _ _ _ h hkp, hm⟩
  · rintro c pre fp W W' ⟨hc, h, hm⟩ hkp
    exact ⟨hc, Coll.abide _ _ _ _ _ _ _ _ _ _ _ _ _ _ h hkp, hm⟩
  · rintro pre x a' _ fp W W' ⟨⟨h, hm⟩, bx, ⟨hv, hf⟩, he⟩ hkp
    exact ⟨⟨Coll.abide _ _ _ _ _ _ _ _ _ _ _ _ _ _ h hkp, hm⟩, bx, ⟨hv.keep hkp hf, hf⟩, he⟩
  · rintro k h1 h2
    have := hT k h2
    rcases h1 with h1 | h1 | h1
    · exact h1.2 h2
    · omega
    · omega
  · rintro k h1
    rcases h1 with h1 | h1 | h1 <;> omega
  · exact ⟨⟨⟨_, bM, bL, World.ownsRow_nil _ _ _ _, .inr (.inl rfl), .inr (.inr rfl), fun k e => by cases e⟩, fun k h1 h2 => .inl ⟨h1, h2⟩, hk _⟩, fun h => by simpa using h⟩
end Go.Proofs.Ytiogjebekadmcaa
