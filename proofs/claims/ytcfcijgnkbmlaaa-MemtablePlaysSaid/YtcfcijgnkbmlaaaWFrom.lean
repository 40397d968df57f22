
/- Walks: what a range over From tells. Condition: rows whose bytes fit. -/
import Derived.Test.YtcfcijgnkbmlaaaColl
import Derived.Test.YtcfcijgnkbmlaaaVer
import Derived.Test.YtcfcijgnkbmlaaaOwn
namespace Go.Proofs.Ytcfcijgnkbmlaaa
open Go.RowKit Go.Shelf

attribute [local go_sem] Oper.semAt_some

def encV (x : Ver) : Array Value := #[.agg #[.string x.key, .int .u64 (x.seq : Int), .bool x.del, .string x.val]]
/-- the cells of versions -/
def vcells : List Ver → List Value
  | [] => []
  | x :: l => .string x.key :: .int .u64 (x.seq : Int) :: .bool x.del :: .string x.val :: vcells l
theorem vcells_append : ∀ l r : List Ver, vcells (l ++ r) = vcells l ++ vcells r
  | [], _ => rfl
  | x :: l, r => by simp [vcells, vcells_append l r]
theorem vcells_length : ∀ l : List Ver, (vcells l).length = l.length * 4
  | [] => rfl
  | x :: l => by simp only [vcells, List.length_cons, vcells_length l]; omega

/-- the first ones, if so many are asked for -/
def heads {α : Type} (xs : List α) (most : Int) : List α := if 0 < most ∧ most ≤ xs.length then xs.take most.toNat else xs

theorem VrAt.keep {B : Nat} {k : ByteArray} {s : Int} {d : Bool} {v : ByteArray} {W W' : World} {fp : Nat → Prop} (h : VrAt B k s d v W) (hb : Keep fp W W') (hf : fp B) : VrAt B k s d v W' := by
  obtain ⟨h0, h1, h2, h3, hB⟩ := h
  exact ⟨hb.cell hf h0, hb.cell hf h1, hb.cell hf h2, hb.cell hf h3, Nat.lt_of_lt_of_le hB hb.size⟩
/-- what lay in w lies as it lay: what is the iterator's, and what is not -/
theorem from_below {w W : World} {T : Nat → Prop} {D : Nat} (h : Keep (fun k => k < w.heap.size ∧ ¬ T k) w W) (h2 : Keep T w W) (hD : w.heap.size ≤ D) : Below w.heap.size w (W.putObj D (.deferred none)) := by
  have hB : Below w.heap.size w W := ⟨h.os, h.tape, h.output, h.size, fun k hk => by
    by_cases ht : T k
    · exact h2.block k ht hk
    · exact h.block k ⟨hk, ht⟩ hk⟩
  have hg := grownBy_putObj' W D (.deferred none)
  exact ⟨hg.os.trans hB.os, hg.tape.trans hB.tape, hg.output.trans hB.output, Nat.le_trans hB.size hg.size, fun k hk => (hg.block k (by have := hB.size; omega) (fun e => by cases e; omega)).trans (hB.block k hk)⟩

theorem eql_func_nil (f : Nat) (l : Array Value) (w : World) : (binOp .eql 48 (.func (.func f) #[] l) .nilFunc).run Try.prog w = .ok (.bool false) w := by kernel_rfl
theorem info_version : (Try.prog.info? 24).map (fun i => (i.zero, i.size, i.bytes)) = some (some (.agg #[.string .empty, .int .u64 0, .bool false, .string .empty]), 4, 48) := by kernel_rfl
theorem heads_none {α : Type} {xs : List α} {most : Int} (h : ¬ (0 < most ∧ most ≤ xs.length)) : heads xs most = xs := by unfold heads; rw [if_neg h]
theorem heads_some {α : Type} {xs pre : List α} {most : Int} (hp : pre <+: xs) (h : (pre.length : Int) = most) (h0 : 0 < most) : heads xs most = pre := by
  have hl := hp.length_le
  unfold heads
  rw [if_pos ⟨h0, by omega⟩, show most.toNat = pre.length from by omega]
  exact (List.prefix_iff_eq_take.1 hp).symm
theorem vcells_one (x : Ver) : vcells [x] = [.string x.key, .int .u64 (x.seq : Int), .bool x.del, .string x.val] := rfl
set_option maxRecDepth 100000 in
set_option maxHeartbeats 2000000 in
theorem tfrom_in (n : Nat) (p : Option Addr) (key : ByteArray) (w : World) :
    CallsIn Fence.wide n Try.prog 30 #[.pointer p, .string key] w fun e w' =>
      e = .returned (.func (.func 47) #[] #[.pointer (some ⟨w.heap.size, 0, none⟩), .pointer (some ⟨w.heap.size + 1, 0, none⟩)]) ∧ w' = (w.alloc (.cells #[.pointer p] 39)).alloc (.cells #[.string key] 9) := by
  refine callsIn_of_wp Try.func30 rfl trivial ?_ rfl
  simp only [Try.ntmps30, List.size_toArray, List.length_cons, List.length_nil, Nat.reduceAdd, Nat.reduceSub, Array.replicate_succ, Array.replicate_zero, List.push_toArray, List.append_toArray, List.nil_append, List.cons_append]
  gi_wp2
  go_ret
  exact ⟨rfl, rfl⟩

set_option maxRecDepth 100000 in
set_option maxHeartbeats 2000000 in
theorem from_in (n : Nat) (hn : 3 ≤ n) (p : Option Addr) (key : ByteArray) (most : Int) (w : World) (T : Nat → Prop) (xs : List Ver) (N : Nat) (hT : ∀ k, T k → k < w.heap.size) (hNb : (N + 1) * 48 ≤ 140737488355328)
    (hit : ∀ (W : World) (b : Nat), Keep T w W → Boxed W b 39 (.pointer p) → Boxed W (b + 1) 9 (.string key) → w.heap.size ≤ b →
      SeqF Fence.wide (n - 1) Try.prog 47 #[.pointer (some ⟨b, 0, none⟩), .pointer (some ⟨b + 1, 0, none⟩)] encV (fun k => T k ∨ k = b ∨ k = b + 1) T (fun ys => ys = xs) (fun ys => ys <+: xs) N W) :
    CallsIn Fence.wide n Try.prog 29 #[.pointer p, .string key, .int .i64 most] w fun e w' =>
      ∃ v, e = .returned v ∧ w'.ownsRow w.heap.size 24 4 v (heads xs most).length (vcells (heads xs most)) ∧ Below w.heap.size w w' := by
  have h1 : 1 ≤ n := by omega
  have hnf := eql_func_nil
  refine callsIn_of_wp_marks Try.func29 rfl trivial ?_ rfl
  simp only [Try.ntmps29, List.size_toArray, List.length_cons, List.length_nil, Nat.reduceAdd, Nat.reduceSub, Array.replicate_succ, Array.replicate_zero, List.push_toArray, List.append_toArray, List.nil_append, List.cons_append]
  gi_wp2_with (refine ⟨trivial, ?_⟩; gi_at_call 30; refine (tfrom_in (n - 1) p key _).mono ?_; rintro e w' ⟨rfl, rfl⟩)
  have bM := Boxed.new w 3 (.int .i64 most)
  have bL := Boxed.new (w.alloc (.cells #[.int .i64 most] 3)) 45 (.slice none 0 0)
  have bP := Boxed.new ((w.alloc (.cells #[.int .i64 most] 3)).alloc (.cells #[.slice none 0 0] 45)) 39 (.pointer p)
  have bK := Boxed.new (((w.alloc (.cells #[.int .i64 most] 3)).alloc (.cells #[.slice none 0 0] 45)).alloc (.cells #[.pointer p] 39)) 9 (.string key)
  simp only [World.size_alloc] at bL bP bK
  have bM := ((bM.alloc (.cells #[.slice none 0 0] 45)).alloc (.cells #[.pointer p] 39)).alloc (.cells #[.string key] 9)
  have bL := (bL.alloc (.cells #[.pointer p] 39)).alloc (.cells #[.string key] 9)
  have bP := bP.alloc (.cells #[.string key] 9)
  have hk : ∀ f : Nat → Prop, Keep f w ((((w.alloc (.cells #[.int .i64 most] 3)).alloc (.cells #[.slice none 0 0] 45)).alloc (.cells #[.pointer p] 39)).alloc (.cells #[.string key] 9)) := fun f => ((((Keep.refl f w).alloc _).alloc _).alloc _).alloc _
  have hz : ((((w.alloc (.cells #[.int .i64 most] 3)).alloc (.cells #[.slice none 0 0] 45)).alloc (.cells #[.pointer p] 39)).alloc (.cells #[.string key] 9)).heap.size = w.heap.size + 4 := by simp
  generalize ((((w.alloc (.cells #[.int .i64 most] 3)).alloc (.cells #[.slice none 0 0] 45)).alloc (.cells #[.pointer p] 39)).alloc (.cells #[.string key] 9)) = W0 at bM bL bP bK hk hz ⊢
  have hzH := Lib.hid hz
  obtain ⟨i0, hi, hz0, hz1, hz2⟩ := info_parts info_version
  refine wpIn_rangeF (F := Fence.wide) rfl h1 (gf := 47) (lb := #[.pointer (some ⟨w.heap.size + 1 + 1, 0, none⟩), .pointer (some ⟨w.heap.size + 1 + 1 + 1, 0, none⟩)]) rfl trivial (enters_of Try.func47 (by kernel_rfl) rfl)
    (hit W0 (w.heap.size + 1 + 1) (hk T) bP bK (by omega)) (fun _ => rfl) (by rintro k (h | h | h) <;> first | (have := hT k h; omega) | omega) (fun k h => by have := hT k h; omega)
    (fun pre fp W => Coll w T w.heap.size (w.heap.size + 1) 3 45 24 4 vcells most pre fp W ∧ (0 < most → (pre.length : Int) < most))
    (fun c pre fp W => c = .exit 0 ∧ Coll w T w.heap.size (w.heap.size + 1) 3 45 24 4 vcells most pre fp W ∧ (pre.length : Int) = most ∧ 0 < most)
    (fun pre x a' fp W => (Coll w T w.heap.size (w.heap.size + 1) 3 45 24 4 vcells most pre fp W ∧ (0 < most → (pre.length : Int) < most)) ∧ ∃ bx, (VrAt bx x.key (x.seq : Int) x.del x.val W ∧ fp bx) ∧ a' = { tmps := #[.pointer p, .string key, .int .i64 most, undef, undef, .pointer (some ⟨w.heap.size, 0, none⟩), .slice none 0 0, .pointer (some ⟨w.heap.size + 1, 0, none⟩),
      .func (.func 47) #[] #[.pointer (some ⟨w.heap.size + 1 + 1, 0, none⟩), .pointer (some ⟨w.heap.size + 1 + 1 + 1, 0, none⟩)], .pointer (some ⟨bx, 0, none⟩), .pointer p, .string key,
      .func (.func 47) #[] #[.pointer (some ⟨w.heap.size + 1 + 1, 0, none⟩), .pointer (some ⟨w.heap.size + 1 + 1 + 1, 0, none⟩)], .func (.func 47) #[] #[.pointer (some ⟨w.heap.size + 1 + 1, 0, none⟩), .pointer (some ⟨w.heap.size + 1 + 1 + 1, 0, none⟩)], .bool false,
      .func (.func 47) #[] #[.pointer (some ⟨w.heap.size + 1 + 1, 0, none⟩), .pointer (some ⟨w.heap.size + 1 + 1 + 1, 0, none⟩)], .agg #[.string x.key, .int .u64 (x.seq : Int), .bool x.del, .string x.val], undef, undef, undef, undef, undef, undef, undef, undef, undef], defers := [] })
    ?_ ?_ ?_ (fun k => (k < w.heap.size ∧ ¬ T k) ∨ k = w.heap.size ∨ k = w.heap.size + 1) ?_ ?_ ?_ ?assign ?body ?done ?stop
  case assign =>
    intro l pre x fp W K ⟨hC, hm⟩ hlt hlen hK
    clear hit
    unfold encV
    gi_wp2
    refine hK _ _ _ (Step.alloc hlt _) ⟨⟨(Coll.abide _ _ _ _ _ _ _ _ _ _ _ _ _ _ hC ((Keep.refl _ _).alloc _)).more (fun _ h => .inl h), hm⟩, W.heap.size, ⟨VrAt.new _ _ _ _ _ _, .inr rfl⟩, rfl⟩
  case body =>
    rintro l pre x a' fp W ⟨⟨⟨⟨v, bM, bL, hr, fM, fL, fR⟩, hT2, hk2⟩, hm⟩, bx, ⟨⟨x0, x1, x2, x3, xB⟩, hbx⟩, rfl⟩ hlt hlen
    clear hit
    have cM := bM.cell
    have cL := bL.cell
    have hlb : pre.length + 1 ≤ N := hlen
    gi_wp2_with (gi_at_builtin; go_must (refine wpListIn_app1 (by rfl) _ _ 45 (by rfl) w.heap.size 24 (.agg #[.string .empty, .int .u64 0, .bool false, .string .empty]) 4 48 Try.underlying45 info_version rfl (by decide) v pre.length (vcells pre) W hr (by have := hk2.size; omega) (by rfl) #[.string x.key, .int .u64 (x.seq : Int), .bool x.del, .string x.val] 24 (by rfl) rfl (by simp [Value.oneCell']) (by omega) (by decide) ?_; intro g cap w1 hown' hgrow hat hg; have ⟨bL1, bM1, hW2⟩ := Coll.append (x := x) ⟨hT2, hk2⟩ bM bL hr fM fL fR hlt (by omega) (by omega) (by decide) (by decide) hown' hgrow hat hg (by rw [vcells_append, vcells_one]); have cL1 := bL1.cell; have fL1 := bL1.frozen; have cM1 := bM1.cell))
    all_goals
      obtain ⟨bM2, bL2, st, hC2⟩ := hW2 _ rfl
      have hl : ((pre ++ [x]).length : Int) = (pre.length : Int) + 1 := by simp
    · have he : ((pre.length : Int) + 1 == most) = true := by assumption
      exact ⟨_, ⟨rfl, hC2, by rw [hl]; exact eq_of_beq he, by have := eq_of_beq he; omega⟩, st⟩
    · have he : ((pre.length : Int) + 1 == most) = false := by assumption
      refine ⟨_, ⟨hC2, fun h => ?_⟩, st⟩
      have h2 := hm h
      have h3 : ¬ (pre.length : Int) + 1 = most := by simpa using he
      rw [hl]; omega
  case done =>
    rintro D ys fp W hD hnD hnew hlt hkT rfl ⟨⟨⟨v, bM, bL, hr, fM, fL, fR⟩, hT2, hk2⟩, hm⟩ hK
    clear hit
    have cL := bL.cell
    gi_wp2
    refine ⟨by simp, .inl ⟨_, _, rfl, run_takeDeferred hK, ?_⟩⟩
    refine ⟨_, results_tmp rfl _ _ _, v, rfl, ?_, ?_⟩
    · rw [heads_none (fun h => by have := hm h.1; omega)]
      exact ownsRow_putObj hr _ hK rfl
    · exact from_below hk2 ((hk T).trans hkT (fun _ h _ => h)) (by omega)
  case stop =>
    rintro D c pre fp W hD hnD hnew hlt hkT hpre ⟨rfl, ⟨⟨v, bM, bL, hr, fM, fL, fR⟩, hT2, hk2⟩, hm, h0⟩ hK
    clear hit
    have cL := bL.cell
    gi_wp2
    refine ⟨by simp, .inl ⟨_, _, rfl, run_takeDeferred hK, ?_⟩⟩
    refine ⟨_, results_tmp rfl _ _ _, v, rfl, ?_, ?_⟩
    · rw [heads_some hpre hm h0]
      exact ownsRow_putObj hr _ hK rfl
    · exact from_below hk2 ((hk T).trans hkT (fun _ h _ => h)) (by omega)
  · rintro pre fp W W' ⟨h, hm⟩ hkp
    exact ⟨Coll.abide _ _ _ _ _ _ _ _ _ _ _ _ _ _ h hkp, hm⟩
  · rintro c pre fp W W' ⟨hc, h, hm⟩ hkp
    exact ⟨hc, Coll.abide _ _ _ _ _ _ _ _ _ _ _ _ _ _ h hkp, hm⟩
  · rintro pre x a' _ fp W W' ⟨⟨h, hm⟩, bx, ⟨hv, hf⟩, he⟩ hkp
    exact ⟨⟨Coll.abide _ _ _ _ _ _ _ _ _ _ _ _ _ _ h hkp, hm⟩, bx, ⟨hv.keep hkp hf, hf⟩, he⟩
  · rintro k h1 h2
    rcases h2 with h2 | h2 | h2
    · rcases h1 with h1 | h1 | h1
      · exact h1.2 h2
      · have := hT k h2; omega
      · have := hT k h2; omega
    · rcases h1 with h1 | h1 | h1 <;> omega
    · rcases h1 with h1 | h1 | h1 <;> omega
  · rintro k h1
    rcases h1 with h1 | h1 | h1 <;> omega
  · exact ⟨⟨⟨_, bM, bL, World.ownsRow_nil _ _ _ _, .inr (.inl rfl), .inr (.inr rfl), fun k e => by cases e⟩, fun k h1 h2 => .inl ⟨h1, h2⟩, hk _⟩, fun h => by simpa using h⟩
end Go.Proofs.Ytcfcijgnkbmlaaa
