
/- Walks: floors: slices of numbers, their copy, whether one of them stands between two versions. Condition: lengths that memory lets. -/
import Derived.Test.YtiogjebekadmcaaOwn
import Derived.Test.YtiogjebekadmcaaVers
import Derived.Test.YtiogjebekadmcaaPlainKp
import Derived.Test.YtiogjebekadmcaaWColl9
import Derived.Lib.LazyBuf
namespace Go.Proofs.Ytiogjebekadmcaa
open Go.RowKit

/-- in W, v is a slice of these numbers -/
def NumsAt (W : World) (v : Value) (l : List Nat) : Prop :=
  ∃ (ao : Option Addr) (cap : Nat), v = .slice ao l.length cap ∧ l.length ≤ cap ∧ cap ≤ 9223372036854775807 ∧ (0 < l.length → ∃ b off, ao = some ⟨b, off, none⟩ ∧ b < W.heap.size ∧ ∀ i (hi : i < l.length), W.cell? ⟨b, off + i, none⟩ = some (.int .u64 (l[i] : Int)))
theorem NumsAt.kept {W W' : World} {v : Value} {l : List Nat} (h : NumsAt W v l) (hs : W.heap.size ≤ W'.heap.size) (hb : 0 < l.length → ∀ b, b < W.heap.size → v.ownBlock = some b → W'.heap[b]? = W.heap[b]?) : NumsAt W' v l := by
  obtain ⟨ao, cap, rfl, h1, h2, h⟩ := h
  refine ⟨ao, cap, rfl, h1, h2, fun h0 => ?_⟩
  obtain ⟨b, off, rfl, hlt, hc⟩ := h h0
  exact ⟨b, off, rfl, Nat.lt_of_lt_of_le hlt hs, fun i hi => (World.cell?_of_block (a := ⟨b, off + i, none⟩) (hb h0 b hlt rfl)).trans (hc i hi)⟩
theorem NumsAt.below {W W' : World} {v : Value} {l : List Nat} (h : NumsAt W v l) (hb : Below W.heap.size W W') : NumsAt W' v l := h.kept hb.size (fun _ b hl _ => hb.block b hl)
/-- the cells of numbers -/
def ncells (l : List Nat) : List Value := l.map fun (x : Nat) => Value.int .u64 (x : Int)
theorem ncells_length (l : List Nat) : (ncells l).length = l.length := by simp [ncells]
theorem own_nums {W0 w : World} {B : Nat} {v : Value} {l : List Nat} (h : Own B 23 1 v l.length (ncells l) W0 w) : NumsAt w v l := by
  rcases h.1.2 with ⟨rfl, h0⟩ | ⟨g, cap, cur, rfl, h1, h2, h3, h4, h5, h6⟩
  · exact ⟨none, 0, by rw [h0], by omega, by omega, fun h => by omega⟩
  · refine ⟨_, cap, rfl, h3, by unfold maxLen at h4; exact h4, fun _ => ⟨g, 0, rfl, (Array.getElem?_eq_some_iff.1 h2).1, fun i hi => ?_⟩⟩
    rw [Nat.zero_add, h.1.cellAt i (by omega)]
    simp [ncells, hi]
theorem info_u64 : (Try.prog.info? 23).map (fun i => (i.zero, i.size, i.bytes)) = some (some (.int .u64 0), 1, 8) := by kernel_rfl

set_option maxRecDepth 100000 in
set_option maxHeartbeats 1000000 in
theorem clone_nums (v : Value) (l : List Nat) (w : World) (h : NumsAt w v l) (hl : l.length * 8 ≤ 140737488355328) :
    Calls Try.prog 39 #[v] w fun e w' => ∃ v', e = .returned v' ∧ NumsAt w' v' l ∧ (∀ k, v'.ownBlock = some k → w.heap.size ≤ k ∧ k < w'.heap.size) ∧ Below w.heap.size w w' := by
  obtain ⟨ao, cap, rfl, h1, h2, hc⟩ := h
  have q22 : ∀ (w : World) (a : Option Addr) (n c : Nat), (binOp .eql 46 (.slice a n c) (.slice none 0 0)).run Try.prog w = .ok (.bool a.isNone) w := fun w a n c => Lib.run_eql_slice_nil w _ _ a n c 0 0 Try.underlying46
  cases ao with
  | none =>
    have h0 : l = [] := by
      by_cases h : 0 < l.length
      · obtain ⟨b, off, e, _⟩ := hc h; cases e
      · exact List.eq_nil_of_length_eq_zero (by omega)
    subst h0
    go_enter Try.func39, Try.ntmps39
    go_wp2
    go_ret
    exact ⟨_, rfl, ⟨none, 0, rfl, by simp, by omega, fun h => by simp at h⟩, (fun k e => by cases e), Below.refl _ _⟩
  | some ad =>
    obtain ⟨i0, hi, hz0, hz1, hz2⟩ := info_parts info_u64
    have A : Hid (∀ j u, (ncells l)[j]? = some u → w.cell? (ad.add j) = some u) := fun j u hj => by
      have hjl : j < l.length := by have := (List.getElem?_eq_some_iff.1 hj).1; rwa [ncells_length] at this
      obtain ⟨b, off, e, _, hcc⟩ := hc (by omega)
      cases e
      rw [Go.WideShapes.add_plain, hcc j hjl]
      have : (ncells l)[j]? = some (Value.int .u64 (l[j] : Int)) := by simp [ncells, hjl]
      rw [this] at hj; exact hj
    clear hc
    go_enter Try.func39, Try.ntmps39
    go_wp2_with (at_builtin; refine wpList_append_own _ rfl _ _ 46 rfl w.heap.size 23 i0 (.int .u64 0) 1 8 Try.underlying46 hi hz0 hz1 hz2 rfl (by decide) _ 0 [] rfl (World.ownsRow_made w #[] 0 (Nat.le_refl _) (Nat.zero_le _) rfl) ad l.length cap (ncells l) rfl ?qc1 ?qc2 ?qc3 ?qc4 ?qc5 ?qc6 ?_)
    case qc1 => simp [ncells]
    case qc2 =>
      intro j u hj
      exact Lib.cell?_alloc_some _ (A.out j u hj)
    case qc3 => intro u hu; obtain ⟨x, _, rfl⟩ := List.mem_map.1 hu; rfl
    case qc4 => unfold maxLen; omega
    case qc5 => omega
    case qc6 => simp
    intro v' w' hown hgrow _
    have hO : Own w.heap.size 23 1 v' l.length (ncells l) w w' := by
      refine ⟨by simpa using hown, ((Below.refl _ w).alloc (Nat.le_refl _) _).grown hgrow (by simp) (fun k e => ?_), ?_⟩
      · have : w.heap.size = k := by simpa [Value.ownBlock] using e
        omega
      · have := hgrow.size; rw [World.size_alloc] at this; omega
    clear hown hgrow A
    go_wp2
    go_ret
    exact ⟨v', rfl, own_nums hO, fun k e => hO.1.lt k e, hO.below⟩

/-- 'func(f) bool { return f >= v.Seq && f < g[i-1].Seq }' -/
theorem pred_any (f : Nat) (bv bg bi : Nat) (x p : Ver) (b cap j : Nat) (w : World) (n : Nat) (hx : w.cell? ⟨bv, 1, none⟩ = some (.int .u64 (x.seq : Int))) (hg : w.cell? ⟨bg, 0, none⟩ = some (.slice (some ⟨b, 0, none⟩) n cap)) (hi : w.cell? ⟨bi, 0, none⟩ = some (.int .i64 ((j : Int) + 1))) (hj : j + 1 < n) (hn : n ≤ 9223372036854775807)
    (hp : w.cell? ⟨b, j * 4 + 1, none⟩ = some (.int .u64 (p.seq : Int))) :
    Calls Try.prog 42 #[.int .u64 (f : Int), .pointer (some ⟨bv, 0, none⟩), .pointer (some ⟨bg, 0, none⟩), .pointer (some ⟨bi, 0, none⟩)] w fun e w' => e = .returned (.bool (decide (x.seq ≤ f) && decide (f < p.seq))) ∧ w = w' := by
  have hw : IntKind.i64.wrap ((j : Int) + 1 - 1) = (j : Int) := by rw [show (j : Int) + 1 - 1 = (j : Int) by omega]; exact IntWalk.i64_in _ (by omega)
  by_cases h1 : x.seq ≤ f
  · by_cases h2 : f < p.seq
    · go_enter Try.func42, Try.ntmps42
      go_wp2
      go_ret
      exact ⟨ret_bool (by simp; omega), rfl⟩
    · go_enter Try.func42, Try.ntmps42
      go_wp2
      go_ret
      exact ⟨ret_bool (by simp; omega), rfl⟩
  · go_enter Try.func42, Try.ntmps42
    go_wp2
    go_ret
    exact ⟨ret_bool (by simp; omega), rfl⟩

set_option maxRecDepth 100000 in
set_option maxHeartbeats 1000000 in
theorem index_any (g : Nat) (lb : Array Value) (eg : ∀ args w, (callFunc g args).run Try.prog w = .ok (.enter g args) w) (q : Nat → Bool) (v : Value) (l : List Nat) (w : World) (h : NumsAt w v l)
    (hp : ∀ f : Nat, Calls Try.prog g (#[.int .u64 (f : Int)] ++ lb) w fun e w' => e = .returned (.bool (q f)) ∧ w = w') :
    Calls Try.prog 64 #[v, .func (.func g) #[] lb] w fun e w' => ∃ i : Int, e = .returned (.int .i64 i) ∧ ((0 ≤ i ∧ l.any q = true) ∨ (i < 0 ∧ l.any q = false)) ∧ w = w' := by
  obtain ⟨ao, cap, rfl, h1, h2, hc⟩ := h
  go_enter Try.func64, Try.ntmps64
  go_wp2
  go_loopw [5, 8] (fun _ i wr => ∃ k : Nat, k ≤ l.length ∧ i = .int .i64 k ∧ Hid ((l.take k).any q = false) ∧ wr = w) (fun _ i _ => l.length - (intOf i).toNat)
  case atStart => exact ⟨0, by omega, rfl, rfl, rfl⟩
  case round =>
    obtain ⟨k, hk, rfl, hA, rfl⟩ := hrel
    by_cases h3 : k < l.length
    · obtain ⟨b, off, rfl, hlt, hcc⟩ := hc (by omega)
      have x0 := hcc k h3
      have hpk := hp l[k]
      have hsn : (l.take (k + 1)).any q = ((l.take k).any q || q l[k]) := by rw [List.take_succ_eq_append_getElem h3, List.any_append]; simp
      have hany : q l[k] = true → l.any q = true := fun e => List.any_eq_true.2 ⟨_, List.getElem_mem h3, e⟩
      clear hc hcc hp
      generalize l[k] = f at x0 hpk hsn hany
      cases hq : q f
      · rw [hq] at hpk
        rw [hA.out, hq] at hsn
        replace hpk := Lib.hid hpk
        replace hsn := Lib.hid hsn
        clear hany hq
        go_wp2_with (go_at_fn g; ((with_reducible refine hpk.out.mono ?_); rintro e w' ⟨rfl, rfl⟩))
        go_roundw
        case rel => exact ⟨k + 1, by omega, by go_num, hsn, trivial⟩
        case measure => simp [intOf]; omega
      · rw [hq] at hpk
        have hT := Lib.hid (hany hq)
        replace hpk := Lib.hid hpk
        clear hsn hany hq
        go_wp2_with (go_at_fn g; ((with_reducible refine hpk.out.mono ?_); rintro e w' ⟨rfl, rfl⟩))
        go_ret
        exact ⟨_, rfl, .inl ⟨by omega, hT.out⟩, rfl⟩
    · obtain rfl : k = l.length := by omega
      have hF : l.any q = false := by have := hA.out; rwa [List.take_of_length_le (Nat.le_refl _)] at this
      replace hF := Lib.hid hF
      clear hA
      go_wp2
      go_ret
      exact ⟨_, rfl, .inr ⟨by omega, hF.out⟩, rfl⟩
set_option maxRecDepth 100000 in
theorem contains_any (g : Nat) (lb : Array Value) (eg : ∀ args w, (callFunc g args).run Try.prog w = .ok (.enter g args) w) (q : Nat → Bool) (v : Value) (l : List Nat) (w : World) (h : NumsAt w v l)
    (hp : ∀ f : Nat, Calls Try.prog g (#[.int .u64 (f : Int)] ++ lb) w fun e w' => e = .returned (.bool (q f)) ∧ w = w') :
    Calls Try.prog 41 #[v, .func (.func g) #[] lb] w fun e w' => e = .returned (.bool (l.any q)) ∧ w = w' := by
  have hI := Lib.hid (index_any g lb eg q v l w h hp)
  clear hp
  go_enter Try.func41, Try.ntmps41
  go_wp2_with (go_at_call 64; ((with_reducible refine hI.out.mono ?_); rintro e w' ⟨i, rfl, hi, rfl⟩))
  go_ret
  refine ⟨ret_bool ?_, rfl⟩
  rcases hi with ⟨h1, h2⟩ | ⟨h1, h2⟩
  · rw [h2]; simp; omega
  · rw [h2]; simp; omega
end Go.Proofs.Ytiogjebekadmcaa
