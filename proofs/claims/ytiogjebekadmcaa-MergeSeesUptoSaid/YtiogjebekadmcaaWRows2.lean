
/- Walks: sequences' copy, merge.Merge called, and what it lists. Condition: rows whose bytes fit. -/
import Derived.Test.YtiogjebekadmcaaWRows
import Derived.Test.YtiogjebekadmcaaWKeep3
namespace Go.Proofs.Ytiogjebekadmcaa
open Go.RowKit Go.Shelf

set_option maxRecDepth 100000 in
set_option maxHeartbeats 1000000 in
theorem clone_funs (base : Nat) (o : Value) (gs : List Value) (w : World) (h : w.ownsRow base 30 1 o gs.length gs) (h1 : ∀ g ∈ gs, g.oneCell' = true) (hl : gs.length * 8 ≤ 140737488355328) :
    Calls Try.prog 43 #[o] w fun e w' => ∃ v', e = .returned v' ∧ w'.ownsRow w.heap.size 30 1 v' gs.length gs ∧ Below w.heap.size w w' := by
  have q22 : ∀ (w : World) (a : Option Addr) (n c : Nat), (binOp .eql 54 (.slice a n c) (.slice none 0 0)).run Try.prog w = .ok (.bool a.isNone) w := fun w a n c => Lib.run_eql_slice_nil w _ _ a n c 0 0 Try.underlying54
  rcases own_at h with ⟨h0, rfl⟩ | ⟨g, cap, rfl, g1, g2, g3, g4, hc⟩
  · have e : gs = [] := List.eq_nil_of_length_eq_zero h0
    subst e
    clear h
    go_enter Try.func43, Try.ntmps43
    go_wp2
    go_ret
    exact ⟨_, rfl, World.ownsRow_nil _ _ _ _, Below.refl _ _⟩
  · obtain ⟨i0, hi, hz0, hz1, hz2⟩ := info_parts info_seq
    have A : Hid (∀ j u, gs[j]? = some u → w.cell? ((⟨g, 0, none⟩ : Addr).add j) = some u) := fun j u hj => by
      have hjl := (List.getElem?_eq_some_iff.1 hj).1
      rw [Go.WideShapes.add_plain, Nat.zero_add, hc j (by omega)]
      exact hj
    clear hc h
    go_enter Try.func43, Try.ntmps43
    go_wp2_with (at_builtin; refine wpList_append_own _ rfl _ _ 54 rfl w.heap.size 30 i0 .nilFunc 1 8 Try.underlying54 hi hz0 hz1 hz2 rfl (by decide) _ 0 [] rfl (World.ownsRow_made w #[] 0 (Nat.le_refl _) (Nat.zero_le _) rfl) ⟨g, 0, none⟩ gs.length cap gs rfl ?qc1 ?qc2 ?qc3 ?qc4 ?qc5 ?qc6 ?_)
    case qc1 => simp
    case qc2 =>
      intro j u hj
      exact Lib.cell?_alloc_some _ (A.out j u hj)
    case qc3 => exact h1
    case qc4 => unfold maxLen; omega
    case qc5 => omega
    case qc6 => simp
    intro v' w' hown hgrow _
    have hb : Below w.heap.size w w' := ((Below.refl _ w).alloc (Nat.le_refl _) _).grown hgrow (by simp) (fun k e => by
      have : w.heap.size = k := by simpa [Value.ownBlock] using e
      omega)
    clear hgrow A
    go_wp2
    go_ret
    exact ⟨v', rfl, by simpa using hown, hb⟩

set_option maxRecDepth 100000 in
set_option maxHeartbeats 1000000 in
theorem mmerge_any (base : Nat) (o : Value) (gs : List Value) (w : World) (h : w.ownsRow base 30 1 o gs.length gs) (h1 : ∀ g ∈ gs, g.oneCell' = true) (hl : gs.length * 8 ≤ 140737488355328) :
    Calls Try.prog 23 #[o] w fun e w' => e = .returned (.func (.func 44) #[] #[.pointer (some ⟨w.heap.size, 0, none⟩)]) ∧ ∃ u, Boxed w' w.heap.size 54 u ∧ w'.ownsRow (w.heap.size + 1) 30 1 u gs.length gs ∧ Below w.heap.size w w' := by
  have hs : ∃ ao n cap, o = .slice ao n cap := by
    rcases own_at h with ⟨h0, e⟩ | ⟨g, cap, e, _⟩
    · exact ⟨_, _, _, e⟩
    · exact ⟨_, _, _, e⟩
  obtain ⟨ao, n, cap, rfl⟩ := hs
  obtain ⟨W0, hW0⟩ : ∃ W0, w.alloc (.cells #[.slice ao n cap] 54) = W0 := ⟨_, rfl⟩
  have b0 : Boxed W0 w.heap.size 54 (.slice ao n cap) := by rw [← hW0]; exact Boxed.new _ _ _
  have hb0 : Below w.heap.size w W0 := by rw [← hW0]; exact (Below.refl _ _).alloc (Nat.le_refl _) _
  have hz0 : W0.heap.size = w.heap.size + 1 := by rw [← hW0]; simp
  have ho0 : W0.ownsRow base 30 1 (.slice ao n cap) gs.length gs := by rw [← hW0]; exact h.alloc _
  have P := Lib.hid (clone_funs base (.slice ao n cap) gs W0 ho0 h1 hl)
  have c0 := b0.cell
  have f0 := b0.frozen
  clear ho0 h
  go_enter Try.func23, Try.ntmps23
  go_wp2_with (go_at_call 43; go_must ((with_reducible refine P.out.mono ?_); rintro e w1 ⟨v1, rfl, ho1, hb1⟩; obtain ⟨ao1, n1, cap1, rfl⟩ : ∃ ao n cap, v1 = .slice ao n cap := (by rcases own_at ho1 with ⟨h0, e⟩ | ⟨g, cap, e, _⟩; exact ⟨_, _, _, e⟩; exact ⟨_, _, _, e⟩); have c1 := (boxed_below hb1 b0).cell; have f1 := (boxed_below hb1 b0).frozen))
  go_ret
  have hbx := boxed_below hb1 b0
  have hg := grownBy_setCell' w1 w.heap.size (.slice ao1 n1 cap1)
  have ho2 : w1.ownsRow (w.heap.size + 1) 30 1 (.slice ao1 n1 cap1) gs.length gs := by rw [← hz0]; exact ho1
  refine ⟨by simp, _, hbx.set _, ho2.kept hg (.inr ?_), (hb0.trans (hb1.mono hb0.size)).grown hg ?_ ?_⟩
  · exact (hbx.not_row (by decide) ho1).symm
  · have := hb1.size; omega
  · intro k e; cases e; exact Nat.le_refl _

/-- the merged rows listed -/
theorem merge_call (b : Nat) (u : Value) (ls : List (List Ver)) (most : Int) (W : World) (hb : Boxed W b 54 u) (hf : FunsAt W u ls) (hl : ∀ l ∈ ls, l.length ≤ 2932031007317) (hll : ls.length ≤ 2932031007317) (ht : Pl.total ls ≤ 2932031007317) :
    Calls Try.prog 20 #[.func (.func 44) #[] #[.pointer (some ⟨b, 0, none⟩)], .int .i64 most] W fun e w' =>
      ∃ v', e = .returned v' ∧ VersAt w' v' (heads (Pl.mergeOf ls) most) ∧ Below W.heap.size W w' := by
  have hml := Pl.mergeOf_length ls
  refine Calls.mono (callsIn_wide.1 (list_in 9 (by omega) 44 _ most W (fun k => k < W.heap.size) (Pl.mergeOf ls) (Pl.total ls) (fun _ h => h) (by omega) (enters_of Try.func44 (by kernel_rfl) rfl) ?_)) ?_
  · intro W' hk
    have hb' := keep_below hk (Nat.le_refl _)
    refine SeqK.toF (mfp := fun k => k < W.heap.size) (kfp := fun k => k < W.heap.size) ?_ hml
    have hs := merge1_seq 8 (by omega) b u ls W hb hf hl hll
    intro l J Jx W2 fp hk2 hd hlt hJ hJx hY h0
    have hk3 := hk.trans hk2 (fun _ h _ => h)
    refine (hs l J Jx W2 fp hk3 hd hlt hJ hJx ?_ h0)
    intro pre x v ef fp1 W1 a1 a2 a3 a4 a5 a6
    exact hY pre x v ef fp1 W1 a1 a2 a3 a4 a5 a6
  · rintro e w' ⟨v', he, hr, hb⟩
    exact ⟨v', he, own_vers hr, hb⟩
end Go.Proofs.Ytiogjebekadmcaa
