
/- Walks: merge.Keep and merge.groups called: the boxes that they lay. Condition: lengths that memory lets. -/
import Derived.Test.YtiogjebekadmcaaWFloor
import Derived.Test.YtiogjebekadmcaaIt
import Derived.Test.YtiogjebekadmcaaWGroups2
namespace Go.Proofs.Ytiogjebekadmcaa
open Go.RowKit Go.Shelf

attribute [local go_sem] Oper.semAt_some

theorem mgroups_nil (w : World) :
    Calls Try.prog 38 #[.nilFunc] w fun e w' =>
      e = .returned (.func (.func 63) #[] #[.pointer (some ⟨w.heap.size, 0, none⟩)]) ∧ w' = w.alloc (.cells #[.nilFunc] 30) := by
  go_enter Try.func38, Try.ntmps38
  go_wp2
  go_ret
  exact ⟨rfl, rfl⟩

theorem boxed_below {W W' : World} {b : Nat} {t : TypeId} {v : Value} (h : Below W.heap.size W W') (hb : Boxed W b t v) : Boxed W' b t v := (h.block b hb.lt).trans hb

/-- what merge.Keep lays: the row, the floors' copy, the bottom -/
def KeepAt (w : World) (sv : Value) (fs : List Nat) (bot : Bool) (w' : World) : Prop :=
  Boxed w' w.heap.size 30 sv ∧ (∃ fv, Boxed w' (w.heap.size + 1) 46 fv ∧ NumsAt w' fv fs ∧ ∀ k, fv.ownBlock = some k → w.heap.size + 3 ≤ k ∧ k < w'.heap.size) ∧ Boxed w' (w.heap.size + 2) 4 (.bool bot) ∧ Below w.heap.size w w'

set_option maxRecDepth 100000 in
set_option maxHeartbeats 800000 in
theorem mkeep_func (f : Nat) (lb : Array Value) (fv : Value) (fs : List Nat) (bot : Bool) (w : World) (hf : NumsAt w fv fs) (hl : fs.length * 8 ≤ 140737488355328) :
    Calls Try.prog 18 #[.func (.func f) #[] lb, fv, .bool bot] w fun e w' =>
      e = .returned (.func (.func 40) #[] #[.pointer (some ⟨w.heap.size, 0, none⟩), .pointer (some ⟨w.heap.size + 1, 0, none⟩), .pointer (some ⟨w.heap.size + 2, 0, none⟩)]) ∧ KeepAt w (.func (.func f) #[] lb) fs bot w' := by
  obtain ⟨ao, cap, hfv, hf1, hf2, hf3⟩ := id hf
  obtain ⟨W0, hW0⟩ : ∃ W0, ((w.alloc (.cells #[.func (.func f) #[] lb] 30)).alloc (.cells #[fv] 46)).alloc (.cells #[.bool bot] 4) = W0 := ⟨_, rfl⟩
  have b0 := Boxed.new w 30 (.func (.func f) #[] lb)
  have b1 := Boxed.new (w.alloc (.cells #[.func (.func f) #[] lb] 30)) 46 fv
  have b2 := Boxed.new ((w.alloc (.cells #[.func (.func f) #[] lb] 30)).alloc (.cells #[fv] 46)) 4 (.bool bot)
  have b0 := (b0.alloc (.cells #[fv] 46)).alloc (.cells #[.bool bot] 4)
  have b1 := b1.alloc (.cells #[.bool bot] 4)
  simp only [World.size_alloc, Nat.add_assoc, Nat.reduceAdd] at b0 b1 b2
  have hB : Below w.heap.size w W0 := by rw [← hW0]; exact (((Below.refl _ w).alloc (Nat.le_refl _) _).alloc (by simp) _).alloc (by simp; omega) _
  have hz : W0.heap.size = w.heap.size + 3 := by rw [← hW0]; simp
  rw [hW0] at b0 b1 b2
  have hC := Lib.hid (clone_nums fv fs W0 (hf.below hB) hl)
  subst hfv
  have c1 := b1.cell
  have f1 := b1.frozen
  clear hf hf3
  go_enter Try.func18, Try.ntmps18
  go_wp2_with (go_at_call 39; go_must (refine hC.out.mono ?_; rintro e w' ⟨v', rfl, hn, ho, hb⟩; obtain ⟨ao', cap', rfl, n1, n2, n3⟩ := hn; have c1' := (boxed_below hb b1).cell; have f1' := (boxed_below hb b1).frozen))

  go_ret
  refine ⟨by simp, ?_⟩
  have hn : NumsAt w' (.slice ao' fs.length cap') fs := ⟨ao', cap', rfl, n1, n2, n3⟩
  have hg := grownBy_setCell' w' (w.heap.size + 1) (.slice ao' fs.length cap')
  have hb2 : Below w.heap.size w w' := hB.trans (hb.mono (by omega))
  refine ⟨(boxed_below hb b0).other (by omega) _, ⟨_, (boxed_below hb b1).set _, hn.kept hg.size (fun _ b hl e => hg.block b hl (fun h => ?_)), fun k e => ?_⟩, (boxed_below hb b2).other (by omega) _, hb2.grown hg (by have := hb2.size; omega) (fun k e => ?_)⟩
  · have := ho b e; cases h; omega
  · have := ho k e; rw [size_cell]; omega
  · cases e; omega
set_option maxRecDepth 100000 in
set_option maxHeartbeats 800000 in
theorem mkeep_nil (fv : Value) (fs : List Nat) (bot : Bool) (w : World) (hf : NumsAt w fv fs) (hl : fs.length * 8 ≤ 140737488355328) :
    Calls Try.prog 18 #[.nilFunc, fv, .bool bot] w fun e w' =>
      e = .returned (.func (.func 40) #[] #[.pointer (some ⟨w.heap.size, 0, none⟩), .pointer (some ⟨w.heap.size + 1, 0, none⟩), .pointer (some ⟨w.heap.size + 2, 0, none⟩)]) ∧ KeepAt w .nilFunc fs bot w' := by
  obtain ⟨ao, cap, hfv, hf1, hf2, hf3⟩ := id hf
  obtain ⟨W0, hW0⟩ : ∃ W0, ((w.alloc (.cells #[.nilFunc] 30)).alloc (.cells #[fv] 46)).alloc (.cells #[.bool bot] 4) = W0 := ⟨_, rfl⟩
  have b0 := Boxed.new w 30 .nilFunc
  have b1 := Boxed.new (w.alloc (.cells #[.nilFunc] 30)) 46 fv
  have b2 := Boxed.new ((w.alloc (.cells #[.nilFunc] 30)).alloc (.cells #[fv] 46)) 4 (.bool bot)
  have b0 := (b0.alloc (.cells #[fv] 46)).alloc (.cells #[.bool bot] 4)
  have b1 := b1.alloc (.cells #[.bool bot] 4)
  simp only [World.size_alloc, Nat.add_assoc, Nat.reduceAdd] at b0 b1 b2
  have hB : Below w.heap.size w W0 := by rw [← hW0]; exact (((Below.refl _ w).alloc (Nat.le_refl _) _).alloc (by simp) _).alloc (by simp; omega) _
  have hz : W0.heap.size = w.heap.size + 3 := by rw [← hW0]; simp
  rw [hW0] at b0 b1 b2
  have hC := Lib.hid (clone_nums fv fs W0 (hf.below hB) hl)
  subst hfv
  have c1 := b1.cell
  have f1 := b1.frozen
  clear hf hf3
  go_enter Try.func18, Try.ntmps18
  go_wp2_with (go_at_call 39; go_must (refine hC.out.mono ?_; rintro e w' ⟨v', rfl, hn, ho, hb⟩; obtain ⟨ao', cap', rfl, n1, n2, n3⟩ := hn; have c1' := (boxed_below hb b1).cell; have f1' := (boxed_below hb b1).frozen))

  go_ret
  refine ⟨by simp, ?_⟩
  have hn : NumsAt w' (.slice ao' fs.length cap') fs := ⟨ao', cap', rfl, n1, n2, n3⟩
  have hg := grownBy_setCell' w' (w.heap.size + 1) (.slice ao' fs.length cap')
  have hb2 : Below w.heap.size w w' := hB.trans (hb.mono (by omega))
  refine ⟨(boxed_below hb b0).other (by omega) _, ⟨_, (boxed_below hb b1).set _, hn.kept hg.size (fun _ b hl e => hg.block b hl (fun h => ?_)), fun k e => ?_⟩, (boxed_below hb b2).other (by omega) _, hb2.grown hg (by have := hb2.size; omega) (fun k e => ?_)⟩
  · have := ho b e; cases h; omega
  · have := ho k e; rw [size_cell]; omega
  · cases e; omega
end Go.Proofs.Ytiogjebekadmcaa
