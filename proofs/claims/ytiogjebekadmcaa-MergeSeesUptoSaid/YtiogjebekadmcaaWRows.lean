
/- Walks: the law's rows as sequences, their copy, merge.Merge called. Condition: rows whose bytes fit. -/
import Derived.Test.YtiogjebekadmcaaWMrg
import Derived.Test.YtiogjebekadmcaaWRefMrg
import Derived.Lib.LazyBuf
namespace Go.Proofs.Ytiogjebekadmcaa
open Go.RowKit Go.Shelf

theorem info_seq : (Try.prog.info? 30).map (fun i => (i.zero, i.size, i.bytes)) = some (some .nilFunc, 1, 8) := by kernel_rfl

/-- a sequence of this row, or none; the row lay in w -/
def FunR (w W : World) (g : Value) (l : List Ver) : Prop :=
  (g = .nilFunc ∧ l = []) ∨ ∃ r v, g = .func (.func 34) #[] #[.pointer (some ⟨r, 0, none⟩)] ∧ Boxed W r 22 v ∧ VersAt w v l
structure FunsR (w W : World) (gs : List Value) (ls : List (List Ver)) : Prop where
  len : gs.length = ls.length
  at' : ∀ i (h1 : i < gs.length) (h2 : i < ls.length), FunR w W gs[i] ls[i]
theorem FunsR.kept {w W W' : World} {gs : List Value} {ls : List (List Ver)} (h : FunsR w W gs ls) (hk : ∀ (b : Nat) (cs : Array Value) (z : Nat × Nat), W.heap[b]? = some (Obj.cells cs 22 z) → W'.heap[b]? = W.heap[b]?) : FunsR w W' gs ls :=
  ⟨h.len, fun i h1 h2 => by
    rcases h.at' i h1 h2 with e | ⟨r, v, e, hr, hv⟩
    · exact .inl e
    · exact .inr ⟨r, v, e, (hk _ _ _ hr).trans hr, hv⟩⟩
theorem FunsR.below {w W W' : World} {gs : List Value} {ls : List (List Ver)} (h : FunsR w W gs ls) (hb : Below W.heap.size W W') : FunsR w W' gs ls :=
  h.kept (fun b _ _ e => hb.block b (Array.getElem?_eq_some_iff.1 e).1)
theorem FunsR.one {w W : World} {gs : List Value} {ls : List (List Ver)} (h : FunsR w W gs ls) : ∀ g ∈ gs, g.oneCell' = true := by
  intro g hg
  obtain ⟨i, hi, rfl⟩ := List.mem_iff_getElem.1 hg
  rcases h.at' i hi (by have := h.len; omega) with ⟨e, _⟩ | ⟨r, v, e, _⟩
  · rw [e]; rfl
  · rw [e]; rfl
theorem FunsR.snoc {w W : World} {gs : List Value} {ls : List (List Ver)} {g : Value} {l : List Ver} (h : FunsR w W gs ls) (hg : FunR w W g l) : FunsR w W (gs ++ [g]) (ls ++ [l]) := by
  refine ⟨by simp [h.len], fun i h1 h2 => ?_⟩
  by_cases hi : i < gs.length
  · rw [List.getElem_append_left hi, List.getElem_append_left (by have := h.len; omega)]
    exact h.at' i hi _
  · have e : i = gs.length := by simp at h1; omega
    subst e
    have e2 : gs.length = ls.length := h.len
    simp only [List.getElem_append_right (Nat.le_refl _), Nat.sub_self, List.getElem_cons_zero]
    rw [List.getElem_append_right (by omega)]
    simp only [e2, Nat.sub_self, List.getElem_cons_zero]
    exact hg
/-- a row of them, as a slice of sequences -/
theorem FunsR.toAt {w W : World} {base : Nat} {o : Value} {gs : List Value} {ls : List (List Ver)} (h : FunsR w W gs ls) (hb : Below w.heap.size w W) (ho : W.ownsRow base 30 1 o gs.length gs) : FunsAt W o ls := by
  have hl := h.len
  rcases own_at ho with ⟨h0, rfl⟩ | ⟨g, cap, rfl, h1, h2, h3, h4, hc⟩
  · exact ⟨none, 0, by rw [← hl, h0], fun h => by omega⟩
  · refine ⟨_, cap, by rw [← hl], fun _ => ⟨g, 0, rfl, h2, fun i hi => ?_⟩⟩
    have hi2 : i < gs.length := by omega
    refine ⟨gs[i], by rw [Nat.zero_add, hc i (by omega)]; simp [hi2], ?_⟩
    rcases h.at' i hi2 hi with e | ⟨r, v, e, hr, hv⟩
    · exact .inl e
    · exact .inr ⟨r, v, e, hr, hv.below hb⟩

set_option maxRecDepth 100000 in
set_option maxHeartbeats 800000 in
theorem rows_any (v : Value) (ls : List (List Ver)) (w : World) (hv : LsAt w v ls) (hl : ∀ l ∈ ls, l.length ≤ 2932031007317) (hll : ls.length ≤ 2932031007317) :
    Calls Try.prog 22 #[v] w fun e w' => ∃ o gs, e = .returned o ∧ w'.ownsRow w.heap.size 30 1 o gs.length gs ∧ FunsR w w' gs ls ∧ Below w.heap.size w w' := by
  obtain ⟨ao, cap, rfl, hv⟩ := hv
  go_enter Try.func22, Try.ntmps22
  go_wp2
  go_loopw [3, 4] (fun o i W => ∃ (k : Nat) (gs : List Value), k ≤ ls.length ∧ i = .int .i64 k ∧ W.ownsRow w.heap.size 30 1 o gs.length gs ∧ FunsR w W gs (ls.take k) ∧ Below w.heap.size w W) (fun _ i _ => ls.length - (intOf i).toNat)
  case atStart => exact ⟨0, [], by omega, rfl, World.ownsRow_nil _ _ _ _, ⟨rfl, fun i h1 _ => by simp at h1⟩, Below.refl _ _⟩
  case round =>
    obtain ⟨k, gs, hk, rfl, hown, hfs, hb⟩ := hrel
    have hgl : gs.length ≤ k := by rw [hfs.len, List.length_take]; omega
    have hz := hb.size
    by_cases h1 : k < ls.length
    · obtain ⟨b, off, rfl, hbl, hc⟩ := hv (by omega)
      obtain ⟨u, g1, g2⟩ := hc k h1
      have m1 := (hb.cell (p := ⟨b, off + k, none⟩) hbl).trans g1
      have hlk := hl _ (List.getElem_mem h1)
      have htk := List.take_succ_eq_append_getElem h1
      obtain ⟨ao2, cap2, rfl, c1, c2, hr⟩ := id g2
      generalize ls[k] = l at *
      have fin : ∀ (W0 w1 : World) (tmp : Obj) (g : Value), Below w.heap.size w W0 → w.heap.size ≤ W0.heap.size → FunsR w W0 gs (ls.take k) → W0.ownsRow w.heap.size 30 1 u3 gs.length gs → FunR w W0 g l → (W0.alloc tmp).grownBy w1 u3.ownBlock → FunsR w w1 (gs ++ [g]) (ls.take (k + 1)) ∧ Below w.heap.size w w1 := by
        intro W0 w1 tmp g hB hz0 hF hO hg hgr
        have hF2 : FunsR w W0 (gs ++ [g]) (ls.take (k + 1)) := by rw [htk]; exact hF.snoc hg
        refine ⟨hF2.kept (fun b' cs z e => ?_), (hB.alloc hz0 tmp).grown hgr (by simp; omega) (fun k e => (hO.lt k e).1)⟩
        have hbl' := (Array.getElem?_eq_some_iff.1 e).1
        refine (hgr.block b' (by simp; omega) (fun e2 => ?_)).trans (((Below.refl W0.heap.size W0).alloc (Nat.le_refl _) tmp).block b' hbl')
        obtain ⟨cs', z', h'⟩ := row_typed hO b' e2.symm
        exact typed_ne e h' (by decide) rfl
      replace fin := Lib.hid fin
      by_cases h0 : l.length = 0
      · have hl0 : l = [] := List.eq_nil_of_length_eq_zero h0
        by_cases h2 : k % 2 = 0
        · have hrem : ((k : Int) % 2 == 0) = true := by simp; omega
          have hrem2 : (k : Int) % 2 = 0 := by omega
          have hz1 : ((l.length : Int) == 0) = true := by simp; omega
          clear hc hr htk
          go_wp2_with (first | (at_builtin; go_must (refine wpList_app1 (by rfl) _ _ 54 (by rfl) w.heap.size 30 .nilFunc 1 8 Try.underlying54 info_seq rfl (by decide) _ gs.length gs wr hown hz (by rfl) #[.nilFunc] 30 (by rfl) rfl (by simp [Value.oneCell']) (by omega) (by decide) ?_; intro g0 cap0 w1 hown1 hgrow hat hg0)))
          go_roundw
          case rel => exact ⟨k + 1, gs ++ [.nilFunc], by omega, by go_num, by rw [List.length_append, List.length_singleton]; exact hown1, (fin.out wr w1 _ .nilFunc hb hz hfs hown (.inl ⟨rfl, hl0⟩) hgrow).1, (fin.out wr w1 _ .nilFunc hb hz hfs hown (.inl ⟨rfl, hl0⟩) hgrow).2⟩
          case measure => simp [intOf]; omega
        · have hrem : ((k : Int) % 2 == 0) = false := by simp; omega
          have hrem2 : ¬ ((k : Int) % 2 = 0) := by omega
          have hz1 : ((l.length : Int) == 0) = true := by simp; omega
          clear h0 hl0
          have hv2 : VersAt w (.slice ao2 l.length cap2) l := g2
          obtain ⟨W2, hW2⟩ : ∃ W2, wr.alloc (.cells #[.slice ao2 l.length cap2] 22) = W2 := ⟨_, rfl⟩
          have hbx : Boxed W2 wr.heap.size 22 (.slice ao2 l.length cap2) := by rw [← hW2]; exact Boxed.new _ _ _
          have hb2' : Below wr.heap.size wr W2 := by rw [← hW2]; exact (Below.refl _ _).alloc (Nat.le_refl _) _
          have hb2 := hb.trans (hb2'.mono hz)
          have hz2 := hb2.size
          have hown2 : W2.ownsRow w.heap.size 30 1 u3 gs.length gs := by rw [← hW2]; exact hown.alloc _
          have hfs2 := hfs.below hb2'
          clear hc hr htk
          go_wp2_with (first | (at_builtin; go_must (refine wpList_app1 (by rfl) _ _ 54 (by rfl) w.heap.size 30 .nilFunc 1 8 Try.underlying54 info_seq rfl (by decide) _ gs.length gs W2 hown2 hz2 (by rfl) #[.func (.func 34) #[] #[.pointer (some ⟨wr.heap.size, 0, none⟩)]] 30 (by rfl) rfl (by simp [Value.oneCell']) (by omega) (by decide) ?_; intro g0 cap0 w1 hown1 hgrow hat hg0)) | (go_at_call 11; go_must (refine (row_any _ _ _ _).mono ?_; rintro e w' ⟨rfl, rfl⟩)))
          go_roundw
          case rel => exact ⟨k + 1, gs ++ [.func (.func 34) #[] #[.pointer (some ⟨wr.heap.size, 0, none⟩)]], by omega, by go_num, by rw [List.length_append, List.length_singleton]; exact hown1, (fin.out W2 w1 _ (.func (.func 34) #[] #[.pointer (some ⟨wr.heap.size, 0, none⟩)]) hb2 hz2 hfs2 hown2 (.inr ⟨_, _, rfl, hbx, hv2⟩) hgrow).1, (fin.out W2 w1 _ (.func (.func 34) #[] #[.pointer (some ⟨wr.heap.size, 0, none⟩)]) hb2 hz2 hfs2 hown2 (.inr ⟨_, _, rfl, hbx, hv2⟩) hgrow).2⟩
          case measure => simp [intOf]; omega
      · have hz1 : ((l.length : Int) == 0) = false := by rw [beq_eq_false_iff_ne]; omega
        have hv2 : VersAt w (.slice ao2 l.length cap2) l := g2
        obtain ⟨W2, hW2⟩ : ∃ W2, wr.alloc (.cells #[.slice ao2 l.length cap2] 22) = W2 := ⟨_, rfl⟩
        have hbx : Boxed W2 wr.heap.size 22 (.slice ao2 l.length cap2) := by rw [← hW2]; exact Boxed.new _ _ _
        have hb2' : Below wr.heap.size wr W2 := by rw [← hW2]; exact (Below.refl _ _).alloc (Nat.le_refl _) _
        have hb2 := hb.trans (hb2'.mono hz)
        have hz2 := hb2.size
        have hown2 : W2.ownsRow w.heap.size 30 1 u3 gs.length gs := by rw [← hW2]; exact hown.alloc _
        have hfs2 := hfs.below hb2'
        clear hc hr htk
        go_wp2_with (first | (at_builtin; go_must (refine wpList_app1 (by rfl) _ _ 54 (by rfl) w.heap.size 30 .nilFunc 1 8 Try.underlying54 info_seq rfl (by decide) _ gs.length gs W2 hown2 hz2 (by rfl) #[.func (.func 34) #[] #[.pointer (some ⟨wr.heap.size, 0, none⟩)]] 30 (by rfl) rfl (by simp [Value.oneCell']) (by omega) (by decide) ?_; intro g0 cap0 w1 hown1 hgrow hat hg0)) | (go_at_call 11; go_must (refine (row_any _ _ _ _).mono ?_; rintro e w' ⟨rfl, rfl⟩)))
        go_roundw
        case rel => exact ⟨k + 1, gs ++ [.func (.func 34) #[] #[.pointer (some ⟨wr.heap.size, 0, none⟩)]], by omega, by go_num, by rw [List.length_append, List.length_singleton]; exact hown1, (fin.out W2 w1 _ (.func (.func 34) #[] #[.pointer (some ⟨wr.heap.size, 0, none⟩)]) hb2 hz2 hfs2 hown2 (.inr ⟨_, _, rfl, hbx, hv2⟩) hgrow).1, (fin.out W2 w1 _ (.func (.func 34) #[] #[.pointer (some ⟨wr.heap.size, 0, none⟩)]) hb2 hz2 hfs2 hown2 (.inr ⟨_, _, rfl, hbx, hv2⟩) hgrow).2⟩
        case measure => simp [intOf]; omega
    · obtain rfl : k = ls.length := by omega
      rw [List.take_length] at hfs
      go_wp2
      go_ret
      exact ⟨_, gs, rfl, hown, hfs, hb⟩
end Go.Proofs.Ytiogjebekadmcaa
