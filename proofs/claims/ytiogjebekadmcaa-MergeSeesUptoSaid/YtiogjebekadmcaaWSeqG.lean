
/- Walks: a row of versions as a sequence, of which a round is told what has come. Condition: rows whose lengths are ints. -/
import Derived.Test.YtiogjebekadmcaaWSeqV
import Derived.Test.YtiogjebekadmcaaFk
namespace Go.Proofs.Ytiogjebekadmcaa
open Go.RowKit Go.Shelf

attribute [local go_sem] Oper.semAt_some

theorem Step.cell {fp : Nat → Prop} {W : World} (h : ∀ k, fp k → k < W.heap.size) {b o : Nat} (hb : fp b) (v : Value) : Step fp fp W (W.setCell ⟨b, o, none⟩ v) :=
  ⟨(Keep.refl _ W).setCell _ _ _ (fun hn _ => hn hb), fun _ h => .inl h, fun k hk => by have := h k hk; simpa [World.setCell] using this⟩
theorem Step.allocSame {fp : Nat → Prop} {W : World} (h : ∀ k, fp k → k < W.heap.size) (o : Obj) : Step fp fp W (W.alloc o) :=
  ⟨(Keep.refl _ W).alloc o, fun _ h => .inl h, fun k hk => by have := h k hk; rw [World.size_alloc]; omega⟩
theorem Step.drewN {fp : Nat → Prop} {W : World} (h : ∀ k, fp k → k < W.heap.size) (n : Nat) : Step fp fp W (W.drewN n) :=
  ⟨(Keep.refl _ W).drewN n, fun _ h => .inl h, h⟩
theorem Step.more {f g f' g' : Nat → Prop} {W W' : World} (h : Step f g W W') (hf : ∀ k, f k → f' k) (hg : ∀ k, g' k → g k) : Step f' g' W W' :=
  ⟨h.keep.mono (fun i hi _ e => hi (hf i e)), fun k hk => (h.new k (hg k hk)).imp (hf k) id, fun k hk => h.lt k (hg k hk)⟩
theorem Step.ofKeep {f g : Nat → Prop} {W W' : World} (h : Keep (fun k => ¬ f k) W W') (hn : ∀ k, g k → f k ∨ (W.heap.size ≤ k ∧ k < W'.heap.size)) (hl : ∀ k, f k → k < W.heap.size) : Step f g W W' :=
  ⟨h, fun k hk => (hn k hk).imp id (·.1), fun k hk => by
    rcases hn k hk with h1 | h1
    · have := hl k h1; have := h.size; omega
    · exact h1.2⟩

/-- an element told by its value -/
def ElE {α : Type} (enc : α → Value) (x : α) (v : Value) (ef : Nat → Prop) (_ : World) : Prop := v = enc x ∧ ∀ k, ¬ ef k
theorem Step.bare {f g : Nat → Prop} {W W' : World} (h : Step (fun k => f k ∨ False) g W W') : Step f g W W' :=
  ⟨h.keep.mono (fun _ hi _ e => hi (e.elim id (fun h => h.elim))), fun k hk => (h.new k hk).imp (fun e => e.elim id (fun h => h.elim)) id, h.lt⟩

set_option maxRecDepth 100000 in
set_option maxHeartbeats 2000000 in
theorem row1_seqK (n : Nat) (hn : 1 ≤ n) (bR : Nat) (v : Value) (l : List Ver) (w : World) (T : Nat → Prop) (hl : l.length ≤ 9223372036854775800) (hR : Boxed w bR 22 v) (hv : VersAt w v l) (hTR : T bR) (hTv : 0 < l.length → ∀ k, v.ownBlock = some k → T k) :
    SeqK Fence.wide n Try.prog 34 #[.pointer (some ⟨bR, 0, none⟩)] (ElE Ver.v) T T (fun ys => ys = l) (fun ys => ys <+: l) w := by
  intro lp J Jx W fp hkm hd hlt hJ hJx hY h0
  obtain ⟨ao, cap, rfl, hc⟩ := vers_cells hv
  have hR1 := hkm.boxed hTR hR
  have hc1 : ∀ i (hi : i < l.length), ∃ b off, ao = some ⟨b, off, none⟩ ∧ T b ∧ VerIn W b (off + i * 4) l[i] := fun i hi => by
    obtain ⟨b, off, e1, e2, h0, h1, h2, h3⟩ := hc i hi
    have hT := hTv (by omega) b e2
    exact ⟨b, off, e1, hT, hkm.cell hT h0, hkm.cell hT h1, hkm.cell hT h2, hkm.cell hT h3⟩
  clear hc hv hR hTv
  refine callsIn_of_wp Try.func34 rfl trivial ?_ rfl
  simp only [Try.ntmps34, List.size_toArray, List.length_cons, List.length_nil, Nat.reduceAdd, Nat.reduceSub, Array.replicate_succ, Array.replicate_zero, List.push_toArray, List.append_toArray, List.nil_append, List.cons_append]
  gi_wp2
  gi_loopw [3, 4] (fun i _ wr => ∃ k : Nat, k ≤ l.length ∧ i = .int .i64 k ∧ Keep T W wr ∧ ∃ fp', (∀ k, fp' k → fp k ∨ W.heap.size ≤ k) ∧ (∀ k, fp' k → k < wr.heap.size) ∧ J (l.take k) fp' wr)
    (fun i _ _ => l.length - (intOf i).toNat)
  case atStart => exact ⟨0, by omega, rfl, Keep.refl _ _, fp, fun _ h => .inl h, hlt, by simpa using h0⟩
  case round =>
    obtain ⟨k, hk, rfl, hkp, fp', hn', hlt', hJ'⟩ := hrel
    have hRk := (hkp.boxed hTR hR1).cell
    by_cases h1 : k < l.length
    · obtain ⟨b, off, rfl, hTb, x0, x1, x2, x3⟩ := hc1 k h1
      replace x0 := hkp.cell hTb x0
      replace x1 := hkp.cell hTb x1
      replace x2 := hkp.cell hTb x2
      replace x3 := hkp.cell hTb x3
      have htk : Hid (l.take (k + 1) = l.take k ++ [l[k]]) := (by show _ = _; exact List.take_succ_eq_append_getElem h1)
      obtain ⟨fn, tmps, assign, body, hy, hRd⟩ := hY (l.take k) l[k] _ (fun _ => False) fp' wr hJ' hlt' ⟨rfl, fun _ h => h⟩ (fun _ h => h.elim) hkp (by rw [← htk.out]; exact List.take_prefix _ _)
      unfold Ver.v at hy
      gi_wp2
      refine hRd.mono ?_
      rintro e W3 (⟨rfl, fp3, hJ3, st3⟩ | ⟨rfl, fp3, hJx3, st3⟩)
      · clear hy
        replace st3 := st3.bare
        have hk3 : Keep T W W3 := hkp.trans (st3.keep) (fun i hi hil hf => by
          rcases hn' i hf with h | h
          · exact hd i h hi
          · omega)
        have hn3 : ∀ k, fp3 k → fp k ∨ W.heap.size ≤ k := fun k h => by
          rcases st3.new k h with h | h
          · exact hn' k h
          · have := hkp.size; right; omega
        gi_wp2
        go_roundw
        case rel => exact ⟨k + 1, by omega, by go_num, hk3, fp3, hn3, st3.lt, by rw [htk.out]; exact hJ3⟩
        case measure => simp [intOf]; omega
      · clear hy
        replace st3 := st3.bare
        have hk3 : Keep T W W3 := hkp.trans (st3.keep) (fun i hi hil hf => by
          rcases hn' i hf with h | h
          · exact hd i h hi
          · omega)
        have hn3 : ∀ k, fp3 k → fp k ∨ W.heap.size ≤ k := fun k h => by
          rcases st3.new k h with h | h
          · exact hn' k h
          · have := hkp.size; right; omega
        gi_wp2
        refine bodyPost_ret (results_none rfl _ _ _) rfl ?_
        exact SeqEnd.part hk3 hn3 st3.lt _ (List.take_prefix (k + 1) l) (by rw [htk.out]; exact hJx3)
    · obtain rfl : k = l.length := by omega
      gi_wp2
      go_end0
      exact SeqEnd.all hkp hn' hlt' l rfl (by simpa using hJ')
end Go.Proofs.Ytiogjebekadmcaa
