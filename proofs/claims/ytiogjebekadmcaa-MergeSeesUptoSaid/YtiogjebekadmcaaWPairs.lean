
/- Walks: what is seen of a row of versions, as a sequence. Condition: rows whose lengths are ints. -/
import Derived.Test.YtiogjebekadmcaaWColl9
namespace Go.Proofs.Ytiogjebekadmcaa
open Go.RowKit Go.Shelf

attribute [local go_sem] Oper.semAt_some


theorem mpairs_any (f : Nat) (fl : Array Value) (sq : Int) (lo hi : ByteArray) (w : World) :
    Calls Try.prog 10 #[.func (.func f) #[] fl, .int .u64 sq, .string lo, .string hi] w fun e w' =>
      e = .returned (.func (.func 33) #[] #[.pointer (some ⟨w.heap.size, 0, none⟩), .pointer (some ⟨w.heap.size + 3, 0, none⟩), .pointer (some ⟨w.heap.size + 2, 0, none⟩), .pointer (some ⟨w.heap.size + 1, 0, none⟩)]) ∧
      w' = (((w.alloc (.cells #[.func (.func f) #[] fl] 30)).alloc (.cells #[.int .u64 sq] 23)).alloc (.cells #[.string lo] 9)).alloc (.cells #[.string hi] 9) := by
  go_enter Try.func10, Try.ntmps10
  go_wp2
  go_ret
  exact ⟨rfl, rfl⟩


/-- the variables of the range at a state, and what the caller has -/
def PairSt (J : List Pl.PV → (Nat → Prop) → World → Prop) (U : Nat → Prop) (W0 : World) (B : Nat) (lp : Nat) (out : List Pl.PV) (s : Pl.PSt) (fp : Nat → Prop) (W : World) : Prop :=
  Boxed W B 70 (.func (.yield lp) #[] #[]) ∧ Boxed W (B + 1) 9 (.string s.key) ∧ Boxed W (B + 1 + 1) 4 (.bool s.begun) ∧ Boxed W (B + 1 + 1 + 1) 4 (.bool s.seen) ∧
    (fp B ∧ fp (B + 1) ∧ fp (B + 1 + 1) ∧ fp (B + 1 + 1 + 1)) ∧ (∀ k, U k → fp k) ∧ Keep U W0 W ∧
    ∃ fj : Nat → Prop, J out fj W ∧ (∀ k, fj k → fp k) ∧ (∀ k, fj k → k < W.heap.size) ∧ (¬ fj B ∧ ¬ fj (B + 1) ∧ ¬ fj (B + 1 + 1) ∧ ¬ fj (B + 1 + 1 + 1)) ∧ ∀ k, U k → ¬ fj k

variable {J : List Pl.PV → (Nat → Prop) → World → Prop} {U : Nat → Prop} {W0 : World} {B lp : Nat} {out : List Pl.PV} {s : Pl.PSt} {fp : Nat → Prop} {W : World}

theorem PairSt.abide (hJ : Abide J) {W' : World} (h : PairSt J U W0 B lp out s fp W) (hkp : Keep fp W W') : PairSt J U W0 B lp out s fp W' := by
  obtain ⟨h0, h1, h2, h3, ⟨f0, f1, f2, f3⟩, hU, hk, fj, hj, j1, j2, j3, j4⟩ := h
  exact ⟨hkp.boxed f0 h0, hkp.boxed f1 h1, hkp.boxed f2 h2, hkp.boxed f3 h3, ⟨f0, f1, f2, f3⟩, hU, hk.trans hkp (fun i hi _ => hU i hi), fj, hJ _ _ _ _ hj (hkp.mono (fun i h _ => j1 i h)), j1, fun k h => Nat.lt_of_lt_of_le (j2 k h) hkp.size, j3, j4⟩
theorem PairSt.more (h : PairSt J U W0 B lp out s fp W) {fp' : Nat → Prop} (hs : ∀ k, fp k → fp' k) : PairSt J U W0 B lp out s fp' W := by
  obtain ⟨h0, h1, h2, h3, ⟨f0, f1, f2, f3⟩, hU, hk, fj, hj, j1, j2, j3, j4⟩ := h
  exact ⟨h0, h1, h2, h3, ⟨hs _ f0, hs _ f1, hs _ f2, hs _ f3⟩, fun k h => hs k (hU k h), hk, fj, hj, fun k h => hs k (j1 k h), j2, j3, j4⟩
theorem keep_cell {f : Nat → Prop} (W : World) (b : Nat) (v : Value) (h : ¬ f b) : Keep f W (W.setCell ⟨b, 0, none⟩ v) := (Keep.refl f W).setCell _ _ _ (fun e _ => h e)
theorem size_cell (W : World) (b : Nat) (v : Value) : (W.setCell ⟨b, 0, none⟩ v).heap.size = W.heap.size := by simp [World.setCell]
theorem PairSt.see (hJ : Abide J) (hUB : ¬ U (B + 1 + 1 + 1)) (v : Bool) (h : PairSt J U W0 B lp out s fp W) : PairSt J U W0 B lp out ⟨s.key, s.begun, v⟩ fp (W.setCell ⟨B + 1 + 1 + 1, 0, none⟩ (.bool v)) ∧ Keep (fun k => ¬ fp k) W (W.setCell ⟨B + 1 + 1 + 1, 0, none⟩ (.bool v)) := by
  obtain ⟨h0, h1, h2, h3, ⟨f0, f1, f2, f3⟩, hU, hk, fj, hj, j1, j2, j3, j4⟩ := h
  exact ⟨⟨h0.other (by omega) _, h1.other (by omega) _, h2.other (by omega) _, h3.set _, ⟨f0, f1, f2, f3⟩, hU, hk.trans (keep_cell _ _ _ hUB) (fun i h _ => h), fj, hJ _ _ _ _ hj (keep_cell _ _ _ j3.2.2.2), j1, fun k h => by rw [size_cell]; exact j2 k h, j3, j4⟩, keep_cell _ _ _ (fun h => h f3)⟩
theorem PairSt.start (hJ : Abide J) (hUB : ¬ U (B + 1 + 1)) (v : Bool) (h : PairSt J U W0 B lp out s fp W) : PairSt J U W0 B lp out ⟨s.key, v, s.seen⟩ fp (W.setCell ⟨B + 1 + 1, 0, none⟩ (.bool v)) ∧ Keep (fun k => ¬ fp k) W (W.setCell ⟨B + 1 + 1, 0, none⟩ (.bool v)) := by
  obtain ⟨h0, h1, h2, h3, ⟨f0, f1, f2, f3⟩, hU, hk, fj, hj, j1, j2, j3, j4⟩ := h
  exact ⟨⟨h0.other (by omega) _, h1.other (by omega) _, h2.set _, h3.other (by omega) _, ⟨f0, f1, f2, f3⟩, hU, hk.trans (keep_cell _ _ _ hUB) (fun i h _ => h), fj, hJ _ _ _ _ hj (keep_cell _ _ _ j3.2.2.1), j1, fun k h => by rw [size_cell]; exact j2 k h, j3, j4⟩, keep_cell _ _ _ (fun h => h f2)⟩
theorem PairSt.name (hJ : Abide J) (hUB : ¬ U (B + 1)) (v : ByteArray) (h : PairSt J U W0 B lp out s fp W) : PairSt J U W0 B lp out ⟨v, s.begun, s.seen⟩ fp (W.setCell ⟨B + 1, 0, none⟩ (.string v)) ∧ Keep (fun k => ¬ fp k) W (W.setCell ⟨B + 1, 0, none⟩ (.string v)) := by
  obtain ⟨h0, h1, h2, h3, ⟨f0, f1, f2, f3⟩, hU, hk, fj, hj, j1, j2, j3, j4⟩ := h
  exact ⟨⟨h0.other (by omega) _, h1.set _, h2.other (by omega) _, h3.other (by omega) _, ⟨f0, f1, f2, f3⟩, hU, hk.trans (keep_cell _ _ _ hUB) (fun i h _ => h), fj, hJ _ _ _ _ hj (keep_cell _ _ _ j3.2.1), j1, fun k h => by rw [size_cell]; exact j2 k h, j3, j4⟩, keep_cell _ _ _ (fun h => h f1)⟩
theorem PairSt.fresh (hJ : Abide J) (hUB : ¬ U (B + 1) ∧ ¬ U (B + 1 + 1) ∧ ¬ U (B + 1 + 1 + 1)) (v : ByteArray) (h : PairSt J U W0 B lp out s fp W) :
    PairSt J U W0 B lp out ⟨v, true, false⟩ fp (((W.setCell ⟨B + 1, 0, none⟩ (.string v)).setCell ⟨B + 1 + 1, 0, none⟩ (.bool true)).setCell ⟨B + 1 + 1 + 1, 0, none⟩ (.bool false)) ∧
    Keep (fun k => ¬ fp k) W (((W.setCell ⟨B + 1, 0, none⟩ (.string v)).setCell ⟨B + 1 + 1, 0, none⟩ (.bool true)).setCell ⟨B + 1 + 1 + 1, 0, none⟩ (.bool false)) := by
  obtain ⟨a1, k1⟩ := h.name hJ hUB.1 v
  obtain ⟨a2, k2⟩ := a1.start hJ hUB.2.1 true
  obtain ⟨a3, k3⟩ := a2.see hJ hUB.2.2 false
  exact ⟨a3, (k1.trans k2 (fun _ h _ => h)).trans k3 (fun _ h _ => h)⟩

theorem PairSt.yield {J' : List Pl.PV → (Nat → Prop) → World → Prop} (h : PairSt J U W0 B lp out s fp W) (hlt : ∀ k, fp k → k < W.heap.size) : ∃ fj : Nat → Prop, J out fj W ∧ (∀ k, fj k → k < W.heap.size) ∧
    ((∀ out' fj' W', J out' fj' W' → Step fj fj' W W' → PairSt J U W0 B lp out' s (fun k => fp k ∨ fj' k) W' ∧ Step fp (fun k => fp k ∨ fj' k) W W') ∧
     (∀ out' fj' W', J' out' fj' W' → Step fj fj' W W' → PairSt J' U W0 B lp out' s (fun k => fp k ∨ fj' k) W' ∧ Step fp (fun k => fp k ∨ fj' k) W W')) := by
  obtain ⟨h0, h1, h2, h3, ⟨f0, f1, f2, f3⟩, hU, hk, fj, hj, j1, j2, j3, j4⟩ := h
  refine ⟨fj, hj, j2, ?_, ?_⟩ <;>
  · intro out' fj' W' hj' st
    have kN : ∀ k, ¬ fj k → k < W.heap.size → ¬ fj' k := fun k a b => st.other a b
    refine ⟨⟨st.keep.boxed j3.1 h0, st.keep.boxed j3.2.1 h1, st.keep.boxed j3.2.2.1 h2, st.keep.boxed j3.2.2.2 h3, ⟨.inl f0, .inl f1, .inl f2, .inl f3⟩, fun k h => .inl (hU k h), hk.trans st.keep (fun i h _ => j4 i h), fj', hj', fun _ h => .inr h, st.lt, ⟨kN _ j3.1 h0.lt, kN _ j3.2.1 h1.lt, kN _ j3.2.2.1 h2.lt, kN _ j3.2.2.2 h3.lt⟩, fun k h => kN k (j4 k h) (hlt k (hU k h))⟩, ?_⟩
    refine ⟨st.keep.mono (fun i h _ e => h (j1 i e)), ?_, ?_⟩
    · rintro k (h | h)
      · exact .inl h
      · rcases st.new k h with h | h
        · exact .inl (j1 k h)
        · exact .inr h
    · rintro k (h | h)
      · exact Nat.lt_of_lt_of_le (hlt k h) st.keep.size
      · exact st.lt k h

theorem fresh_skip {lo : ByteArray} {sq : Nat} {s : Pl.PSt} {x : Ver} (hf : s.fresh x = true) (h : Op.bytesLess x.key.toList lo.toList = true ∨ sq < x.seq) : Pl.pst1 lo sq s x = ⟨x.key, true, false⟩ ∧ Pl.pout1 lo sq s x = [] := by
  have hp : Pl.pskip lo sq s x = true := by
    unfold Pl.pskip
    rcases h with h | h
    · rw [h]; simp
    · simp [h]
  unfold Pl.pst1 Pl.pout1
  rw [hp, hf]
  exact ⟨rfl, rfl⟩
theorem old_key {s : Pl.PSt} {x : Ver} (hf : s.fresh x = false) : x.key = s.key ∧ s.begun = true := by
  unfold Pl.PSt.fresh at hf
  simp only [Bool.or_eq_false_iff, Bool.not_eq_false', beq_iff_eq] at hf
  refine ⟨?_, hf.1⟩
  have := hf.2
  rw [ByteArray.toList_eq, ByteArray.toList_eq] at this
  exact ByteArray.ext (Array.toList_inj.1 this)
theorem old_skip {lo : ByteArray} {sq : Nat} {s : Pl.PSt} {x : Ver} (hf : s.fresh x = false) (h : s.seen = true ∨ Op.bytesLess x.key.toList lo.toList = true ∨ sq < x.seq) : Pl.pst1 lo sq s x = s ∧ Pl.pout1 lo sq s x = [] := by
  obtain ⟨hk, hb⟩ := old_key hf
  have hp : Pl.pskip lo sq s x = true := by
    unfold Pl.pskip
    rw [hf]
    rcases h with h | h | h
    · rw [h]; simp
    · rw [h]; simp
    · simp [h]
  unfold Pl.pst1 Pl.pout1
  rw [hp, hf, hk]
  cases s
  simp only at hb
  subst hb
  exact ⟨rfl, rfl⟩
theorem take_one {lo : ByteArray} {sq : Nat} {s : Pl.PSt} {x : Ver} (h : s.fresh x = true ∨ s.seen = false) (h1 : Op.bytesLess x.key.toList lo.toList = false) (h2 : ¬ sq < x.seq) : Pl.pst1 lo sq s x = ⟨x.key, true, true⟩ ∧ Pl.pout1 lo sq s x = if x.del then [] else [(x.key, x.val)] := by
  have hp : Pl.pskip lo sq s x = false := by
    unfold Pl.pskip
    rw [h1]
    rcases h with h | h
    · rw [h]; simp; omega
    · rw [h]; simp; omega
  unfold Pl.pst1 Pl.pout1
  rw [hp]
  exact ⟨rfl, rfl⟩

theorem roundIn_wide {P : Program} {l' n m l f : Nat} {tmps : Array Value} {assign body : Code} {w : World} {R : Ending → World → Prop} (h : RoundIn Fence.wide n P l f tmps assign body w R) : RoundIn (Fence.wide.inRound l') m P l f tmps assign body w R :=
  ⟨h.1, fun c cs _ => h.2 c cs (fun d hd => by cases hd)⟩
theorem Keep.or {f g : Nat → Prop} {A B : World} (h : Keep f A B) (k : Keep g A B) : Keep (fun i => f i ∨ g i) A B :=
  ⟨h.os, h.tape, h.output, h.size, fun i hi hl => hi.elim (fun e => h.block i e hl) (fun e => k.block i e hl)⟩
theorem PairSt.finish (hJ : Abide J) {R fp0 fp2 : Nat → Prop} {Wi W2 : World} {D : Nat} (hz : W0.heap.size = Wi.heap.size + 4) (hk0 : ∀ f : Nat → Prop, Keep f Wi W0) (hRw : ∀ k, R k → k < Wi.heap.size) (hUw : ∀ k, U k → k < Wi.heap.size)
    (hkT : Keep R W0 W2) (hD : W0.heap.size ≤ D) (hnD : ¬ fp2 D) (hnew : ∀ k, fp2 k → (U k ∨ fp0 k ∨ k = Wi.heap.size ∨ k = Wi.heap.size + 1 ∨ k = Wi.heap.size + 1 + 1 ∨ k = Wi.heap.size + 1 + 1 + 1) ∨ W0.heap.size ≤ k)
    (h : PairSt J U W0 B lp out s fp2 W2) :
    ∃ fj : Nat → Prop, J out fj (W2.putObj D (.deferred none)) ∧ Keep (fun k => R k ∨ U k) Wi (W2.putObj D (.deferred none)) ∧ (∀ k, fj k → fp0 k ∨ Wi.heap.size ≤ k) ∧ (∀ k, fj k → k < (W2.putObj D (.deferred none)).heap.size) := by
  obtain ⟨_, _, _, _, _, hU, hk, fj, hj, j1, j2, _, j4⟩ := h
  refine ⟨fj, hJ _ _ _ _ hj ((Keep.refl _ _).putObj _ _ (fun h _ => hnD (j1 _ h))), ?_, ?_, ?_⟩
  · refine ((hk0 _).trans (hkT.or hk) (fun i hi _ => hi)).putObj _ _ (fun h _ => ?_)
    rcases h with h | h
    · have := hRw _ h; omega
    · have := hUw _ h; omega
  · intro k hk
    rcases hnew k (j1 k hk) with (h | h | h) | h
    · exact absurd hk (j4 k h)
    · exact .inl h
    · right; omega
    · right; omega
  · intro k hk
    have := j2 k hk
    simpa using this

set_option maxRecDepth 100000 in
set_option maxHeartbeats 8000000 in
theorem pairs1_seq (n : Nat) (hn : 3 ≤ n) (bR bS bQ bL bH : Nat) (v : Value) (l : List Ver) (sq : Nat) (lo hi : ByteArray) (w : World) (R : Nat → Prop) (U : Nat → Prop) (hl : l.length ≤ 9223372036854775800)
    (hR : Boxed w bR 22 v) (hv : VersAt w v l) (hTv : 0 < l.length → ∀ k, v.ownBlock = some k → R k) (hTR : R bR) (hUd : U = fun k => k = bS ∨ k = bQ ∨ k = bL ∨ k = bH) (hRU : ∀ k, U k → ¬ R k) (hRw : ∀ k, R k → k < w.heap.size)
    (hS : Boxed w bS 30 (.func (.func 34) #[] #[.pointer (some ⟨bR, 0, none⟩)])) (hQ : Boxed w bQ 23 (.int .u64 (sq : Int))) (hL : Boxed w bL 9 (.string lo)) (hH : Boxed w bH 9 (.string hi)) :
    SeqF Fence.wide n Try.prog 33 #[.pointer (some ⟨bS, 0, none⟩), .pointer (some ⟨bH, 0, none⟩), .pointer (some ⟨bL, 0, none⟩), .pointer (some ⟨bQ, 0, none⟩)] encP (fun k => R k ∨ U k) (fun k => R k ∨ U k)
      (fun ys => ys = Pl.pairsOf sq lo hi l) (fun ys => ys <+: Pl.pairsOf sq lo hi l) l.length w := by
  intro lp J Jx Wi fp hkm hd hlt hJ hJx hY h0
  have h1n : 1 ≤ n := by omega
  have uS : U bS := by rw [hUd]; exact .inl rfl
  have uQ : U bQ := by rw [hUd]; exact .inr (.inl rfl)
  have uL : U bL := by rw [hUd]; exact .inr (.inr (.inl rfl))
  have uH : U bH := by rw [hUd]; exact .inr (.inr (.inr rfl))
  have hS1 := hkm.boxed (.inr uS) hS
  have hQ1 := hkm.boxed (.inr uQ) hQ
  have hL1 := hkm.boxed (.inr uL) hL
  have hH1 := hkm.boxed (.inr uH) hH
  have hR1 := hkm.boxed (.inl hTR) hR
  have hv1 : VersAt Wi v l := by
    obtain ⟨ao, cap, rfl, c1, c2, h⟩ := hv
    refine ⟨ao, cap, rfl, c1, c2, fun h0 => ?_⟩
    obtain ⟨b, off, rfl, hr⟩ := h h0
    exact ⟨b, off, rfl, hr.kept hkm.size (hkm.block b (.inl (hTv h0 b rfl)) hr.1)⟩
  have hUw : ∀ k, U k → k < Wi.heap.size := by rw [hUd]; exact fun k h => h.elim (fun e => e ▸ hS1.lt) (fun h => h.elim (fun e => e ▸ hQ1.lt) (fun h => h.elim (fun e => e ▸ hL1.lt) (fun e => e ▸ hH1.lt)))
  have hRW : ∀ k, R k → k < Wi.heap.size := fun k h => Nat.lt_of_lt_of_le (hRw k h) hkm.size
  have hnf : ∀ (f : Nat) (l : Array Value) (w : World), (binOp .eql 30 (.func (.func f) #[] l) .nilFunc).run Try.prog w = .ok (.bool false) w := fun f l w => by kernel_rfl
  have cS0 := hS1.cell
  have ltS0 := hS1.lt
  have cS1 := ((((hS1.alloc (.cells #[.func (.yield lp) #[] #[]] 70)).alloc (.cells #[.string ⟨#[]⟩] 9)).alloc (.cells #[.bool false] 4)).alloc (.cells #[.bool false] 4)).cell
  have b0 := Boxed.new Wi 70 (.func (.yield lp) #[] #[])
  have b1 := Boxed.new (Wi.alloc (.cells #[.func (.yield lp) #[] #[]] 70)) 9 (.string ⟨#[]⟩)
  have b2 := Boxed.new ((Wi.alloc (.cells #[.func (.yield lp) #[] #[]] 70)).alloc (.cells #[.string ⟨#[]⟩] 9)) 4 (.bool false)
  have b3 := Boxed.new (((Wi.alloc (.cells #[.func (.yield lp) #[] #[]] 70)).alloc (.cells #[.string ⟨#[]⟩] 9)).alloc (.cells #[.bool false] 4)) 4 (.bool false)
  simp only [World.size_alloc] at b0 b1 b2 b3
  have b0 := ((b0.alloc (.cells #[.string ⟨#[]⟩] 9)).alloc (.cells #[.bool false] 4)).alloc (.cells #[.bool false] 4)
  have b1 := (b1.alloc (.cells #[.bool false] 4)).alloc (.cells #[.bool false] 4)
  have b2 := b2.alloc (.cells #[.bool false] 4)
  have hk0 : ∀ f : Nat → Prop, Keep f Wi ((((Wi.alloc (.cells #[.func (.yield lp) #[] #[]] 70)).alloc (.cells #[.string ⟨#[]⟩] 9)).alloc (.cells #[.bool false] 4)).alloc (.cells #[.bool false] 4)) := fun f => ((((Keep.refl f Wi).alloc _).alloc _).alloc _).alloc _
  have hz : ((((Wi.alloc (.cells #[.func (.yield lp) #[] #[]] 70)).alloc (.cells #[.string ⟨#[]⟩] 9)).alloc (.cells #[.bool false] 4)).alloc (.cells #[.bool false] 4)).heap.size = Wi.heap.size + 4 := by simp
  refine callsIn_of_wp_marks Try.func33 rfl trivial ?_ rfl
  simp only [Try.ntmps33, List.size_toArray, List.length_cons, List.length_nil, Nat.reduceAdd, Nat.reduceSub, Array.replicate_succ, Array.replicate_zero, List.push_toArray, List.append_toArray, List.nil_append, List.cons_append]
  gi_wp2
  generalize ((((Wi.alloc (.cells #[.func (.yield lp) #[] #[]] 70)).alloc (.cells #[.string ⟨#[]⟩] 9)).alloc (.cells #[.bool false] 4)).alloc (.cells #[.bool false] 4)) = W0 at cS1 b0 b1 b2 b3 hk0 hz ⊢
  have hUB : ¬ U (Wi.heap.size + 1) ∧ ¬ U (Wi.heap.size + 1 + 1) ∧ ¬ U (Wi.heap.size + 1 + 1 + 1) := ⟨fun h => by have := hUw _ h; omega, fun h => by have := hUw _ h; omega, fun h => by have := hUw _ h; omega⟩
  have hS2 := (hk0 U).boxed uS hS1
  have hQ2 := (hk0 U).boxed uQ hQ1
  have hL2 := (hk0 U).boxed uL hL1
  have hH2 := (hk0 U).boxed uH hH1
  have hR2 := (hk0 R).boxed hTR hR1
  have hv2 : VersAt W0 v l := by
    obtain ⟨ao, cap, rfl, c1, c2, h⟩ := hv1
    refine ⟨ao, cap, rfl, c1, c2, fun h0 => ?_⟩
    obtain ⟨b, off, rfl, hr⟩ := h h0
    exact ⟨b, off, rfl, hr.kept (hk0 R).size ((hk0 R).block b (hTv h0 b rfl) hr.1)⟩
  have hfm : ∀ k, fp k → ¬ U k ∧ ¬ R k ∧ k < Wi.heap.size := fun k h => ⟨fun h1 => hd k h (.inr h1), fun h1 => hd k h (.inl h1), hlt k h⟩
  refine wpIn_rangeF (F := Fence.wide) rfl h1n (gf := 34) (lb := #[.pointer (some ⟨bR, 0, none⟩)]) rfl trivial (enters_of Try.func34 (by kernel_rfl) rfl)
    (row1_seq (n - 1) (by omega) bR v l W0 R hl hR2 hv2 hTR hTv) (fun _ => rfl) (fun k h => by have := hRW k h; omega) (fun k h => by have := hRW k h; omega)
    (fun pre fp W => (∀ u ∈ pre, Pl.high hi u = false) ∧ PairSt J U W0 Wi.heap.size lp (Pl.prun lo sq Pl.s0 pre) (Pl.pst lo sq Pl.s0 pre) fp W)
    (fun c pre fp W => c = .ret ∧ ((∃ p x s, pre = p ++ [x] ∧ (∀ u ∈ p, Pl.high hi u = false) ∧ Pl.high hi x = true ∧ PairSt J U W0 Wi.heap.size lp (Pl.prun lo sq Pl.s0 p) s fp W) ∨ (∃ s, (∀ u ∈ pre, Pl.high hi u = false) ∧ PairSt Jx U W0 Wi.heap.size lp (Pl.prun lo sq Pl.s0 pre) s fp W)))
    (fun pre x a' fp W => ((∀ u ∈ pre, Pl.high hi u = false) ∧ PairSt J U W0 Wi.heap.size lp (Pl.prun lo sq Pl.s0 pre) (Pl.pst lo sq Pl.s0 pre) fp W) ∧ ∃ bx, (VrAt bx x.key (x.seq : Int) x.del x.val W ∧ fp bx ∧ Wi.heap.size + 4 ≤ bx) ∧ a' = { tmps := #[.func (.yield lp) #[] #[], .pointer (some ⟨bS, 0, none⟩), .pointer (some ⟨bH, 0, none⟩), .pointer (some ⟨bL, 0, none⟩), .pointer (some ⟨bQ, 0, none⟩), .pointer (some ⟨Wi.heap.size, 0, none⟩), .pointer (some ⟨Wi.heap.size + 1, 0, none⟩), .pointer (some ⟨Wi.heap.size + 1 + 1, 0, none⟩), .pointer (some ⟨Wi.heap.size + 1 + 1 + 1, 0, none⟩), .pointer (some ⟨bx, 0, none⟩), .func (.func 34) #[] #[.pointer (some ⟨bR, 0, none⟩)], .bool false, .func (.func 34) #[] #[.pointer (some ⟨bR, 0, none⟩)], .agg #[.string x.key, .int .u64 (x.seq : Int), .bool x.del, .string x.val], undef, undef, undef, undef, undef, undef, undef, undef, undef, undef, undef, undef, undef, undef, undef, undef, undef, undef, undef, undef, undef, undef, undef, undef, undef, undef, undef, undef, undef, undef, undef, undef, undef, undef, undef, undef, undef, undef, undef, undef, undef, undef, undef, undef], defers := [] })
    ?_ ?_ ?_ (fun k => U k ∨ fp k ∨ k = Wi.heap.size ∨ k = Wi.heap.size + 1 ∨ k = Wi.heap.size + 1 + 1 ∨ k = Wi.heap.size + 1 + 1 + 1) ?_ ?_ ?_ ?assign ?body ?done ?stop
  case assign =>
    intro l' pre x fp W K ⟨h1, hp⟩ hlt hlen hK
    clear hY
    have hsz := hp.1.lt
    unfold encV
    gi_wp2
    refine hK _ _ _ (Step.alloc hlt _) ⟨⟨h1, (hp.abide hJ ((Keep.refl _ _).alloc _)).more (fun _ h => .inl h)⟩, W.heap.size, ⟨VrAt.new _ _ _ _ _ _, .inr rfl, ?_⟩, rfl⟩
    have := hp.2.2.2.2.2.2.1.size
    omega
  case body =>
    rintro l' pre x a' fp W ⟨⟨h1, hp⟩, bx, ⟨⟨x0, x1, x2, x3, xB⟩, hbx, hbx2⟩, rfl⟩ hlt hlen
    have hlen2 := Pl.prun_length (lo := lo) (sq := sq) Pl.s0 pre
    have hrs := Pl.prun_snoc (lo := lo) (sq := sq) Pl.s0 pre x
    have hss := Pl.pst_snoc (lo := lo) (sq := sq) Pl.s0 pre x
    generalize ho : Pl.prun lo sq Pl.s0 pre = out at *
    generalize hs : Pl.pst lo sq Pl.s0 pre = s at *
    have c0 := hp.1.cell
    have c1 := hp.2.1.cell
    have c2 := hp.2.2.1.cell
    have c3 := hp.2.2.2.1.cell
    have hkU := hp.2.2.2.2.2.2.1
    have cQ := (hkU.boxed uQ hQ2).cell
    have cL := (hkU.boxed uL hL2).cell
    have cH := (hkU.boxed uH hH2).cell
    have g1 := hp.2.1.frozen
    have g2 := hp.2.2.1.frozen
    have g3 := hp.2.2.2.1.frozen
    have ltQ := hUw _ uQ
    have ltL := hUw _ uL
    have ltH := hUw _ uH
    clear hR hv hTv hTR hRU hRw hS hQ hL hH hkm hd h0 hS1 hQ1 hL1 hH1 hR1 hv1 hUw hRW hnf cS0 ltS0 hS2 hQ2 hL2 hH2 hR2 hv2 hfm hz hk0 cS1 b3 b2 b1 b0 hl uS uQ uL uH hUd
    cases e1 : hi.toList.isEmpty
    · cases e2 : Op.bytesLess x.key.toList hi.toList
      · clear hY
        have hh : Pl.high hi x = true := by unfold Pl.high; rw [e1, e2]; rfl
        gi_wp2
        exact ⟨fp, ⟨rfl, .inl ⟨pre, x, s, rfl, h1, hh, by rw [ho]; exact hp⟩⟩, Step.refl hlt⟩
      · have hnh : ∀ u ∈ pre ++ [x], Pl.high hi u = false := by
          intro u hu
          rcases List.mem_append.1 hu with h | h
          · exact h1 u h
          · rw [List.mem_singleton.1 h]; unfold Pl.high; simp [e1, e2]
        cases e3 : s.begun
        · have hf : s.fresh x = true := by unfold Pl.PSt.fresh; simp [e3]
          obtain ⟨hp3, hk3⟩ := hp.fresh hJ hUB x.key
          obtain ⟨hp4, hk4⟩ := hp3.see hJ hUB.2.2 true
          replace hk4 := hk3.trans hk4 (fun _ h _ => h)
          cases e5 : Op.bytesLess x.key.toList lo.toList
          · by_cases e6 : sq < x.seq
            · obtain ⟨z1, z2⟩ := fresh_skip (lo := lo) (sq := sq) hf (.inr e6)
              rw [z1] at hss
              rw [z2, List.append_nil] at hrs
              have hrs' := Lib.hid hrs
              have hss' := Lib.hid hss
              clear hY hrs hss hf
              gi_wp2
              exact ⟨fp, ⟨hnh, by rw [hrs'.out, hss'.out]; exact hp3⟩, hk3, fun _ h => .inl h, fun k h => Nat.lt_of_lt_of_le (hlt k h) hk3.size⟩
            · obtain ⟨z1, z2⟩ := take_one (lo := lo) (sq := sq) (.inl hf) e5 e6
              rw [z1] at hss
              rw [z2] at hrs
              cases e7 : x.del
              · rw [e7] at hrs
                simp only [Bool.false_eq_true, if_false] at hrs
                have hrs' := Lib.hid hrs
                have hss' := Lib.hid hss
                replace hrs' := hrs'.out
                replace hss' := hss'.out
                clear hrs hss
                obtain ⟨fj, hj, j2, kT, kF⟩ := PairSt.yield (J' := Jx) hp4 (fun k h => Nat.lt_of_lt_of_le (hlt k h) hk4.size)
                have hnx := fun k (h : ¬ fp k) => h
                obtain ⟨fn, tmps, assign, body, hy, hRd⟩ := hY out (x.key, x.val) fj _ hj j2 (by omega)
                unfold encP at hy
                clear hY
                gi_wp2
                refine ⟨fun h => (by cases h), (roundIn_wide hRd).mono ?_⟩
                rintro e W3 (⟨rfl, fj3, hJ3, st3⟩ | ⟨rfl, fj3, hJ3, st3⟩)
                · clear hy
                  obtain ⟨q1, q2⟩ := kT _ _ _ hJ3 st3
                  gi_wp2
                  exact ⟨_, ⟨hnh, by rw [hrs', hss']; exact q1⟩, (Step.mk hk4 (fun _ h => .inl h) (fun k h => Nat.lt_of_lt_of_le (hlt k h) hk4.size)).trans q2⟩
                · clear hy
                  obtain ⟨q1, q2⟩ := kF _ _ _ hJ3 st3
                  gi_wp2
                  exact ⟨_, ⟨rfl, .inr ⟨_, hnh, by rw [hrs']; exact q1⟩⟩, (Step.mk hk4 (fun _ h => .inl h) (fun k h => Nat.lt_of_lt_of_le (hlt k h) hk4.size)).trans q2⟩
              · rw [e7] at hrs
                simp only [if_true, List.append_nil] at hrs
                clear hY
                have hrs' := Lib.hid hrs
                have hss' := Lib.hid hss
                clear hrs hss
                gi_wp2
                refine ⟨fun _ h => (by cases h), ?_⟩
                gi_wp2
                exact ⟨fp, ⟨hnh, by rw [hrs'.out, hss'.out]; exact hp4⟩, hk4, fun _ h => .inl h, fun k h => Nat.lt_of_lt_of_le (hlt k h) hk4.size⟩
          · obtain ⟨z1, z2⟩ := fresh_skip (lo := lo) (sq := sq) hf (.inl e5)
            rw [z1] at hss
            rw [z2, List.append_nil] at hrs
            have hrs' := Lib.hid hrs
            have hss' := Lib.hid hss
            clear hY hrs hss hf
            gi_wp2
            exact ⟨fp, ⟨hnh, by rw [hrs'.out, hss'.out]; exact hp3⟩, hk3, fun _ h => .inl h, fun k h => Nat.lt_of_lt_of_le (hlt k h) hk3.size⟩
        · cases e4 : x.key.toList == s.key.toList
          · have hf : s.fresh x = true := by unfold Pl.PSt.fresh; simp [e3, e4]
            obtain ⟨hp3, hk3⟩ := hp.fresh hJ hUB x.key
            obtain ⟨hp4, hk4⟩ := hp3.see hJ hUB.2.2 true
            replace hk4 := hk3.trans hk4 (fun _ h _ => h)
            cases e5 : Op.bytesLess x.key.toList lo.toList
            · by_cases e6 : sq < x.seq
              · obtain ⟨z1, z2⟩ := fresh_skip (lo := lo) (sq := sq) hf (.inr e6)
                rw [z1] at hss
                rw [z2, List.append_nil] at hrs
                have hrs' := Lib.hid hrs
                have hss' := Lib.hid hss
                clear hY hrs hss hf
                gi_wp2
                exact ⟨fp, ⟨hnh, by rw [hrs'.out, hss'.out]; exact hp3⟩, hk3, fun _ h => .inl h, fun k h => Nat.lt_of_lt_of_le (hlt k h) hk3.size⟩
              · obtain ⟨z1, z2⟩ := take_one (lo := lo) (sq := sq) (.inl hf) e5 e6
                rw [z1] at hss
                rw [z2] at hrs
                cases e7 : x.del
                · rw [e7] at hrs
                  simp only [Bool.false_eq_true, if_false] at hrs
                  have hrs' := Lib.hid hrs
                  have hss' := Lib.hid hss
                  replace hrs' := hrs'.out
                  replace hss' := hss'.out
                  clear hrs hss
                  obtain ⟨fj, hj, j2, kT, kF⟩ := PairSt.yield (J' := Jx) hp4 (fun k h => Nat.lt_of_lt_of_le (hlt k h) hk4.size)
                  have hnx := fun k (h : ¬ fp k) => h
                  obtain ⟨fn, tmps, assign, body, hy, hRd⟩ := hY out (x.key, x.val) fj _ hj j2 (by omega)
                  unfold encP at hy
                  clear hY
                  gi_wp2
                  refine ⟨fun h => (by cases h), (roundIn_wide hRd).mono ?_⟩
                  rintro e W3 (⟨rfl, fj3, hJ3, st3⟩ | ⟨rfl, fj3, hJ3, st3⟩)
                  · clear hy
                    obtain ⟨q1, q2⟩ := kT _ _ _ hJ3 st3
                    gi_wp2
                    exact ⟨_, ⟨hnh, by rw [hrs', hss']; exact q1⟩, (Step.mk hk4 (fun _ h => .inl h) (fun k h => Nat.lt_of_lt_of_le (hlt k h) hk4.size)).trans q2⟩
                  · clear hy
                    obtain ⟨q1, q2⟩ := kF _ _ _ hJ3 st3
                    gi_wp2
                    exact ⟨_, ⟨rfl, .inr ⟨_, hnh, by rw [hrs']; exact q1⟩⟩, (Step.mk hk4 (fun _ h => .inl h) (fun k h => Nat.lt_of_lt_of_le (hlt k h) hk4.size)).trans q2⟩
                · rw [e7] at hrs
                  simp only [if_true, List.append_nil] at hrs
                  clear hY
                  have hrs' := Lib.hid hrs
                  have hss' := Lib.hid hss
                  clear hrs hss
                  gi_wp2
                  refine ⟨fun _ h => (by cases h), ?_⟩
                  gi_wp2
                  exact ⟨fp, ⟨hnh, by rw [hrs'.out, hss'.out]; exact hp4⟩, hk4, fun _ h => .inl h, fun k h => Nat.lt_of_lt_of_le (hlt k h) hk4.size⟩
            · obtain ⟨z1, z2⟩ := fresh_skip (lo := lo) (sq := sq) hf (.inl e5)
              rw [z1] at hss
              rw [z2, List.append_nil] at hrs
              have hrs' := Lib.hid hrs
              have hss' := Lib.hid hss
              clear hY hrs hss hf
              gi_wp2
              exact ⟨fp, ⟨hnh, by rw [hrs'.out, hss'.out]; exact hp3⟩, hk3, fun _ h => .inl h, fun k h => Nat.lt_of_lt_of_le (hlt k h) hk3.size⟩
          · have hf : s.fresh x = false := by unfold Pl.PSt.fresh; simp [e3, e4]
            obtain ⟨hp4, hk4⟩ := hp.see hJ hUB.2.2 true
            replace hp4 : PairSt J U W0 Wi.heap.size lp out ⟨x.key, true, true⟩ fp (W.setCell ⟨Wi.heap.size + 1 + 1 + 1, 0, none⟩ (.bool true)) := by
              have := hp4
              rw [← (old_key hf).1, (old_key hf).2] at this
              exact this
            cases e8 : s.seen
            · cases e5 : Op.bytesLess x.key.toList lo.toList
              · by_cases e6 : sq < x.seq
                · obtain ⟨z1, z2⟩ := old_skip (lo := lo) (sq := sq) hf (.inr (.inr e6))
                  rw [z1] at hss
                  rw [z2, List.append_nil] at hrs
                  have hrs' := Lib.hid hrs
                  have hss' := Lib.hid hss
                  clear hY hrs hss hf
                  gi_wp2
                  exact ⟨fp, ⟨hnh, by rw [hrs'.out, hss'.out]; exact hp⟩, Step.refl hlt⟩
                · obtain ⟨z1, z2⟩ := take_one (lo := lo) (sq := sq) (.inr e8) e5 e6
                  rw [z1] at hss
                  rw [z2] at hrs
                  cases e7 : x.del
                  · rw [e7] at hrs
                    simp only [Bool.false_eq_true, if_false] at hrs
                    have hrs' := Lib.hid hrs
                    have hss' := Lib.hid hss
                    replace hrs' := hrs'.out
                    replace hss' := hss'.out
                    clear hrs hss
                    obtain ⟨fj, hj, j2, kT, kF⟩ := PairSt.yield (J' := Jx) hp4 (fun k h => Nat.lt_of_lt_of_le (hlt k h) hk4.size)
                    have hnx := fun k (h : ¬ fp k) => h
                    obtain ⟨fn, tmps, assign, body, hy, hRd⟩ := hY out (x.key, x.val) fj _ hj j2 (by omega)
                    unfold encP at hy
                    clear hY
                    gi_wp2
                    refine ⟨fun h => (by cases h), (roundIn_wide hRd).mono ?_⟩
                    rintro e W3 (⟨rfl, fj3, hJ3, st3⟩ | ⟨rfl, fj3, hJ3, st3⟩)
                    · clear hy
                      obtain ⟨q1, q2⟩ := kT _ _ _ hJ3 st3
                      gi_wp2
                      exact ⟨_, ⟨hnh, by rw [hrs', hss']; exact q1⟩, (Step.mk hk4 (fun _ h => .inl h) (fun k h => Nat.lt_of_lt_of_le (hlt k h) hk4.size)).trans q2⟩
                    · clear hy
                      obtain ⟨q1, q2⟩ := kF _ _ _ hJ3 st3
                      gi_wp2
                      exact ⟨_, ⟨rfl, .inr ⟨_, hnh, by rw [hrs']; exact q1⟩⟩, (Step.mk hk4 (fun _ h => .inl h) (fun k h => Nat.lt_of_lt_of_le (hlt k h) hk4.size)).trans q2⟩
                  · rw [e7] at hrs
                    simp only [if_true, List.append_nil] at hrs
                    clear hY
                    have hrs' := Lib.hid hrs
                    have hss' := Lib.hid hss
                    clear hrs hss
                    gi_wp2
                    refine ⟨fun _ h => (by cases h), ?_⟩
                    gi_wp2
                    exact ⟨fp, ⟨hnh, by rw [hrs'.out, hss'.out]; exact hp4⟩, hk4, fun _ h => .inl h, fun k h => Nat.lt_of_lt_of_le (hlt k h) hk4.size⟩
              · obtain ⟨z1, z2⟩ := old_skip (lo := lo) (sq := sq) hf (.inr (.inl e5))
                rw [z1] at hss
                rw [z2, List.append_nil] at hrs
                have hrs' := Lib.hid hrs
                have hss' := Lib.hid hss
                clear hY hrs hss hf
                gi_wp2
                exact ⟨fp, ⟨hnh, by rw [hrs'.out, hss'.out]; exact hp⟩, Step.refl hlt⟩
            · obtain ⟨z1, z2⟩ := old_skip (lo := lo) (sq := sq) hf (.inl e8)
              rw [z1] at hss
              rw [z2, List.append_nil] at hrs
              have hrs' := Lib.hid hrs
              have hss' := Lib.hid hss
              clear hY hrs hss hf
              gi_wp2
              exact ⟨fp, ⟨hnh, by rw [hrs'.out, hss'.out]; exact hp⟩, Step.refl hlt⟩
    · have hnh : ∀ u ∈ pre ++ [x], Pl.high hi u = false := by
        intro u hu
        rcases List.mem_append.1 hu with h | h
        · exact h1 u h
        · rw [List.mem_singleton.1 h]; unfold Pl.high; simp [e1]
      cases e3 : s.begun
      · have hf : s.fresh x = true := by unfold Pl.PSt.fresh; simp [e3]
        obtain ⟨hp3, hk3⟩ := hp.fresh hJ hUB x.key
        obtain ⟨hp4, hk4⟩ := hp3.see hJ hUB.2.2 true
        replace hk4 := hk3.trans hk4 (fun _ h _ => h)
        cases e5 : Op.bytesLess x.key.toList lo.toList
        · by_cases e6 : sq < x.seq
          · obtain ⟨z1, z2⟩ := fresh_skip (lo := lo) (sq := sq) hf (.inr e6)
            rw [z1] at hss
            rw [z2, List.append_nil] at hrs
            have hrs' := Lib.hid hrs
            have hss' := Lib.hid hss
            clear hY hrs hss hf
            gi_wp2
            exact ⟨fp, ⟨hnh, by rw [hrs'.out, hss'.out]; exact hp3⟩, hk3, fun _ h => .inl h, fun k h => Nat.lt_of_lt_of_le (hlt k h) hk3.size⟩
          · obtain ⟨z1, z2⟩ := take_one (lo := lo) (sq := sq) (.inl hf) e5 e6
            rw [z1] at hss
            rw [z2] at hrs
            cases e7 : x.del
            · rw [e7] at hrs
              simp only [Bool.false_eq_true, if_false] at hrs
              have hrs' := Lib.hid hrs
              have hss' := Lib.hid hss
              replace hrs' := hrs'.out
              replace hss' := hss'.out
              clear hrs hss
              obtain ⟨fj, hj, j2, kT, kF⟩ := PairSt.yield (J' := Jx) hp4 (fun k h => Nat.lt_of_lt_of_le (hlt k h) hk4.size)
              have hnx := fun k (h : ¬ fp k) => h
              obtain ⟨fn, tmps, assign, body, hy, hRd⟩ := hY out (x.key, x.val) fj _ hj j2 (by omega)
              unfold encP at hy
              clear hY
              gi_wp2
              refine ⟨fun h => (by cases h), (roundIn_wide hRd).mono ?_⟩
              rintro e W3 (⟨rfl, fj3, hJ3, st3⟩ | ⟨rfl, fj3, hJ3, st3⟩)
              · clear hy
                obtain ⟨q1, q2⟩ := kT _ _ _ hJ3 st3
                gi_wp2
                exact ⟨_, ⟨hnh, by rw [hrs', hss']; exact q1⟩, (Step.mk hk4 (fun _ h => .inl h) (fun k h => Nat.lt_of_lt_of_le (hlt k h) hk4.size)).trans q2⟩
              · clear hy
                obtain ⟨q1, q2⟩ := kF _ _ _ hJ3 st3
                gi_wp2
                exact ⟨_, ⟨rfl, .inr ⟨_, hnh, by rw [hrs']; exact q1⟩⟩, (Step.mk hk4 (fun _ h => .inl h) (fun k h => Nat.lt_of_lt_of_le (hlt k h) hk4.size)).trans q2⟩
            · rw [e7] at hrs
              simp only [if_true, List.append_nil] at hrs
              clear hY
              have hrs' := Lib.hid hrs
              have hss' := Lib.hid hss
              clear hrs hss
              gi_wp2
              refine ⟨fun _ h => (by cases h), ?_⟩
              gi_wp2
              exact ⟨fp, ⟨hnh, by rw [hrs'.out, hss'.out]; exact hp4⟩, hk4, fun _ h => .inl h, fun k h => Nat.lt_of_lt_of_le (hlt k h) hk4.size⟩
        · obtain ⟨z1, z2⟩ := fresh_skip (lo := lo) (sq := sq) hf (.inl e5)
          rw [z1] at hss
          rw [z2, List.append_nil] at hrs
          have hrs' := Lib.hid hrs
          have hss' := Lib.hid hss
          clear hY hrs hss hf
          gi_wp2
          exact ⟨fp, ⟨hnh, by rw [hrs'.out, hss'.out]; exact hp3⟩, hk3, fun _ h => .inl h, fun k h => Nat.lt_of_lt_of_le (hlt k h) hk3.size⟩
      · cases e4 : x.key.toList == s.key.toList
        · have hf : s.fresh x = true := by unfold Pl.PSt.fresh; simp [e3, e4]
          obtain ⟨hp3, hk3⟩ := hp.fresh hJ hUB x.key
          obtain ⟨hp4, hk4⟩ := hp3.see hJ hUB.2.2 true
          replace hk4 := hk3.trans hk4 (fun _ h _ => h)
          cases e5 : Op.bytesLess x.key.toList lo.toList
          · by_cases e6 : sq < x.seq
            · obtain ⟨z1, z2⟩ := fresh_skip (lo := lo) (sq := sq) hf (.inr e6)
              rw [z1] at hss
              rw [z2, List.append_nil] at hrs
              have hrs' := Lib.hid hrs
              have hss' := Lib.hid hss
              clear hY hrs hss hf
              gi_wp2
              exact ⟨fp, ⟨hnh, by rw [hrs'.out, hss'.out]; exact hp3⟩, hk3, fun _ h => .inl h, fun k h => Nat.lt_of_lt_of_le (hlt k h) hk3.size⟩
            · obtain ⟨z1, z2⟩ := take_one (lo := lo) (sq := sq) (.inl hf) e5 e6
              rw [z1] at hss
              rw [z2] at hrs
              cases e7 : x.del
              · rw [e7] at hrs
                simp only [Bool.false_eq_true, if_false] at hrs
                have hrs' := Lib.hid hrs
                have hss' := Lib.hid hss
                replace hrs' := hrs'.out
                replace hss' := hss'.out
                clear hrs hss
                obtain ⟨fj, hj, j2, kT, kF⟩ := PairSt.yield (J' := Jx) hp4 (fun k h => Nat.lt_of_lt_of_le (hlt k h) hk4.size)
                have hnx := fun k (h : ¬ fp k) => h
                obtain ⟨fn, tmps, assign, body, hy, hRd⟩ := hY out (x.key, x.val) fj _ hj j2 (by omega)
                unfold encP at hy
                clear hY
                gi_wp2
                refine ⟨fun h => (by cases h), (roundIn_wide hRd).mono ?_⟩
                rintro e W3 (⟨rfl, fj3, hJ3, st3⟩ | ⟨rfl, fj3, hJ3, st3⟩)
                · clear hy
                  obtain ⟨q1, q2⟩ := kT _ _ _ hJ3 st3
                  gi_wp2
                  exact ⟨_, ⟨hnh, by rw [hrs', hss']; exact q1⟩, (Step.mk hk4 (fun _ h => .inl h) (fun k h => Nat.lt_of_lt_of_le (hlt k h) hk4.size)).trans q2⟩
                · clear hy
                  obtain ⟨q1, q2⟩ := kF _ _ _ hJ3 st3
                  gi_wp2
                  exact ⟨_, ⟨rfl, .inr ⟨_, hnh, by rw [hrs']; exact q1⟩⟩, (Step.mk hk4 (fun _ h => .inl h) (fun k h => Nat.lt_of_lt_of_le (hlt k h) hk4.size)).trans q2⟩
              · rw [e7] at hrs
                simp only [if_true, List.append_nil] at hrs
                clear hY
                have hrs' := Lib.hid hrs
                have hss' := Lib.hid hss
                clear hrs hss
                gi_wp2
                refine ⟨fun _ h => (by cases h), ?_⟩
                gi_wp2
                exact ⟨fp, ⟨hnh, by rw [hrs'.out, hss'.out]; exact hp4⟩, hk4, fun _ h => .inl h, fun k h => Nat.lt_of_lt_of_le (hlt k h) hk4.size⟩
          · obtain ⟨z1, z2⟩ := fresh_skip (lo := lo) (sq := sq) hf (.inl e5)
            rw [z1] at hss
            rw [z2, List.append_nil] at hrs
            have hrs' := Lib.hid hrs
            have hss' := Lib.hid hss
            clear hY hrs hss hf
            gi_wp2
            exact ⟨fp, ⟨hnh, by rw [hrs'.out, hss'.out]; exact hp3⟩, hk3, fun _ h => .inl h, fun k h => Nat.lt_of_lt_of_le (hlt k h) hk3.size⟩
        · have hf : s.fresh x = false := by unfold Pl.PSt.fresh; simp [e3, e4]
          obtain ⟨hp4, hk4⟩ := hp.see hJ hUB.2.2 true
          replace hp4 : PairSt J U W0 Wi.heap.size lp out ⟨x.key, true, true⟩ fp (W.setCell ⟨Wi.heap.size + 1 + 1 + 1, 0, none⟩ (.bool true)) := by
            have := hp4
            rw [← (old_key hf).1, (old_key hf).2] at this
            exact this
          cases e8 : s.seen
          · cases e5 : Op.bytesLess x.key.toList lo.toList
            · by_cases e6 : sq < x.seq
              · obtain ⟨z1, z2⟩ := old_skip (lo := lo) (sq := sq) hf (.inr (.inr e6))
                rw [z1] at hss
                rw [z2, List.append_nil] at hrs
                have hrs' := Lib.hid hrs
                have hss' := Lib.hid hss
                clear hY hrs hss hf
                gi_wp2
                exact ⟨fp, ⟨hnh, by rw [hrs'.out, hss'.out]; exact hp⟩, Step.refl hlt⟩
              · obtain ⟨z1, z2⟩ := take_one (lo := lo) (sq := sq) (.inr e8) e5 e6
                rw [z1] at hss
                rw [z2] at hrs
                cases e7 : x.del
                · rw [e7] at hrs
                  simp only [Bool.false_eq_true, if_false] at hrs
                  have hrs' := Lib.hid hrs
                  have hss' := Lib.hid hss
                  replace hrs' := hrs'.out
                  replace hss' := hss'.out
                  clear hrs hss
                  obtain ⟨fj, hj, j2, kT, kF⟩ := PairSt.yield (J' := Jx) hp4 (fun k h => Nat.lt_of_lt_of_le (hlt k h) hk4.size)
                  have hnx := fun k (h : ¬ fp k) => h
                  obtain ⟨fn, tmps, assign, body, hy, hRd⟩ := hY out (x.key, x.val) fj _ hj j2 (by omega)
                  unfold encP at hy
                  clear hY
                  gi_wp2
                  refine ⟨fun h => (by cases h), (roundIn_wide hRd).mono ?_⟩
                  rintro e W3 (⟨rfl, fj3, hJ3, st3⟩ | ⟨rfl, fj3, hJ3, st3⟩)
                  · clear hy
                    obtain ⟨q1, q2⟩ := kT _ _ _ hJ3 st3
                    gi_wp2
                    exact ⟨_, ⟨hnh, by rw [hrs', hss']; exact q1⟩, (Step.mk hk4 (fun _ h => .inl h) (fun k h => Nat.lt_of_lt_of_le (hlt k h) hk4.size)).trans q2⟩
                  · clear hy
                    obtain ⟨q1, q2⟩ := kF _ _ _ hJ3 st3
                    gi_wp2
                    exact ⟨_, ⟨rfl, .inr ⟨_, hnh, by rw [hrs']; exact q1⟩⟩, (Step.mk hk4 (fun _ h => .inl h) (fun k h => Nat.lt_of_lt_of_le (hlt k h) hk4.size)).trans q2⟩
                · rw [e7] at hrs
                  simp only [if_true, List.append_nil] at hrs
                  clear hY
                  have hrs' := Lib.hid hrs
                  have hss' := Lib.hid hss
                  clear hrs hss
                  gi_wp2
                  refine ⟨fun _ h => (by cases h), ?_⟩
                  gi_wp2
                  exact ⟨fp, ⟨hnh, by rw [hrs'.out, hss'.out]; exact hp4⟩, hk4, fun _ h => .inl h, fun k h => Nat.lt_of_lt_of_le (hlt k h) hk4.size⟩
            · obtain ⟨z1, z2⟩ := old_skip (lo := lo) (sq := sq) hf (.inr (.inl e5))
              rw [z1] at hss
              rw [z2, List.append_nil] at hrs
              have hrs' := Lib.hid hrs
              have hss' := Lib.hid hss
              clear hY hrs hss hf
              gi_wp2
              exact ⟨fp, ⟨hnh, by rw [hrs'.out, hss'.out]; exact hp⟩, Step.refl hlt⟩
          · obtain ⟨z1, z2⟩ := old_skip (lo := lo) (sq := sq) hf (.inl e8)
            rw [z1] at hss
            rw [z2, List.append_nil] at hrs
            have hrs' := Lib.hid hrs
            have hss' := Lib.hid hss
            clear hY hrs hss hf
            gi_wp2
            exact ⟨fp, ⟨hnh, by rw [hrs'.out, hss'.out]; exact hp⟩, Step.refl hlt⟩
  case done =>
    rintro D ys fp2 W2 hD hnD hnew hlt2 hkT rfl ⟨h1, hp⟩ hK
    clear hY
    obtain ⟨fj, hj, hk, hn2, hl2⟩ := hp.finish hJ hz hk0 hRW hUw hkT hD hnD hnew
    gi_wp2
    refine ⟨by simp, .inl ⟨_, _, rfl, run_takeDeferred hK, ?_⟩⟩
    refine ⟨_, results_none rfl _ _ _, ?_⟩
    exact SeqEnd.all hk hn2 hl2 _ (by unfold Pl.pairsOf; rw [Pl.cutHi_all h1]) hj
  case stop =>
    rintro D c pre fp2 W2 hD hnD hnew hlt2 hkT hpre ⟨rfl, h⟩ hK
    clear hY
    gi_wp2
    refine ⟨by simp, .inl ⟨_, _, rfl, run_takeDeferred hK, ?_⟩⟩
    refine ⟨_, results_none rfl _ _ _, ?_⟩
    obtain ⟨r, rfl⟩ := hpre
    rcases h with ⟨p, x, s, rfl, h1, h2, hp⟩ | ⟨s, h1, hp⟩
    · obtain ⟨fj, hj, hk, hn2, hl2⟩ := hp.finish hJ hz hk0 hRW hUw hkT hD hnD hnew
      refine SeqEnd.all hk hn2 hl2 _ ?_ hj
      unfold Pl.pairsOf
      rw [List.append_assoc, List.singleton_append, Pl.cutHi_stop h1 h2]
    · obtain ⟨fj, hj, hk, hn2, hl2⟩ := hp.finish hJx hz hk0 hRW hUw hkT hD hnD hnew
      exact SeqEnd.part hk hn2 hl2 _ (Pl.prun_prefix _ (Pl.cutHi_prefix h1)) hj
  · rintro pre fp W W' ⟨h, hp⟩ hkp
    exact ⟨h, hp.abide hJ hkp⟩
  · rintro c pre fp W W' ⟨hc, h⟩ hkp
    refine ⟨hc, ?_⟩
    rcases h with ⟨p, x, s, e, h1, h2, hp⟩ | ⟨s, h1, hp⟩
    · exact .inl ⟨p, x, s, e, h1, h2, hp.abide hJ hkp⟩
    · exact .inr ⟨s, h1, hp.abide hJx hkp⟩
  · rintro pre x a' _ fp W W' ⟨⟨h1, hp⟩, bx, ⟨hv, hf⟩, he⟩ hkp
    exact ⟨⟨h1, hp.abide hJ hkp⟩, bx, ⟨hv.keep hkp hf.1, hf⟩, he⟩
  · rintro k (h | h | h)
    · exact hRU k h
    · exact (hfm k h).2.1
    · intro h1; have := hRW k h1; omega
  · rintro k (h | h | h)
    · have := hUw k h; omega
    · have := (hfm k h).2.2; omega
    · omega
  · refine ⟨fun u h => (by cases h), b0, b1, b2, b3, ⟨.inr (.inr (.inl rfl)), .inr (.inr (.inr (.inl rfl))), .inr (.inr (.inr (.inr (.inl rfl)))), .inr (.inr (.inr (.inr (.inr rfl))))⟩, fun k h => .inl h, Keep.refl _ _, fp, hJ _ _ _ _ h0 (hk0 fp), fun k h => .inr (.inl h), fun k h => by have := hlt k h; omega, ⟨fun h => by have := (hfm _ h).2.2; omega, fun h => by have := (hfm _ h).2.2; omega, fun h => by have := (hfm _ h).2.2; omega, fun h => by have := (hfm _ h).2.2; omega⟩, fun k h h1 => (hfm k h1).1 h⟩
end Go.Proofs.Ytiogjebekadmcaa
