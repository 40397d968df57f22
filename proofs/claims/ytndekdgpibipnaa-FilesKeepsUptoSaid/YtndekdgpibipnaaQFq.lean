
/- Ranges over functions by footprints, where a round is told that what has come, and what comes, is a beginning of the whole. Condition: none. -/
import Derived.Test.YtndekdgpibipnaaQFp

namespace Go.Proofs.Ytndekdgpibipnaa
open Go.RowKit Go.Shelf

/-- THE CONTRACT OF AN ITERATOR (a round is told that what has come, and what comes, is a beginning of the whole): mfp: the blocks that it reads or writes and that were there at first; kfp: those of them that it leaves as they were. -/
def SeqG {α : Type} (F : Fence) (n : Nat) (P : Program) (g : Nat) (lb : Array Value) (encs : α → Array Value) (mfp kfp : Nat → Prop) (S Sp : List α → Prop) (w : World) : Prop :=
  ∀ (l : Nat) (J Jx : List α → (Nat → Prop) → World → Prop) (W : World) (fp : Nat → Prop), Keep mfp w W → (∀ k, fp k → ¬ mfp k) → (∀ k, fp k → k < W.heap.size) → Abide J → Abide Jx →
    (∀ pre x fp1 W1, J pre fp1 W1 → (∀ k, fp1 k → k < W1.heap.size) → Sp (pre ++ [x]) → YieldAt F (n - 1) P l (encs x) W1 fun e W' =>
      (e = .returned (.bool true) ∧ ∃ fp', J (pre ++ [x]) fp' W' ∧ Step fp1 fp' W1 W') ∨ (e = .returned (.bool false) ∧ ∃ fp', Jx (pre ++ [x]) fp' W' ∧ Step fp1 fp' W1 W')) →
    J [] fp W →
    CallsIn F n P g (#[.func (.yield l) #[] #[]] ++ lb) W (SeqEnd kfp S Sp J Jx fp W)

variable {F : Fence} {n : Nat} {P : Program} {w : World}

theorem wpIn_rangeG {α : Type} {g : Operand} {ps : Array Tmp} {assign body : Code} {Q : Exit → Act → World → Prop} {a : Act} {w : World}
    (hro : F.round = none) (h1 : 1 ≤ n) {gf : Nat} {lb : Array Value} (hg : a.eval g = .func (.func gf) #[] lb) (hFg : F.fn gf) (eg : ∀ args w, (callFunc gf args).run P w = .ok (.enter gf args) w)
    {encs : α → Array Value} {mfp kfp : Nat → Prop} {S Sp : List α → Prop} (hseq : SeqG F (n - 1) P gf lb encs mfp kfp S Sp w) (hps : ∀ x, (encs x).size = ps.size) (hm : ∀ k, mfp k → k < w.heap.size) (hkm : ∀ k, kfp k → k < w.heap.size)
    (I : List α → (Nat → Prop) → World → Prop) (Ix : Code → List α → (Nat → Prop) → World → Prop) (Ax : List α → α → Act → (Nat → Prop) → World → Prop)
    (hI : Abide I) (hIx : ∀ c, Abide (Ix c)) (hAx : ∀ pre x a', Abide (fun (_ : Unit) => Ax pre x a'))
    (fp : Nat → Prop) (hfm : ∀ k, fp k → ¬ mfp k) (hfl : ∀ k, fp k → k < w.heap.size) (h0 : I [] fp w)
    (hassign : ∀ (l : Nat) (pre : List α) (x : α) (fp : Nat → Prop) (W : World) (K : Act → World → Prop), I pre fp W → (∀ k, fp k → k < W.heap.size) → Sp (pre ++ [x]) → (∀ a' fp' W', Step fp fp' W W' → Ax pre x a' fp' W' → K a' W') →
      assign.wpIn (F.inRound l) (n - 1 - 1) P (Exit.then K (fun _ _ _ => False)) { tmps := (ps.zip (encs x)).foldl (fun t (p, v) => t.setIfInBounds p v) a.tmps, defers := [] } W)
    (hbody : ∀ (l : Nat) (pre : List α) (x : α) (a' : Act) (fp : Nat → Prop) (W : World), Ax pre x a' fp W → (∀ k, fp k → k < W.heap.size) → Sp (pre ++ [x]) → body.wpIn (F.inRound l) (n - 1 - 1) P (fpPost I Ix (pre ++ [x]) fp W) a' W)
    (hdone : ∀ (D : Nat) (xs : List α) (fp' : Nat → Prop) (W : World), w.heap.size ≤ D → ¬ fp' D → (∀ k, fp' k → fp k ∨ w.heap.size ≤ k) → (∀ k, fp' k → k < W.heap.size) → Keep kfp w W → S xs → I xs fp' W → W.heap[D]? = some (.deferred (some [])) → Q .normal { a with defers := { target := .collected D, args := #[] } :: a.defers } W)
    (hstop : ∀ (D : Nat) (c : Code) (pre : List α) (fp' : Nat → Prop) (W : World), w.heap.size ≤ D → ¬ fp' D → (∀ k, fp' k → fp k ∨ w.heap.size ≤ k) → (∀ k, fp' k → k < W.heap.size) → Keep kfp w W → Sp pre → Ix c pre fp' W → W.heap[D]? = some (.deferred (some [])) → c.wpIn F n P Q { a with defers := { target := .collected D, args := #[] } :: a.defers } W) :
    (Code.rangeFunc g ps assign body).wpIn F n P Q a w := by
  refine wpIn_rangeFunc ?_
  intro fn hfn
  rw [hro]
  obtain ⟨rec, hrec⟩ : ∃ rec : LoopState → Option Code → Loop, rec = fun st pe => { state := st, pending := pe, fn, tmps := a.tmps, params := ps, assign, body, defers := w.heap.size } := ⟨_, rfl⟩
  obtain ⟨W1, hW1⟩ : ∃ W1, (w.alloc (.deferred (some []))).alloc (.loop (rec .ready none)) = W1 := ⟨_, rfl⟩
  have hL1 : W1.heap[w.heap.size + 1]? = some (.loop (rec .ready none)) := by
    rw [← hW1]; have := World.alloc_heap_new (w.alloc (.deferred (some []))) (.loop (rec .ready none)); rwa [World.size_alloc] at this
  have hK1 : W1.heap[w.heap.size]? = some (.deferred (some [])) := by
    rw [← hW1]; exact (Below.heap_alloc _ _ _ (by simp)).trans (World.alloc_heap_new w _)
  have hkeep : ∀ f : Nat → Prop, Keep f w W1 := fun f => by rw [← hW1]; exact ((Keep.refl f w).alloc _).alloc _
  have hsz1 : W1.heap.size = w.heap.size + 2 := by rw [← hW1]; simp
  -- the caller's invariant with what the loop keeps for itself
  obtain ⟨G, hG⟩ : ∃ G : (Nat → Prop) → Nat → Prop, G = fun f k => f k ∨ k = w.heap.size ∨ k = w.heap.size + 1 := ⟨_, rfl⟩
  refine ⟨w.heap.size + 1, [{ target := .collected w.heap.size, args := #[] }], W1, { target := .fn (.func gf) lb, args := #[.func (.yield (w.heap.size + 1)) #[] #[]] }, W1, gf,
    #[.func (.yield (w.heap.size + 1)) #[] #[]] ++ lb, W1, ?_, ?_, ?_, ?_, fun _ => h1, ?_⟩
  · rw [← hW1, hrec]; exact run_enterLoop_outer _ _ _ _ _
  · simp only [resolve, hg]
    simp [go_sem]
  · intro f' hf'; simp [Target.leads] at hf'; subst hf'; exact hFg
  · simp [invoke, go_sem, eg]
  · refine (hseq (w.heap.size + 1)
      (fun pre f W => ∃ f0, f = G f0 ∧ ¬ f0 w.heap.size ∧ ¬ f0 (w.heap.size + 1) ∧ (∀ k, f0 k → fp k ∨ w.heap.size ≤ k) ∧ I pre f0 W ∧ W.heap[w.heap.size + 1]? = some (.loop (rec .ready none)) ∧ W.heap[w.heap.size]? = some (.deferred (some [])))
      (fun pre f W => ∃ c f0, f = G f0 ∧ ¬ f0 w.heap.size ∧ ¬ f0 (w.heap.size + 1) ∧ (∀ k, f0 k → fp k ∨ w.heap.size ≤ k) ∧ Ix c pre f0 W ∧ W.heap[w.heap.size + 1]? = some (.loop (rec .done (some c))) ∧ W.heap[w.heap.size]? = some (.deferred (some [])))
      W1 (G fp) (hkeep _) ?_ ?_ ?_ ?_ ?_ ⟨fp, rfl, fun h => by have := hfl _ h; omega, fun h => by have := hfl _ h; omega, fun _ h => .inl h, hI _ _ _ _ h0 (hkeep _), hL1, hK1⟩).mono ?_
    · intro k hk hmk
      have := hm k hmk
      rw [hG] at hk
      rcases hk with hk | hk | hk
      · exact hfm k hk hmk
      · omega
      · omega
    · intro k hk
      rw [hG] at hk
      rcases hk with hk | hk | hk
      · have := hfl k hk; omega
      · omega
      · omega
    · rintro pre f W W' ⟨f0, rfl, hD, hl, hn, hi, hL, hK⟩ hkp
      rw [hG] at hkp
      refine ⟨f0, rfl, hD, hl, hn, hI _ _ _ _ hi (hkp.mono (fun i h _ => .inl h)), (hkp.block _ (.inr (.inr rfl)) (Array.getElem?_eq_some_iff.1 hL).1).trans hL, (hkp.block _ (.inr (.inl rfl)) (Array.getElem?_eq_some_iff.1 hK).1).trans hK⟩
    · rintro pre f W W' ⟨c, f0, rfl, hD, hl, hn, hi, hL, hK⟩ hkp
      rw [hG] at hkp
      refine ⟨c, f0, rfl, hD, hl, hn, hIx c _ _ _ _ hi (hkp.mono (fun i h _ => .inl h)), (hkp.block _ (.inr (.inr rfl)) (Array.getElem?_eq_some_iff.1 hL).1).trans hL, (hkp.block _ (.inr (.inl rfl)) (Array.getElem?_eq_some_iff.1 hK).1).trans hK⟩
    · -- one round
      rintro pre x f W ⟨f0, rfl, hD, hl, hn, hi, hL, hK⟩ hlt hlen
      have hLl : w.heap.size + 1 < W.heap.size := (Array.getElem?_eq_some_iff.1 hL).1
      have hlt0 : ∀ k, f0 k → k < W.heap.size := fun k hk => hlt k (by rw [hG]; exact .inl hk)
      have hy := run_yield (P := P) (args := encs x) hL (by rw [hrec]; exact hps x)
      rw [hrec] at hy
      refine ⟨fn, _, assign, body, hy, roundIn_of_wpIn hfn (hassign _ pre x f0 W _ hi hlt0 hlen ?_)⟩
      clear hy
      intro a' fa Wa sa hax
      have hLa := (sa.keep.block _ hl hLl).trans hL
      have hKa := (sa.keep.block _ hD (by omega)).trans hK
      have hDa := sa.other hD (by omega)
      have hla := sa.other hl hLl
      refine ⟨_, run_beginRound hLa (by rw [hrec]), ?_⟩
      have hLla : w.heap.size + 1 < Wa.heap.size := (Array.getElem?_eq_some_iff.1 hLa).1
      have hL2 : (Wa.putObj (w.heap.size + 1) (.loop { rec .ready none with state := .busy })).heap[w.heap.size + 1]? = some (.loop { rec .ready none with state := .busy }) := World.putObj_heap_same hLla
      have hK2 : (Wa.putObj (w.heap.size + 1) (.loop { rec .ready none with state := .busy })).heap[w.heap.size]? = some (.deferred (some [])) := (World.putObj_heap_other (by omega)).trans hKa
      have hkp2 : ∀ fx : Nat → Prop, ¬ fx (w.heap.size + 1) → Keep fx Wa (Wa.putObj (w.heap.size + 1) (.loop { rec .ready none with state := .busy })) := fun fx hx => (Keep.refl _ _).putObj _ _ (fun h _ => hx h)
      have hszp : (Wa.putObj (w.heap.size + 1) (.loop { rec .ready none with state := .busy })).heap.size = Wa.heap.size := by simp
      generalize Wa.putObj (w.heap.size + 1) (.loop { rec .ready none with state := .busy }) = Wb at hL2 hK2 hkp2 hszp ⊢
      refine wpIn_mono (hbody _ pre x a' fa Wb (hAx pre x a' () fa Wa Wb hax (hkp2 _ hla)) (fun k hk => by rw [hszp]; exact sa.lt k hk) hlen) ?_
      have fin : ∀ (jump : Option Code) (f3 : Nat → Prop) (W3 : World), Step fa f3 Wb W3 →
          (Instr.endRound (w.heap.size + 1) jump).run P W3 = .ok (.bool jump.isNone) (W3.putObj (w.heap.size + 1) (.loop (rec (if jump.isNone then .ready else .done) jump))) ∧
          (W3.putObj (w.heap.size + 1) (.loop (rec (if jump.isNone then .ready else .done) jump))).heap[w.heap.size + 1]? = some (.loop (rec (if jump.isNone then .ready else .done) jump)) ∧
          (W3.putObj (w.heap.size + 1) (.loop (rec (if jump.isNone then .ready else .done) jump))).heap[w.heap.size]? = some (.deferred (some [])) ∧
          ¬ f3 w.heap.size ∧ ¬ f3 (w.heap.size + 1) ∧ (∀ k, f3 k → fp k ∨ w.heap.size ≤ k) ∧
          Keep f3 W3 (W3.putObj (w.heap.size + 1) (.loop (rec (if jump.isNone then .ready else .done) jump))) ∧
          Step (G f0) (G f3) W (W3.putObj (w.heap.size + 1) (.loop (rec (if jump.isNone then .ready else .done) jump))) := fun jump f3 W3 s3 => by
        have hL3 := (s3.keep.block _ hla (by rw [hszp]; exact hLla)).trans hL2
        have hK3 := (s3.keep.block _ hDa (by rw [hszp]; omega)).trans hK2
        have hl3 : ¬ f3 (w.heap.size + 1) := s3.other hla (by rw [hszp]; exact hLla)
        have hD3 : ¬ f3 w.heap.size := s3.other hDa (by rw [hszp]; omega)
        have hr := run_endRound (P := P) jump hL3
        rw [hrec] at hr ⊢
        have hLl3 := (Array.getElem?_eq_some_iff.1 hL3).1
        have hnew3 : ∀ k, f3 k → f0 k ∨ W.heap.size ≤ k := fun k hk => by
          rcases s3.new k hk with h | h
          · exact sa.new k h
          · right; have := sa.keep.size; rw [hszp] at h; omega
        refine ⟨hr, World.putObj_heap_same hLl3, (World.putObj_heap_other (by omega)).trans hK3, hD3, hl3, ?_, (Keep.refl _ _).putObj _ _ (fun h _ => hl3 h), ?_, ?_, ?_⟩
        · intro k hk
          rcases hnew3 k hk with h | h
          · exact hn k h
          · right; omega
        · have k1 : Keep (fun k => ¬ G f0 k) W Wa := sa.keep.mono (fun i h _ hx => h (by rw [hG]; exact .inl hx))
          have k2 : Keep (fun k => ¬ G f0 k) W Wb := k1.trans (fp' := fun k => k ≠ w.heap.size + 1) (hkp2 _ (fun h => h rfl)) (fun i h _ e => h (by rw [hG]; exact .inr (.inr e)))
          have k3 : Keep (fun k => ¬ G f0 k) W W3 := k2.trans s3.keep (fun i h hl hx => by
            rcases sa.new i hx with h1 | h1
            · exact h (by rw [hG]; exact .inl h1)
            · omega)
          exact k3.putObj _ _ (fun h _ => h (by rw [hG]; exact .inr (.inr rfl)))
        · intro k hk
          rw [hG] at hk ⊢
          rcases hk with h | h | h
          · rcases hnew3 k h with h | h
            · exact .inl (.inl h)
            · exact .inr h
          · exact .inl (.inr (.inl h))
          · exact .inl (.inr (.inr h))
        · intro k hk
          rw [hG] at hk
          rw [show (W3.putObj (w.heap.size + 1) _).heap.size = W3.heap.size from by simp]
          rcases hk with h | h | h
          · exact s3.lt k h
          · omega
          · omega
      rintro e a3 W3 hp
      cases e with
      | normal =>
        obtain ⟨f3, hi3, s3⟩ := hp
        obtain ⟨hr, hL4, hK4, hD4, hl4, hn4, hk4, st⟩ := fin none f3 W3 s3
        exact ⟨_, _, hr, .inl ⟨rfl, G f3, ⟨f3, rfl, hD4, hl4, hn4, hI _ _ _ _ hi3 hk4, hL4, hK4⟩, st⟩⟩
      | ret =>
        obtain ⟨f3, hi3, s3⟩ := hp
        obtain ⟨hr, hL4, hK4, hD4, hl4, hn4, hk4, st⟩ := fin (some .ret) f3 W3 s3
        exact ⟨_, _, hr, .inr ⟨rfl, G f3, ⟨_, f3, rfl, hD4, hl4, hn4, hIx _ _ _ _ _ hi3 hk4, hL4, hK4⟩, st⟩⟩
      | exit id =>
        obtain ⟨f3, hi3, s3⟩ := hp
        obtain ⟨hr, hL4, hK4, hD4, hl4, hn4, hk4, st⟩ := fin (some (.exit id)) f3 W3 s3
        exact ⟨_, _, hr, .inr ⟨rfl, G f3, ⟨_, f3, rfl, hD4, hl4, hn4, hIx _ _ _ _ _ hi3 hk4, hL4, hK4⟩, st⟩⟩
      | goto t =>
        obtain ⟨f3, hi3, s3⟩ := hp
        obtain ⟨hr, hL4, hK4, hD4, hl4, hn4, hk4, st⟩ := fin (some (.goto t)) f3 W3 s3
        exact ⟨_, _, hr, .inr ⟨rfl, G f3, ⟨_, f3, rfl, hD4, hl4, hn4, hIx _ _ _ _ _ hi3 hk4, hL4, hK4⟩, st⟩⟩
      | panic ch => exact hp.elim
      | outgrown => exact hp.elim
    · -- behind the iterator
      rintro e W2 ⟨⟨v, rfl⟩, hkk, f', _, hlt, (⟨xs, hS, f0, rfl, hD, hl, hn, hi, hL, hK⟩ | ⟨pre, hSp, c, f0, rfl, hD, hl, hn, hi, hL, hK⟩)⟩
      · have hk2 : Keep kfp w W2 := (hkeep kfp).trans hkk (fun _ h _ => h)
        have hr := run_endLoop (P := P) hL (by rw [hrec]; simp)
        rw [hrec] at hr
        refine ⟨none, _, hr, hdone _ xs f0 _ (Nat.le_refl _) hD hn (fun k hk => ?_) (hk2.putObj _ _ (fun h _ => by have := hkm _ h; omega)) hS (hI _ _ _ _ hi ((Keep.refl _ _).putObj _ _ (fun h _ => hl h))) ((World.putObj_heap_other (by omega)).trans hK)⟩
        have := hlt k (by rw [hG]; exact .inl hk)
        simpa using this
      · have hk2 : Keep kfp w W2 := (hkeep kfp).trans hkk (fun _ h _ => h)
        have hr := run_endLoop (P := P) hL (by rw [hrec]; simp)
        rw [hrec] at hr
        refine ⟨some c, _, hr, hstop _ c pre f0 _ (Nat.le_refl _) hD hn (fun k hk => ?_) (hk2.putObj _ _ (fun h _ => by have := hkm _ h; omega)) hSp (hIx _ _ _ _ _ hi ((Keep.refl _ _).putObj _ _ (fun h _ => hl h))) ((World.putObj_heap_other (by omega)).trans hK)⟩
        have := hlt k (by rw [hG]; exact .inl hk)
        simpa using this
end Go.Proofs.Ytndekdgpibipnaa
