
/- Ranges over functions, told by what belongs to whom: a caller's blocks, which the iterator leaves alone, and all others, which the caller's rounds leave alone. Condition: none. -/
import Derived.Test.YtndekdgpibipnaaQBase
import Derived.RangeFuncNested
import Derived.RangeFuncBound
import Derived.RangeFuncCalls
import Derived.RangeFuncLeaves
import Derived.RangeFuncBox
import Derived.Shelf.Abstract
import Derived.OwnWalkIn
import Derived.TacticsInMore
import Derived.LoopNIn
import Derived.LoopIn

namespace Go.Proofs.Ytndekdgpibipnaa
open Go.RowKit Go.Shelf

/-- what a step leaves alone -/
structure Keep (fp : Nat → Prop) (W W' : World) : Prop where
  os : W'.os = W.os
  tape : W'.tape = W.tape
  output : W'.output = W.output
  size : W.heap.size ≤ W'.heap.size
  block : ∀ k, fp k → k < W.heap.size → W'.heap[k]? = W.heap[k]?

theorem Keep.refl (fp : Nat → Prop) (W : World) : Keep fp W W := ⟨rfl, rfl, rfl, Nat.le_refl _, fun _ _ _ => rfl⟩
theorem Keep.trans {fp fp' : Nat → Prop} {A B C : World} (h : Keep fp A B) (k : Keep fp' B C) (hs : ∀ i, fp i → i < A.heap.size → fp' i) : Keep fp A C :=
  ⟨k.os.trans h.os, k.tape.trans h.tape, k.output.trans h.output, Nat.le_trans h.size k.size, fun i hi hl => (k.block i (hs i hi hl) (Nat.lt_of_lt_of_le hl h.size)).trans (h.block i hi hl)⟩
theorem Keep.mono {fp fp' : Nat → Prop} {A B : World} (h : Keep fp A B) (hs : ∀ i, fp' i → i < A.heap.size → fp i) : Keep fp' A B :=
  ⟨h.os, h.tape, h.output, h.size, fun i hi hl => h.block i (hs i hi hl) hl⟩
theorem Keep.of_grownBy {fp : Nat → Prop} {W W' : World} {row : Option Nat} (h : W.grownBy W' row) (hr : ∀ k, row = some k → k < W.heap.size → ¬ fp k) : Keep fp W W' :=
  ⟨h.os, h.tape, h.output, h.size, fun k hk hl => h.block k hl (fun e => hr k e.symm hl hk)⟩
theorem Keep.of_below {fp : Nat → Prop} {B : Nat} {W W' : World} (h : Below B W W') (hr : ∀ k, fp k → k < W.heap.size → k < B) : Keep fp W W' :=
  ⟨h.os, h.tape, h.output, h.size, fun k hk hl => h.block k (hr k hk hl)⟩
theorem Keep.alloc {fp : Nat → Prop} {A W : World} (h : Keep fp A W) (o : Obj) : Keep fp A (W.alloc o) :=
  h.trans (fp' := fp) (Keep.of_grownBy (World.grownBy_alloc W o none) (fun k e => by cases e)) (fun _ hi _ => hi)
theorem Keep.drewN {fp : Nat → Prop} {A W : World} (h : Keep fp A W) (n : Nat) : Keep fp A (W.drewN n) := ⟨h.os, h.tape, h.output, h.size, h.block⟩
theorem Keep.drew {fp : Nat → Prop} {A W : World} (h : Keep fp A W) : Keep fp A W.drew := ⟨h.os, h.tape, h.output, h.size, h.block⟩
theorem Keep.putObj {fp : Nat → Prop} {A W : World} (h : Keep fp A W) (l : Nat) (o : Obj) (hl : fp l → l < A.heap.size → False) : Keep fp A (W.putObj l o) :=
  h.trans (fp' := fun k => fp k ∧ k < A.heap.size) (Keep.of_grownBy (grownBy_putObj' W l o) (fun k e _ hk => by cases e; exact hl hk.1 hk.2)) (fun _ hi hl => ⟨hi, hl⟩)
theorem Keep.setCell {fp : Nat → Prop} {A W : World} (h : Keep fp A W) (b o : Nat) (v : Value) (hl : fp b → b < A.heap.size → False) : Keep fp A (W.setCell ⟨b, o, none⟩ v) :=
  h.trans (fp' := fun k => fp k ∧ k < A.heap.size) ⟨rfl, rfl, rfl, by simp [World.setCell], fun k hk _ => Below.heap_setCell _ _ _ k (fun e => by subst e; exact hl hk.1 hk.2)⟩ (fun _ hi hl => ⟨hi, hl⟩)
theorem Keep.grown {fp : Nat → Prop} {A W W' : World} {row : Option Nat} (h : Keep fp A W) (hg : W.grownBy W' row) (hr : ∀ k, row = some k → fp k → k < A.heap.size → False) : Keep fp A W' :=
  h.trans (fp' := fun k => fp k ∧ k < A.heap.size) (Keep.of_grownBy hg (fun k e _ hk => hr k e hk.1 hk.2)) (fun _ hi hl => ⟨hi, hl⟩)
theorem Keep.beyond {fp : Nat → Prop} {A W W' : World} (h : Keep fp A W) (hb : Below W.heap.size W W') : Keep fp A W' :=
  h.trans (fp' := fp) (Keep.of_below hb (fun _ _ hl => hl)) (fun _ hi _ => hi)
theorem Keep.cell {fp : Nat → Prop} {W W' : World} (h : Keep fp W W') {b o : Nat} (hb : fp b) {v : Value} (hc : W.cell? ⟨b, o, none⟩ = some v) : W'.cell? ⟨b, o, none⟩ = some v := by
  obtain ⟨ob, ho, _⟩ := not_walk_of_cell hc
  exact (World.cell?_of_block (a := ⟨b, o, none⟩) (h.block b hb (Array.getElem?_eq_some_iff.1 ho).1)).trans hc
theorem Keep.boxed {fp : Nat → Prop} {W W' : World} (h : Keep fp W W') {b : Nat} (hb : fp b) {t : TypeId} {v : Value} (hc : Boxed W b t v) : Boxed W' b t v := (h.block b hb hc.lt).trans hc
theorem Keep.ownsRow {fp : Nat → Prop} {W W' : World} (h : Keep fp W W') {base : Nat} {e : TypeId} {size n : Nat} {v : Value} {xs : List Value} (hr : W.ownsRow base e size v n xs) (hb : ∀ k, v.ownBlock = some k → fp k) : W'.ownsRow base e size v n xs := by
  refine ⟨hr.1, ?_⟩
  rcases hr.2 with h0 | ⟨g, cap, cur, rfl, hb1, hg, rest⟩
  · exact .inl h0
  · exact .inr ⟨g, cap, cur, rfl, hb1, (h.block g (hb g rfl) (Array.getElem?_eq_some_iff.1 hg).1).trans hg, rest⟩
theorem Keep.below {fp : Nat → Prop} {A W W' : World} {B : Nat} (h : Keep fp W W') (hb : Below B A W) (hB : B ≤ A.heap.size) (hf : ∀ k, k < B → fp k) : Below B A W' :=
  ⟨h.os.trans hb.os, h.tape.trans hb.tape, h.output.trans hb.output, Nat.le_trans hb.size h.size, fun k hk => (h.block k (hf k hk) (by have := hb.size; omega)).trans (hb.block k hk)⟩

/-- a step of whom the blocks fp belong to, which behind it has fp' -/
structure Step (fp fp' : Nat → Prop) (W W' : World) : Prop where
  keep : Keep (fun k => ¬ fp k) W W'
  new : ∀ k, fp' k → fp k ∨ W.heap.size ≤ k
  lt : ∀ k, fp' k → k < W'.heap.size
theorem Step.refl {fp : Nat → Prop} {W : World} (h : ∀ k, fp k → k < W.heap.size) : Step fp fp W W := ⟨Keep.refl _ _, fun _ h => .inl h, h⟩
theorem Step.trans {f g h : Nat → Prop} {A B C : World} (s : Step f g A B) (t : Step g h B C) : Step f h A C :=
  ⟨s.keep.trans t.keep (fun i hi hl hg => by rcases s.new i hg with h1 | h1; exact hi h1; omega),
   fun k hk => by rcases t.new k hk with h1 | h1; exact s.new k h1; exact .inr (Nat.le_trans s.keep.size h1), t.lt⟩
/-- of a block that was there and does not belong to the one who steps -/
theorem Step.other {fp fp' : Nat → Prop} {W W' : World} (s : Step fp fp' W W') {k : Nat} (hk : ¬ fp k) (hl : k < W.heap.size) : ¬ fp' k := fun h => by
  rcases s.new k h with h1 | h1
  · exact hk h1
  · omega

/-- an invariant that speaks of its own blocks alone -/
def Abide {β : Type} (J : β → (Nat → Prop) → World → Prop) : Prop := ∀ s fp W W', J s fp W → Keep fp W W' → J s fp W'

/-- how an iterator ends: all has come, or a round has said 'no more' -/
def SeqEnd {α : Type} (kfp : Nat → Prop) (S Sp : List α → Prop) (J Jx : List α → (Nat → Prop) → World → Prop) (fp : Nat → Prop) (W : World) (e : Ending) (W' : World) : Prop :=
  (∃ v, e = .returned v) ∧ Keep kfp W W' ∧ ∃ fp', (∀ k, fp' k → fp k ∨ W.heap.size ≤ k) ∧ (∀ k, fp' k → k < W'.heap.size) ∧ ((∃ xs, S xs ∧ J xs fp' W') ∨ (∃ pre, Sp pre ∧ Jx pre fp' W'))
theorem SeqEnd.all {α : Type} {kfp : Nat → Prop} {S Sp : List α → Prop} {J Jx : List α → (Nat → Prop) → World → Prop} {fp fp' : Nat → Prop} {W W' : World} {v : Value} (hk : Keep kfp W W') (hn : ∀ k, fp' k → fp k ∨ W.heap.size ≤ k) (hl : ∀ k, fp' k → k < W'.heap.size) (xs : List α) (hS : S xs) (hJ : J xs fp' W') :
    SeqEnd kfp S Sp J Jx fp W (.returned v) W' := ⟨⟨v, rfl⟩, hk, fp', hn, hl, .inl ⟨xs, hS, hJ⟩⟩
theorem SeqEnd.part {α : Type} {kfp : Nat → Prop} {S Sp : List α → Prop} {J Jx : List α → (Nat → Prop) → World → Prop} {fp fp' : Nat → Prop} {W W' : World} {v : Value} (hk : Keep kfp W W') (hn : ∀ k, fp' k → fp k ∨ W.heap.size ≤ k) (hl : ∀ k, fp' k → k < W'.heap.size) (xs : List α) (hS : Sp xs) (hJ : Jx xs fp' W') :
    SeqEnd kfp S Sp J Jx fp W (.returned v) W' := ⟨⟨v, rfl⟩, hk, fp', hn, hl, .inr ⟨xs, hS, hJ⟩⟩

/-- THE CONTRACT OF AN ITERATOR: mfp: the blocks that it reads or writes and that were there at first; kfp: those of them that it leaves as they were. -/
def SeqF {α : Type} (F : Fence) (n : Nat) (P : Program) (g : Nat) (lb : Array Value) (encs : α → Array Value) (mfp kfp : Nat → Prop) (S Sp : List α → Prop) (N : Nat) (w : World) : Prop :=
  ∀ (l : Nat) (J Jx : List α → (Nat → Prop) → World → Prop) (W : World) (fp : Nat → Prop), Keep mfp w W → (∀ k, fp k → ¬ mfp k) → (∀ k, fp k → k < W.heap.size) → Abide J → Abide Jx →
    (∀ pre x fp1 W1, J pre fp1 W1 → (∀ k, fp1 k → k < W1.heap.size) → pre.length < N → YieldAt F (n - 1) P l (encs x) W1 fun e W' =>
      (e = .returned (.bool true) ∧ ∃ fp', J (pre ++ [x]) fp' W' ∧ Step fp1 fp' W1 W') ∨ (e = .returned (.bool false) ∧ ∃ fp', Jx (pre ++ [x]) fp' W' ∧ Step fp1 fp' W1 W')) →
    J [] fp W →
    CallsIn F n P g (#[.func (.yield l) #[] #[]] ++ lb) W (SeqEnd kfp S Sp J Jx fp W)

/-- how a round's body may be left -/
def fpPost {α : Type} (I : List α → (Nat → Prop) → World → Prop) (Ix : Code → List α → (Nat → Prop) → World → Prop) (xs : List α) (fp : Nat → Prop) (W : World) : Exit → Act → World → Prop
  | .normal, _, W' => ∃ fp', I xs fp' W' ∧ Step fp fp' W W'
  | .ret, _, W' => ∃ fp', Ix .ret xs fp' W' ∧ Step fp fp' W W'
  | .exit id, _, W' => ∃ fp', Ix (.exit id) xs fp' W' ∧ Step fp fp' W W'
  | .goto t, _, W' => ∃ fp', Ix (.goto t) xs fp' W' ∧ Step fp fp' W W'
  | .panic _, _, _ => False
  | .outgrown, _, _ => False

theorem fold1 (p : Tmp) (v : Value) (t : Array Value) : (#[p].zip #[v]).foldl (fun t x => match x with | (p, v) => t.setIfInBounds p v) t = t.setIfInBounds p v := by simp
theorem fold2 (p p2 : Tmp) (v v2 : Value) (t : Array Value) : (#[p, p2].zip #[v, v2]).foldl (fun t x => match x with | (p, v) => t.setIfInBounds p v) t = (t.setIfInBounds p v).setIfInBounds p2 v2 := by simp

variable {F : Fence} {n : Nat} {P : Program} {w : World}

theorem wpIn_rangeF {α : Type} {g : Operand} {ps : Array Tmp} {assign body : Code} {Q : Exit → Act → World → Prop} {a : Act} {w : World}
    (hro : F.round = none) (h1 : 1 ≤ n) {gf : Nat} {lb : Array Value} (hg : a.eval g = .func (.func gf) #[] lb) (hFg : F.fn gf) (eg : ∀ args w, (callFunc gf args).run P w = .ok (.enter gf args) w)
    {encs : α → Array Value} {mfp kfp : Nat → Prop} {S Sp : List α → Prop} {N : Nat} (hseq : SeqF F (n - 1) P gf lb encs mfp kfp S Sp N w) (hps : ∀ x, (encs x).size = ps.size) (hm : ∀ k, mfp k → k < w.heap.size) (hkm : ∀ k, kfp k → k < w.heap.size)
    (I : List α → (Nat → Prop) → World → Prop) (Ix : Code → List α → (Nat → Prop) → World → Prop) (Ax : List α → α → Act → (Nat → Prop) → World → Prop)
    (hI : Abide I) (hIx : ∀ c, Abide (Ix c)) (hAx : ∀ pre x a', Abide (fun (_ : Unit) => Ax pre x a'))
    (fp : Nat → Prop) (hfm : ∀ k, fp k → ¬ mfp k) (hfl : ∀ k, fp k → k < w.heap.size) (h0 : I [] fp w)
    (hassign : ∀ (l : Nat) (pre : List α) (x : α) (fp : Nat → Prop) (W : World) (K : Act → World → Prop), I pre fp W → (∀ k, fp k → k < W.heap.size) → pre.length < N → (∀ a' fp' W', Step fp fp' W W' → Ax pre x a' fp' W' → K a' W') →
      assign.wpIn (F.inRound l) (n - 1 - 1) P (Exit.then K (fun _ _ _ => False)) { tmps := (ps.zip (encs x)).foldl (fun t (p, v) => t.setIfInBounds p v) a.tmps, defers := [] } W)
    (hbody : ∀ (l : Nat) (pre : List α) (x : α) (a' : Act) (fp : Nat → Prop) (W : World), Ax pre x a' fp W → (∀ k, fp k → k < W.heap.size) → pre.length < N → body.wpIn (F.inRound l) (n - 1 - 1) P (fpPost I Ix (pre ++ [x]) fp W) a' W)
    (hdone : ∀ (D : Nat) (xs : List α) (fp' : Nat → Prop) (W : World), w.heap.size ≤ D → ¬ fp' D → (∀ k, fp' k → fp k ∨ w.heap.size ≤ k) → (∀ k, fp' k → k < W.heap.size) → Keep kfp w W → S xs → I xs fp' W → W.heap[D]? = some (.deferred (some [])) → Q .normal { a with defers := { target := .collected D, args := #[] } :: a.defers } W)
    (hstop : ∀ (D : Nat) (c : Code) (pre : List α) (fp' : Nat → Prop) (W : World), w.heap.size ≤ D → ¬ fp' D → (∀ k, fp' k → fp k ∨ w.heap.size ≤ k) → (∀ k, fp' k → k < W.heap.size) → Keep kfp w W → Sp pre → Ix c pre fp' W → W.heap[D]? = some (.deferred (some [])) → c.wpIn F n P Q { a with defers := { target := .collected D, args := #[] } :: a.defers } W) :
    (Code.rangeFunc g ps assign body).wpIn F n P Q a w := by
  refine wpIn_rangeFunc ?_
  intro fn hfn
  rw [hro]
  obtain ⟨rec, hrec⟩ : ∃ rec : LoopState → Option Code → Loop, rec = fun st pe => { state := st, pending := pe, fn, tmps := a.tmps, params := ps, assign, body, defers := w.heap.size } := ⟨_, rfl⟩
  obtain ⟨W1, hW1⟩ : ∃ W1, (w.alloc (.deferred (some []))).alloc (.loop (rec .ready none)) = W1 := ⟨_, rfl⟩
  have hL1 : W1.heap[w.heap.size + 1]? = some (.loop (rec .ready none)) := by
    rw [← hW1]; have := World.alloc_heap_new (w.alloc (.deferred (some []))) (.loop (rec .ready none)); rwa [World.size_alloc] at this
  have hK1 : W1.heap[w.heap.size]? = some (.deferred (some [])) := by
    rw [← hW1]; exact (Below.heap_alloc _ _ _ (by simp)).trans (World.alloc_heap_new w _)
  have hkeep : ∀ f : Nat → Prop, Keep f w W1 := fun f => by rw [← hW1]; exact ((Keep.refl f w).alloc _).alloc _
  have hsz1 : W1.heap.size = w.heap.size + 2 := by rw [← hW1]; simp
  -- the caller's invariant with what the loop keeps for itself
  obtain ⟨G, hG⟩ : ∃ G : (Nat → Prop) → Nat → Prop, G = fun f k => f k ∨ k = w.heap.size ∨ k = w.heap.size + 1 := ⟨_, rfl⟩
  refine ⟨w.heap.size + 1, [{ target := .collected w.heap.size, args := #[] }], W1, { target := .fn (.func gf) lb, args := #[.func (.yield (w.heap.size + 1)) #[] #[]] }, W1, gf,
    #[.func (.yield (w.heap.size + 1)) #[] #[]] ++ lb, W1, ?_, ?_, ?_, ?_, fun _ => h1, ?_⟩
  · rw [← hW1, hrec]; exact run_enterLoop_outer _ _ _ _ _
  · simp only [resolve, hg]
    simp [go_sem]
  · intro f' hf'; simp [Target.leads] at hf'; subst hf'; exact hFg
  · simp [invoke, go_sem, eg]
  · refine (hseq (w.heap.size + 1)
      (fun pre f W => ∃ f0, f = G f0 ∧ ¬ f0 w.heap.size ∧ ¬ f0 (w.heap.size + 1) ∧ (∀ k, f0 k → fp k ∨ w.heap.size ≤ k) ∧ I pre f0 W ∧ W.heap[w.heap.size + 1]? = some (.loop (rec .ready none)) ∧ W.heap[w.heap.size]? = some (.deferred (some [])))
      (fun pre f W => ∃ c f0, f = G f0 ∧ ¬ f0 w.heap.size ∧ ¬ f0 (w.heap.size + 1) ∧ (∀ k, f0 k → fp k ∨ w.heap.size ≤ k) ∧ Ix c pre f0 W ∧ W.heap[w.heap.size + 1]? = some (.loop (rec .done (some c))) ∧ W.heap[w.heap.size]? = some (.deferred (some [])))
      W1 (G fp) (hkeep _) ?_ ?_ ?_ ?_ ?_ ⟨fp, rfl, fun h => by have := hfl _ h; omega, fun h => by have := hfl _ h; omega, fun _ h => .inl h, hI _ _ _ _ h0 (hkeep _), hL1, hK1⟩).mono ?_
    · intro k hk hmk
      have := hm k hmk
      rw [hG] at hk
      rcases hk with hk | hk | hk
      · exact hfm k hk hmk
      · omega
      · omega
    · intro k hk
      rw [hG] at hk
      rcases hk with hk | hk | hk
      · have := hfl k hk; omega
      · omega
      · omega
    · rintro pre f W W' ⟨f0, rfl, hD, hl, hn, hi, hL, hK⟩ hkp
      rw [hG] at hkp
      refine ⟨f0, rfl, hD, hl, hn, hI _ _ _ _ hi (hkp.mono (fun i h _ => .inl h)), (hkp.block _ (.inr (.inr rfl)) (Array.getElem?_eq_some_iff.1 hL).1).trans hL, (hkp.block _ (.inr (.inl rfl)) (Array.getElem?_eq_some_iff.1 hK).1).trans hK⟩
    · rintro pre f W W' ⟨c, f0, rfl, hD, hl, hn, hi, hL, hK⟩ hkp
      rw [hG] at hkp
      refine ⟨c, f0, rfl, hD, hl, hn, hIx c _ _ _ _ hi (hkp.mono (fun i h _ => .inl h)), (hkp.block _ (.inr (.inr rfl)) (Array.getElem?_eq_some_iff.1 hL).1).trans hL, (hkp.block _ (.inr (.inl rfl)) (Array.getElem?_eq_some_iff.1 hK).1).trans hK⟩
    · -- one round
      rintro pre x f W ⟨f0, rfl, hD, hl, hn, hi, hL, hK⟩ hlt hlen
      have hLl : w.heap.size + 1 < W.heap.size := (Array.getElem?_eq_some_iff.1 hL).1
      have hlt0 : ∀ k, f0 k → k < W.heap.size := fun k hk => hlt k (by rw [hG]; exact .inl hk)
      have hy := run_yield (P := P) (args := encs x) hL (by rw [hrec]; exact hps x)
      rw [hrec] at hy
      refine ⟨fn, _, assign, body, hy, roundIn_of_wpIn hfn (hassign _ pre x f0 W _ hi hlt0 hlen ?_)⟩
      clear hy
      intro a' fa Wa sa hax
      have hLa := (sa.keep.block _ hl hLl).trans hL
      have hKa := (sa.keep.block _ hD (by omega)).trans hK
      have hDa := sa.other hD (by omega)
      have hla := sa.other hl hLl
      refine ⟨_, run_beginRound hLa (by rw [hrec]), ?_⟩
      have hLla : w.heap.size + 1 < Wa.heap.size := (Array.getElem?_eq_some_iff.1 hLa).1
      have hL2 : (Wa.putObj (w.heap.size + 1) (.loop { rec .ready none with state := .busy })).heap[w.heap.size + 1]? = some (.loop { rec .ready none with state := .busy }) := World.putObj_heap_same hLla
      have hK2 : (Wa.putObj (w.heap.size + 1) (.loop { rec .ready none with state := .busy })).heap[w.heap.size]? = some (.deferred (some [])) := (World.putObj_heap_other (by omega)).trans hKa
      have hkp2 : ∀ fx : Nat → Prop, ¬ fx (w.heap.size + 1) → Keep fx Wa (Wa.putObj (w.heap.size + 1) (.loop { rec .ready none with state := .busy })) := fun fx hx => (Keep.refl _ _).putObj _ _ (fun h _ => hx h)
      have hszp : (Wa.putObj (w.heap.size + 1) (.loop { rec .ready none with state := .busy })).heap.size = Wa.heap.size := by simp
      generalize Wa.putObj (w.heap.size + 1) (.loop { rec .ready none with state := .busy }) = Wb at hL2 hK2 hkp2 hszp ⊢
      refine wpIn_mono (hbody _ pre x a' fa Wb (hAx pre x a' () fa Wa Wb hax (hkp2 _ hla)) (fun k hk => by rw [hszp]; exact sa.lt k hk) hlen) ?_
      have fin : ∀ (jump : Option Code) (f3 : Nat → Prop) (W3 : World), Step fa f3 Wb W3 →
          (Instr.endRound (w.heap.size + 1) jump).run P W3 = .ok (.bool jump.isNone) (W3.putObj (w.heap.size + 1) (.loop (rec (if jump.isNone then .ready else .done) jump))) ∧
          (W3.putObj (w.heap.size + 1) (.loop (rec (if jump.isNone then .ready else .done) jump))).heap[w.heap.size + 1]? = some (.loop (rec (if jump.isNone then .ready else .done) jump)) ∧
          (W3.putObj (w.heap.size + 1) (.loop (rec (if jump.isNone then .ready else .done) jump))).heap[w.heap.size]? = some (.deferred (some [])) ∧
          ¬ f3 w.heap.size ∧ ¬ f3 (w.heap.size + 1) ∧ (∀ k, f3 k → fp k ∨ w.heap.size ≤ k) ∧
          Keep f3 W3 (W3.putObj (w.heap.size + 1) (.loop (rec (if jump.isNone then .ready else .done) jump))) ∧
          Step (G f0) (G f3) W (W3.putObj (w.heap.size + 1) (.loop (rec (if jump.isNone then .ready else .done) jump))) := fun jump f3 W3 s3 => by
        have hL3 := (s3.keep.block _ hla (by rw [hszp]; exact hLla)).trans hL2
        have hK3 := (s3.keep.block _ hDa (by rw [hszp]; omega)).trans hK2
        have hl3 : ¬ f3 (w.heap.size + 1) := s3.other hla (by rw [hszp]; exact hLla)
        have hD3 : ¬ f3 w.heap.size := s3.other hDa (by rw [hszp]; omega)
        have hr := run_endRound (P := P) jump hL3
        rw [hrec] at hr ⊢
        have hLl3 := (Array.getElem?_eq_some_iff.1 hL3).1
        have hnew3 : ∀ k, f3 k → f0 k ∨ W.heap.size ≤ k := fun k hk => by
          rcases s3.new k hk with h | h
          · exact sa.new k h
          · right; have := sa.keep.size; rw [hszp] at h; omega
        refine ⟨hr, World.putObj_heap_same hLl3, (World.putObj_heap_other (by omega)).trans hK3, hD3, hl3, ?_, (Keep.refl _ _).putObj _ _ (fun h _ => hl3 h), ?_, ?_, ?_⟩
        · intro k hk
          rcases hnew3 k hk with h | h
          · exact hn k h
          · right; omega
        · have k1 : Keep (fun k => ¬ G f0 k) W Wa := sa.keep.mono (fun i h _ hx => h (by rw [hG]; exact .inl hx))
          have k2 : Keep (fun k => ¬ G f0 k) W Wb := k1.trans (fp' := fun k => k ≠ w.heap.size + 1) (hkp2 _ (fun h => h rfl)) (fun i h _ e => h (by rw [hG]; exact .inr (.inr e)))
          have k3 : Keep (fun k => ¬ G f0 k) W W3 := k2.trans s3.keep (fun i h hl hx => by
            rcases sa.new i hx with h1 | h1
            · exact h (by rw [hG]; exact .inl h1)
            · omega)
          exact k3.putObj _ _ (fun h _ => h (by rw [hG]; exact .inr (.inr rfl)))
        · intro k hk
          rw [hG] at hk ⊢
          rcases hk with h | h | h
          · rcases hnew3 k h with h | h
            · exact .inl (.inl h)
            · exact .inr h
          · exact .inl (.inr (.inl h))
          · exact .inl (.inr (.inr h))
        · intro k hk
          rw [hG] at hk
          rw [show (W3.putObj (w.heap.size + 1) _).heap.size = W3.heap.size from by simp]
          rcases hk with h | h | h
          · exact s3.lt k h
          · omega
          · omega
      rintro e a3 W3 hp
      cases e with
      | normal =>
        obtain ⟨f3, hi3, s3⟩ := hp
        obtain ⟨hr, hL4, hK4, hD4, hl4, hn4, hk4, st⟩ := fin none f3 W3 s3
        exact ⟨_, _, hr, .inl ⟨rfl, G f3, ⟨f3, rfl, hD4, hl4, hn4, hI _ _ _ _ hi3 hk4, hL4, hK4⟩, st⟩⟩
      | ret =>
        obtain ⟨f3, hi3, s3⟩ := hp
        obtain ⟨hr, hL4, hK4, hD4, hl4, hn4, hk4, st⟩ := fin (some .ret) f3 W3 s3
        exact ⟨_, _, hr, .inr ⟨rfl, G f3, ⟨_, f3, rfl, hD4, hl4, hn4, hIx _ _ _ _ _ hi3 hk4, hL4, hK4⟩, st⟩⟩
      | exit id =>
        obtain ⟨f3, hi3, s3⟩ := hp
        obtain ⟨hr, hL4, hK4, hD4, hl4, hn4, hk4, st⟩ := fin (some (.exit id)) f3 W3 s3
        exact ⟨_, _, hr, .inr ⟨rfl, G f3, ⟨_, f3, rfl, hD4, hl4, hn4, hIx _ _ _ _ _ hi3 hk4, hL4, hK4⟩, st⟩⟩
      | goto t =>
        obtain ⟨f3, hi3, s3⟩ := hp
        obtain ⟨hr, hL4, hK4, hD4, hl4, hn4, hk4, st⟩ := fin (some (.goto t)) f3 W3 s3
        exact ⟨_, _, hr, .inr ⟨rfl, G f3, ⟨_, f3, rfl, hD4, hl4, hn4, hIx _ _ _ _ _ hi3 hk4, hL4, hK4⟩, st⟩⟩
      | panic ch => exact hp.elim
      | outgrown => exact hp.elim
    · -- behind the iterator
      rintro e W2 ⟨⟨v, rfl⟩, hkk, f', _, hlt, (⟨xs, hS, f0, rfl, hD, hl, hn, hi, hL, hK⟩ | ⟨pre, hSp, c, f0, rfl, hD, hl, hn, hi, hL, hK⟩)⟩
      · have hk2 : Keep kfp w W2 := (hkeep kfp).trans hkk (fun _ h _ => h)
        have hr := run_endLoop (P := P) hL (by rw [hrec]; simp)
        rw [hrec] at hr
        refine ⟨none, _, hr, hdone _ xs f0 _ (Nat.le_refl _) hD hn (fun k hk => ?_) (hk2.putObj _ _ (fun h _ => by have := hkm _ h; omega)) hS (hI _ _ _ _ hi ((Keep.refl _ _).putObj _ _ (fun h _ => hl h))) ((World.putObj_heap_other (by omega)).trans hK)⟩
        have := hlt k (by rw [hG]; exact .inl hk)
        simpa using this
      · have hk2 : Keep kfp w W2 := (hkeep kfp).trans hkk (fun _ h _ => h)
        have hr := run_endLoop (P := P) hL (by rw [hrec]; simp)
        rw [hrec] at hr
        refine ⟨some c, _, hr, hstop _ c pre f0 _ (Nat.le_refl _) hD hn (fun k hk => ?_) (hk2.putObj _ _ (fun h _ => by have := hkm _ h; omega)) hSp (hIx _ _ _ _ _ hi ((Keep.refl _ _).putObj _ _ (fun h _ => hl h))) ((World.putObj_heap_other (by omega)).trans hK)⟩
        have := hlt k (by rw [hG]; exact .inl hk)
        simpa using this
end Go.Proofs.Ytndekdgpibipnaa
