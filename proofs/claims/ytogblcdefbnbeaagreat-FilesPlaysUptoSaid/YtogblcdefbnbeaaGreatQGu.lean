
/- Small helpers for the walks: endings, worlds that differ by draws alone, hidden facts. Condition: none. -/
import Derived.Test.YtogblcdefbnbeaaGreatRows
import Derived.WalkKit
import Derived.WalkSpells
import Derived.WalkLawsBesides
import Derived.Deep.QuietTactic
import Derived.BigQuiet
import Derived.Lib.Hide
import Derived.RangeFuncNested
import Derived.RangeFuncBound
import Derived.RangeFuncCalls
import Derived.RangeFuncLeaves
import Derived.RangeFuncBox
import Derived.Shelf.Abstract
import Derived.OwnWalkIn
import Derived.TacticsInMore
import Derived.LoopNIn
import Derived.LoopIn
set_option maxRecDepth 100000
namespace Go.Proofs.YtogblcdefbnbeaaGreat
section
open Go.RowKit
theorem ret_int {k : IntKind} {a b : Int} (h : a = b) : Ending.returned (.int k a) = .returned (.int k b) := by rw [h]
theorem ret_bool {a b : Bool} (h : a = b) : Ending.returned (.bool a) = .returned (.bool b) := by rw [h]
theorem ret_str {a b : ByteArray} (h : a = b) : Ending.returned (.string a) = .returned (.string b) := by rw [h]
theorem ret_val {a b : Value} (h : a = b) : Ending.returned a = .returned b := by rw [h]
def Q (w w1 : World) : Prop := ∃ n, w1 = w.drewN n
theorem Q.refl (w : World) : Q w w := ⟨0, rfl⟩
theorem Q.drewN {w w1 : World} (h : Q w w1) (n : Nat) : Q w (w1.drewN n) := by
 obtain ⟨m, rfl⟩ := h; exact ⟨m + n, by rw [World.drewN_drewN]⟩
theorem Q.drew {w w1 : World} (h : Q w w1) : Q w w1.drew := h.drewN 1
theorem Q.trans {w w1 w2 : World} (h : Q w w1) (h2 : Q w1 w2) : Q w w2 := by
 obtain ⟨m, rfl⟩ := h2; exact h.drewN m
theorem Q.below {w w1 : World} (h : Q w w1) (B : Nat) : Below B w w1 := by
 obtain ⟨m, rfl⟩ := h; exact below_drewN (Below.refl _ _) m
structure U64 (m : Nat) : Prop where
 lt : ∃ k, m + k = 18446744073709551615
theorem U64.le {m : Nat} (h : U64 m) : m ≤ 18446744073709551615 := by obtain ⟨k, hk⟩ := h.lt; omega
theorem U64.mk' {m : Nat} (h : m ≤ 18446744073709551615) : U64 m := ⟨⟨18446744073709551615 - m, by omega⟩⟩
theorem U64.of {m n : Nat} (h : U64 n) (hm : m ≤ n) : U64 m := by have := h.le; exact .mk' (by omega)
theorem U64.div {m : Nat} (h : U64 m) (k : Nat) : U64 (m / k) := h.of (Nat.div_le_self _ _)
theorem byte_eq {x y : UInt8} (h : (((x.toNat : Nat) : Int) != ((y.toNat : Nat) : Int)) = false) : x = y := by
 have h' : (x.toNat : Int) = (y.toNat : Int) := by simpa using h
 exact UInt8.toNat_inj.1 (by omega)
theorem byte_eq' {x y : UInt8} (h : (((x.toNat : Nat) : Int) == ((y.toNat : Nat) : Int)) = true) : x = y := by
 have h' : (x.toNat : Int) = (y.toNat : Int) := by simpa using h
 exact UInt8.toNat_inj.1 (by omega)
theorem byte_ne' {x y : UInt8} (h : (((x.toNat : Nat) : Int) == ((y.toNat : Nat) : Int)) = false) : x ≠ y := by
 intro e; rw [e] at h; simp at h
theorem byte_lt (x : UInt8) : x.toNat ≤ 255 := by have := x.toNat_lt; omega
end
section
open Go.RowKit Go.Shelf
structure Keep (fp : Nat → Prop) (W W' : World) : Prop where
  os : W'.os = W.os
  tape : W'.tape = W.tape
  output : W'.output = W.output
  size : W.heap.size ≤ W'.heap.size
  block : ∀ k, fp k → k < W.heap.size → W'.heap[k]? = W.heap[k]?
theorem Keep.refl (fp : Nat → Prop) (W : World) : Keep fp W W := ⟨rfl, rfl, rfl, Nat.le_refl _, fun _ _ _ => rfl⟩
theorem Keep.trans {fp fp' : Nat → Prop} {A B C : World} (h : Keep fp A B) (k : Keep fp' B C) (hs : ∀ i, fp i → i < A.heap.size → fp' i) : Keep fp A C :=
  ⟨k.os.trans h.os, k.tape.trans h.tape, k.output.trans h.output, Nat.le_trans h.size k.size, fun i hi hl => (k.block i (hs i hi hl) (Nat.lt_of_lt_of_le hl h.size)).trans (h.block i hi hl)⟩
theorem Keep.mono {fp fp' : Nat → Prop} {A B : World} (h : Keep fp A B) (hs : ∀ i, fp' i → i < A.heap.size → fp i) : Keep fp' A B :=
  ⟨h.os, h.tape, h.output, h.size, fun i hi hl => h.block i (hs i hi hl) hl⟩
theorem Keep.of_grownBy {fp : Nat → Prop} {W W' : World} {row : Option Nat} (h : W.grownBy W' row) (hr : ∀ k, row = some k → k < W.heap.size → ¬ fp k) : Keep fp W W' :=
  ⟨h.os, h.tape, h.output, h.size, fun k hk hl => h.block k hl (fun e => hr k e.symm hl hk)⟩
theorem Keep.of_below {fp : Nat → Prop} {B : Nat} {W W' : World} (h : Below B W W') (hr : ∀ k, fp k → k < W.heap.size → k < B) : Keep fp W W' :=
  ⟨h.os, h.tape, h.output, h.size, fun k hk hl => h.block k (hr k hk hl)⟩
theorem Keep.alloc {fp : Nat → Prop} {A W : World} (h : Keep fp A W) (o : Obj) : Keep fp A (W.alloc o) :=
  h.trans (fp' := fp) (Keep.of_grownBy (World.grownBy_alloc W o none) (fun k e => by cases e)) (fun _ hi _ => hi)
theorem Keep.drewN {fp : Nat → Prop} {A W : World} (h : Keep fp A W) (n : Nat) : Keep fp A (W.drewN n) := ⟨h.os, h.tape, h.output, h.size, h.block⟩
theorem Keep.drew {fp : Nat → Prop} {A W : World} (h : Keep fp A W) : Keep fp A W.drew := ⟨h.os, h.tape, h.output, h.size, h.block⟩
theorem Keep.putObj {fp : Nat → Prop} {A W : World} (h : Keep fp A W) (l : Nat) (o : Obj) (hl : fp l → l < A.heap.size → False) : Keep fp A (W.putObj l o) :=
  h.trans (fp' := fun k => fp k ∧ k < A.heap.size) (Keep.of_grownBy (grownBy_putObj' W l o) (fun k e _ hk => by cases e; exact hl hk.1 hk.2)) (fun _ hi hl => ⟨hi, hl⟩)
theorem Keep.setCell {fp : Nat → Prop} {A W : World} (h : Keep fp A W) (b o : Nat) (v : Value) (hl : fp b → b < A.heap.size → False) : Keep fp A (W.setCell ⟨b, o, none⟩ v) :=
  h.trans (fp' := fun k => fp k ∧ k < A.heap.size) ⟨rfl, rfl, rfl, by simp [World.setCell], fun k hk _ => Below.heap_setCell _ _ _ k (fun e => by subst e; exact hl hk.1 hk.2)⟩ (fun _ hi hl => ⟨hi, hl⟩)
theorem Keep.grown {fp : Nat → Prop} {A W W' : World} {row : Option Nat} (h : Keep fp A W) (hg : W.grownBy W' row) (hr : ∀ k, row = some k → fp k → k < A.heap.size → False) : Keep fp A W' :=
  h.trans (fp' := fun k => fp k ∧ k < A.heap.size) (Keep.of_grownBy hg (fun k e _ hk => hr k e hk.1 hk.2)) (fun _ hi hl => ⟨hi, hl⟩)
theorem Keep.beyond {fp : Nat → Prop} {A W W' : World} (h : Keep fp A W) (hb : Below W.heap.size W W') : Keep fp A W' :=
  h.trans (fp' := fp) (Keep.of_below hb (fun _ _ hl => hl)) (fun _ hi _ => hi)
theorem Keep.cell {fp : Nat → Prop} {W W' : World} (h : Keep fp W W') {b o : Nat} (hb : fp b) {v : Value} (hc : W.cell? ⟨b, o, none⟩ = some v) : W'.cell? ⟨b, o, none⟩ = some v := by
  obtain ⟨ob, ho, _⟩ := not_walk_of_cell hc
  exact (World.cell?_of_block (a := ⟨b, o, none⟩) (h.block b hb (Array.getElem?_eq_some_iff.1 ho).1)).trans hc
theorem Keep.boxed {fp : Nat → Prop} {W W' : World} (h : Keep fp W W') {b : Nat} (hb : fp b) {t : TypeId} {v : Value} (hc : Boxed W b t v) : Boxed W' b t v := (h.block b hb hc.lt).trans hc
theorem Keep.ownsRow {fp : Nat → Prop} {W W' : World} (h : Keep fp W W') {base : Nat} {e : TypeId} {size n : Nat} {v : Value} {xs : List Value} (hr : W.ownsRow base e size v n xs) (hb : ∀ k, v.ownBlock = some k → fp k) : W'.ownsRow base e size v n xs := by
  refine ⟨hr.1, ?_⟩
  rcases hr.2 with h0 | ⟨g, cap, cur, rfl, hb1, hg, rest⟩
  · exact .inl h0
  · exact .inr ⟨g, cap, cur, rfl, hb1, (h.block g (hb g rfl) (Array.getElem?_eq_some_iff.1 hg).1).trans hg, rest⟩
theorem Keep.below {fp : Nat → Prop} {A W W' : World} {B : Nat} (h : Keep fp W W') (hb : Below B A W) (hB : B ≤ A.heap.size) (hf : ∀ k, k < B → fp k) : Below B A W' :=
  ⟨h.os.trans hb.os, h.tape.trans hb.tape, h.output.trans hb.output, Nat.le_trans hb.size h.size, fun k hk => (h.block k (hf k hk) (by have := hb.size; omega)).trans (hb.block k hk)⟩
structure Step (fp fp' : Nat → Prop) (W W' : World) : Prop where
  keep : Keep (fun k => ¬ fp k) W W'
  new : ∀ k, fp' k → fp k ∨ W.heap.size ≤ k
  lt : ∀ k, fp' k → k < W'.heap.size
theorem Step.refl {fp : Nat → Prop} {W : World} (h : ∀ k, fp k → k < W.heap.size) : Step fp fp W W := ⟨Keep.refl _ _, fun _ h => .inl h, h⟩
theorem Step.trans {f g h : Nat → Prop} {A B C : World} (s : Step f g A B) (t : Step g h B C) : Step f h A C :=
  ⟨s.keep.trans t.keep (fun i hi hl hg => by rcases s.new i hg with h1 | h1; exact hi h1; omega),
   fun k hk => by rcases t.new k hk with h1 | h1; exact s.new k h1; exact .inr (Nat.le_trans s.keep.size h1), t.lt⟩
theorem Step.other {fp fp' : Nat → Prop} {W W' : World} (s : Step fp fp' W W') {k : Nat} (hk : ¬ fp k) (hl : k < W.heap.size) : ¬ fp' k := fun h => by
  rcases s.new k h with h1 | h1
  · exact hk h1
  · omega
def Abide {β : Type} (J : β → (Nat → Prop) → World → Prop) : Prop := ∀ s fp W W', J s fp W → Keep fp W W' → J s fp W'
def SeqEnd {α : Type} (kfp : Nat → Prop) (S Sp : List α → Prop) (J Jx : List α → (Nat → Prop) → World → Prop) (fp : Nat → Prop) (W : World) (e : Ending) (W' : World) : Prop :=
  (∃ v, e = .returned v) ∧ Keep kfp W W' ∧ ∃ fp', (∀ k, fp' k → fp k ∨ W.heap.size ≤ k) ∧ (∀ k, fp' k → k < W'.heap.size) ∧ ((∃ xs, S xs ∧ J xs fp' W') ∨ (∃ pre, Sp pre ∧ Jx pre fp' W'))
theorem SeqEnd.all {α : Type} {kfp : Nat → Prop} {S Sp : List α → Prop} {J Jx : List α → (Nat → Prop) → World → Prop} {fp fp' : Nat → Prop} {W W' : World} {v : Value} (hk : Keep kfp W W') (hn : ∀ k, fp' k → fp k ∨ W.heap.size ≤ k) (hl : ∀ k, fp' k → k < W'.heap.size) (xs : List α) (hS : S xs) (hJ : J xs fp' W') :
    SeqEnd kfp S Sp J Jx fp W (.returned v) W' := ⟨⟨v, rfl⟩, hk, fp', hn, hl, .inl ⟨xs, hS, hJ⟩⟩
theorem SeqEnd.part {α : Type} {kfp : Nat → Prop} {S Sp : List α → Prop} {J Jx : List α → (Nat → Prop) → World → Prop} {fp fp' : Nat → Prop} {W W' : World} {v : Value} (hk : Keep kfp W W') (hn : ∀ k, fp' k → fp k ∨ W.heap.size ≤ k) (hl : ∀ k, fp' k → k < W'.heap.size) (xs : List α) (hS : Sp xs) (hJ : Jx xs fp' W') :
    SeqEnd kfp S Sp J Jx fp W (.returned v) W' := ⟨⟨v, rfl⟩, hk, fp', hn, hl, .inr ⟨xs, hS, hJ⟩⟩
def SeqF {α : Type} (F : Fence) (n : Nat) (P : Program) (g : Nat) (lb : Array Value) (encs : α → Array Value) (mfp kfp : Nat → Prop) (S Sp : List α → Prop) (N : Nat) (w : World) : Prop :=
  ∀ (l : Nat) (J Jx : List α → (Nat → Prop) → World → Prop) (W : World) (fp : Nat → Prop), Keep mfp w W → (∀ k, fp k → ¬ mfp k) → (∀ k, fp k → k < W.heap.size) → Abide J → Abide Jx →
    (∀ pre x fp1 W1, J pre fp1 W1 → (∀ k, fp1 k → k < W1.heap.size) → pre.length < N → YieldAt F (n - 1) P l (encs x) W1 fun e W' =>
      (e = .returned (.bool true) ∧ ∃ fp', J (pre ++ [x]) fp' W' ∧ Step fp1 fp' W1 W') ∨ (e = .returned (.bool false) ∧ ∃ fp', Jx (pre ++ [x]) fp' W' ∧ Step fp1 fp' W1 W')) →
    J [] fp W →
    CallsIn F n P g (#[.func (.yield l) #[] #[]] ++ lb) W (SeqEnd kfp S Sp J Jx fp W)
def fpPost {α : Type} (I : List α → (Nat → Prop) → World → Prop) (Ix : Code → List α → (Nat → Prop) → World → Prop) (xs : List α) (fp : Nat → Prop) (W : World) : Exit → Act → World → Prop
  | .normal, _, W' => ∃ fp', I xs fp' W' ∧ Step fp fp' W W'
  | .ret, _, W' => ∃ fp', Ix .ret xs fp' W' ∧ Step fp fp' W W'
  | .exit id, _, W' => ∃ fp', Ix (.exit id) xs fp' W' ∧ Step fp fp' W W'
  | .goto t, _, W' => ∃ fp', Ix (.goto t) xs fp' W' ∧ Step fp fp' W W'
  | .panic _, _, _ => False
  | .outgrown, _, _ => False
theorem fold1 (p : Tmp) (v : Value) (t : Array Value) : (#[p].zip #[v]).foldl (fun t x => match x with | (p, v) => t.setIfInBounds p v) t = t.setIfInBounds p v := by simp
theorem fold2 (p p2 : Tmp) (v v2 : Value) (t : Array Value) : (#[p, p2].zip #[v, v2]).foldl (fun t x => match x with | (p, v) => t.setIfInBounds p v) t = (t.setIfInBounds p v).setIfInBounds p2 v2 := by simp
variable {F : Fence} {n : Nat} {P : Program} {w : World}
end
section
open Go.RowKit
def Own (B : Nat) (e : TypeId) (size : Nat) (v : Value) (n : Nat) (xs : List Value) (W0 w : World) : Prop :=
  w.ownsRow B e size v n xs ∧ Below B W0 w ∧ B ≤ w.heap.size
theorem Own.nil {e : TypeId} {size : Nat} {W0 w : World} {B : Nat} (h : Below B W0 w) (hB : B ≤ w.heap.size) : Own B e size (.slice none 0 0) 0 [] W0 w :=
  ⟨World.ownsRow_nil _ _ _ _, h, hB⟩
theorem Own.below {B : Nat} {e : TypeId} {size : Nat} {v : Value} {n : Nat} {xs : List Value} {W0 w : World} (h : Own B e size v n xs W0 w) : Below B W0 w := h.2.1
theorem Own.length {B : Nat} {e : TypeId} {size : Nat} {v : Value} {n : Nat} {xs : List Value} {W0 w : World} (h : Own B e size v n xs W0 w) : xs.length = n * size := h.1.1
theorem Own.grown {B : Nat} {e : TypeId} {size : Nat} {v v' : Value} {n n' : Nat} {xs xs' : List Value} {W0 w w' : World} (h : Own B e size v n xs W0 w) (ho : w'.ownsRow B e size v' n' xs') (hg : w.grownBy w' v.ownBlock) :
    Own B e size v' n' xs' W0 w' :=
  ⟨ho, h.2.1.grown hg h.2.2 (fun k hk => (h.1.lt k hk).1), Nat.le_trans h.2.2 hg.size⟩
theorem Own.alloc {B : Nat} {e : TypeId} {size : Nat} {v : Value} {n : Nat} {xs : List Value} {W0 w : World} (h : Own B e size v n xs W0 w) (o : Obj) : Own B e size v n xs W0 (w.alloc o) :=
  ⟨h.1.alloc o, h.2.1.alloc h.2.2 o, Nat.le_trans h.2.2 ((Below.refl 0 w).alloc (Nat.zero_le _) o).size⟩
theorem Own.drewN {B : Nat} {e : TypeId} {size : Nat} {v : Value} {n : Nat} {xs : List Value} {W0 w : World} (h : Own B e size v n xs W0 w) (q : Nat) : Own B e size v n xs W0 (w.drewN q) :=
  ⟨h.1, ⟨h.2.1.os, h.2.1.tape, h.2.1.output, h.2.1.size, h.2.1.block⟩, h.2.2⟩
theorem Own.drew {B : Nat} {e : TypeId} {size : Nat} {v : Value} {n : Nat} {xs : List Value} {W0 w : World} (h : Own B e size v n xs W0 w) : Own B e size v n xs W0 w.drew := h.drewN 1
theorem Own.beyond {B : Nat} {e : TypeId} {size : Nat} {v : Value} {n : Nat} {xs : List Value} {W0 w w1 : World} (h : Own B e size v n xs W0 w) (hb : Below w.heap.size w w1) : Own B e size v n xs W0 w1 :=
  ⟨h.1.kept (row := none) ⟨hb.os, hb.tape, hb.output, hb.size, fun k hk _ => hb.block k hk⟩ (by cases v.ownBlock <;> simp),
   h.2.1.trans (hb.mono h.2.2), Nat.le_trans h.2.2 hb.size⟩
def bcells (l : List UInt8) : List Value := l.map fun b => .int .u8 (b.toNat : Int)
theorem bcells_length (l : List UInt8) : (bcells l).length = l.length := by simp [bcells]
theorem bcells_append (l r : List UInt8) : bcells (l ++ r) = bcells l ++ bcells r := by simp [bcells]
theorem bcells_one (l : List UInt8) (c : UInt8) : bcells l ++ (#[Value.int .u8 (c.toNat : Int)] : Array Value).toList = bcells (l ++ [c]) := by simp [bcells]
section
variable {P : Program}
theorem wpList_app {ops : Array Oper} {rest : List Oper} {o : Oper} {a : Act} {Q : Exit → Act → World → Prop} (hgd : o.guard = none) (s x : Operand) (t : TypeId)
    (ho : o.op = .call { callee := .builtin .append, args := #[s, x], argTypes := #[t, t] })
    (B : Nat) (e : TypeId) (z : Value) (size bytes : Nat) (ht : P.underlying t = some (.slice e)) (hi : (P.info? e).map (fun i => (i.zero, i.size, i.bytes)) = some (some z, size, bytes)) (hzs : z.cells.size = size) (hsz : 0 < size)
    (v : Value) (n : Nat) (xs : List Value) (W0 w0 : World) (hb : Own B e size v n xs W0 w0) (hs : a.eval s = v) (cs : Array Value) (m : Nat)
    (hx : a.eval x = .slice (some ⟨w0.heap.size, 0, none⟩) m m) (hl : cs.size = m * size) (h1 : ∀ u ∈ cs.toList, u.oneCell' = true) (h63 : n + m ≤ 9223372036854775807) (hbytes : (n + m) * bytes ≤ 140737488355328)
    (h : ∀ v' w', Own B e size v' (n + m) (xs ++ cs.toList) W0 w' → wpList P ops Q rest (a.put o.dst v') w') : wpList P ops Q (o :: rest) a (w0.alloc (.cells cs e)) := by
  obtain ⟨i, hi', hz0, hz1, hz2⟩ := info_parts hi
  have hb' := hb.alloc (.cells cs e)
  refine wpList_append_own _ hgd s x t ho B e i z size bytes ht hi' hz0 hz1 hz2 hzs hsz v n xs hs hb'.1 ⟨w0.heap.size, 0, none⟩ m m cs.toList hx (by simpa using hl) ?_ h1 (by unfold maxLen; omega) hbytes hb'.2.2 ?_
  · intro j u hj
    have hw : (w0.alloc (.cells cs e)).cell? ⟨w0.heap.size, j, none⟩ = cs[j]? := World.cell?_alloc_mark w0 cs e (0, 0) j
    have ha : (⟨w0.heap.size, 0, none⟩ : Addr).add j = ⟨w0.heap.size, j, none⟩ := by rw [Addr.add_lit]; simp
    rw [ha, hw, ← Array.getElem?_toList]; exact hj
  · intro v' w' ho' hg _
    exact h v' w' (hb'.grown ho' hg)
theorem wpList_appb {ops : Array Oper} {rest : List Oper} {o : Oper} {a : Act} {Q : Exit → Act → World → Prop} (hgd : o.guard = none) (s x : Operand) (t : TypeId)
    (ho : o.op = .call { callee := .builtin .append, args := #[s, x], argTypes := #[t, t] })
    (B : Nat) (e : TypeId) (ht : P.underlying t = some (.slice e)) (hi : (P.info? e).map (fun i => (i.zero, i.size, i.bytes)) = some (some (.int .u8 0), 1, 1))
    (v : Value) (n : Nat) (l : List UInt8) (c : Int) (W0 w0 : World) (hb : Own B e 1 v n (bcells l) W0 w0) (hs : a.eval s = v)
    (hx : a.eval x = .slice (some ⟨w0.heap.size, 0, none⟩) 1 1) (hc : 0 ≤ c ∧ c ≤ 255) (hbytes : l.length + 1 ≤ 140737488355328)
    (h : ∀ v' w', Own B e 1 v' (l ++ [UInt8.ofNat c.toNat]).length (bcells (l ++ [UInt8.ofNat c.toNat])) W0 w' → wpList P ops Q rest (a.put o.dst v') w') : wpList P ops Q (o :: rest) a (w0.alloc (.cells #[.int .u8 c] e)) := by
  have hn : n = l.length := by have := hb.length; rw [bcells_length] at this; omega
  subst hn
  have ec : c = ((UInt8.ofNat c.toNat).toNat : Int) := by rw [UInt8.toNat_ofNat']; omega
  refine wpList_app hgd s x t ho B e (.int .u8 0) 1 1 ht hi rfl (by decide) v l.length (bcells l) W0 w0 hb hs #[.int .u8 c] 1 hx rfl (by simp [Value.oneCell']) (by omega) (by omega) ?_
  intro v' w' hown
  rw [ec, bcells_one] at hown
  exact h v' w' (by simpa using hown)
theorem run_string_own (w : World) (src dst e : TypeId) {B : Nat} {W0 : World} {v : Value} {n : Nat} {l : List UInt8} (hs : P.underlying src = some (.slice e)) (he : P.underlying e = some (.int .u8)) (hd : P.underlying dst = some .string)
    (hb : Own B e 1 v n (bcells l) W0 w) : (convert src dst v).run P w = .ok (.string ⟨l.toArray⟩) w := by
  have hn : n = l.length := by have := hb.length; rw [bcells_length] at this; omega
  subst hn
  rcases hb.1.2 with ⟨rfl, h0⟩ | ⟨g, cap, cur, rfl, _, hg, hle, hm, hc, ht⟩
  · have : l = [] := List.length_eq_zero_iff.1 h0
    subst this
    rw [run_convert_bytes_string w src dst e none 0 0 hs he hd]
    have := run_bytesToString (P := P) w ⟨0, 0, none⟩ 0 0 [] (by have := run_loadCells_list (P := P) w ⟨0, 0, none⟩ [] (by simp); simpa using this)
    simp [Conv.bytesToString] at this ⊢
    rfl
  · refine run_convert_bytes_back w src dst e ⟨g, 0, none⟩ cap l hs he hd ?_
    intro j hj
    have hcell := World.ownsRow.cellAt hb.1 j (by omega)
    have ha : (⟨g, 0, none⟩ : Addr).add j = ⟨g, j, none⟩ := by rw [Addr.add_lit]; simp
    rw [ha, hcell]
    simp [bcells, hj]
theorem wpList_str {ops : Array Oper} {rest : List Oper} {o : Oper} {a : Act} {Q : Exit → Act → World → Prop} {w : World} (hgd : o.guard = none) (x : Operand) (src dst e : TypeId)
    (ho : o.op = .convert src dst x) (hs : P.underlying src = some (.slice e)) (he : P.underlying e = some (.int .u8)) (hd : P.underlying dst = some .string)
    {B : Nat} {W0 : World} {v : Value} {n : Nat} {l : List UInt8} (hx : a.eval x = v) (hb : Own B e 1 v n (bcells l) W0 w)
    (h : wpList P ops Q rest (a.put o.dst (.string ⟨l.toArray⟩)) w) : wpList P ops Q (o :: rest) a w := by
  refine wpList_plain hgd fun K hK => ?_
  unfold Oper.wp execOp
  simp only [ho, hx, Sem.run_bind, run_string_own w src dst e hs he hd hb, Result.andThen_ok, Sem.run_pure]
  exact hK _ _ h
end
end
section
open Go.RowKit Go.Shelf
def SeqG {α : Type} (F : Fence) (n : Nat) (P : Program) (g : Nat) (lb : Array Value) (encs : α → Array Value) (mfp kfp : Nat → Prop) (S Sp : List α → Prop) (w : World) : Prop :=
 ∀ (l : Nat) (J Jx : List α → (Nat → Prop) → World → Prop) (W : World) (fp : Nat → Prop), Keep mfp w W → (∀ k, fp k → ¬ mfp k) → (∀ k, fp k → k < W.heap.size) → Abide J → Abide Jx →
  (∀ pre x fp1 W1, J pre fp1 W1 → (∀ k, fp1 k → k < W1.heap.size) → Sp (pre ++ [x]) → YieldAt F (n - 1) P l (encs x) W1 fun e W' =>
   (e = .returned (.bool true) ∧ ∃ fp', J (pre ++ [x]) fp' W' ∧ Step fp1 fp' W1 W') ∨ (e = .returned (.bool false) ∧ ∃ fp', Jx (pre ++ [x]) fp' W' ∧ Step fp1 fp' W1 W')) →
  J [] fp W →
  CallsIn F n P g (#[.func (.yield l) #[] #[]] ++ lb) W (SeqEnd kfp S Sp J Jx fp W)
variable {F : Fence} {n : Nat} {P : Program} {w : World}
theorem wpIn_rangeG {α : Type} {g : Operand} {ps : Array Tmp} {assign body : Code} {Q : Exit → Act → World → Prop} {a : Act} {w : World}
  (hro : F.round = none) (h1 : 1 ≤ n) {gf : Nat} {lb : Array Value} (hg : a.eval g = .func (.func gf) #[] lb) (hFg : F.fn gf) (eg : ∀ args w, (callFunc gf args).run P w = .ok (.enter gf args) w)
  {encs : α → Array Value} {mfp kfp : Nat → Prop} {S Sp : List α → Prop} (hseq : SeqG F (n - 1) P gf lb encs mfp kfp S Sp w) (hps : ∀ x, (encs x).size = ps.size) (hm : ∀ k, mfp k → k < w.heap.size) (hkm : ∀ k, kfp k → k < w.heap.size)
  (I : List α → (Nat → Prop) → World → Prop) (Ix : Code → List α → (Nat → Prop) → World → Prop) (Ax : List α → α → Act → (Nat → Prop) → World → Prop)
  (hI : Abide I) (hIx : ∀ c, Abide (Ix c)) (hAx : ∀ pre x a', Abide (fun (_ : Unit) => Ax pre x a'))
  (fp : Nat → Prop) (hfm : ∀ k, fp k → ¬ mfp k) (hfl : ∀ k, fp k → k < w.heap.size) (h0 : I [] fp w)
  (hassign : ∀ (l : Nat) (pre : List α) (x : α) (fp : Nat → Prop) (W : World) (K : Act → World → Prop), I pre fp W → (∀ k, fp k → k < W.heap.size) → Sp (pre ++ [x]) → (∀ a' fp' W', Step fp fp' W W' → Ax pre x a' fp' W' → K a' W') →
   assign.wpIn (F.inRound l) (n - 1 - 1) P (Exit.then K (fun _ _ _ => False)) { tmps := (ps.zip (encs x)).foldl (fun t (p, v) => t.setIfInBounds p v) a.tmps, defers := [] } W)
  (hbody : ∀ (l : Nat) (pre : List α) (x : α) (a' : Act) (fp : Nat → Prop) (W : World), Ax pre x a' fp W → (∀ k, fp k → k < W.heap.size) → Sp (pre ++ [x]) → body.wpIn (F.inRound l) (n - 1 - 1) P (fpPost I Ix (pre ++ [x]) fp W) a' W)
  (hdone : ∀ (D : Nat) (xs : List α) (fp' : Nat → Prop) (W : World), w.heap.size ≤ D → ¬ fp' D → (∀ k, fp' k → fp k ∨ w.heap.size ≤ k) → (∀ k, fp' k → k < W.heap.size) → Keep kfp w W → S xs → I xs fp' W → W.heap[D]? = some (.deferred (some [])) → Q .normal { a with defers := { target := .collected D, args := #[] } :: a.defers } W)
  (hstop : ∀ (D : Nat) (c : Code) (pre : List α) (fp' : Nat → Prop) (W : World), w.heap.size ≤ D → ¬ fp' D → (∀ k, fp' k → fp k ∨ w.heap.size ≤ k) → (∀ k, fp' k → k < W.heap.size) → Keep kfp w W → Sp pre → Ix c pre fp' W → W.heap[D]? = some (.deferred (some [])) → c.wpIn F n P Q { a with defers := { target := .collected D, args := #[] } :: a.defers } W) :
  (Code.rangeFunc g ps assign body).wpIn F n P Q a w := by
 refine wpIn_rangeFunc ?_
 intro fn hfn
 rw [hro]
 obtain ⟨rec, hrec⟩ : ∃ rec : LoopState → Option Code → Loop, rec = fun st pe => { state := st, pending := pe, fn, tmps := a.tmps, params := ps, assign, body, defers := w.heap.size } := ⟨_, rfl⟩
 obtain ⟨W1, hW1⟩ : ∃ W1, (w.alloc (.deferred (some []))).alloc (.loop (rec .ready none)) = W1 := ⟨_, rfl⟩
 have hL1 : W1.heap[w.heap.size + 1]? = some (.loop (rec .ready none)) := by
  rw [← hW1]; have := World.alloc_heap_new (w.alloc (.deferred (some []))) (.loop (rec .ready none)); rwa [World.size_alloc] at this
 have hK1 : W1.heap[w.heap.size]? = some (.deferred (some [])) := by
  rw [← hW1]; exact (Below.heap_alloc _ _ _ (by simp)).trans (World.alloc_heap_new w _)
 have hkeep : ∀ f : Nat → Prop, Keep f w W1 := fun f => by rw [← hW1]; exact ((Keep.refl f w).alloc _).alloc _
 have hsz1 : W1.heap.size = w.heap.size + 2 := by rw [← hW1]; simp
 -- the caller's invariant with what the loop keeps for itself
 obtain ⟨G, hG⟩ : ∃ G : (Nat → Prop) → Nat → Prop, G = fun f k => f k ∨ k = w.heap.size ∨ k = w.heap.size + 1 := ⟨_, rfl⟩
 refine ⟨w.heap.size + 1, [{ target := .collected w.heap.size, args := #[] }], W1, { target := .fn (.func gf) lb, args := #[.func (.yield (w.heap.size + 1)) #[] #[]] }, W1, gf,
  #[.func (.yield (w.heap.size + 1)) #[] #[]] ++ lb, W1, ?_, ?_, ?_, ?_, fun _ => h1, ?_⟩
 ·rw [← hW1, hrec]; exact run_enterLoop_outer _ _ _ _ _
 ·simp only [resolve, hg]
  simp [go_sem]
 ·intro f' hf'; simp [Target.leads] at hf'; subst hf'; exact hFg
 ·simp [invoke, go_sem, eg]
 ·refine (hseq (w.heap.size + 1)
   (fun pre f W => ∃ f0, f = G f0 ∧ ¬ f0 w.heap.size ∧ ¬ f0 (w.heap.size + 1) ∧ (∀ k, f0 k → fp k ∨ w.heap.size ≤ k) ∧ I pre f0 W ∧ W.heap[w.heap.size + 1]? = some (.loop (rec .ready none)) ∧ W.heap[w.heap.size]? = some (.deferred (some [])))
   (fun pre f W => ∃ c f0, f = G f0 ∧ ¬ f0 w.heap.size ∧ ¬ f0 (w.heap.size + 1) ∧ (∀ k, f0 k → fp k ∨ w.heap.size ≤ k) ∧ Ix c pre f0 W ∧ W.heap[w.heap.size + 1]? = some (.loop (rec .done (some c))) ∧ W.heap[w.heap.size]? = some (.deferred (some [])))
   W1 (G fp) (hkeep _) ?_ ?_ ?_ ?_ ?_ ⟨fp, rfl, fun h => by have := hfl _ h; omega, fun h => by have := hfl _ h; omega, fun _ h => .inl h, hI _ _ _ _ h0 (hkeep _), hL1, hK1⟩).mono ?_
  ·intro k hk hmk
   have := hm k hmk
   rw [hG] at hk
   rcases hk with hk | hk | hk
   ·exact hfm k hk hmk
   ·omega
   ·omega
  ·intro k hk
   rw [hG] at hk
   rcases hk with hk | hk | hk
   ·have := hfl k hk; omega
   ·omega
   ·omega
  ·rintro pre f W W' ⟨f0, rfl, hD, hl, hn, hi, hL, hK⟩ hkp
   rw [hG] at hkp
   refine ⟨f0, rfl, hD, hl, hn, hI _ _ _ _ hi (hkp.mono (fun i h _ => .inl h)), (hkp.block _ (.inr (.inr rfl)) (Array.getElem?_eq_some_iff.1 hL).1).trans hL, (hkp.block _ (.inr (.inl rfl)) (Array.getElem?_eq_some_iff.1 hK).1).trans hK⟩
  ·rintro pre f W W' ⟨c, f0, rfl, hD, hl, hn, hi, hL, hK⟩ hkp
   rw [hG] at hkp
   refine ⟨c, f0, rfl, hD, hl, hn, hIx c _ _ _ _ hi (hkp.mono (fun i h _ => .inl h)), (hkp.block _ (.inr (.inr rfl)) (Array.getElem?_eq_some_iff.1 hL).1).trans hL, (hkp.block _ (.inr (.inl rfl)) (Array.getElem?_eq_some_iff.1 hK).1).trans hK⟩
  ·-- one round
   rintro pre x f W ⟨f0, rfl, hD, hl, hn, hi, hL, hK⟩ hlt hlen
   have hLl : w.heap.size + 1 < W.heap.size := (Array.getElem?_eq_some_iff.1 hL).1
   have hlt0 : ∀ k, f0 k → k < W.heap.size := fun k hk => hlt k (by rw [hG]; exact .inl hk)
   have hy := run_yield (P := P) (args := encs x) hL (by rw [hrec]; exact hps x)
   rw [hrec] at hy
   refine ⟨fn, _, assign, body, hy, roundIn_of_wpIn hfn (hassign _ pre x f0 W _ hi hlt0 hlen ?_)⟩
   clear hy
   intro a' fa Wa sa hax
   have hLa := (sa.keep.block _ hl hLl).trans hL
   have hKa := (sa.keep.block _ hD (by omega)).trans hK
   have hDa := sa.other hD (by omega)
   have hla := sa.other hl hLl
   refine ⟨_, run_beginRound hLa (by rw [hrec]), ?_⟩
   have hLla : w.heap.size + 1 < Wa.heap.size := (Array.getElem?_eq_some_iff.1 hLa).1
   have hL2 : (Wa.putObj (w.heap.size + 1) (.loop { rec .ready none with state := .busy })).heap[w.heap.size + 1]? = some (.loop { rec .ready none with state := .busy }) := World.putObj_heap_same hLla
   have hK2 : (Wa.putObj (w.heap.size + 1) (.loop { rec .ready none with state := .busy })).heap[w.heap.size]? = some (.deferred (some [])) := (World.putObj_heap_other (by omega)).trans hKa
   have hkp2 : ∀ fx : Nat → Prop, ¬ fx (w.heap.size + 1) → Keep fx Wa (Wa.putObj (w.heap.size + 1) (.loop { rec .ready none with state := .busy })) := fun fx hx => (Keep.refl _ _).putObj _ _ (fun h _ => hx h)
   have hszp : (Wa.putObj (w.heap.size + 1) (.loop { rec .ready none with state := .busy })).heap.size = Wa.heap.size := by simp
   generalize Wa.putObj (w.heap.size + 1) (.loop { rec .ready none with state := .busy }) = Wb at hL2 hK2 hkp2 hszp ⊢
   refine wpIn_mono (hbody _ pre x a' fa Wb (hAx pre x a' () fa Wa Wb hax (hkp2 _ hla)) (fun k hk => by rw [hszp]; exact sa.lt k hk) hlen) ?_
   have fin : ∀ (jump : Option Code) (f3 : Nat → Prop) (W3 : World), Step fa f3 Wb W3 →
     (Instr.endRound (w.heap.size + 1) jump).run P W3 = .ok (.bool jump.isNone) (W3.putObj (w.heap.size + 1) (.loop (rec (if jump.isNone then .ready else .done) jump))) ∧
     (W3.putObj (w.heap.size + 1) (.loop (rec (if jump.isNone then .ready else .done) jump))).heap[w.heap.size + 1]? = some (.loop (rec (if jump.isNone then .ready else .done) jump)) ∧
     (W3.putObj (w.heap.size + 1) (.loop (rec (if jump.isNone then .ready else .done) jump))).heap[w.heap.size]? = some (.deferred (some [])) ∧
     ¬ f3 w.heap.size ∧ ¬ f3 (w.heap.size + 1) ∧ (∀ k, f3 k → fp k ∨ w.heap.size ≤ k) ∧
     Keep f3 W3 (W3.putObj (w.heap.size + 1) (.loop (rec (if jump.isNone then .ready else .done) jump))) ∧
     Step (G f0) (G f3) W (W3.putObj (w.heap.size + 1) (.loop (rec (if jump.isNone then .ready else .done) jump))) := fun jump f3 W3 s3 => by
    have hL3 := (s3.keep.block _ hla (by rw [hszp]; exact hLla)).trans hL2
    have hK3 := (s3.keep.block _ hDa (by rw [hszp]; omega)).trans hK2
    have hl3 : ¬ f3 (w.heap.size + 1) := s3.other hla (by rw [hszp]; exact hLla)
    have hD3 : ¬ f3 w.heap.size := s3.other hDa (by rw [hszp]; omega)
    have hr := run_endRound (P := P) jump hL3
    rw [hrec] at hr ⊢
    have hLl3 := (Array.getElem?_eq_some_iff.1 hL3).1
    have hnew3 : ∀ k, f3 k → f0 k ∨ W.heap.size ≤ k := fun k hk => by
     rcases s3.new k hk with h | h
     ·exact sa.new k h
     ·right; have := sa.keep.size; rw [hszp] at h; omega
    refine ⟨hr, World.putObj_heap_same hLl3, (World.putObj_heap_other (by omega)).trans hK3, hD3, hl3, ?_, (Keep.refl _ _).putObj _ _ (fun h _ => hl3 h), ?_, ?_, ?_⟩
    ·intro k hk
     rcases hnew3 k hk with h | h
     ·exact hn k h
     ·right; omega
    ·have k1 : Keep (fun k => ¬ G f0 k) W Wa := sa.keep.mono (fun i h _ hx => h (by rw [hG]; exact .inl hx))
     have k2 : Keep (fun k => ¬ G f0 k) W Wb := k1.trans (fp' := fun k => k ≠ w.heap.size + 1) (hkp2 _ (fun h => h rfl)) (fun i h _ e => h (by rw [hG]; exact .inr (.inr e)))
     have k3 : Keep (fun k => ¬ G f0 k) W W3 := k2.trans s3.keep (fun i h hl hx => by
      rcases sa.new i hx with h1 | h1
      ·exact h (by rw [hG]; exact .inl h1)
      ·omega)
     exact k3.putObj _ _ (fun h _ => h (by rw [hG]; exact .inr (.inr rfl)))
    ·intro k hk
     rw [hG] at hk ⊢
     rcases hk with h | h | h
     ·rcases hnew3 k h with h | h
      ·exact .inl (.inl h)
      ·exact .inr h
     ·exact .inl (.inr (.inl h))
     ·exact .inl (.inr (.inr h))
    ·intro k hk
     rw [hG] at hk
     rw [show (W3.putObj (w.heap.size + 1) _).heap.size = W3.heap.size from by simp]
     rcases hk with h | h | h
     ·exact s3.lt k h
     ·omega
     ·omega
   rintro e a3 W3 hp
   cases e with
   | normal =>
    obtain ⟨f3, hi3, s3⟩ := hp
    obtain ⟨hr, hL4, hK4, hD4, hl4, hn4, hk4, st⟩ := fin none f3 W3 s3
    exact ⟨_, _, hr, .inl ⟨rfl, G f3, ⟨f3, rfl, hD4, hl4, hn4, hI _ _ _ _ hi3 hk4, hL4, hK4⟩, st⟩⟩
   | ret =>
    obtain ⟨f3, hi3, s3⟩ := hp
    obtain ⟨hr, hL4, hK4, hD4, hl4, hn4, hk4, st⟩ := fin (some .ret) f3 W3 s3
    exact ⟨_, _, hr, .inr ⟨rfl, G f3, ⟨_, f3, rfl, hD4, hl4, hn4, hIx _ _ _ _ _ hi3 hk4, hL4, hK4⟩, st⟩⟩
   | exit id =>
    obtain ⟨f3, hi3, s3⟩ := hp
    obtain ⟨hr, hL4, hK4, hD4, hl4, hn4, hk4, st⟩ := fin (some (.exit id)) f3 W3 s3
    exact ⟨_, _, hr, .inr ⟨rfl, G f3, ⟨_, f3, rfl, hD4, hl4, hn4, hIx _ _ _ _ _ hi3 hk4, hL4, hK4⟩, st⟩⟩
   | goto t =>
    obtain ⟨f3, hi3, s3⟩ := hp
    obtain ⟨hr, hL4, hK4, hD4, hl4, hn4, hk4, st⟩ := fin (some (.goto t)) f3 W3 s3
    exact ⟨_, _, hr, .inr ⟨rfl, G f3, ⟨_, f3, rfl, hD4, hl4, hn4, hIx _ _ _ _ _ hi3 hk4, hL4, hK4⟩, st⟩⟩
   | panic ch => exact hp.elim
   | outgrown => exact hp.elim
  ·-- behind the iterator
   rintro e W2 ⟨⟨v, rfl⟩, hkk, f', _, hlt, (⟨xs, hS, f0, rfl, hD, hl, hn, hi, hL, hK⟩ | ⟨pre, hSp, c, f0, rfl, hD, hl, hn, hi, hL, hK⟩)⟩
   ·have hk2 : Keep kfp w W2 := (hkeep kfp).trans hkk (fun _ h _ => h)
    have hr := run_endLoop (P := P) hL (by rw [hrec]; simp)
    rw [hrec] at hr
    refine ⟨none, _, hr, hdone _ xs f0 _ (Nat.le_refl _) hD hn (fun k hk => ?_) (hk2.putObj _ _ (fun h _ => by have := hkm _ h; omega)) hS (hI _ _ _ _ hi ((Keep.refl _ _).putObj _ _ (fun h _ => hl h))) ((World.putObj_heap_other (by omega)).trans hK)⟩
    have := hlt k (by rw [hG]; exact .inl hk)
    simpa using this
   ·have hk2 : Keep kfp w W2 := (hkeep kfp).trans hkk (fun _ h _ => h)
    have hr := run_endLoop (P := P) hL (by rw [hrec]; simp)
    rw [hrec] at hr
    refine ⟨some c, _, hr, hstop _ c pre f0 _ (Nat.le_refl _) hD hn (fun k hk => ?_) (hk2.putObj _ _ (fun h _ => by have := hkm _ h; omega)) hSp (hIx _ _ _ _ _ hi ((Keep.refl _ _).putObj _ _ (fun h _ => hl h))) ((World.putObj_heap_other (by omega)).trans hK)⟩
    have := hlt k (by rw [hG]; exact .inl hk)
    simpa using this
end
section
open Go.RowKit Go.Shelf
def mark (D : Nat) : Deferred := { target := .collected D, args := #[] }
def Marked (Ds : List Nat) (W : World) : Prop := Ds.Nodup ∧ ∀ D ∈ Ds, W.heap[D]? = some (.deferred (some []))
theorem Marked.nil (W : World) : Marked [] W := ⟨List.nodup_nil, fun _ h => by cases h⟩
theorem Marked.cons {Ds : List Nat} {W : World} {D : Nat} (h : Marked Ds W) (hD : W.heap[D]? = some (.deferred (some []))) (hn : D ∉ Ds) : Marked (D :: Ds) W :=
 ⟨List.nodup_cons.2 ⟨hn, h.1⟩, fun x hx => by rcases List.mem_cons.1 hx with rfl | hx; exact hD; exact h.2 x hx⟩
theorem Marked.lt {Ds : List Nat} {W : World} (h : Marked Ds W) : ∀ D ∈ Ds, D < W.heap.size := fun D hD => (Array.getElem?_eq_some_iff.1 (h.2 D hD)).1
theorem Marked.keep {Ds : List Nat} {W W' : World} {fp : Nat → Prop} (h : Marked Ds W) (hk : Keep fp W W') (hf : ∀ D ∈ Ds, fp D) : Marked Ds W' :=
 ⟨h.1, fun D hD => (hk.block D (hf D hD) (h.lt D hD)).trans (h.2 D hD)⟩
theorem Marked.below {Ds : List Nat} {W W' : World} (h : Marked Ds W) (hb : Below W.heap.size W W') : Marked Ds W' :=
 ⟨h.1, fun D hD => (hb.block D (h.lt D hD)).trans (h.2 D hD)⟩
theorem leaves_marks {F : Fence} {n : Nat} {P : Program} {fn : Func} {tmps : Array Value} {R : Ending → World → Prop} : ∀ (Ds : List Nat) (W : World), Marked Ds W →
  (∀ W', Keep (fun k => k ∉ Ds) W W' → ∃ v, (results fn tmps).run P W' = .ok v W' ∧ R (.returned v) W') → LeavesInM F n P fn tmps R (Ds.map mark) .returning W
 | [], W, _, hR => hR W (Keep.refl _ _)
 | D :: Ds, W, hM, hR => by
  have hD := hM.2 D (by simp)
  have hn := (List.nodup_cons.1 hM.1).1
  refine ⟨by simp, .inl ⟨D, _, rfl, run_takeDeferred hD, ?_⟩⟩
  have hk : Keep (fun k => k ≠ D) W (W.putObj D (.deferred none)) := (Keep.refl _ _).putObj _ _ (fun h _ => h rfl)
  refine leaves_marks Ds _ ⟨(List.nodup_cons.1 hM.1).2, fun x hx => ?_⟩ (fun W' hk' => hR W' (Keep.trans (fp' := fun k => k ∉ Ds) (hk.mono (fun i h _ e => h (by simp [e]))) hk' (fun i h _ hi => h (by simp [hi]))))
  exact (World.putObj_heap_other (fun e => hn (by subst e; exact hx))).trans (hM.2 x (by simp [hx]))
end
end Go.Proofs.YtogblcdefbnbeaaGreat
