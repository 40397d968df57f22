
/- A skip list in memory. Condition: none. -/
import Derived.Test.YtcfcijgnkbmlaaaWLess
import Derived.Test.YtcfcijgnkbmlaaaWFrom
import Derived.Test.YtcfcijgnkbmlaaaPlainSk
namespace Go.Proofs.Ytcfcijgnkbmlaaa
open Go.RowKit

def ndCells (x : Ver) (f : Nat → Value) : Array Value := #[.string x.key, .int .u64 (x.seq : Int), .bool x.del, .string x.val, f 0, f 1, f 2, f 3, f 4, f 5, f 6, f 7]
def tbCells (f : Nat → Value) (n by' : Int) : Array Value := #[.string .empty, .int .u64 0, .bool false, .string .empty, f 0, f 1, f 2, f 3, f 4, f 5, f 6, f 7, .int .i64 n, .int .i64 by']
/-- the block of a place (0: the head, which lies in the table) -/
def blk (T : Nat) (bs : List Nat) : Nat → Nat
  | 0 => T
  | p + 1 => bs.getD p 0
/-- in W, a table lies in block T: its versions, its towers' heights, their blocks, its count, its bytes -/
structure SkAt (W : World) (T : Nat) (xs : List Ver) (hs bs : List Nat) (n by' : Int) : Prop where
  hl : hs.length = xs.length
  bl : bs.length = xs.length
  head : W.heap[T]? = some (.cells (tbCells (Pl.lnk hs bs 0) n by') 81 (0, 0))
  node : ∀ i (h : i < xs.length), W.heap[blk T bs (i + 1)]? = some (.cells (ndCells xs[i] (Pl.lnk hs bs (i + 1))) 79 (0, 0))
  nodup : bs.Nodup
/-- the blocks that are the table's -/
def SkB (T : Nat) (bs : List Nat) (k : Nat) : Prop := k = T ∨ k ∈ bs

theorem blk_get {T : Nat} {bs : List Nat} {i : Nat} (h : i < bs.length) : blk T bs (i + 1) = bs[i] := by
  show bs.getD i 0 = _
  rw [List.getD_eq_getElem?_getD, List.getElem?_eq_getElem h]; rfl
theorem SkAt.blk_mem {W : World} {T : Nat} {xs : List Ver} {hs bs : List Nat} {n by' : Int} (h : SkAt W T xs hs bs n by') {p : Nat} (hp : p ≤ xs.length) : SkB T bs (blk T bs p) := by
  cases p with
  | zero => exact .inl rfl
  | succ p =>
    have : p < bs.length := by have := h.bl; omega
    rw [blk_get this]
    exact .inr (List.getElem_mem this)
theorem SkAt.lt {W : World} {T : Nat} {xs : List Ver} {hs bs : List Nat} {n by' : Int} (h : SkAt W T xs hs bs n by') {k : Nat} (hk : SkB T bs k) : k < W.heap.size := by
  rcases hk with rfl | hk
  · exact (Array.getElem?_eq_some_iff.1 h.head).1
  · obtain ⟨i, hi, rfl⟩ := List.getElem_of_mem hk
    have := h.node i (by have := h.bl; omega)
    rw [blk_get hi] at this
    exact (Array.getElem?_eq_some_iff.1 this).1
theorem SkAt.kept {W W' : World} {T : Nat} {xs : List Ver} {hs bs : List Nat} {n by' : Int} (h : SkAt W T xs hs bs n by') (hb : ∀ k, SkB T bs k → k < W.heap.size → W'.heap[k]? = W.heap[k]?) : SkAt W' T xs hs bs n by' :=
  ⟨h.hl, h.bl, (hb _ (.inl rfl) (h.lt (.inl rfl))).trans h.head, fun i hi => (hb _ (h.blk_mem (by omega)) (h.lt (h.blk_mem (by omega)))).trans (h.node i hi), h.nodup⟩
theorem SkAt.below {W W' : World} {T : Nat} {xs : List Ver} {hs bs : List Nat} {n by' : Int} (h : SkAt W T xs hs bs n by') (hb : Below W.heap.size W W') : SkAt W' T xs hs bs n by' := h.kept (fun k _ hk => hb.block k hk)
theorem SkAt.keep {fp : Nat → Prop} {W W' : World} {T : Nat} {xs : List Ver} {hs bs : List Nat} {n by' : Int} (h : SkAt W T xs hs bs n by') (hb : Keep fp W W') (hf : ∀ k, SkB T bs k → fp k) : SkAt W' T xs hs bs n by' := h.kept (fun k hk hl => hb.block k (hf k hk) hl)
theorem cell_of {W : World} {b o : Nat} {cs : Array Value} {t : TypeId} (h : W.heap[b]? = some (.cells cs t (0, 0))) : W.cell? ⟨b, o, none⟩ = cs[o]? := by simp [World.cell?, h]
theorem frozen_of {W : World} {b o : Nat} {cs : Array Value} {t : TypeId} (h : W.heap[b]? = some (.cells cs t (0, 0))) : W.frozen? ⟨b, o, none⟩ = false := by simp [World.frozen?, h]
theorem heap_set4m {W : World} {b : Nat} {cs : Array Value} {t : TypeId} (h : W.heap[b]? = some (.cells cs t (0, 0))) (k : Nat) (v : Value) : (W.setCell ⟨b, k, none⟩ v).heap[b]? = some (.cells (cs.setIfInBounds k v) t (0, 0)) := by
  simp [World.setCell, Array.getElem?_modify, h]
theorem eight {lv : Nat} (h : lv < 8) : lv = 0 ∨ lv = 1 ∨ lv = 2 ∨ lv = 3 ∨ lv = 4 ∨ lv = 5 ∨ lv = 6 ∨ lv = 7 := by omega
theorem SkAt.link {W : World} {T : Nat} {xs : List Ver} {hs bs : List Nat} {n by' : Int} (h : SkAt W T xs hs bs n by') {p lv : Nat} (hp : p ≤ xs.length) (hlv : lv < 8) : W.cell? ⟨blk T bs p, 4 + lv, none⟩ = some (Pl.lnk hs bs p lv) := by
  cases p with
  | zero =>
    refine (cell_of h.head).trans ?_
    rcases eight hlv with rfl | rfl | rfl | rfl | rfl | rfl | rfl | rfl <;> rfl
  | succ p =>
    refine (cell_of (h.node p (by omega))).trans ?_
    rcases eight hlv with rfl | rfl | rfl | rfl | rfl | rfl | rfl | rfl <;> rfl
theorem SkAt.link0 {W : World} {T : Nat} {xs : List Ver} {hs bs : List Nat} {n by' : Int} (h : SkAt W T xs hs bs n by') {p : Nat} (hp : p ≤ xs.length) : W.cell? ⟨blk T bs p, 4, none⟩ = some (Pl.lnk hs bs p 0) := h.link (lv := 0) hp (by omega)
theorem SkAt.frozen {W : World} {T : Nat} {xs : List Ver} {hs bs : List Nat} {n by' : Int} (h : SkAt W T xs hs bs n by') {p : Nat} (hp : p ≤ xs.length) (o : Nat) : W.frozen? ⟨blk T bs p, o, none⟩ = false := by
  cases p with
  | zero => exact frozen_of h.head
  | succ p => exact frozen_of (h.node p (by omega))
theorem SkAt.ver {W : World} {T : Nat} {xs : List Ver} {hs bs : List Nat} {n by' : Int} (h : SkAt W T xs hs bs n by') {i : Nat} (hi : i < xs.length) : VrAt (blk T bs (i + 1)) xs[i].key (xs[i].seq : Int) xs[i].del xs[i].val W :=
  ⟨(cell_of (h.node i hi)).trans rfl, (cell_of (h.node i hi)).trans rfl, (cell_of (h.node i hi)).trans rfl, (cell_of (h.node i hi)).trans rfl, h.lt (h.blk_mem (by omega))⟩
theorem SkAt.blk_ne {W : World} {T : Nat} {xs : List Ver} {hs bs : List Nat} {n by' : Int} (h : SkAt W T xs hs bs n by') {p q : Nat} (hp : p ≤ xs.length) (hq : q ≤ xs.length) (hne : p ≠ q) : blk T bs p ≠ blk T bs q := by
  have key : ∀ i, i < xs.length → T ≠ blk T bs (i + 1) := fun i hi e => by
    have h1 := h.head
    have h2 := h.node i hi
    rw [← e, h1] at h2
    injection h2 with h2
    injection h2 with _ h3 _
    exact absurd h3 (by decide)
  cases p with
  | zero =>
    cases q with
    | zero => exact absurd rfl hne
    | succ q => exact key q (by omega)
  | succ p =>
    cases q with
    | zero => exact fun e => key p (by omega) e.symm
    | succ q =>
      have h1 : p < bs.length := by have := h.bl; omega
      have h2 : q < bs.length := by have := h.bl; omega
      rw [blk_get h1, blk_get h2]
      intro e
      rcases Nat.lt_trichotomy p q with hpq | hpq | hpq
      · exact List.pairwise_iff_getElem.1 h.nodup p q h1 h2 hpq e
      · exact hne (congrArg (· + 1) hpq)
      · exact List.pairwise_iff_getElem.1 h.nodup q p h2 h1 hpq e.symm
theorem ptr_blk {T : Nat} {bs : List Nat} {j : Nat} (h : j < bs.length) : Pl.ptrO bs[j]? = .pointer (some ⟨blk T bs (j + 1), 0, none⟩) := by
  rw [List.getElem?_eq_getElem h, blk_get h]; rfl
theorem ptr_none {bs : List Nat} {j : Nat} (h : ¬ j < bs.length) : Pl.ptrO bs[j]? = .pointer none := by
  rw [List.getElem?_eq_none (by omega)]; rfl

set_option maxRecDepth 100000 in
theorem tnew_any (w : World) : Calls Try.prog 27 #[] w fun e w' => e = .returned (.pointer (some ⟨w.heap.size, 0, none⟩)) ∧ SkAt w' w.heap.size [] [] [] 0 0 ∧ Below w.heap.size w w' := by
  go_enter Try.func27, Try.ntmps27
  go_wp2
  go_ret
  refine ⟨rfl, ⟨rfl, rfl, World.alloc_heap_new _ _, fun i h => by simp at h, List.nodup_nil⟩, (Below.refl _ _).alloc (Nat.le_refl _) _⟩
end Go.Proofs.Ytcfcijgnkbmlaaa
