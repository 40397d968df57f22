
/- What is picked, plainly; the boxes about Pick. Condition: none. -/
import Derived.Test.YtekfaodjadinnaaWIdx
import Derived.Test.YtekfaodjadinnaaWSc2
namespace Go.Proofs.Ytekfaodjadinnaa
open Go.RowKit

namespace Pl
structure Jb where
  level : Nat
  frm : List Tb
  onto : List Tb
  bottom : Bool
/-- the place of the table that is taken of a level below the first one -/
def fromI (L : Lv) (af : Nat → ByteArray) (k : Nat) : Nat := (behindI (L.t k) (af k)).getD 0
def fromOf (L : Lv) (af : Nat → ByteArray) (k : Nat) : List Tb := if k = 0 then L.t 0 else ((L.t k).drop (fromI L af k)).take 1
def toOf (L : Lv) (F : List Tb) (k : Nat) : List Tb := overs (L.t (k + 1)) (spanLo F) (spanHi F)
/-- has none of the levels from k + 2 on, of which n are asked, a table there? -/
def noneDeep (L : Lv) (A : List Tb) (k : Nat) : Nat → Bool
  | 0 => true
  | n + 1 => noneDeep L A k n && decide ((overs (L.t (k + 2 + n)) (spanLo A) (spanHi A)).length = 0)
def bottomOf (L : Lv) (A : List Tb) (k : Nat) : Bool := noneDeep L A k (2 - k)
def pickAt (L : Lv) (af : Nat → ByteArray) (k : Nat) : Jb :=
  ⟨k, fromOf L af k, toOf L (fromOf L af k) k, bottomOf L (fromOf L af k ++ toOf L (fromOf L af k) k) k⟩
def due (c : Cfg) (L : Lv) (k : Nat) : Bool := decide ((score c L k).2 < (score c L k).1)
def pick (c : Cfg) (L : Lv) (af : Nat → ByteArray) : Option Jb :=
  if due c L 0 = true then some (pickAt L af 0) else if due c L 1 = true then some (pickAt L af 1) else if due c L 2 = true then some (pickAt L af 2) else none
theorem pick_hit {c : Cfg} {L : Lv} {af : Nat → ByteArray} {k : Nat} (hk : k < 3) (h : due c L k = true) (h2 : ∀ j, j < k → due c L j = false) : pick c L af = some (pickAt L af k) := by
  unfold pick
  rcases k with _ | _ | _ | k
  · rw [if_pos h]
  · rw [if_neg (by rw [h2 0 (by decide)]; decide), if_pos h]
  · rw [if_neg (by rw [h2 0 (by decide)]; decide), if_neg (by rw [h2 1 (by decide)]; decide), if_pos h]
  · omega
theorem pick_none {c : Cfg} {L : Lv} {af : Nat → ByteArray} (h2 : ∀ j, j < 3 → due c L j = false) : pick c L af = none := by
  unfold pick
  rw [if_neg (by rw [h2 0 (by decide)]; decide), if_neg (by rw [h2 1 (by decide)]; decide), if_neg (by rw [h2 2 (by decide)]; decide)]
/-- what is due has a table -/
theorem due_some {c : Cfg} {L : Lv} {k : Nat} (hk : k < 3) (h : due c L k = true) : c.right = true ∧ 0 < (L.t k).length := by
  unfold due at h
  have h := of_decide_eq_true h
  unfold score at h
  by_cases hr : c.right = true ∧ (0 : Int) ≤ (k : Int) ∧ (k : Int) ≤ 2
  · rw [if_pos hr] at h
    refine ⟨hr.1, ?_⟩
    obtain ⟨⟨b1, b2⟩, b3, b4⟩ := Cfg.right_b hr.1
    rcases Nat.eq_zero_or_pos (L.t k).length with h0 | h0
    · exfalso
      have e : L.t k = [] := List.eq_nil_of_length_eq_zero h0
      rcases k with _ | _ | _ | k
      · simp [e] at h; omega
      · simp [e, sizes] at h; omega
      · simp [e, sizes] at h; omega
      · omega
    · exact h0
  · rw [if_neg hr] at h
    simp at h
theorem fromOf_some {c : Cfg} {L : Lv} {af : Nat → ByteArray} {k : Nat} (h0 : 0 < (L.t k).length) : 0 < (fromOf L af k).length := by
  unfold fromOf
  split
  · rename_i h; subst h; exact h0
  · have : fromI L af k < (L.t k).length := by
      unfold fromI
      cases h : behindI (L.t k) (af k) with
      | none => exact h0
      | some i => exact behindI_lt h
    rw [List.length_take, List.length_drop]
    omega
theorem fromI_lt {L : Lv} {af : Nat → ByteArray} {k : Nat} (h0 : 0 < (L.t k).length) : fromI L af k < (L.t k).length := by
  unfold fromI
  cases h : behindI (L.t k) (af k) with
  | none => exact h0
  | some i => exact behindI_lt h
end Pl

/-- four texts in a box of their own -/
def AfBox (W : World) (b : Nat) (af : Nat → ByteArray) : Prop := W.heap[b]? = some (.cells #[.string (af 0), .string (af 1), .string (af 2), .string (af 3)] 26 (0, 0))
theorem AfBox.lt {W : World} {b : Nat} {af : Nat → ByteArray} (h : AfBox W b af) : b < W.heap.size := (Array.getElem?_eq_some_iff.1 h).1
theorem AfBox.k {W : World} {b : Nat} {af : Nat → ByteArray} (h : AfBox W b af) (k : Nat) (hk : k < 4) : W.cell? ⟨b, k, none⟩ = some (.string (af k)) := by
  unfold AfBox at h
  rcases k with _ | _ | _ | _ | k
  all_goals first | omega | simp [World.cell?, h]
/-- a job in a box of its own -/
def JbBox (W : World) (b : Nat) (k : Int) (a1 : Option Addr) (n1 c1 : Nat) (a2 : Option Addr) (n2 c2 : Nat) (bt : Bool) : Prop := W.heap[b]? = some (.cells #[.int .i64 k, .slice a1 n1 c1, .slice a2 n2 c2, .bool bt] 35 (0, 0))
theorem JbBox.lt {W : World} {b : Nat} {k : Int} {a1 a2 : Option Addr} {n1 c1 n2 c2 : Nat} {bt : Bool} (h : JbBox W b k a1 n1 c1 a2 n2 c2 bt) : b < W.heap.size := (Array.getElem?_eq_some_iff.1 h).1
theorem JbBox.cells {W : World} {b : Nat} {k : Int} {a1 a2 : Option Addr} {n1 c1 n2 c2 : Nat} {bt : Bool} (h : JbBox W b k a1 n1 c1 a2 n2 c2 bt) :
    W.cell? ⟨b, 0, none⟩ = some (.int .i64 k) ∧ W.cell? ⟨b, 1, none⟩ = some (.slice a1 n1 c1) ∧ W.cell? ⟨b, 2, none⟩ = some (.slice a2 n2 c2) ∧ W.cell? ⟨b, 3, none⟩ = some (.bool bt) := by
  unfold JbBox at h
  refine ⟨?_, ?_, ?_, ?_⟩ <;> simp [World.cell?, h]
theorem JbBox.frz {W : World} {b : Nat} {k : Int} {a1 a2 : Option Addr} {n1 c1 n2 c2 : Nat} {bt : Bool} (h : JbBox W b k a1 n1 c1 a2 n2 c2 bt) (o : Nat) : W.frozen? ⟨b, o, none⟩ = false := by
  unfold JbBox at h
  simp [World.frozen?, h]
theorem JbBox.below {W W' : World} {b : Nat} {k : Int} {a1 a2 : Option Addr} {n1 c1 n2 c2 : Nat} {bt : Bool} (h : JbBox W b k a1 n1 c1 a2 n2 c2 bt) (hb : Below W.heap.size W W') : JbBox W' b k a1 n1 c1 a2 n2 c2 bt := (hb.block b h.lt).trans h
theorem JbBox.keep {W W' : World} {b : Nat} {k : Int} {a1 a2 : Option Addr} {n1 c1 n2 c2 : Nat} {bt : Bool} (h : JbBox W b k a1 n1 c1 a2 n2 c2 bt) {fp : Nat → Prop} (hk : Keep fp W W') (hf : fp b) : JbBox W' b k a1 n1 c1 a2 n2 c2 bt := (hk.block b hf h.lt).trans h

/-- what stands about Pick: the boxes of its parameters and of its result -/
structure PkW (w : World) (c : Pl.Cfg) (L : Pl.Lv) (a : Nat → Option Addr) (cc : Nat → Nat) (af : Nat → ByteArray) (W : World) : Prop where
  cb : CfgBox W w.heap.size c
  lb : LvBox W (w.heap.size + 1) L a cc
  ab : AfBox W (w.heap.size + 1 + 1) af
  rb : JbBox W (w.heap.size + 1 + 1 + 1) 0 none 0 0 none 0 0 false
  old : Below w.heap.size w W
theorem PkW.lt {w : World} {c : Pl.Cfg} {L : Pl.Lv} {a : Nat → Option Addr} {cc : Nat → Nat} {af : Nat → ByteArray} {W : World} (h : PkW w c L a cc af W) : w.heap.size + 1 + 1 + 1 < W.heap.size := h.rb.lt
theorem PkW.keep {w : World} {c : Pl.Cfg} {L : Pl.Lv} {a : Nat → Option Addr} {cc : Nat → Nat} {af : Nat → ByteArray} {W W' : World} (h : PkW w c L a cc af W) {fp : Nat → Prop} (hk : Keep fp W W') (hf : ∀ q, q < w.heap.size + 4 → fp q) : PkW w c L a cc af W' :=
  ⟨(hk.block _ (hf _ (by omega)) h.cb.lt).trans h.cb, h.lb.keep hk (hf _ (by omega)), (hk.block _ (hf _ (by omega)) h.ab.lt).trans h.ab, h.rb.keep hk (hf _ (by omega)), hk.below h.old (Nat.le_refl _) (fun q hq => hf q (by omega))⟩
theorem PkW.below {w : World} {c : Pl.Cfg} {L : Pl.Lv} {a : Nat → Option Addr} {cc : Nat → Nat} {af : Nat → ByteArray} {W W' : World} (h : PkW w c L a cc af W) (hb : Below W.heap.size W W') : PkW w c L a cc af W' :=
  h.keep (Keep.of_below (fp := fun q => q < w.heap.size + 4) hb (fun q hq _ => by have := h.lt; omega)) (fun _ h => h)
theorem PkW.start (w : World) (c : Pl.Cfg) (L : Pl.Lv) (a : Nat → Option Addr) (cc : Nat → Nat) (af : Nat → ByteArray) :
    PkW w c L a cc af ((((w.alloc (.cells #[.int .i64 c.c0, .int .i64 c.c1, .int .i64 c.c2, .int .i64 c.c3, .int .i64 c.c4, .int .i64 c.c5, .int .i64 c.c6, .int .u64 c.c7] 24)).alloc (.cells (lvCells L a cc) 30)).alloc (.cells #[.string (af 0), .string (af 1), .string (af 2), .string (af 3)] 26)).alloc (.cells #[.int .i64 0, .slice none 0 0, .slice none 0 0, .bool false] 35)) := by
  generalize hA : w.alloc (.cells #[.int .i64 c.c0, .int .i64 c.c1, .int .i64 c.c2, .int .i64 c.c3, .int .i64 c.c4, .int .i64 c.c5, .int .i64 c.c6, .int .u64 c.c7] 24) = A
  have a1 : CfgBox A w.heap.size c := by rw [← hA]; exact World.alloc_heap_new _ _
  have s1 : A.heap.size = w.heap.size + 1 := by rw [← hA, World.size_alloc]
  have o1 : Below w.heap.size w A := by rw [← hA]; exact (Below.refl _ _).alloc (Nat.le_refl _) _
  clear hA
  generalize hB : A.alloc (.cells (lvCells L a cc) 30) = B
  have b1 : LvBox B (w.heap.size + 1) L a cc := by rw [← hB, ← s1]; exact LvBox.new _ _ _ _
  have s2 : B.heap.size = w.heap.size + 1 + 1 := by rw [← hB, World.size_alloc, s1]
  have o2 : Below A.heap.size A B := by rw [← hB]; exact (Below.refl _ _).alloc (Nat.le_refl _) _
  clear hB
  generalize hC : B.alloc (.cells #[.string (af 0), .string (af 1), .string (af 2), .string (af 3)] 26) = C
  have c1 : AfBox C (w.heap.size + 1 + 1) af := by rw [← hC, ← s2]; exact World.alloc_heap_new _ _
  have s3 : C.heap.size = w.heap.size + 1 + 1 + 1 := by rw [← hC, World.size_alloc, s2]
  have o3 : Below B.heap.size B C := by rw [← hC]; exact (Below.refl _ _).alloc (Nat.le_refl _) _
  clear hC
  have o4 : Below C.heap.size C (C.alloc (.cells #[.int .i64 0, .slice none 0 0, .slice none 0 0, .bool false] 35)) := (Below.refl _ _).alloc (Nat.le_refl _) _
  refine ⟨((a1.below o2).below o3).below o4, (b1.below o3).below o4, (o4.block _ c1.lt).trans c1, ?_, ((o1.trans (o2.mono (by omega))).trans (o3.mono (by omega))).trans (o4.mono (by omega))⟩
  rw [← s3]; exact World.alloc_heap_new _ _
end Go.Proofs.Ytekfaodjadinnaa
