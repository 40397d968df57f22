
/- A skip list in memory: a new node, and its tower grown by one. Condition: none. -/
import Derived.Test.YtcfcijgnkbmlaaaSk
namespace Go.Proofs.Ytcfcijgnkbmlaaa
open Go.RowKit

theorem nd_congr (x : Ver) {f g : Nat → Value} (h : ∀ lv, lv < 8 → f lv = g lv) : ndCells x f = ndCells x g := by
  unfold ndCells
  rw [h 0 (by omega), h 1 (by omega), h 2 (by omega), h 3 (by omega), h 4 (by omega), h 5 (by omega), h 6 (by omega), h 7 (by omega)]
theorem tb_congr (n by' : Int) {f g : Nat → Value} (h : ∀ lv, lv < 8 → f lv = g lv) : tbCells f n by' = tbCells g n by' := by
  unfold tbCells
  rw [h 0 (by omega), h 1 (by omega), h 2 (by omega), h 3 (by omega), h 4 (by omega), h 5 (by omega), h 6 (by omega), h 7 (by omega)]
theorem nd_set (x : Ver) (f g : Nat → Value) {m : Nat} (hm : m < 8) (h : ∀ lv, lv < 8 → lv ≠ m → g lv = f lv) : (ndCells x f).setIfInBounds (4 + m) (g m) = ndCells x g := by
  have e : ∀ lv, lv < 8 → lv = m ∨ g lv = f lv := fun lv hl => by
    by_cases e : lv = m
    · exact .inl e
    · exact .inr (h lv hl e)
  rw [nd_congr x (f := g) (g := fun lv => if lv = m then g m else f lv) (fun lv hl => by
    by_cases e : lv = m
    · subst e; simp
    · simp [e, h lv hl e])]
  generalize g m = u
  clear h e
  rcases eight hm with rfl | rfl | rfl | rfl | rfl | rfl | rfl | rfl <;> simp [ndCells]
theorem tb_set (n by' : Int) (f g : Nat → Value) {m : Nat} (hm : m < 8) (h : ∀ lv, lv < 8 → lv ≠ m → g lv = f lv) : (tbCells f n by').setIfInBounds (4 + m) (g m) = tbCells g n by' := by
  rw [tb_congr n by' (f := g) (g := fun lv => if lv = m then g m else f lv) (fun lv hl => by
    by_cases e : lv = m
    · subst e; simp
    · simp [e, h lv hl e])]
  generalize g m = u
  clear h
  rcases eight hm with rfl | rfl | rfl | rfl | rfl | rfl | rfl | rfl <;> simp [tbCells]

variable {W : World} {T : Nat} {xs : List Ver} {hs bs : List Nat} {n by' : Int}

theorem blk_ins_low {T b k p : Nat} {bs : List Nat} (hk : k ≤ bs.length) (hp : p ≤ k) : blk T (Pl.ins bs k b) p = blk T bs p := by
  cases p with
  | zero => rfl
  | succ p => exact Pl.insD_lt hk (by omega)
theorem blk_ins_at {T b k : Nat} {bs : List Nat} (hk : k ≤ bs.length) : blk T (Pl.ins bs k b) (k + 1) = b := Pl.insD_at hk
theorem blk_ins_high {T b k p : Nat} {bs : List Nat} (hk : k ≤ bs.length) (hp : k < p) : blk T (Pl.ins bs k b) (p + 1) = blk T bs p := by
  cases p with
  | zero => omega
  | succ p => exact Pl.insD_gt hk (by omega)
theorem mem_ins {α : Type} {l : List α} {k : Nat} {a b : α} : b ∈ Pl.ins l k a ↔ b = a ∨ b ∈ l := by
  unfold Pl.ins
  rw [List.mem_append, List.mem_cons]
  conv => rhs; rw [← List.take_append_drop k l, List.mem_append]
  constructor
  · rintro (h | h | h)
    · exact .inr (.inl h)
    · exact .inl h
    · exact .inr (.inr h)
  · rintro (h | h | h)
    · exact .inr (.inl h)
    · exact .inl h
    · exact .inr (.inr h)
theorem nodup_ins {l : List Nat} {k a : Nat} (h : l.Nodup) (ha : a ∉ l) : (Pl.ins l k a).Nodup := by
  unfold Pl.ins
  have hp : (a :: l).Nodup := List.nodup_cons.2 ⟨ha, h⟩
  refine (List.Perm.nodup_iff ?_).2 hp
  refine List.perm_middle.trans ?_
  rw [List.take_append_drop]
/-- a new node that no link leads to -/
theorem SkAt.fresh (h : SkAt W T xs hs bs n by') {k : Nat} (hk : k ≤ xs.length) (v : Ver) :
    SkAt (W.alloc (.cells (ndCells v (fun _ => .pointer none)) 79)) T (Pl.ins xs k v) (Pl.ins hs k 0) (Pl.ins bs k W.heap.size) n by' := by
  have hl := h.hl
  have bl := h.bl
  have hb : Below W.heap.size W (W.alloc (.cells (ndCells v (fun _ => .pointer none)) 79)) := (Below.refl _ _).alloc (Nat.le_refl _) _
  have h' := h.below hb
  have hnew := World.alloc_heap_new W (.cells (ndCells v (fun _ => .pointer none)) 79)
  generalize W.alloc (.cells (ndCells v (fun _ => .pointer none)) 79) = W' at *
  refine ⟨by rw [Pl.ins_length, Pl.ins_length, hl], by rw [Pl.ins_length, Pl.ins_length, bl], ?_, ?_, nodup_ins h.nodup (fun hm => by have := h.lt (.inr hm); omega)⟩
  · rw [h'.head]
    rw [tb_congr n by' (f := Pl.lnk hs bs 0) (g := Pl.lnk (Pl.ins hs k 0) (Pl.ins bs k W.heap.size) 0) (fun lv _ => (Pl.lnk_low (p := 0) (by omega) (by omega) (Nat.zero_le _) W.heap.size lv).symm)]
  · intro i hi
    rw [Pl.ins_length] at hi
    rcases Nat.lt_trichotomy i k with hik | hik | hik
    · rw [blk_ins_low (by omega) (by omega)]
      have e : (Pl.ins xs k v)[i]? = xs[i]? := Pl.ins_lt hk hik
      rw [List.getElem?_eq_getElem (by rw [Pl.ins_length]; omega), List.getElem?_eq_getElem (by omega), Option.some.injEq] at e
      rw [e, h'.node i (by omega)]
      rw [nd_congr _ (f := Pl.lnk hs bs (i + 1)) (g := Pl.lnk (Pl.ins hs k 0) (Pl.ins bs k W.heap.size) (i + 1)) (fun lv _ => (Pl.lnk_low (p := i + 1) (by omega) (by omega) (by omega) W.heap.size lv).symm)]
    · subst hik
      rw [blk_ins_at (by omega)]
      have e : (Pl.ins xs i v)[i]? = some v := Pl.ins_at hk
      rw [List.getElem?_eq_getElem (by rw [Pl.ins_length]; omega), Option.some.injEq] at e
      rw [e]
      refine hnew.trans ?_
      rw [nd_congr v (f := fun _ => .pointer none) (g := Pl.lnk (Pl.ins hs i 0) (Pl.ins bs i W.heap.size) (i + 1)) (fun lv _ => (Pl.lnk_new (by omega) W.heap.size lv).symm)]
    · obtain ⟨j, rfl⟩ : ∃ j, i = j + 1 := ⟨i - 1, by omega⟩
      rw [blk_ins_high (by omega) (by omega)]
      have e : (Pl.ins xs k v)[j + 1]? = xs[j]? := Pl.ins_gt hk (by omega)
      rw [List.getElem?_eq_getElem (by rw [Pl.ins_length]; omega), List.getElem?_eq_getElem (by omega), Option.some.injEq] at e
      rw [e, h'.node j (by omega)]
      rw [nd_congr _ (f := Pl.lnk hs bs (j + 1)) (g := Pl.lnk (Pl.ins hs k 0) (Pl.ins bs k W.heap.size) (j + 1 + 1)) (fun lv _ => (Pl.lnk_high (p := j + 1) (by omega) (by omega) (by omega) (by omega) 0 W.heap.size lv).symm)]
/-- the tower grows by one -/
theorem SkAt.grow {k m b : Nat} (h : SkAt W T xs (Pl.ins hs k m) (Pl.ins bs k b) n by') (hk : k ≤ hs.length) (hb : bs.length = hs.length) (hm : m < 8) :
    SkAt ((W.setCell ⟨blk T (Pl.ins bs k b) (k + 1), 4 + m, none⟩ (Pl.lnk (Pl.ins hs k m) (Pl.ins bs k b) (Pl.pd hs m k) m)).setCell ⟨blk T (Pl.ins bs k b) (Pl.pd hs m k), 4 + m, none⟩ (.pointer (some ⟨b, 0, none⟩))) T xs (Pl.ins hs k (m + 1)) (Pl.ins bs k b) n by' := by
  have hl := h.hl
  have bl := h.bl
  rw [Pl.ins_length] at hl bl
  have hpk := Pl.pd_le hs m k
  have hne : blk T (Pl.ins bs k b) (k + 1) ≠ blk T (Pl.ins bs k b) (Pl.pd hs m k) := h.blk_ne (by omega) (by omega) (by omega)
  have e1 := Pl.lnk_on hk (Pl.ins bs k b) hm
  have e2 := Pl.lnk_ahead (b := b) hk hb hm
  have e3 : ∀ p, p ≤ xs.length → ∀ lv, lv ≠ m → Pl.lnk (Pl.ins hs k (m + 1)) (Pl.ins bs k b) p lv = Pl.lnk (Pl.ins hs k m) (Pl.ins bs k b) p lv := fun p hp lv hne => Pl.lnk_other hk (Pl.ins bs k b) hne (by omega)
  have e4 : ∀ p, p ≤ xs.length → p ≠ Pl.pd hs m k → p ≠ k + 1 → ∀ lv, Pl.lnk (Pl.ins hs k (m + 1)) (Pl.ins bs k b) p lv = Pl.lnk (Pl.ins hs k m) (Pl.ins bs k b) p lv := fun p hp h1 h2 lv => by
    by_cases e : lv = m
    · subst e; exact Pl.lnk_same hk (Pl.ins bs k b) hm (by omega) h1 h2
    · exact e3 p hp lv e
  refine ⟨by rw [Pl.ins_length, hl], by rw [Pl.ins_length, bl], ?_, ?_, h.nodup⟩
  · have hT : blk T (Pl.ins bs k b) (k + 1) ≠ T := h.blk_ne (p := k + 1) (q := 0) (by omega) (by omega) (by omega)
    by_cases e0 : Pl.pd hs m k = 0
    · rw [e0]
      have s1 : (W.setCell ⟨blk T (Pl.ins bs k b) (k + 1), 4 + m, none⟩ (Pl.lnk (Pl.ins hs k m) (Pl.ins bs k b) 0 m)).heap[T]? = _ := (Below.heap_setCell _ _ _ T (fun e => hT e.symm)).trans h.head
      have s2 : ((W.setCell ⟨blk T (Pl.ins bs k b) (k + 1), 4 + m, none⟩ (Pl.lnk (Pl.ins hs k m) (Pl.ins bs k b) 0 m)).setCell ⟨T, 4 + m, none⟩ (.pointer (some ⟨b, 0, none⟩))).heap[T]? = _ := heap_set4m s1 (4 + m) (.pointer (some ⟨b, 0, none⟩))
      refine s2.trans ?_
      rw [e0] at e2
      rw [← e2, tb_set n by' _ _ hm (fun lv _ hne => e3 0 (by omega) lv hne)]
    · have hT2 : blk T (Pl.ins bs k b) (Pl.pd hs m k) ≠ T := h.blk_ne (q := 0) (by omega) (by omega) e0
      refine ((Below.heap_setCell _ _ _ T (fun e => hT2 e.symm)).trans ((Below.heap_setCell _ _ _ T (fun e => hT e.symm)).trans h.head)).trans ?_
      rw [tb_congr n by' (fun lv _ => (e4 0 (by omega) (fun e => e0 e.symm) (by omega) lv).symm)]
  · intro i hi
    by_cases h1 : i = k
    · subst h1
      have s1 := heap_set4m (h.node i hi) (4 + m) (Pl.lnk (Pl.ins hs i m) (Pl.ins bs i b) (Pl.pd hs m i) m)
      refine ((Below.heap_setCell _ _ _ _ hne).trans s1).trans ?_
      rw [← e1, nd_set _ _ _ hm (fun lv _ hne => e3 (i + 1) (by omega) lv hne)]
    · have hki : blk T (Pl.ins bs k b) (i + 1) ≠ blk T (Pl.ins bs k b) (k + 1) := h.blk_ne (by omega) (by omega) (by omega)
      by_cases h2 : i + 1 = Pl.pd hs m k
      · rw [← h2] at e2 ⊢
        have s1 := (Below.heap_setCell W ⟨blk T (Pl.ins bs k b) (k + 1), 4 + m, none⟩ (Pl.lnk (Pl.ins hs k m) (Pl.ins bs k b) (i + 1) m) _ hki).trans (h.node i hi)
        refine (heap_set4m s1 (4 + m) (.pointer (some ⟨b, 0, none⟩))).trans ?_
        rw [← e2, nd_set _ _ _ hm (fun lv _ hne => e3 (i + 1) (by omega) lv hne)]
      · have hpi : blk T (Pl.ins bs k b) (i + 1) ≠ blk T (Pl.ins bs k b) (Pl.pd hs m k) := h.blk_ne (by omega) (by omega) h2
        refine ((Below.heap_setCell _ _ _ _ hpi).trans ((Below.heap_setCell _ _ _ _ hki).trans (h.node i hi))).trans ?_
        rw [nd_congr _ (fun lv _ => (e4 (i + 1) (by omega) h2 (by omega) lv).symm)]
/-- its count and its bytes -/
theorem SkAt.tally (h : SkAt W T xs hs bs n by') (n2 by2 : Int) : SkAt ((W.setCell ⟨T, 12, none⟩ (.int .i64 n2)).setCell ⟨T, 13, none⟩ (.int .i64 by2)) T xs hs bs n2 by2 := by
  refine ⟨h.hl, h.bl, ?_, fun i hi => ?_, h.nodup⟩
  · have s1 := heap_set4m h.head 12 (.int .i64 n2)
    have e1 : (tbCells (Pl.lnk hs bs 0) n by').setIfInBounds 12 (.int .i64 n2) = tbCells (Pl.lnk hs bs 0) n2 by' := by simp [tbCells]
    rw [e1] at s1
    have s2 := heap_set4m s1 13 (.int .i64 by2)
    have e2 : (tbCells (Pl.lnk hs bs 0) n2 by').setIfInBounds 13 (.int .i64 by2) = tbCells (Pl.lnk hs bs 0) n2 by2 := by simp [tbCells]
    rw [e2] at s2
    exact s2
  · have hne : blk T bs (i + 1) ≠ T := h.blk_ne (q := 0) (by omega) (by omega) (by omega)
    exact (Below.heap_setCell _ _ _ _ hne).trans ((Below.heap_setCell _ _ _ _ hne).trans (h.node i hi))
end Go.Proofs.Ytcfcijgnkbmlaaa
