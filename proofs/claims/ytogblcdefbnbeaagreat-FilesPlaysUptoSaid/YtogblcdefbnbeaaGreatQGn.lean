
/- Slices of ints, of files, and roots, in memory. Condition: none. -/
import Derived.Test.YtogblcdefbnbeaaGreatQGc
import Derived.Test.YtogblcdefbnbeaaGreatQGu
import Derived.Maps.OwnSet
import Derived.Maps.StringElems
set_option maxRecDepth 100000
namespace Go.Proofs.YtogblcdefbnbeaaGreat
section
open Go.RowKit
def IntsAt (W : World) (v : Value) (l : List Int) : Prop :=
 ∃ (ao : Option Addr) (cap : Nat), v = .slice ao l.length cap ∧ l.length ≤ cap ∧ cap ≤ 9223372036854775807 ∧ (0 < l.length → ∃ b off, ao = some ⟨b, off, none⟩ ∧ b < W.heap.size ∧ ∀ i (hi : i < l.length), W.cell? ⟨b, off + i, none⟩ = some (.int .i64 l[i]))
theorem IntsAt.kept {W W' : World} {v : Value} {l : List Int} (h : IntsAt W v l) (hs : W.heap.size ≤ W'.heap.size) (hb : 0 < l.length → ∀ b, b < W.heap.size → v.ownBlock = some b → W'.heap[b]? = W.heap[b]?) : IntsAt W' v l := by
 obtain ⟨ao, cap, rfl, h1, h2, h⟩ := h
 refine ⟨ao, cap, rfl, h1, h2, fun h0 => ?_⟩
 obtain ⟨b, off, rfl, hlt, hc⟩ := h h0
 exact ⟨b, off, rfl, Nat.lt_of_lt_of_le hlt hs, fun i hi => (World.cell?_of_block (a := ⟨b, off + i, none⟩) (hb h0 b hlt rfl)).trans (hc i hi)⟩
theorem IntsAt.below {W W' : World} {v : Value} {l : List Int} (h : IntsAt W v l) (hb : Below W.heap.size W W') : IntsAt W' v l := h.kept hb.size (fun _ b hl _ => hb.block b hl)
def FileIn (W : World) (b o : Nat) (x : Pl.FileP) : Prop :=
 W.cell? ⟨b, o, none⟩ = some (.string x.name) ∧ W.cell? ⟨b, o + 1, none⟩ = some (.int .i64 x.size) ∧ ∃ u, W.cell? ⟨b, o + 2, none⟩ = some u ∧ IntsAt W u x.blocks
theorem FileIn.below {W W' : World} {b o : Nat} {x : Pl.FileP} (h : FileIn W b o x) (hlt : b < W.heap.size) (hb : Below W.heap.size W W') : FileIn W' b o x := by
 obtain ⟨h0, h1, u, h3, h4⟩ := h
 have e := hb.block b hlt
 exact ⟨(World.cell?_of_block (a := ⟨b, o, none⟩) e).trans h0, (World.cell?_of_block (a := ⟨b, o + 1, none⟩) e).trans h1, u, (World.cell?_of_block (a := ⟨b, o + 2, none⟩) e).trans h3, h4.below hb⟩
def FilesAt (W : World) (v : Value) (l : List Pl.FileP) : Prop :=
 ∃ (ao : Option Addr) (cap : Nat), v = .slice ao l.length cap ∧ l.length ≤ cap ∧ cap ≤ 9223372036854775807 ∧ (0 < l.length → ∃ b off, ao = some ⟨b, off, none⟩ ∧ b < W.heap.size ∧ ∀ i (hi : i < l.length), FileIn W b (off + i * 3) l[i])
theorem FilesAt.below {W W' : World} {v : Value} {l : List Pl.FileP} (h : FilesAt W v l) (hb : Below W.heap.size W W') : FilesAt W' v l := by
 obtain ⟨ao, cap, rfl, h1, h2, h⟩ := h
 refine ⟨ao, cap, rfl, h1, h2, fun h0 => ?_⟩
 obtain ⟨b, off, rfl, hlt, hc⟩ := h h0
 exact ⟨b, off, rfl, Nat.lt_of_lt_of_le hlt hb.size, fun i hi => (hc i hi).below hlt hb⟩
def Pl.FileP.fine (x : Pl.FileP) : Prop := (-9223372036854775808 ≤ x.size ∧ x.size ≤ 9223372036854775807) ∧ ∀ b ∈ x.blocks, -9223372036854775808 ≤ b ∧ b ≤ 9223372036854775807
structure Pl.RootP.fine (r : Pl.RootP) : Prop where
 gen : r.gen ≤ 18446744073709551615
 files : ∀ x ∈ r.files, x.fine
end
section
open Go.RowKit
def setD (l : List Int) : DataW Unit := l.foldl (fun D b => D.put (.int .i64 b) (.lit (.bool true))) (.map [])
theorem setD_snoc (l : List Int) (b : Int) : setD (l ++ [b]) = (setD l).put (.int .i64 b) (.lit (.bool true)) := by simp [setD, List.foldl_append]
theorem setD_isMap (l : List Int) : Maps.IsMap (setD l) := by
 refine Pl.snoc_ind (P := fun l => Maps.IsMap (setD l)) Maps.isMap_empty (fun l x ih => ?_) l
 rw [setD_snoc]; exact ih.put _ _
theorem setD_at (l : List Int) (i : Int) (z : DataW Unit) : (setD l).atKey (.int .i64 i) z = if i ∈ l then .lit (.bool true) else z := by
 refine Pl.snoc_ind (P := fun l => (setD l).atKey (.int .i64 i) z = if i ∈ l then .lit (.bool true) else z) rfl (fun l p ih => ?_) l
 rw [setD_snoc]
 by_cases h : p = i
 ·rw [h, if_pos (by simp)]; exact Maps.atKey_put_same (setD_isMap l) (show WideAt.IsKeyLit (.int .i64 i) from trivial) _ _
 ·rw [Maps.atKey_put_other (by intro e; injection e with _ e; exact h e.symm), ih]
  simp [show i ≠ p from fun e => h e.symm]
theorem zero_bool (w : World) : (zeroValue 4).run Tryz.prog w = .ok (.bool false) w := by kernel_rfl
theorem plainElem_bool_inv {P : Program} {e : TypeId} (he : P.underlying e = some .bool) {v : Value} {z : DataW Unit × List MemPlace} (h : plainElem P e v = some z) : ∃ x : Bool, v = .bool x ∧ z = (.lit (.bool x), []) := by
 unfold plainElem at h
 rw [he] at h
 cases v <;> simp at h
 exact ⟨_, rfl, h.symm⟩
def SetAt (W : World) (m : Nat) (l : List Int) : Prop := W.ownsMap Tryz.prog 3 (plainElem (H := Unit) Tryz.prog 4) m l.length (setD l)
theorem SetAt.new (w : World) : SetAt (w.alloc (.map #[] 0)) w.heap.size [] := World.ownsMap_made w Tryz.prog 3 _
theorem SetAt.lt {W : World} {m : Nat} {l : List Int} (h : SetAt W m l) : m < W.heap.size := World.ownsMap.lt h
theorem SetAt.keep {W W' : World} {m : Nat} {l : List Int} {f : Nat → Prop} (h : SetAt W m l) (hk : Keep f W W') (hf : f m) : SetAt W' m l := by
 have hlt := h.lt
 obtain ⟨es, clock, hb, rest⟩ := h
 exact ⟨es, clock, (hk.block m hf hlt).trans hb, rest⟩
theorem SetAt.below {W W' : World} {m : Nat} {l : List Int} (h : SetAt W m l) (hb : Below W.heap.size W W') : SetAt W' m l :=
 h.keep (f := fun q => q < W.heap.size) (Keep.of_below hb (fun _ h _ => h)) h.lt
theorem SetAt.look {W : World} {m : Nat} {l : List Int} (h : SetAt W m l) (b : Int) (h1 : -9223372036854775808 ≤ b) (h2 : b ≤ 9223372036854775807) :
  (Instr.lookup 147 (.map (some m)) (.int .i64 b) false).run Tryz.prog W = .ok (.bool (decide (b ∈ l))) W := by
 have hkey : keyOf Tryz.prog 3 (.int .i64 b) = some (.int .i64 b) := Maps.keyOf_int_mk Tryz.underlying3 (by simp [Lit.wf, IntKind.min, IntKind.max, IntKind.signed, IntKind.bits]; omega)
 obtain ⟨v, ps, hrun, hv⟩ := World.ownsMap.lookup h (Maps.int_keyed Tryz.underlying3) Tryz.underlying147 (zero_bool W) (plainElem_bool (H := Unit) Tryz.underlying4 false) hkey
 obtain ⟨x, rfl, hz⟩ := plainElem_bool_inv Tryz.underlying4 hv
 rw [hrun]
 have h3 : (setD l).atKey (.int .i64 b) (.lit (.bool false)) = .lit (.bool x) := congrArg Prod.fst hz
 rw [setD_at] at h3
 by_cases hm : b ∈ l
 ·rw [if_pos hm] at h3
  injection h3 with h3; injection h3 with h3
  rw [← h3]; simp [hm]
 ·rw [if_neg hm] at h3
  injection h3 with h3; injection h3 with h3
  rw [← h3]; simp [hm]
theorem SetAt.snoc {W : World} {m : Nat} {l : List Int} {b : Int} (h : W.ownsMap Tryz.prog 3 (plainElem (H := Unit) Tryz.prog 4) m (l.length + 1) ((setD l).put (.int .i64 b) (.lit (.bool true)))) : SetAt W m (l ++ [b]) := by
 show W.ownsMap _ _ _ m (l ++ [b]).length (setD (l ++ [b]))
 rw [List.length_append, List.length_singleton, setD_snoc]
 exact h
end
end Go.Proofs.YtogblcdefbnbeaaGreat
