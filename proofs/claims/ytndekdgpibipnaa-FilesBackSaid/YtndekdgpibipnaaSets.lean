
/- A set of ints, as a map of truths in memory. Condition: none. -/
import Derived.Test.YtndekdgpibipnaaBase
import Derived.Test.YtndekdgpibipnaaFp
import Derived.Test.YtndekdgpibipnaaPlainDv2
import Derived.Maps.OwnSet
import Derived.Maps.StringElems
namespace Go.Proofs.Ytndekdgpibipnaa
open Go.RowKit

/-- what the map holds -/
def setD (l : List Int) : DataW Unit := l.foldl (fun D b => D.put (.int .i64 b) (.lit (.bool true))) (.map [])
theorem setD_snoc (l : List Int) (b : Int) : setD (l ++ [b]) = (setD l).put (.int .i64 b) (.lit (.bool true)) := by simp [setD, List.foldl_append]
theorem setD_isMap (l : List Int) : Maps.IsMap (setD l) := by
  refine Pl.snoc_ind (P := fun l => Maps.IsMap (setD l)) Maps.isMap_empty (fun l x ih => ?_) l
  rw [setD_snoc]; exact ih.put _ _
theorem setD_at (l : List Int) (i : Int) (z : DataW Unit) : (setD l).atKey (.int .i64 i) z = if i ∈ l then .lit (.bool true) else z := by
  refine Pl.snoc_ind (P := fun l => (setD l).atKey (.int .i64 i) z = if i ∈ l then .lit (.bool true) else z) rfl (fun l p ih => ?_) l
  rw [setD_snoc]
  by_cases h : p = i
  · rw [h, if_pos (by simp)]; exact Maps.atKey_put_same (setD_isMap l) (show WideAt.IsKeyLit (.int .i64 i) from trivial) _ _
  · rw [Maps.atKey_put_other (by intro e; injection e with _ e; exact h e.symm), ih]
    simp [show i ≠ p from fun e => h e.symm]
theorem zero_bool (w : World) : (zeroValue 4).run Try.prog w = .ok (.bool false) w := by kernel_rfl
theorem plainElem_bool_inv {P : Program} {e : TypeId} (he : P.underlying e = some .bool) {v : Value} {z : DataW Unit × List MemPlace} (h : plainElem P e v = some z) : ∃ x : Bool, v = .bool x ∧ z = (.lit (.bool x), []) := by
  unfold plainElem at h
  rw [he] at h
  cases v <;> simp at h
  exact ⟨_, rfl, h.symm⟩
/-- in W, the block m is a set of these ints -/
def SetAt (W : World) (m : Nat) (l : List Int) : Prop := W.ownsMap Try.prog 3 (plainElem (H := Unit) Try.prog 4) m l.length (setD l)
theorem SetAt.new (w : World) : SetAt (w.alloc (.map #[] 0)) w.heap.size [] := World.ownsMap_made w Try.prog 3 _
theorem SetAt.lt {W : World} {m : Nat} {l : List Int} (h : SetAt W m l) : m < W.heap.size := World.ownsMap.lt h
theorem SetAt.keep {W W' : World} {m : Nat} {l : List Int} {f : Nat → Prop} (h : SetAt W m l) (hk : Keep f W W') (hf : f m) : SetAt W' m l := by
  have hlt := h.lt
  obtain ⟨es, clock, hb, rest⟩ := h
  exact ⟨es, clock, (hk.block m hf hlt).trans hb, rest⟩
theorem SetAt.below {W W' : World} {m : Nat} {l : List Int} (h : SetAt W m l) (hb : Below W.heap.size W W') : SetAt W' m l :=
  h.keep (f := fun q => q < W.heap.size) (Keep.of_below hb (fun _ h _ => h)) h.lt
set_option maxRecDepth 100000 in
theorem SetAt.look {W : World} {m : Nat} {l : List Int} (h : SetAt W m l) (b : Int) (h1 : -9223372036854775808 ≤ b) (h2 : b ≤ 9223372036854775807) :
    (Instr.lookup 148 (.map (some m)) (.int .i64 b) false).run Try.prog W = .ok (.bool (decide (b ∈ l))) W := by
  have hkey : keyOf Try.prog 3 (.int .i64 b) = some (.int .i64 b) := Maps.keyOf_int_mk Try.underlying3 (by simp [Lit.wf, IntKind.min, IntKind.max, IntKind.signed, IntKind.bits]; omega)
  obtain ⟨v, ps, hrun, hv⟩ := World.ownsMap.lookup h (Maps.int_keyed Try.underlying3) Try.underlying148 (zero_bool W) (plainElem_bool (H := Unit) Try.underlying4 false) hkey
  obtain ⟨x, rfl, hz⟩ := plainElem_bool_inv Try.underlying4 hv
  rw [hrun]
  have h3 : (setD l).atKey (.int .i64 b) (.lit (.bool false)) = .lit (.bool x) := congrArg Prod.fst hz
  rw [setD_at] at h3
  by_cases hm : b ∈ l
  · rw [if_pos hm] at h3
    injection h3 with h3; injection h3 with h3
    rw [← h3]; simp [hm]
  · rw [if_neg hm] at h3
    injection h3 with h3; injection h3 with h3
    rw [← h3]; simp [hm]
theorem SetAt.snoc {W : World} {m : Nat} {l : List Int} {b : Int} (h : W.ownsMap Try.prog 3 (plainElem (H := Unit) Try.prog 4) m (l.length + 1) ((setD l).put (.int .i64 b) (.lit (.bool true)))) : SetAt W m (l ++ [b]) := by
  show W.ownsMap _ _ _ m (l ++ [b]).length (setD (l ++ [b]))
  rw [List.length_append, List.length_singleton, setD_snoc]
  exact h
end Go.Proofs.Ytndekdgpibipnaa
