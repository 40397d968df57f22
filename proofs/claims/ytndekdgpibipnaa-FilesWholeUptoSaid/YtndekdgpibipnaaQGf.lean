
/- Walks: the sequence of a text's bytes, with what is put between them. Condition: lengths that are ints.
   Walks: texts as keys. Condition: a length that a text may have.
   Walk: the law CodecBack returns true. Condition: texts of at most 2 to the 45 bytes. -/
import Derived.Test.YtndekdgpibipnaaQGd
import Derived.Test.YtndekdgpibipnaaQGe
import Derived.Test.YtndekdgpibipnaaQGa
import Derived.RangeFuncNested
import Derived.RangeFuncBound
import Derived.RangeFuncCalls
import Derived.RangeFuncLeaves
import Derived.RangeFuncBox
import Derived.Shelf.Abstract
import Derived.OwnWalkIn
import Derived.TacticsInMore
import Derived.LoopNIn
import Derived.LoopIn

namespace Go.Proofs.Ytndekdgpibipnaa
open Go.RowKit Go.Shelf

attribute [local go_sem] Oper.semAt_some

/-- a block is as it was -/
def KpB (b : Nat) (W W' : World) : Prop := W'.heap[b]? = W.heap[b]?
theorem kpB_t {b : Nat} {A B C : World} (h : KpB b A B) (k : KpB b B C) : KpB b A C := k.trans h
theorem kpB_b {b : Nat} {w : World} (hb : b < w.heap.size) (W : World) (l : Nat) (o o' : Obj) (hl : w.heap.size ≤ l) (h : W.heap[l]? = some o) (_ : o.isCells = false) (_ : o.isWalk = false) : KpB b W (W.putObj l o') :=
  (grownBy_putObj' W l o').block b (by have := (Array.getElem?_eq_some_iff.1 h).1; omega) (by intro e; cases e; omega)
theorem KpB.cell {b : Nat} {W W' : World} (h : KpB b W W') {o : Nat} {v : Value} (hc : W.cell? ⟨b, o, none⟩ = some v) : W'.cell? ⟨b, o, none⟩ = some v :=
  (World.cell?_of_block (a := ⟨b, o, none⟩) h).trans hc

theorem esc_take {l : List UInt8} {k : Nat} (h : k < l.length) : Pl.esc (l.take (k + 1)) = Pl.esc (l.take k) ++ (if l[k] = 0 then [0, 255] else [l[k]]) := by
  have happ : ∀ a b : List UInt8, Pl.esc (a ++ b) = Pl.esc a ++ Pl.esc b := by
    intro a b
    induction a with
    | nil => rfl
    | cons c a ih => simp only [List.cons_append, Pl.esc]; split <;> simp [ih]
  rw [List.take_succ_eq_append_getElem h, happ]
  by_cases e : l[k] = 0 <;> simp [Pl.esc, e]
theorem esc_le (l : List UInt8) (k : Nat) : (Pl.esc (l.take k)).length ≤ (Pl.esc l).length := by
  have happ : ∀ a b : List UInt8, Pl.esc (a ++ b) = Pl.esc a ++ Pl.esc b := by
    intro a b
    induction a with
    | nil => rfl
    | cons c a ih => simp only [List.cons_append, Pl.esc]; split <;> simp [ih]
  conv => rhs; rw [← List.take_append_drop k l, happ]
  simp

end Go.Proofs.Ytndekdgpibipnaa

namespace Go.Proofs.Ytndekdgpibipnaa
open Go.RowKit Go.Shelf

attribute [local go_sem] Oper.semAt_some

theorem ownsRow_not_obj {W : World} {base : Nat} {e : TypeId} {size k : Nat} {v : Value} {xs : List Value} (hr : W.ownsRow base e size v k xs) {D : Nat} {o : Obj} (hD : W.heap[D]? = some o) (ho : o.isCells = false) : some D ≠ v.ownBlock := by
  rcases hr.2 with ⟨rfl, _⟩ | ⟨g, cap, cur, rfl, _, hgb, _⟩
  · simp [Value.ownBlock]
  · intro e'
    obtain rfl : D = g := by simpa [Value.ownBlock] using e'
    rw [hgb] at hD; cases hD; cases ho

theorem cells_two_new (w : World) (a b : Value) (t : TypeId) : ∀ j u, [a, b][j]? = some u → (w.alloc (.cells #[a, b] t)).cell? ((⟨w.heap.size, 0, none⟩ : Addr).add j) = some u := cell_two_new w a b t

end Go.Proofs.Ytndekdgpibipnaa

namespace Go.Proofs.Ytndekdgpibipnaa
open Go.RowKit

theorem bcell {W w1 : World} (hb : Below W.heap.size W w1) : ∀ b o, b < W.heap.size → w1.cell? ⟨b, o, none⟩ = W.cell? ⟨b, o, none⟩ :=
  fun b o h => hb.cell (p := ⟨b, o, none⟩) h

/-- block B holds what was handed in -/
def Th (B : Nat) (n m : Int) (s r : ByteArray) (W : World) : Prop :=
  W.cell? ⟨B, 0, none⟩ = some (.int .u64 n) ∧ W.cell? ⟨B, 1, none⟩ = some (.int .i64 m) ∧ W.cell? ⟨B, 2, none⟩ = some (.string s) ∧ W.cell? ⟨B, 3, none⟩ = some (.string r) ∧ B < W.heap.size
theorem Th.kept {B : Nat} {n m : Int} {s r : ByteArray} {W W' : World} (h : Th B n m s r W) (hb : Below W.heap.size W W') : Th B n m s r W' := by
  obtain ⟨h0, h1, h2, h3, hB⟩ := h
  have hs := hb.size
  exact ⟨(hb.cell (p := ⟨B, 0, none⟩) hB).trans h0, (hb.cell (p := ⟨B, 1, none⟩) hB).trans h1, (hb.cell (p := ⟨B, 2, none⟩) hB).trans h2, (hb.cell (p := ⟨B, 3, none⟩) hB).trans h3, by omega⟩
theorem Th.new (w : World) (n m : Int) (s r : ByteArray) (t : TypeId) : Th w.heap.size n m s r (w.alloc (.cells #[.int .u64 n, .int .i64 m, .string s, .string r] t)) :=
  ⟨World.cell?_alloc_mark w _ t (0, 0) 0, World.cell?_alloc_mark w _ t (0, 0) 1, World.cell?_alloc_mark w _ t (0, 0) 2, World.cell?_alloc_mark w _ t (0, 0) 3, by simp⟩

theorem size_mk_append (l : List UInt8) (r : ByteArray) : (ByteArray.mk l.toArray ++ r).size = l.length + r.size := by
  rw [ByteArray.size_append]; rfl
theorem data_mk_append (l : List UInt8) (r : ByteArray) : (ByteArray.mk l.toArray ++ r).data.toList = l ++ r.data.toList := by
  rw [Pl.mk_append]

section
variable (r : ByteArray) (w : World)
theorem back_uint (n : Nat) (hn : U64 n) (hr : r.size ≤ 17592186044416) :
    Calls Try.prog 110 #[.string (⟨(Pl.putUint n).toArray⟩ ++ r)] w fun e w' => e = .returned (.tuple #[.int .u64 n, .int .i64 ((Pl.putUint n).length : Nat), .int .i64 0]) ∧ w = w' := by
  have hl := Pl.putUint_length64 n (by have := hn.le; omega)
  have h := takeUint_any (⟨(Pl.putUint n).toArray⟩ ++ r) w (by rw [size_mk_append]; omega)
  rw [data_mk_append, Pl.take_put n _ hn.le] at h
  exact h
theorem back_text (s : ByteArray) (hs : s.size ≤ 17592186044416) (hr : r.size ≤ 17592186044416) :
    Calls Try.prog 99 #[.string (⟨(Pl.putText s.data.toList).toArray⟩ ++ r), .int .i64 s.size] w fun e w' => e = .returned (.tuple #[.string s, .int .i64 ((Pl.putText s.data.toList).length : Nat), .int .i64 0]) ∧ Below w.heap.size w w' := by
  have hl := Pl.putUint_length64 s.data.toList.length (by rw [Pl.size_data]; omega)
  have hs2 := Pl.size_data s
  have h := takeText_any (⟨(Pl.putText s.data.toList).toArray⟩ ++ r) s.size w (by rw [size_mk_append, Pl.putText, List.length_append]; omega) (by omega) (by omega)
  rw [data_mk_append, Int.toNat_natCast, ← hs2, Pl.text_back _ _ (by omega)] at h
  rw [← hs2]
  exact h
end

end Go.Proofs.Ytndekdgpibipnaa
