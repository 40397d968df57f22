
/- Slices of frames. Condition: none. -/
import Derived.Test.YtlchkpmmemdjcaaBase
namespace Go.Proofs.Ytlchkpmmemdjcaa
open Go.RowKit

abbrev Frm := UInt8 × ByteArray
/-- in W, these frames lie from off on in the block b -/
def FrsIn (W : World) (b off : Nat) (l : List Frm) : Prop := b < W.heap.size ∧ ∀ i (hi : i < l.length), W.cell? ⟨b, off + i * 2, none⟩ = some (.int .u8 (l[i].1.toNat : Int)) ∧ W.cell? ⟨b, off + i * 2 + 1, none⟩ = some (.string l[i].2)
theorem FrsIn.kept {W W' : World} {b off : Nat} {l : List Frm} (h : FrsIn W b off l) (hs : W.heap.size ≤ W'.heap.size) (hb : W'.heap[b]? = W.heap[b]?) : FrsIn W' b off l :=
  ⟨Nat.lt_of_lt_of_le h.1 hs, fun i hi => ⟨(World.cell?_of_block (a := ⟨b, off + i * 2, none⟩) hb).trans (h.2 i hi).1, (World.cell?_of_block (a := ⟨b, off + i * 2 + 1, none⟩) hb).trans (h.2 i hi).2⟩⟩
/-- in W, v is a slice of these frames -/
def FrsAt (W : World) (v : Value) (l : List Frm) : Prop :=
  ∃ (ao : Option Addr) (cap : Nat), v = .slice ao l.length cap ∧ (0 < l.length → ∃ b off, ao = some ⟨b, off, none⟩ ∧ FrsIn W b off l)
/-- the cells of frames -/
def fcells : List Frm → List Value
  | [] => []
  | x :: l => .int .u8 (x.1.toNat : Int) :: .string x.2 :: fcells l
theorem fcells_append : ∀ l r : List Frm, fcells (l ++ r) = fcells l ++ fcells r
  | [], _ => rfl
  | x :: l, r => by simp [fcells, fcells_append l r]
theorem fcells_get : ∀ (l : List Frm) (i : Nat) (h : i < l.length), (fcells l)[i * 2]? = some (.int .u8 (l[i].1.toNat : Int)) ∧ (fcells l)[i * 2 + 1]? = some (.string l[i].2)
  | x :: l, 0, _ => ⟨rfl, rfl⟩
  | x :: l, i + 1, h => by
    have := fcells_get l i (by simpa using h)
    rw [show (i + 1) * 2 = i * 2 + 1 + 1 from by omega]
    simpa [fcells] using this
end Go.Proofs.Ytlchkpmmemdjcaa
