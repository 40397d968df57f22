
/- Slices of acts of law 6 in memory. Condition: none. -/
import Derived.Test.YtcfcijgnkbmlaaaVers
namespace Go.Proofs.Ytcfcijgnkbmlaaa
open Go.RowKit

/-- an act -/
structure MAct where
  kind : Int
  n : Int
  v : Ver

/-- in W, an act lies from o on in the block b -/
def MActIn (W : World) (b o : Nat) (x : MAct) : Prop :=
  W.cell? ⟨b, o, none⟩ = some (.int .i64 x.kind) ∧ W.cell? ⟨b, o + 1, none⟩ = some (.int .i64 x.n) ∧ W.cell? ⟨b, o + 2, none⟩ = some (.string x.v.key) ∧ W.cell? ⟨b, o + 3, none⟩ = some (.int .u64 (x.v.seq : Int)) ∧ W.cell? ⟨b, o + 4, none⟩ = some (.bool x.v.del) ∧ W.cell? ⟨b, o + 5, none⟩ = some (.string x.v.val)
theorem MActIn.kept {W W' : World} {b o : Nat} {x : MAct} (h : MActIn W b o x) (e : W'.heap[b]? = W.heap[b]?) : MActIn W' b o x :=
  ⟨(World.cell?_of_block (a := ⟨b, o, none⟩) e).trans h.1, (World.cell?_of_block (a := ⟨b, o + 1, none⟩) e).trans h.2.1, (World.cell?_of_block (a := ⟨b, o + 2, none⟩) e).trans h.2.2.1, (World.cell?_of_block (a := ⟨b, o + 3, none⟩) e).trans h.2.2.2.1, (World.cell?_of_block (a := ⟨b, o + 4, none⟩) e).trans h.2.2.2.2.1, (World.cell?_of_block (a := ⟨b, o + 5, none⟩) e).trans h.2.2.2.2.2⟩

/-- in W, v is a slice of these acts -/
def MActsAt (W : World) (v : Value) (l : List MAct) : Prop :=
  ∃ (ao : Option Addr) (cap : Nat), v = .slice ao l.length cap ∧ l.length ≤ cap ∧ cap ≤ 9223372036854775807 ∧ (0 < l.length → ∃ b off, ao = some ⟨b, off, none⟩ ∧ b < W.heap.size ∧ ∀ i (hi : i < l.length), MActIn W b (off + i * 6) l[i])
end Go.Proofs.Ytcfcijgnkbmlaaa
