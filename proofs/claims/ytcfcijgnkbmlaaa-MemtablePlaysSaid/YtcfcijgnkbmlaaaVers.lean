
/- Slices of versions in memory. Condition: none. -/
import Derived.Test.YtcfcijgnkbmlaaaVer
namespace Go.Proofs.Ytcfcijgnkbmlaaa
open Go.RowKit

/-- in W, a version lies from o on in the block b -/
def VerIn (W : World) (b o : Nat) (x : Ver) : Prop :=
  W.cell? ⟨b, o, none⟩ = some (.string x.key) ∧ W.cell? ⟨b, o + 1, none⟩ = some (.int .u64 (x.seq : Int)) ∧ W.cell? ⟨b, o + 2, none⟩ = some (.bool x.del) ∧ W.cell? ⟨b, o + 3, none⟩ = some (.string x.val)
theorem VerIn.kept {W W' : World} {b o : Nat} {x : Ver} (h : VerIn W b o x) (hb : W'.heap[b]? = W.heap[b]?) : VerIn W' b o x :=
  ⟨(World.cell?_of_block (a := ⟨b, o, none⟩) hb).trans h.1, (World.cell?_of_block (a := ⟨b, o + 1, none⟩) hb).trans h.2.1, (World.cell?_of_block (a := ⟨b, o + 2, none⟩) hb).trans h.2.2.1, (World.cell?_of_block (a := ⟨b, o + 3, none⟩) hb).trans h.2.2.2⟩

/-- in W, these versions lie from off on in the block b -/
def RowIn (W : World) (b off : Nat) (l : List Ver) : Prop := b < W.heap.size ∧ ∀ i (hi : i < l.length), VerIn W b (off + i * 4) l[i]
theorem RowIn.kept {W W' : World} {b off : Nat} {l : List Ver} (h : RowIn W b off l) (hs : W.heap.size ≤ W'.heap.size) (hb : W'.heap[b]? = W.heap[b]?) : RowIn W' b off l :=
  ⟨Nat.lt_of_lt_of_le h.1 hs, fun i hi => (h.2 i hi).kept hb⟩
theorem RowIn.below {W W' : World} {b off : Nat} {l : List Ver} (h : RowIn W b off l) (hb : Below W.heap.size W W') : RowIn W' b off l := h.kept hb.size (hb.block b h.1)

/-- in W, v is a slice of these versions -/
def VersAt (W : World) (v : Value) (l : List Ver) : Prop :=
  ∃ (ao : Option Addr) (cap : Nat), v = .slice ao l.length cap ∧ l.length ≤ cap ∧ cap ≤ 9223372036854775807 ∧ (0 < l.length → ∃ b off, ao = some ⟨b, off, none⟩ ∧ RowIn W b off l)
theorem VersAt.below {W W' : World} {v : Value} {l : List Ver} (h : VersAt W v l) (hb : Below W.heap.size W W') : VersAt W' v l := by
  obtain ⟨ao, cap, rfl, h1, h2, h⟩ := h
  refine ⟨ao, cap, rfl, h1, h2, fun h0 => ?_⟩
  obtain ⟨b, off, he, hr⟩ := h h0
  exact ⟨b, off, he, hr.below hb⟩
end Go.Proofs.Ytcfcijgnkbmlaaa
