
/- Slices of truths, and of acts, in memory. Condition: none. -/
import Derived.Test.YtndekdgpibipnaaBase
namespace Go.Proofs.Ytndekdgpibipnaa
open Go.RowKit

/-- in W, v is a slice of these truths -/
def BoolsAt (W : World) (v : Value) (l : List Bool) : Prop :=
  ∃ (ao : Option Addr) (cap : Nat), v = .slice ao l.length cap ∧ l.length ≤ cap ∧ cap ≤ 9223372036854775807 ∧ (0 < l.length → ∃ b off, ao = some ⟨b, off, none⟩ ∧ b < W.heap.size ∧ ∀ i (hi : i < l.length), W.cell? ⟨b, off + i, none⟩ = some (.bool l[i]))
theorem BoolsAt.kept {W W' : World} {v : Value} {l : List Bool} (h : BoolsAt W v l) (hs : W.heap.size ≤ W'.heap.size) (hb : 0 < l.length → ∀ b, b < W.heap.size → v.ownBlock = some b → W'.heap[b]? = W.heap[b]?) : BoolsAt W' v l := by
  obtain ⟨ao, cap, rfl, h1, h2, h⟩ := h
  refine ⟨ao, cap, rfl, h1, h2, fun h0 => ?_⟩
  obtain ⟨b, off, rfl, hlt, hc⟩ := h h0
  exact ⟨b, off, rfl, Nat.lt_of_lt_of_le hlt hs, fun i hi => (World.cell?_of_block (a := ⟨b, off + i, none⟩) (hb h0 b hlt rfl)).trans (hc i hi)⟩
theorem BoolsAt.below {W W' : World} {v : Value} {l : List Bool} (h : BoolsAt W v l) (hb : Below W.heap.size W W') : BoolsAt W' v l := h.kept hb.size (fun _ b hl _ => hb.block b hl)

/-- an act -/
structure AcT where
  kind : Int
  at' : Int
  num : Int
  keep : List Bool

/-- in W, an act lies from o on in the block b -/
def ActIn (W : World) (b o : Nat) (x : AcT) : Prop :=
  W.cell? ⟨b, o, none⟩ = some (.int .i64 x.kind) ∧ W.cell? ⟨b, o + 1, none⟩ = some (.int .i64 x.at') ∧ W.cell? ⟨b, o + 2, none⟩ = some (.int .i64 x.num) ∧ ∃ u, W.cell? ⟨b, o + 3, none⟩ = some u ∧ BoolsAt W u x.keep
theorem ActIn.below {W W' : World} {b o : Nat} {x : AcT} (h : ActIn W b o x) (hlt : b < W.heap.size) (hb : Below W.heap.size W W') : ActIn W' b o x := by
  obtain ⟨h0, h1, h2, u, h3, h4⟩ := h
  have e := hb.block b hlt
  exact ⟨(World.cell?_of_block (a := ⟨b, o, none⟩) e).trans h0, (World.cell?_of_block (a := ⟨b, o + 1, none⟩) e).trans h1, (World.cell?_of_block (a := ⟨b, o + 2, none⟩) e).trans h2, u, (World.cell?_of_block (a := ⟨b, o + 3, none⟩) e).trans h3, h4.below hb⟩

/-- in W, v is a slice of these acts -/
def ActsAt (W : World) (v : Value) (l : List AcT) : Prop :=
  ∃ (ao : Option Addr) (cap : Nat), v = .slice ao l.length cap ∧ l.length ≤ cap ∧ cap ≤ 9223372036854775807 ∧ (0 < l.length → ∃ b off, ao = some ⟨b, off, none⟩ ∧ b < W.heap.size ∧ ∀ i (hi : i < l.length), ActIn W b (off + i * 4) l[i])
theorem ActsAt.below {W W' : World} {v : Value} {l : List AcT} (h : ActsAt W v l) (hb : Below W.heap.size W W') : ActsAt W' v l := by
  obtain ⟨ao, cap, rfl, h1, h2, h⟩ := h
  refine ⟨ao, cap, rfl, h1, h2, fun h0 => ?_⟩
  obtain ⟨b, off, rfl, hlt, hc⟩ := h h0
  exact ⟨b, off, rfl, Nat.lt_of_lt_of_le hlt hb.size, fun i hi => (hc i hi).below hlt hb⟩
end Go.Proofs.Ytndekdgpibipnaa
