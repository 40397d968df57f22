
/- Slices of ints, of files, and roots, in memory. Condition: none. -/
import Derived.Test.YtndekdgpibipnaaPlainRt
import Derived.Test.YtndekdgpibipnaaFp
namespace Go.Proofs.Ytndekdgpibipnaa
open Go.RowKit

/-- in W, v is a slice of these ints -/
def IntsAt (W : World) (v : Value) (l : List Int) : Prop :=
  ∃ (ao : Option Addr) (cap : Nat), v = .slice ao l.length cap ∧ l.length ≤ cap ∧ cap ≤ 9223372036854775807 ∧ (0 < l.length → ∃ b off, ao = some ⟨b, off, none⟩ ∧ b < W.heap.size ∧ ∀ i (hi : i < l.length), W.cell? ⟨b, off + i, none⟩ = some (.int .i64 l[i]))
theorem IntsAt.kept {W W' : World} {v : Value} {l : List Int} (h : IntsAt W v l) (hs : W.heap.size ≤ W'.heap.size) (hb : 0 < l.length → ∀ b, b < W.heap.size → v.ownBlock = some b → W'.heap[b]? = W.heap[b]?) : IntsAt W' v l := by
  obtain ⟨ao, cap, rfl, h1, h2, h⟩ := h
  refine ⟨ao, cap, rfl, h1, h2, fun h0 => ?_⟩
  obtain ⟨b, off, rfl, hlt, hc⟩ := h h0
  exact ⟨b, off, rfl, Nat.lt_of_lt_of_le hlt hs, fun i hi => (World.cell?_of_block (a := ⟨b, off + i, none⟩) (hb h0 b hlt rfl)).trans (hc i hi)⟩
theorem IntsAt.below {W W' : World} {v : Value} {l : List Int} (h : IntsAt W v l) (hb : Below W.heap.size W W') : IntsAt W' v l := h.kept hb.size (fun _ b hl _ => hb.block b hl)

/-- in W, a file lies from o on in the block b -/
def FileIn (W : World) (b o : Nat) (x : Pl.FileP) : Prop :=
  W.cell? ⟨b, o, none⟩ = some (.string x.name) ∧ W.cell? ⟨b, o + 1, none⟩ = some (.int .i64 x.size) ∧ ∃ u, W.cell? ⟨b, o + 2, none⟩ = some u ∧ IntsAt W u x.blocks
theorem FileIn.below {W W' : World} {b o : Nat} {x : Pl.FileP} (h : FileIn W b o x) (hlt : b < W.heap.size) (hb : Below W.heap.size W W') : FileIn W' b o x := by
  obtain ⟨h0, h1, u, h3, h4⟩ := h
  have e := hb.block b hlt
  exact ⟨(World.cell?_of_block (a := ⟨b, o, none⟩) e).trans h0, (World.cell?_of_block (a := ⟨b, o + 1, none⟩) e).trans h1, u, (World.cell?_of_block (a := ⟨b, o + 2, none⟩) e).trans h3, h4.below hb⟩

/-- in W, v is a slice of these files -/
def FilesAt (W : World) (v : Value) (l : List Pl.FileP) : Prop :=
  ∃ (ao : Option Addr) (cap : Nat), v = .slice ao l.length cap ∧ l.length ≤ cap ∧ cap ≤ 9223372036854775807 ∧ (0 < l.length → ∃ b off, ao = some ⟨b, off, none⟩ ∧ b < W.heap.size ∧ ∀ i (hi : i < l.length), FileIn W b (off + i * 3) l[i])
theorem FilesAt.below {W W' : World} {v : Value} {l : List Pl.FileP} (h : FilesAt W v l) (hb : Below W.heap.size W W') : FilesAt W' v l := by
  obtain ⟨ao, cap, rfl, h1, h2, h⟩ := h
  refine ⟨ao, cap, rfl, h1, h2, fun h0 => ?_⟩
  obtain ⟨b, off, rfl, hlt, hc⟩ := h h0
  exact ⟨b, off, rfl, Nat.lt_of_lt_of_le hlt hb.size, fun i hi => (hc i hi).below hlt hb⟩
/-- a file's numbers are ints; a root's too -/
def Pl.FileP.fine (x : Pl.FileP) : Prop := (-9223372036854775808 ≤ x.size ∧ x.size ≤ 9223372036854775807) ∧ ∀ b ∈ x.blocks, -9223372036854775808 ≤ b ∧ b ≤ 9223372036854775807
structure Pl.RootP.fine (r : Pl.RootP) : Prop where
  gen : r.gen ≤ 18446744073709551615
  files : ∀ x ∈ r.files, x.fine
end Go.Proofs.Ytndekdgpibipnaa
