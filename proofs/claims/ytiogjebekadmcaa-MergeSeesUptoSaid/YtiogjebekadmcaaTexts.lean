
/- Slices of texts. Condition: none. -/
import Derived.Test.YtiogjebekadmcaaBase
import Derived.Laws.CopyOwn
namespace Go.Proofs.Ytiogjebekadmcaa
open Go.RowKit

/-- in W, v is a slice of these texts -/
def TextsAt (W : World) (v : Value) (l : List ByteArray) : Prop :=
  ∃ (ao : Option Addr) (cap : Nat), v = .slice ao l.length cap ∧ (0 < l.length → ∃ b off, ao = some ⟨b, off, none⟩ ∧ b < W.heap.size ∧ ∀ i (hi : i < l.length), W.cell? ⟨b, off + i, none⟩ = some (.string l[i]))
theorem TextsAt.kept {W W' : World} {v : Value} {l : List ByteArray} (h : TextsAt W v l) (hb : Below W.heap.size W W') : TextsAt W' v l := by
  obtain ⟨ao, cap, rfl, h⟩ := h
  refine ⟨ao, cap, rfl, fun h0 => ?_⟩
  obtain ⟨b, off, he, hB, hc⟩ := h h0
  exact ⟨b, off, he, by have := hb.size; omega, fun i hi => (hb.cell (p := ⟨b, off + i, none⟩) hB).trans (hc i hi)⟩

/-- 'make([]T, n)' of elements of one cell -/
theorem make_row {P : Program} (t e : TypeId) (z : Value) (bytes : Nat) (ht : P.underlying t = some (.slice e)) (hi : (P.info? e).map (fun i => (i.zero, i.size, i.bytes)) = some (some z, 1, bytes)) (hz : z.cells = #[z]) (n : Nat) (hb : bytes * n ≤ 281474976710656) (hn : n ≤ 9223372036854775807) (w : World) :
    (Instr.makeSlice t (.int .i64 (n : Int)) (.int .i64 (n : Int))).run P w = .ok (.slice (some ⟨w.heap.size, 0, none⟩) n n) (w.alloc (.cells (List.replicate n z).toArray e)) := by
  obtain ⟨i, hi, hz0, hz1, hz2⟩ := info_parts hi
  have h := run_make (P := P) w t e i z ht hi hz0 .i64 .i64 (n : Int) (n : Int) (by omega) (by omega) (by rw [hz2]; omega) (by omega)
  have e1 : madeCells z.cells (n * i.size) = (List.replicate n z).toArray := by
    rw [hz1, hz]
    apply Array.ext
    · rw [size_madeCells]; simp
    · intro j h1 h2
      have hj : j < n := by simpa using h2
      simp [madeCells, Nat.mod_one]
  simp only [Int.toNat_natCast] at h
  rw [e1] at h
  exact h
/-- texts as cells -/
def scells (l : List ByteArray) : List Value := l.map .string
theorem scells_length (l : List ByteArray) : (scells l).length = l.length := by simp [scells]
theorem scells_get (l : List ByteArray) (j : Nat) (v : Value) (h : (scells l)[j]? = some v) : ∃ hj : j < l.length, v = .string l[j] := by
  unfold scells at h
  rw [List.getElem?_map] at h
  cases hj : l[j]? with
  | none => rw [hj] at h; cases h
  | some s =>
    rw [hj] at h
    obtain ⟨hlt, he⟩ := List.getElem?_eq_some_iff.1 hj
    exact ⟨hlt, by simp at h; rw [he]; exact h.symm⟩
theorem TextsAt.block {W : World} {g : Nat} {l : List ByteArray} {t : TypeId} (h : W.heap[g]? = some (.cells (scells l).toArray t (0, 0))) (cap : Nat) : TextsAt W (.slice (some ⟨g, 0, none⟩) l.length cap) l :=
  ⟨_, cap, rfl, fun _ => ⟨g, 0, rfl, (Array.getElem?_eq_some_iff.1 h).1, fun i hi => by simp [World.cell?, h, scells, hi]⟩⟩
theorem splice_all {α : Type} (L cs : List α) (h : L.length = cs.length) : splice L 0 cs = cs := by simp [splice, h]
end Go.Proofs.Ytiogjebekadmcaa
