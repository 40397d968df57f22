
/- A block of bytes that is known whole. Condition: none. -/
import Derived.Test.YtndekdgpibipnaaQOwn
import Derived.Test.YtndekdgpibipnaaQFp

namespace Go.Proofs.Ytndekdgpibipnaa
open Go.RowKit Go.Shelf

/-- in W, block g is a row of just these bytes -/
def Bytes (W : World) (g : Nat) (l : List UInt8) : Prop := W.heap[g]? = some (.cells (bcells l).toArray 5 (0, 0))
theorem Bytes.lt {W : World} {g : Nat} {l : List UInt8} (h : Bytes W g l) : g < W.heap.size := (Array.getElem?_eq_some_iff.1 h).1
theorem Bytes.cell {W : World} {g : Nat} {l : List UInt8} (h : Bytes W g l) {i : Nat} (hi : i < l.length) : W.cell? ⟨g, i, none⟩ = some (.int .u8 (l[i].toNat : Int)) := by
  simp [World.cell?, show W.heap[g]? = _ from h, bcells, hi]
theorem Bytes.frozen {W : World} {g : Nat} {l : List UInt8} (h : Bytes W g l) (i : Nat) : W.frozen? ⟨g, i, none⟩ = false := by simp [World.frozen?, show W.heap[g]? = _ from h]
theorem Bytes.keep {W W' : World} {g : Nat} {l : List UInt8} {fp : Nat → Prop} (h : Bytes W g l) (hk : Keep fp W W') (hf : fp g) : Bytes W' g l := (hk.block g hf h.lt).trans h
theorem Bytes.below {W W' : World} {g : Nat} {l : List UInt8} {B : Nat} (h : Bytes W g l) (hk : Below B W W') (hf : g < B) : Bytes W' g l := (hk.block g hf).trans h
theorem bcells_set (l : List UInt8) (i : Nat) (c : UInt8) : bcells (l.set i c) = (bcells l).set i (.int .u8 (c.toNat : Int)) := by simp [bcells, List.map_set]
theorem Bytes.set {W : World} {g : Nat} {l : List UInt8} (h : Bytes W g l) (i : Nat) (c : UInt8) : Bytes (W.setCell ⟨g, i, none⟩ (.int .u8 (c.toNat : Int))) g (l.set i c) := by
  obtain ⟨hlt, hk⟩ := Array.getElem?_eq_some_iff.1 h
  show (W.heap.modify g _)[g]? = _
  rw [Array.getElem?_eq_getElem (by rw [Array.size_modify]; exact hlt), Array.getElem_modify_self, hk, bcells_set]
  simp
theorem Bytes.new (W : World) (l : List UInt8) : Bytes (W.alloc (.cells (bcells l).toArray 5)) W.heap.size l := World.alloc_heap_new W _
/-- the whole of it as a text -/
theorem Bytes.str {W : World} {g : Nat} {l : List UInt8} (h : Bytes W g l) (cap : Nat) : (convert 93 9 (.slice (some ⟨g, 0, none⟩) l.length cap)).run Try.prog W = .ok (.string ⟨l.toArray⟩) W :=
  run_convert_bytes_back (P := Try.prog) W 93 9 5 ⟨g, 0, none⟩ cap l Try.underlying93 Try.underlying5 Try.underlying9 (fun j hj => by
    rw [show (⟨g, 0, none⟩ : Addr).add j = ⟨g, j, none⟩ by rw [Addr.add_lit]; simp]
    exact h.cell hj)
theorem info_u8 : (Try.prog.info? 5).map (fun i => (i.zero, i.size, i.bytes)) = some (some (.int .u8 0), 1, 1) := by kernel_rfl
/-- 'make([]byte, n)' -/
theorem make_bytes (n : Nat) (hn : n ≤ 281474976710656) (w : World) :
    (Instr.makeSlice 93 (.int .i64 (n : Int)) (.int .i64 (n : Int))).run Try.prog w = .ok (.slice (some ⟨w.heap.size, 0, none⟩) n n) (w.alloc (.cells (bcells (List.replicate n 0)).toArray 5)) := by
  obtain ⟨i, hi, hz0, hz1, hz2⟩ := info_parts info_u8
  have h := run_make (P := Try.prog) w 93 5 i (.int .u8 0) Try.underlying93 hi hz0 .i64 .i64 (n : Int) (n : Int) (by omega) (by omega) (by rw [hz2]; omega) (by omega)
  have e : madeCells (Value.int .u8 0).cells (n * i.size) = (bcells (List.replicate n 0)).toArray := by
    rw [hz1]
    apply Array.ext
    · rw [size_madeCells]; simp [bcells]
    · intro j h1 h2
      have hj : j < n := by simpa [bcells] using h2
      simp [madeCells, bcells, Value.cells, Nat.mod_one]
  simp only [Int.toNat_natCast] at h
  rw [e] at h
  exact h
end Go.Proofs.Ytndekdgpibipnaa
