
/- Walks: a strings.Builder that lies at the head of a writer of blocks. Condition: bytes that fit. -/
import Derived.Test.YtiogjebekadmcaaWRefBlk2
import Derived.Lib.Builder
import Derived.Lib.AppendStr
import Derived.Lib.UnsafeStr
import Derived.Laws.Externs
namespace Go.Proofs.Ytiogjebekadmcaa
open Go.RowKit

/-- in w, a writer lies in the block b: its builder's own address (or none yet), the bytes, how many versions, the key ahead -/
def WrAt (b : Nat) (p : Value) (l : List UInt8) (cnt : Int) (ah : ByteArray) (w : World) : Prop :=
  ∃ v, w.heap[b]? = some (.cells #[p, v, .int .i64 cnt, .string ah] 101 (0, 0)) ∧ w.ownsRow (b + 1) 5 1 v l.length (bcells l)
theorem WrAt.lt {b : Nat} {p : Value} {l : List UInt8} {cnt : Int} {ah : ByteArray} {w : World} (h : WrAt b p l cnt ah w) : b < w.heap.size := by
  obtain ⟨v, hb, _⟩ := h
  exact (Array.getElem?_eq_some_iff.1 hb).1
theorem WrAt.ne {b : Nat} {w : World} {v : Value} {n : Nat} {xs : List Value} (h : w.ownsRow (b + 1) 5 1 v n xs) : v.ownBlock ≠ some b := fun e => by have := (h.lt b e).1; omega
theorem WrAt.setP {b : Nat} {p : Value} {l : List UInt8} {cnt : Int} {ah : ByteArray} {w : World} (h : WrAt b p l cnt ah w) (q : Value) : WrAt b q l cnt ah (w.setCell ⟨b, 0, none⟩ q) := by
  obtain ⟨v, hb, hown⟩ := h
  refine ⟨v, ?_, hown.kept (row := some b) ⟨rfl, rfl, rfl, by simp [World.setCell], fun k _ hk => Below.heap_setCell _ _ _ _ (fun e => hk (by simp [e]))⟩ (Or.inr (WrAt.ne hown))⟩
  simp [World.setCell, Array.getElem?_modify, hb]
theorem info_builder : (Try.prog.info? 99).map (fun i => i.size) = some 2 := by kernel_rfl

set_option maxRecDepth 100000 in
set_option maxHeartbeats 1000000 in
theorem copyCheck_used (b : Nat) (w : World) (h0 : w.cell? ⟨b, 0, none⟩ = some (.pointer (some ⟨b, 0, none⟩))) :
    Calls Try.prog 77 #[.pointer (some ⟨b, 0, none⟩)] w fun e w' => e = .returned (.tuple #[]) ∧ w' = w := by
  obtain ⟨j, hj, _⟩ := Option.map_eq_some_iff.1 info_builder
  have hne := fun w => Lib.run_neq_ptr_same (P := Try.prog) w ⟨b, 0, none⟩ Try.underlying97 hj
  go_enter Try.func77, Try.ntmps77
  go_wp2
  go_end0
  exact ⟨rfl, rfl⟩

set_option maxRecDepth 100000 in
set_option maxHeartbeats 1000000 in
theorem copyCheck_fresh (b : Nat) (w : World) (h0 : w.cell? ⟨b, 0, none⟩ = some (.pointer none)) (hsh : w.shape? b = some (101, 4)) (hfz : w.frozen? ⟨b, 0, none⟩ = false) :
    Calls Try.prog 77 #[.pointer (some ⟨b, 0, none⟩)] w fun e w' => e = .returned (.tuple #[]) ∧ w' = w.setCell ⟨b, 0, none⟩ (.pointer (some ⟨b, 0, none⟩)) := by
  obtain ⟨j, hj, hjs⟩ := Option.map_eq_some_iff.1 info_builder
  have hlies : liesAt Try.prog Try.prog.depth 101 (4 / Try.prog.cellsOf 101) 0 99 1 = true := by kernel_rfl
  go_enter Try.func77, Try.ntmps77
  go_wp2
  rw [Lib.run_to_unsafe w ⟨b, 0, none⟩ Try.underlying97 Try.underlying122 hj (by rw [hjs]; decide) hsh (by show 0 < 4; decide)]
  simp only [Result.andThen]
  rw [Oper.upon_value]
  go_wp2
  rw [run_callFunc_extern Try.func81 (by kernel_rfl) (by kernel_rfl) (by kernel_rfl) (e := Extern.AbiNoEscape.same) (by kernel_rfl)]
  rw [Lib.run_noEscape]
  simp only [Result.andThen]
  rw [Oper.upon_value]
  go_wp2
  rw [Lib.run_from_unsafe w ⟨b, 0, none⟩ Try.underlying122 Try.underlying97 hj hsh hlies]
  simp only [Result.andThen]
  rw [Oper.upon_value]
  go_wp2
  go_end0
  exact ⟨rfl, rfl⟩
end Go.Proofs.Ytiogjebekadmcaa
