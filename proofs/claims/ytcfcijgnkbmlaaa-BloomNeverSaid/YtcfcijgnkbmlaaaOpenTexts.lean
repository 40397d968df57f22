/- Arguments opened: a slice of texts. Condition: none. -/
import Derived.Test.YtcfcijgnkbmlaaaRow
import Derived.Test.YtcfcijgnkbmlaaaTexts
import Derived.SliceStrings
import Derived.RangeFuncSeq
namespace Go.Proofs.Ytcfcijgnkbmlaaa
open Go.ChangeShapes Go.WideShapes Go.ChangeAt Go.RowKit

theorem bytes_string : Try.prog.bytesOf 9 = 16 := by kernel_rfl

theorem open_texts {H : Type} {enc : TypeId × Value → H} {W : World} {r : Reach} {b0 : Nat} {v : Value} {d : DataW H} {p : List MemPlace}
    (hv : Value.okWide Try.prog W r b0 28 v) (h : DataW.Trod enc Try.prog W 0 (fun _ => true) true 28 v d p) :
    ∃ l : List ByteArray, TextsAt W v l ∧ (∀ s ∈ l, s.size ≤ 9223372036854775807) ∧ ((d = .nil ∧ l = []) ∨ ∃ sp, d = .slice (strs l) sp) := by
  obtain ⟨a0, len, cap, rfl⟩ := okWide_slice Try.underlying28 hv
  obtain ⟨fuel, hf⟩ := h
  rcases open_strings Try.underlying28 Try.underlying9 (by kernel_rfl) hf with ⟨hcs, hx⟩ | ⟨a, len', cap', ss, hcs, _, hl, hm, hz, hx, hcell, hws⟩
  · simp only [Value.cells, List.cons.injEq, Value.slice.injEq, and_true] at hcs
    obtain ⟨rfl, rfl, rfl⟩ := hcs
    simp only [Prod.mk.injEq] at hx
    exact ⟨[], ⟨none, 0, rfl, fun h => by simp at h⟩, (fun s hs => by cases hs), .inl ⟨hx.1, rfl⟩⟩
  · simp only [Value.cells, List.cons.injEq, Value.slice.injEq, and_true] at hcs
    obtain ⟨rfl, rfl, rfl⟩ := hcs
    simp only [Prod.mk.injEq] at hx
    simp only [if_true] at hz
    have htl : (ss.take len).length = len := by rw [List.length_take]; omega
    refine ⟨ss.take len, ⟨some a, cap, by rw [htl], fun h0 => ?_⟩, (fun s hs => by have := hws s (List.mem_of_mem_take hs); unfold maxLen at this; omega), .inr ⟨_, hx.1⟩⟩
    obtain ⟨b, off, spot⟩ := a
    rw [htl] at h0
    have hspot : spot = none := by simpa [Addr.add] using World.cell?_spot (hcell 0 (by omega))
    subst hspot
    have hc : ∀ i (hi : i < (ss.take len).length), W.cell? ⟨b, off + i, none⟩ = some (.string (ss.take len)[i]) := fun i hi => by
      have h1 := hcell i (by omega)
      rw [Go.WideShapes.add_plain] at h1
      rw [h1, List.getElem_take]
      simp [List.getD, List.getElem?_eq_getElem (show i < ss.length by omega)]
    refine ⟨b, off, rfl, ?_, hc⟩
    obtain ⟨o, ho, _⟩ := not_walk_of_cell (hc 0 (by omega))
    exact (Array.getElem?_eq_some_iff.1 ho).1

/-- a slice of texts has its room -/
theorem texts_room {H : Type} {enc : TypeId × Value → H} {W : World} {v : Value} {d : DataW H} {p : List MemPlace} {l : List ByteArray}
    (h : DataW.Trod enc Try.prog W 0 (fun _ => true) true 28 v d p) (hT : TextsAt W v l) : ∃ ao cap, v = .slice ao l.length cap ∧ l.length ≤ cap ∧ cap ≤ 9223372036854775807 := by
  obtain ⟨ao, cap, rfl, _⟩ := hT
  obtain ⟨fuel, hf⟩ := h
  refine ⟨ao, cap, rfl, ?_⟩
  rcases open_strings Try.underlying28 Try.underlying9 (by kernel_rfl) hf with ⟨hcs, hx⟩ | ⟨a, len', cap', ss, hcs, _, hl, hm, _⟩
  · simp only [Value.cells, List.cons.injEq, Value.slice.injEq, and_true] at hcs
    omega
  · simp only [Value.cells, List.cons.injEq, Value.slice.injEq, and_true] at hcs
    unfold maxLen at hm
    omega

/-- the form's own reach, of a slice of texts -/
theorem texts_sized {H : Type} {ts : List TypeId} {ds : List (DataW H)} (h : (DataW.weightsEach Try.prog ts ds).all (· ≤ reachBytes) = true) {j : Nat} {d : DataW H} {l : List ByteArray} (ht : ts[j]? = some 28) (hd : ds[j]? = some d)
    (hs : (d = .nil ∧ l = []) ∨ ∃ sp, d = .slice (strs l) sp) : l.length ≤ 8796093022208 := by
  rcases hs with ⟨_, rfl⟩ | ⟨sp, rfl⟩
  · simp
  · have := sized_slice h ht hd Try.underlying28
    rw [bytes_string] at this
    simp only [strs, List.length_map, reachBytes] at this
    omega
end Go.Proofs.Ytcfcijgnkbmlaaa
