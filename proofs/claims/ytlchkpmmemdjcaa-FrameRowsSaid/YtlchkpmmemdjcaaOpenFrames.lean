
/- Arguments opened: a slice of frames. Condition: none. -/
import Derived.Test.YtlchkpmmemdjcaaRow
import Derived.Test.YtlchkpmmemdjcaaFrs
import Derived.Test.YtlchkpmmemdjcaaBulk
import Derived.Deep.SlicePairs
import Derived.RangeFuncSeq
namespace Go.Proofs.Ytlchkpmmemdjcaa
open Go.ChangeShapes Go.WideShapes Go.ChangeAt Go.RowKit Go.Deep

/-- a frame as a datum -/
def frmD {H : Type} (x : Frm) : DataW H := .agg [.lit (.int .u8 (x.1.toNat : Int)), .lit (.string x.2.data.toList)]
instance : Inhabited Frm := ⟨(0, .empty)⟩

set_option maxRecDepth 100000 in
theorem open_frames {H : Type} {enc : TypeId × Value → H} {W : World} {r : Reach} {b0 : Nat} {v : Value} {d : DataW H} {p : List MemPlace}
    (hv : Value.okWide Try.prog W r b0 66 v) (h : DataW.Trod enc Try.prog W 0 (fun _ => true) true 66 v d p) :
    ∃ l : List Frm, FrsAt W v l ∧ (∀ x ∈ l, x.2.size ≤ 9223372036854775807) ∧ ((d = .nil ∧ l = []) ∨ ∃ sp, d = .slice (l.map frmD) sp) := by
  obtain ⟨a0, len, cap, rfl⟩ := okWide_slice Try.underlying66 hv
  obtain ⟨fuel, hf⟩ := h
  rcases open_slice_pairs Try.underlying66 Try.underlying32 (by kernel_rfl) rfl rfl (by kernel_rfl) (by kernel_rfl) hf with ⟨hcs, hx⟩ | ⟨a, len', cap', m, n, V0, V1, D0, D1, P0, P1, hcs, _, hl, hm, hmm, hx, hg⟩
  · simp only [Value.cells, List.cons.injEq, Value.slice.injEq, and_true] at hcs
    obtain ⟨rfl, rfl, rfl⟩ := hcs
    simp only [Prod.mk.injEq] at hx
    exact ⟨[], ⟨none, 0, rfl, fun h => by simp at h⟩, (fun x hx => by cases hx), .inl ⟨hx.1, rfl⟩⟩
  · simp only [Value.cells, List.cons.injEq, Value.slice.injEq, and_true] at hcs
    obtain ⟨rfl, rfl, rfl⟩ := hcs
    simp only [if_true] at hmm
    subst hmm
    simp only [Prod.mk.injEq] at hx
    obtain ⟨f, hF⟩ := choose_lt (n := m) (p := fun i (x : Frm) => V0 i = .int .u8 (x.1.toNat : Int) ∧ V1 i = .string x.2 ∧ D0 i = .lit (.int .u8 (x.1.toNat : Int)) ∧ D1 i = .lit (.string x.2.data.toList) ∧ x.2.size ≤ 9223372036854775807) (fun i hi => by
      obtain ⟨_, _, t0, t1⟩ := hg i hi
      obtain ⟨c0, e0, q0, w0⟩ := DataW.trod_int Try.underlying5 t0
      obtain ⟨c1, e1, q1, ws⟩ := DataW.trod_string Try.underlying9 t1
      have b0 : 0 ≤ c0 ∧ c0 ≤ 255 := by simpa [Lit.wf, IntKind.min, IntKind.max, IntKind.signed, IntKind.bits] using w0
      have hc : ((UInt8.ofNat c0.toNat).toNat : Int) = c0 := by
        rw [UInt8.toNat_ofNat']; omega
      simp only [List.cons.injEq, and_true] at e0 e1
      simp only [Prod.mk.injEq] at q0 q1
      exact ⟨(UInt8.ofNat c0.toNat, c1), by rw [hc]; exact e0, e1, by rw [hc]; exact q0.1, q1.1, by unfold maxLen at ws; exact ws⟩)
    have hlen : ((List.range len).map f).length = len := by simp
    refine ⟨(List.range len).map f, ⟨some a, m, by rw [hlen], fun h0 => ?_⟩, ?_, .inr ⟨(List.range (m - len)).map fun j => .agg [D0 (len + j), D1 (len + j)], ?_⟩⟩
    · rw [hlen] at h0
      obtain ⟨b, off, spot⟩ := a
      have hspot : spot = none := by simpa [Addr.add] using World.cell?_spot (hg 0 (by omega)).1
      subst hspot
      have hc := fun i (hi : i < len) => hg i (by omega)
      simp only [add_plain] at hc
      refine ⟨b, off, rfl, ?_, fun i hi => ?_⟩
      · obtain ⟨o, ho, _⟩ := not_walk_of_cell (hc 0 h0).1
        exact (Array.getElem?_eq_some_iff.1 ho).1
      · rw [hlen] at hi
        obtain ⟨c0, c1, _, _⟩ := hc i hi
        obtain ⟨e0, e1, _, _, _⟩ := hF i (by omega)
        simp only [List.getElem_map, List.getElem_range]
        rw [e0] at c0
        rw [e1] at c1
        exact ⟨c0, by rw [Nat.add_assoc]; exact c1⟩
    · intro x hx'
      obtain ⟨i, hi, rfl⟩ := List.mem_map.1 hx'
      exact (hF i (by have := List.mem_range.1 hi; omega)).2.2.2.2
    · rw [hx.1, List.map_map]
      congr 1
      refine List.map_congr_left (fun i hi => ?_)
      obtain ⟨_, _, e0, e1, _⟩ := hF i (by have := List.mem_range.1 hi; omega)
      rw [e0, e1]; rfl

/-- the statement's own bound, of a slice of frames -/
theorem frames_small {H : Type} {ds : List (DataW H)} {d : DataW H} {l : List Frm} (hk : Rows.uptoSmall H ds = true) (hm : d ∈ ds) (hs : (d = .nil ∧ l = []) ∨ ∃ sp, d = .slice (l.map frmD) sp) : l.length ≤ 1048576 ∧ ∀ x ∈ l, x.2.size ≤ 1048576 := by
  rcases hs with ⟨_, rfl⟩ | ⟨sp, rfl⟩
  · exact ⟨by simp, fun x hx => by cases hx⟩
  · have h1 := bulks.part_le hm
    have h2 := bulks.bound hk
    have h3 := bulks.slice_le (l.map (frmD (H := H))) sp
    have h4 := bulks.slice_elems (l.map (frmD (H := H))) sp
    rw [List.length_map] at h3
    refine ⟨by omega, fun x hx => ?_⟩
    have h5 := bulks.part_le (List.mem_map_of_mem (f := frmD (H := H)) hx)
    have h6 : x.2.data.toList.length ≤ Rows.uptoBulk (frmD (H := H) x) := by
      simp [frmD, Rows.uptoBulk, Rows.uptoBulkAll]
      omega
    rw [Array.length_toList] at h6
    have e : x.2.data.size = x.2.size := rfl
    omega
theorem bytes_frame : Try.prog.bytesOf 32 = 24 := by kernel_rfl
/-- the form's own reach, of a slice of frames -/
theorem frames_reach {H : Type} {ts : List TypeId} {ds : List (DataW H)} (h : (DataW.weightsEach Try.prog ts ds).all (· ≤ reachBytes) = true) {j : Nat} {d : DataW H} {l : List Frm} (ht : ts[j]? = some 66) (hd : ds[j]? = some d)
    (hs : (d = .nil ∧ l = []) ∨ ∃ sp, d = .slice (l.map frmD) sp) : l.length ≤ 5864062014634 := by
  rcases hs with ⟨_, rfl⟩ | ⟨sp, rfl⟩
  · simp
  · have := sized_slice h ht hd Try.underlying66
    rw [bytes_frame] at this
    simp only [List.length_map, reachBytes] at this
    omega
end Go.Proofs.Ytlchkpmmemdjcaa
