
/- Arguments opened: slices of acts of law 6. Condition: none. -/
import Derived.Test.YtcfcijgnkbmlaaaRow
import Derived.Test.YtcfcijgnkbmlaaaMActs
import Derived.Lib.SmallJoins
import Derived.Deep.Slices
import Derived.Deep.Strs
import Derived.RangeFuncSeq
namespace Go.Proofs.Ytcfcijgnkbmlaaa
open Go.ChangeShapes Go.WideShapes Go.ChangeAt Go.RowKit Go.Joins Go.Deep

theorem cells_mact : Try.prog.cellsOf 44 = 6 := by kernel_rfl
theorem bytes_mact : Try.prog.bytesOf 44 = 64 := by kernel_rfl
instance : Inhabited MAct := ⟨⟨0, 0, ⟨.empty, 0, false, .empty⟩⟩⟩

/-- an act's numbers are ints -/
def MAct.fine (x : MAct) : Prop := (-9223372036854775808 ≤ x.kind ∧ x.kind ≤ 9223372036854775807) ∧ (-9223372036854775808 ≤ x.n ∧ x.n ≤ 9223372036854775807) ∧ x.v.seq ≤ 18446744073709551615

set_option maxRecDepth 100000 in
theorem open_mact_cells {H : Type} {enc : TypeId × Value → H} {w : World} {n : Nat} {y : DataW H × List MemPlace} {cs : List Value} (hlen : cs.length = 6)
    (h2 : DataW.trod enc Try.prog w 0 (fun _ => true) true n 44 cs = some y) :
    ∃ x : MAct, x.fine ∧ cs = [.int .i64 x.kind, .int .i64 x.n, .string x.v.key, .int .u64 (x.v.seq : Int), .bool x.v.del, .string x.v.val] := by
  obtain ⟨y0, y1, y2, k, hx, _, t0, t1, t2⟩ := trod_struct3 Try.underlying44 h2
  match cs, hlen with
  | [c0, c1, c2, c3, c4, c5], _ =>
    replace t0 : DataW.trod enc Try.prog w 0 (fun _ => true) true k 3 [c0] = some y0 := t0
    replace t1 : DataW.trod enc Try.prog w 0 (fun _ => true) true k 3 [c1] = some y1 := t1
    replace t2 : DataW.trod enc Try.prog w 0 (fun _ => true) true k 24 [c2, c3, c4, c5] = some y2 := t2
    obtain ⟨q0, e0, _, w0⟩ := DataW.trod_int Try.underlying3 t0
    obtain ⟨q1, e1, _, w1⟩ := DataW.trod_int Try.underlying3 t1
    obtain ⟨z0, z1, z2, z3, k2, hx2, _, s0, s1, s2, s3⟩ := trod_struct4 Try.underlying24 t2
    replace s0 : DataW.trod enc Try.prog w 0 (fun _ => true) true k2 9 [c2] = some z0 := s0
    replace s1 : DataW.trod enc Try.prog w 0 (fun _ => true) true k2 22 [c3] = some z1 := s1
    replace s2 : DataW.trod enc Try.prog w 0 (fun _ => true) true k2 4 [c4] = some z2 := s2
    replace s3 : DataW.trod enc Try.prog w 0 (fun _ => true) true k2 9 [c5] = some z3 := s3
    obtain ⟨kk, f0, _, wk⟩ := DataW.trod_string Try.underlying9 s0
    obtain ⟨q, f1, _, wa⟩ := DataW.trod_int Try.underlying22 s1
    obtain ⟨d, f2, _⟩ := DataW.trod_bool Try.underlying4 s2
    obtain ⟨s, f3, _, ws⟩ := DataW.trod_string Try.underlying9 s3
    simp at e0 e1 f0 f1 f2 f3
    subst e0 e1 f0 f1 f2 f3
    have b0 : -9223372036854775808 ≤ q0 ∧ q0 ≤ 9223372036854775807 := by simpa [Lit.wf, IntKind.min, IntKind.max, IntKind.signed, IntKind.bits] using w0
    have b1 : -9223372036854775808 ≤ q1 ∧ q1 ≤ 9223372036854775807 := by simpa [Lit.wf, IntKind.min, IntKind.max, IntKind.signed, IntKind.bits] using w1
    have ba : 0 ≤ q ∧ q ≤ 18446744073709551615 := by simpa [Lit.wf, IntKind.min, IntKind.max, IntKind.signed, IntKind.bits] using wa
    obtain ⟨m, rfl⟩ := Int.eq_ofNat_of_zero_le ba.1
    exact ⟨⟨q0, q1, ⟨kk, m, d, s⟩⟩, ⟨b0, b1, by have := ba.2; show m ≤ _; omega⟩, rfl⟩

set_option maxRecDepth 100000 in
theorem open_macts {H : Type} {enc : TypeId × Value → H} {W : World} {r : Reach} {b0 : Nat} {v : Value} {d : DataW H} {p : List MemPlace}
    (hv : Value.okWide Try.prog W r b0 38 v) (h : DataW.Trod enc Try.prog W 0 (fun _ => true) true 38 v d p) :
    ∃ l : List MAct, MActsAt W v l ∧ (∀ x ∈ l, x.fine) ∧ ((d = .nil ∧ l = []) ∨ ∃ ds sp, d = .slice ds sp ∧ ds.length = l.length) := by
  obtain ⟨a0, len, cap, rfl⟩ := okWide_slice Try.underlying38 hv
  obtain ⟨fuel, hf⟩ := h
  rcases open_slice Try.underlying38 hf with ⟨hcs, hx⟩ | ⟨a, len', cap', m, n', D, Pl, hcs, _, hl, hm, hmm, hx, hg⟩
  · simp only [Value.cells, List.cons.injEq, Value.slice.injEq, and_true] at hcs
    obtain ⟨rfl, rfl, rfl⟩ := hcs
    simp only [Prod.mk.injEq] at hx
    exact ⟨[], ⟨none, 0, rfl, by simp, by omega, fun h => by simp at h⟩, (fun x hx => by cases hx), .inl ⟨hx.1, rfl⟩⟩
  · simp only [Value.cells, List.cons.injEq, Value.slice.injEq, and_true] at hcs
    obtain ⟨rfl, rfl, rfl⟩ := hcs
    simp only [if_true] at hmm
    subst hmm
    simp only [Prod.mk.injEq] at hx
    obtain ⟨f, hf⟩ := choose_lt (n := m) (p := fun i (x : MAct) => x.fine ∧
        W.cell? (a.add (i * 6)) = some (.int .i64 x.kind) ∧ W.cell? ((a.add (i * 6)).add 1) = some (.int .i64 x.n) ∧ W.cell? ((a.add (i * 6)).add 2) = some (.string x.v.key) ∧ W.cell? ((a.add (i * 6)).add 3) = some (.int .u64 (x.v.seq : Int)) ∧ W.cell? ((a.add (i * 6)).add 4) = some (.bool x.v.del) ∧ W.cell? ((a.add (i * 6)).add 5) = some (.string x.v.val)) (fun i hi => by
      obtain ⟨cs', g1, g2⟩ := hg i hi
      rw [cells_mact] at g1
      obtain ⟨_, hlen, hcell⟩ := World.cells?_some g1
      obtain ⟨x, e1, e3⟩ := open_mact_cells hlen g2
      subst e3
      have g0 := hcell 0 (by omega)
      have g1 := hcell 1 (by omega)
      have g2 := hcell 2 (by omega)
      have g3 := hcell 3 (by omega)
      have g4 := hcell 4 (by omega)
      have g5 := hcell 5 (by omega)
      exact ⟨x, e1, by simpa [Addr.add] using g0, by simpa using g1, by simpa using g2, by simpa using g3, by simpa using g4, by simpa using g5⟩)
    have hlen : ((List.range len).map f).length = len := by simp
    refine ⟨(List.range len).map f, ⟨some a, m, by rw [hlen], by omega, by unfold maxLen at hm; exact hm, fun h0 => ?_⟩, ?_, .inr ⟨(List.range len).map D, (List.range (m - len)).map (fun j => D (len + j)), hx.1, by simp⟩⟩
    · rw [hlen] at h0
      obtain ⟨b, off, spot⟩ := a
      have hspot : spot = none := by simpa [Addr.add] using World.cell?_spot ((hf 0 (by omega)).2.1)
      subst hspot
      have hc := fun i (hi : i < len) => (hf i (by omega)).2
      simp only [add_plain] at hc
      refine ⟨b, off, rfl, ?_, fun i hi => ?_⟩
      · obtain ⟨o, ho, _⟩ := not_walk_of_cell (hc 0 h0).1
        exact (Array.getElem?_eq_some_iff.1 ho).1
      · rw [hlen] at hi
        obtain ⟨c0, c1, c2, c3, c4, c5⟩ := hc i hi
        simp only [List.getElem_map, List.getElem_range]
        exact ⟨c0, c1, c2, c3, c4, c5⟩
    · intro x hx
      obtain ⟨i, hi, rfl⟩ := List.mem_map.1 hx
      exact (hf i (by have := List.mem_range.1 hi; omega)).1

set_option maxRecDepth 100000 in
/-- the form's own reach, of a slice of acts -/
theorem macts_sized {H : Type} {ts : List TypeId} {ds : List (DataW H)} (h : (DataW.weightsEach Try.prog ts ds).all (· ≤ reachBytes) = true) {j : Nat} {d : DataW H} {l : List MAct} (ht : ts[j]? = some 38) (hd : ds[j]? = some d)
    (hs : (d = .nil ∧ l = []) ∨ ∃ ds sp, d = .slice ds sp ∧ ds.length = l.length) : l.length ≤ 2199023255551 := by
  rcases hs with ⟨_, rfl⟩ | ⟨es, sp, rfl, hl⟩
  · simp
  · have := sized_slice h ht hd Try.underlying38
    rw [bytes_mact] at this
    simp only [reachBytes] at this
    omega
end Go.Proofs.Ytcfcijgnkbmlaaa
