
/- Arguments opened: slices of versions. Condition: none. -/
import Derived.Test.YtiogjebekadmcaaRow
import Derived.Test.YtiogjebekadmcaaVers
import Derived.Lib.SmallJoins
import Derived.Deep.Slices
import Derived.RangeFuncSeq
namespace Go.Proofs.Ytiogjebekadmcaa
open Go.ChangeShapes Go.WideShapes Go.ChangeAt Go.RowKit Go.Joins Go.Deep

theorem cells_version' : Try.prog.cellsOf 44 = 4 := by kernel_rfl
theorem bytes_version : Try.prog.bytesOf 44 = 48 := by kernel_rfl

/-- a version as a datum -/
def Ver.d {H : Type} (x : Ver) : DataW H := .agg [.lit (.string x.key.data.toList), .lit (.int .u64 (x.seq : Int)), .lit (.bool x.del), .lit (.string x.val.data.toList)]

set_option maxRecDepth 100000 in
theorem open_version_cells {H : Type} {enc : TypeId × Value → H} {w : World} {base : Nat} {spare : Nat → Bool} {held : Bool} {n : Nat} {a : Addr} {y : DataW H × List MemPlace} {cs : List Value}
    (h1 : w.cells? base a 4 = some cs) (h2 : DataW.trod enc Try.prog w base spare held n 44 cs = some y) :
    ∃ x : Ver, y.1 = x.d ∧ x.seq ≤ 18446744073709551615 ∧ x.key.size ≤ 9223372036854775807 ∧ x.val.size ≤ 9223372036854775807 ∧
      w.cell? a = some (.string x.key) ∧ w.cell? (a.add 1) = some (.int .u64 (x.seq : Int)) ∧ w.cell? (a.add 2) = some (.bool x.del) ∧ w.cell? (a.add 3) = some (.string x.val) := by
  obtain ⟨_, hlen, hcell⟩ := World.cells?_some h1
  obtain ⟨y0, y1, y2, y3, k, hx, _, t0, t1, t2, t3⟩ := trod_struct4 Try.underlying44 h2
  match cs, hlen with
  | [c0, c1, c2, c3], _ =>
    replace t0 : DataW.trod enc Try.prog w base spare held k 9 [c0] = some y0 := t0
    replace t1 : DataW.trod enc Try.prog w base spare held k 23 [c1] = some y1 := t1
    replace t2 : DataW.trod enc Try.prog w base spare held k 4 [c2] = some y2 := t2
    replace t3 : DataW.trod enc Try.prog w base spare held k 9 [c3] = some y3 := t3
    obtain ⟨kk, e0, rfl, wk⟩ := DataW.trod_string Try.underlying9 t0
    obtain ⟨q, e1, rfl, wa⟩ := DataW.trod_int Try.underlying23 t1
    obtain ⟨d, e2, rfl⟩ := DataW.trod_bool Try.underlying4 t2
    obtain ⟨s, e3, rfl, ws⟩ := DataW.trod_string Try.underlying9 t3
    simp at e0 e1 e2 e3
    subst e0 e1 e2 e3
    have ba : 0 ≤ q ∧ q ≤ 18446744073709551615 := by simpa [Lit.wf, IntKind.min, IntKind.max, IntKind.signed, IntKind.bits] using wa
    obtain ⟨m, rfl⟩ := Int.eq_ofNat_of_zero_le ba.1
    have g0 := hcell 0 (by omega)
    have g1 := hcell 1 (by omega)
    have g2 := hcell 2 (by omega)
    have g3 := hcell 3 (by omega)
    refine ⟨⟨kk, m, d, s⟩, ?_, by have := ba.2; show m ≤ _; omega, ?_, ?_, by simpa [Addr.add] using g0, by simpa using g1, by simpa using g2, by simpa using g3⟩
    · rw [hx]; rfl
    · unfold maxLen at wk; exact wk
    · unfold maxLen at ws; exact ws

instance : Inhabited Ver := ⟨⟨.empty, 0, false, .empty⟩⟩

set_option maxRecDepth 100000 in
theorem open_vers_cells {H : Type} {enc : TypeId × Value → H} {W : World} {n : Nat} {u : Value} {y : DataW H × List MemPlace} (h : DataW.trod enc Try.prog W 0 (fun _ => true) true n 22 [u] = some y) :
    ∃ l : List Ver, VersAt W u l ∧ (∀ x ∈ l, x.seq ≤ 18446744073709551615 ∧ x.key.size ≤ 9223372036854775807 ∧ x.val.size ≤ 9223372036854775807) ∧ ((y.1 = .nil ∧ l = []) ∨ ∃ sp, y.1 = .slice (l.map Ver.d) sp) := by
  rcases open_slice Try.underlying22 h with ⟨hcs, hx⟩ | ⟨a, len, cap, m, n', D, Pl, hcs, _, hl, hm, hmm, hx, hg⟩
  · simp only [List.cons.injEq, and_true] at hcs
    subst hcs hx
    exact ⟨[], ⟨none, 0, rfl, by simp, by omega, fun h => by simp at h⟩, (fun x hx => by cases hx), .inl ⟨rfl, rfl⟩⟩
  · simp only [List.cons.injEq, and_true] at hcs
    simp only [if_true] at hmm
    subst hcs hx hmm
    obtain ⟨f, hf⟩ := choose_lt (n := m) (p := fun i (x : Ver) => D i = x.d ∧ (x.seq ≤ 18446744073709551615 ∧ x.key.size ≤ 9223372036854775807 ∧ x.val.size ≤ 9223372036854775807) ∧
        W.cell? (a.add (i * 4)) = some (.string x.key) ∧ W.cell? ((a.add (i * 4)).add 1) = some (.int .u64 (x.seq : Int)) ∧ W.cell? ((a.add (i * 4)).add 2) = some (.bool x.del) ∧ W.cell? ((a.add (i * 4)).add 3) = some (.string x.val)) (fun i hi => by
      obtain ⟨cs', g1, g2⟩ := hg i hi
      rw [cells_version'] at g1
      obtain ⟨x, e, b1, b2, b3, c0, c1, c2, c3⟩ := open_version_cells g1 g2
      exact ⟨x, e, ⟨b1, b2, b3⟩, c0, c1, c2, c3⟩)
    have hlen : ((List.range len).map f).length = len := by simp
    refine ⟨(List.range len).map f, ⟨some a, m, by rw [hlen], by omega, by unfold maxLen at hm; exact hm, fun h0 => ?_⟩, ?_, .inr ⟨(List.range (m - len)).map fun j => D (len + j), ?_⟩⟩
    · rw [hlen] at h0
      obtain ⟨b, off, spot⟩ := a
      have hspot : spot = none := by simpa [Addr.add] using World.cell?_spot ((hf 0 (by omega)).2.2.1)
      subst hspot
      have hc := fun i (hi : i < len) => (hf i (by omega)).2.2
      simp only [add_plain] at hc
      refine ⟨b, off, rfl, ?_, fun i hi => ?_⟩
      · obtain ⟨o, ho, _⟩ := not_walk_of_cell (hc 0 h0).1
        exact (Array.getElem?_eq_some_iff.1 ho).1
      · rw [hlen] at hi
        obtain ⟨c0, c1, c2, c3⟩ := hc i hi
        simp only [List.getElem_map, List.getElem_range]
        exact ⟨c0, c1, c2, c3⟩
    · intro x hx
      obtain ⟨i, hi, rfl⟩ := List.mem_map.1 hx
      exact (hf i (by have := List.mem_range.1 hi; omega)).2.1
    · show DataW.slice _ _ = DataW.slice _ _
      rw [List.map_map, List.map_congr_left (f := D) (g := Ver.d ∘ f) (fun i hi => (hf i (by have := List.mem_range.1 hi; omega)).1)]

set_option maxRecDepth 100000 in
theorem open_vers {H : Type} {enc : TypeId × Value → H} {W : World} {r : Reach} {b0 : Nat} {v : Value} {d : DataW H} {p : List MemPlace}
    (hv : Value.okWide Try.prog W r b0 22 v) (h : DataW.Trod enc Try.prog W 0 (fun _ => true) true 22 v d p) :
    ∃ l : List Ver, VersAt W v l ∧ (∀ x ∈ l, x.seq ≤ 18446744073709551615 ∧ x.key.size ≤ 9223372036854775807 ∧ x.val.size ≤ 9223372036854775807) ∧ ((d = .nil ∧ l = []) ∨ ∃ sp, d = .slice (l.map Ver.d) sp) := by
  obtain ⟨a0, len, cap, rfl⟩ := okWide_slice Try.underlying22 hv
  obtain ⟨fuel, hf⟩ := h
  exact open_vers_cells (y := (d, p)) hf

set_option maxRecDepth 100000 in
/-- the form's own reach, of a slice of versions -/
theorem vers_weight {H : Type} {d : DataW H} {l : List Ver} (hs : (d = .nil ∧ l = []) ∨ ∃ sp, d = .slice (l.map Ver.d) sp) {ns : List Nat} (h : ns.all (· ≤ reachBytes) = true) (hm : ∀ n ∈ d.weights Try.prog 22, n ∈ ns) : l.length ≤ 2932031007317 := by
  rcases hs with ⟨_, rfl⟩ | ⟨sp, rfl⟩
  · simp
  · have h1 := List.all_eq_true.1 h _ (hm (((l.map (Ver.d (H := H))).length + sp.length) * Try.prog.bytesOf 44) (by simp [DataW.weights, Try.underlying22]))
    rw [bytes_version] at h1
    simp only [List.length_map, reachBytes, decide_eq_true_eq] at h1
    omega
end Go.Proofs.Ytiogjebekadmcaa
