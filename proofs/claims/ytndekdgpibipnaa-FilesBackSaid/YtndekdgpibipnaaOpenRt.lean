
/- Arguments opened: a root. Condition: none. -/
import Derived.Test.YtndekdgpibipnaaRow
import Derived.Test.YtndekdgpibipnaaRts
import Derived.Test.YtndekdgpibipnaaOpenAgg
import Derived.Lib.SmallJoins
import Derived.Deep.Slices
import Derived.RangeFuncSeq
namespace Go.Proofs.Ytndekdgpibipnaa
open Go.ChangeShapes Go.WideShapes Go.ChangeAt Go.RowKit Go.Joins Go.Deep

theorem cells_file : Try.prog.cellsOf 74 = 3 := by kernel_rfl
theorem cells_int : Try.prog.cellsOf 3 = 1 := by kernel_rfl
theorem cells_root : Try.prog.cellsOf 50 = 2 := by kernel_rfl
instance : Inhabited Pl.FileP := ⟨⟨.empty, 0, []⟩⟩

set_option maxRecDepth 100000 in
theorem open_ints_cells {H : Type} {enc : TypeId × Value → H} {W : World} {n : Nat} {u : Value} {y : DataW H × List MemPlace} (h : DataW.trod enc Try.prog W 0 (fun _ => true) true n 41 [u] = some y) :
    ∃ l : List Int, IntsAt W u l ∧ (∀ b ∈ l, -9223372036854775808 ≤ b ∧ b ≤ 9223372036854775807) ∧ ((y.1 = .nil ∧ l = []) ∨ ∃ sp, y.1 = .slice (l.map fun b => .lit (.int .i64 b)) sp) := by
  rcases open_slice Try.underlying41 h with ⟨hcs, hx⟩ | ⟨a, len, cap, m, n', D, PlX, hcs, _, hl, hm, hmm, hx, hg⟩
  · simp only [List.cons.injEq, and_true] at hcs
    subst hcs hx
    exact ⟨[], ⟨none, 0, rfl, by simp, by omega, fun h => by simp at h⟩, fun b h => (by cases h), .inl ⟨rfl, rfl⟩⟩
  · simp only [List.cons.injEq, and_true] at hcs
    simp only [if_true] at hmm
    subst hcs hx hmm
    obtain ⟨f, hf⟩ := choose_lt (n := m) (p := fun i (x : Int) => D i = .lit (.int .i64 x) ∧ (-9223372036854775808 ≤ x ∧ x ≤ 9223372036854775807) ∧ W.cell? (a.add (i * 1)) = some (.int .i64 x)) (fun i hi => by
      obtain ⟨cs', g1, g2⟩ := hg i hi
      rw [cells_int] at g1
      obtain ⟨_, hlen, hcell⟩ := World.cells?_some g1
      match cs', hlen with
      | [c0], _ =>
        obtain ⟨d, e2, e3, wd⟩ := DataW.trod_int Try.underlying3 g2
        simp at e2 e3
        subst e2
        have g0 := hcell 0 (by omega)
        have bd : -9223372036854775808 ≤ d ∧ d ≤ 9223372036854775807 := by simpa [Lit.wf, IntKind.min, IntKind.max, IntKind.signed, IntKind.bits] using wd
        exact ⟨d, e3.1, bd, by simpa [Addr.add] using g0⟩)
    have hlen : ((List.range len).map f).length = len := by simp
    refine ⟨(List.range len).map f, ⟨some a, m, by rw [hlen], by omega, by unfold maxLen at hm; exact hm, fun h0 => ?_⟩, ?_, .inr ⟨(List.range (m - len)).map fun j => D (len + j), ?_⟩⟩
    · rw [hlen] at h0
      obtain ⟨b, off, spot⟩ := a
      have hspot : spot = none := by simpa [Addr.add] using World.cell?_spot ((hf 0 (by omega)).2.2)
      subst hspot
      have hc := fun i (hi : i < len) => (hf i (by omega)).2.2
      simp only [add_plain, Nat.mul_one] at hc
      refine ⟨b, off, rfl, ?_, fun i hi => ?_⟩
      · obtain ⟨o, ho, _⟩ := not_walk_of_cell (hc 0 h0)
        exact (Array.getElem?_eq_some_iff.1 ho).1
      · rw [hlen] at hi
        simp only [List.getElem_map, List.getElem_range]
        exact hc i hi
    · intro b hb
      obtain ⟨i, hi, rfl⟩ := List.mem_map.1 hb
      exact (hf i (by have := List.mem_range.1 hi; omega)).2.1
    · show DataW.slice _ _ = DataW.slice _ _
      rw [List.map_map, List.map_congr_left (f := D) (g := (fun b => .lit (.int .i64 b)) ∘ f) (fun i hi => (hf i (by have := List.mem_range.1 hi; omega)).1)]

set_option maxRecDepth 100000 in
theorem open_file_cells {H : Type} {enc : TypeId × Value → H} {w : World} {n : Nat} {y : DataW H × List MemPlace} {cs : List Value} (hlen : cs.length = 3)
    (h2 : DataW.trod enc Try.prog w 0 (fun _ => true) true n 74 cs = some y) :
    ∃ (x : Pl.FileP) (u : Value), x.fine ∧ cs = [.string x.name, .int .i64 x.size, u] ∧ IntsAt w u x.blocks := by
  obtain ⟨y0, y1, y2, k, hx, _, t0, t1, t2⟩ := trod_struct3 Try.underlying74 h2
  match cs, hlen with
  | [c0, c1, c2], _ =>
    replace t0 : DataW.trod enc Try.prog w 0 (fun _ => true) true k 9 [c0] = some y0 := t0
    replace t1 : DataW.trod enc Try.prog w 0 (fun _ => true) true k 3 [c1] = some y1 := t1
    replace t2 : DataW.trod enc Try.prog w 0 (fun _ => true) true k 41 [c2] = some y2 := t2
    obtain ⟨q0, e0, _, _⟩ := DataW.trod_string Try.underlying9 t0
    obtain ⟨q1, e1, _, w1⟩ := DataW.trod_int Try.underlying3 t1
    obtain ⟨l, hl, hb, _⟩ := open_ints_cells t2
    simp at e0 e1
    subst e0 e1
    have b1 : -9223372036854775808 ≤ q1 ∧ q1 ≤ 9223372036854775807 := by simpa [Lit.wf, IntKind.min, IntKind.max, IntKind.signed, IntKind.bits] using w1
    exact ⟨⟨q0, q1, l⟩, c2, ⟨b1, hb⟩, rfl, hl⟩

set_option maxRecDepth 100000 in
theorem open_files_cells {H : Type} {enc : TypeId × Value → H} {W : World} {n : Nat} {u : Value} {y : DataW H × List MemPlace} (h : DataW.trod enc Try.prog W 0 (fun _ => true) true n 48 [u] = some y) :
    ∃ l : List Pl.FileP, FilesAt W u l ∧ ∀ x ∈ l, x.fine := by
  rcases open_slice Try.underlying48 h with ⟨hcs, hx⟩ | ⟨a, len, cap, m, n', D, PlX, hcs, _, hl, hm, hmm, hx, hg⟩
  · simp only [List.cons.injEq, and_true] at hcs
    subst hcs hx
    exact ⟨[], ⟨none, 0, rfl, by simp, by omega, fun h => by simp at h⟩, fun b h => (by cases h)⟩
  · simp only [List.cons.injEq, and_true] at hcs
    simp only [if_true] at hmm
    subst hcs hx hmm
    obtain ⟨f, hf⟩ := choose_lt (n := m) (p := fun i (x : Pl.FileP) => x.fine ∧
        W.cell? (a.add (i * 3)) = some (.string x.name) ∧ W.cell? ((a.add (i * 3)).add 1) = some (.int .i64 x.size) ∧ ∃ u, W.cell? ((a.add (i * 3)).add 2) = some u ∧ IntsAt W u x.blocks) (fun i hi => by
      obtain ⟨cs', g1, g2⟩ := hg i hi
      rw [cells_file] at g1
      obtain ⟨_, hlen, hcell⟩ := World.cells?_some g1
      obtain ⟨x, u, e2, e3, e4⟩ := open_file_cells hlen g2
      subst e3
      have g0 := hcell 0 (by omega)
      have g1 := hcell 1 (by omega)
      have g2 := hcell 2 (by omega)
      exact ⟨x, e2, by simpa [Addr.add] using g0, by simpa using g1, u, by simpa using g2, e4⟩)
    have hlen : ((List.range len).map f).length = len := by simp
    refine ⟨(List.range len).map f, ⟨some a, m, by rw [hlen], by omega, by unfold maxLen at hm; exact hm, fun h0 => ?_⟩, ?_⟩
    · rw [hlen] at h0
      obtain ⟨b, off, spot⟩ := a
      have hspot : spot = none := by simpa [Addr.add] using World.cell?_spot ((hf 0 (by omega)).2.1)
      subst hspot
      have hc := fun i (hi : i < len) => (hf i (by omega)).2
      simp only [add_plain] at hc
      refine ⟨b, off, rfl, ?_, fun i hi => ?_⟩
      · obtain ⟨o, ho, _⟩ := not_walk_of_cell (hc 0 h0).1
        exact (Array.getElem?_eq_some_iff.1 ho).1
      · rw [hlen] at hi
        simp only [List.getElem_map, List.getElem_range]
        exact hc i hi
    · intro b hb
      obtain ⟨i, hi, rfl⟩ := List.mem_map.1 hb
      exact (hf i (by have := List.mem_range.1 hi; omega)).1

set_option maxRecDepth 100000 in
theorem open_root {H : Type} {enc : TypeId × Value → H} {W : World} {r : Reach} {b0 : Nat} {v : Value} {d : DataW H} {p : List MemPlace}
    (hv : Value.okWide Try.prog W r b0 50 v) (h : DataW.Trod enc Try.prog W 0 (fun _ => true) true 50 v d p) :
    ∃ (x : Pl.RootP) (u : Value), x.fine ∧ v = .agg #[.int .u64 (x.gen : Int), u] ∧ FilesAt W u x.files := by
  obtain ⟨cs, rfl, hsz⟩ := okWide_struct Try.underlying50 hv
  obtain ⟨l⟩ := cs
  obtain ⟨fuel, hf⟩ := h
  rw [cells_root] at hsz
  obtain ⟨y0, y1, k, hx, _, t0, t1⟩ := trod_struct2 Try.underlying50 hf
  match l, hsz with
  | [c0, c1], _ =>
    replace t0 : DataW.trod enc Try.prog W 0 (fun _ => true) true k 47 [c0] = some y0 := t0
    replace t1 : DataW.trod enc Try.prog W 0 (fun _ => true) true k 48 [c1] = some y1 := t1
    obtain ⟨q0, e0, _, w0⟩ := DataW.trod_int Try.underlying47 t0
    obtain ⟨fs, hl, hb⟩ := open_files_cells t1
    simp at e0
    subst e0
    have ba : 0 ≤ q0 ∧ q0 ≤ 18446744073709551615 := by simpa [Lit.wf, IntKind.min, IntKind.max, IntKind.signed, IntKind.bits] using w0
    obtain ⟨m, rfl⟩ := Int.eq_ofNat_of_zero_le ba.1
    exact ⟨⟨m, fs⟩, c1, ⟨by have := ba.2; show m ≤ _; omega, hb⟩, rfl, hl⟩
end Go.Proofs.Ytndekdgpibipnaa
