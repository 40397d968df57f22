
/- Arguments opened: slices of edits; the statement's own bound of them. Condition: none. -/
import Derived.Test.YtekfaodjadinnaaOpenAgg
import Derived.Test.YtekfaodjadinnaaBulk
import Derived.Test.YtekfaodjadinnaaTb
import Derived.RangeFuncSeq
import Derived.Deep.Slices
namespace Go.Proofs.Ytekfaodjadinnaa
open Go.ChangeShapes Go.WideShapes Go.ChangeAt Go.RowKit Go.Joins Go.Deep

theorem cells_table : Try.prog.cellsOf 40 = 6 := by kernel_rfl
theorem cells_edit : Try.prog.cellsOf 57 = 5 := by kernel_rfl
theorem cells_u64 : Try.prog.cellsOf 22 = 1 := by kernel_rfl

section
variable {H : Type} {enc : TypeId × Value → H} {P : Program} {w : World} {base : Nat} {spare : Nat → Bool} {held : Bool}
theorem trod_struct5 {t : TypeId} {f0 f1 f2 f3 f4 : Field} {fuel : Nat} {cs : List Value} {x : DataW H × List MemPlace} (ht : P.underlying t = some (.struct #[f0, f1, f2, f3, f4])) (h : DataW.trod enc P w base spare held fuel t cs = some x) :
    ∃ y0 y1 y2 y3 y4 n, x.1 = .agg [y0.1, y1.1, y2.1, y3.1, y4.1] ∧ DataW.trod enc P w base spare held n f0.type ((cs.drop f0.offset).take (P.cellsOf f0.type)) = some y0 ∧
      DataW.trod enc P w base spare held n f1.type ((cs.drop f1.offset).take (P.cellsOf f1.type)) = some y1 ∧ DataW.trod enc P w base spare held n f2.type ((cs.drop f2.offset).take (P.cellsOf f2.type)) = some y2 ∧
      DataW.trod enc P w base spare held n f3.type ((cs.drop f3.offset).take (P.cellsOf f3.type)) = some y3 ∧ DataW.trod enc P w base spare held n f4.type ((cs.drop f4.offset).take (P.cellsOf f4.type)) = some y4 := by
  obtain ⟨xs, n, _, rfl, hl, hlen, hf⟩ := DataW.trod_struct ht h
  match xs, hlen with
  | [y0, y1, y2, y3, y4], _ => exact ⟨y0, y1, y2, y3, y4, n, by simp, by simpa using hf 0 f0 rfl, by simpa using hf 1 f1 rfl, by simpa using hf 2 f2 rfl, by simpa using hf 3 f3 rfl, by simpa using hf 4 f4 rfl⟩
theorem trod_struct6 {t : TypeId} {f0 f1 f2 f3 f4 f5 : Field} {fuel : Nat} {cs : List Value} {x : DataW H × List MemPlace} (ht : P.underlying t = some (.struct #[f0, f1, f2, f3, f4, f5])) (h : DataW.trod enc P w base spare held fuel t cs = some x) :
    ∃ y0 y1 y2 y3 y4 y5 n, x.1 = .agg [y0.1, y1.1, y2.1, y3.1, y4.1, y5.1] ∧ DataW.trod enc P w base spare held n f0.type ((cs.drop f0.offset).take (P.cellsOf f0.type)) = some y0 ∧
      DataW.trod enc P w base spare held n f1.type ((cs.drop f1.offset).take (P.cellsOf f1.type)) = some y1 ∧ DataW.trod enc P w base spare held n f2.type ((cs.drop f2.offset).take (P.cellsOf f2.type)) = some y2 ∧
      DataW.trod enc P w base spare held n f3.type ((cs.drop f3.offset).take (P.cellsOf f3.type)) = some y3 ∧ DataW.trod enc P w base spare held n f4.type ((cs.drop f4.offset).take (P.cellsOf f4.type)) = some y4 ∧
      DataW.trod enc P w base spare held n f5.type ((cs.drop f5.offset).take (P.cellsOf f5.type)) = some y5 := by
  obtain ⟨xs, n, _, rfl, hl, hlen, hf⟩ := DataW.trod_struct ht h
  match xs, hlen with
  | [y0, y1, y2, y3, y4, y5], _ => exact ⟨y0, y1, y2, y3, y4, y5, n, by simp, by simpa using hf 0 f0 rfl, by simpa using hf 1 f1 rfl, by simpa using hf 2 f2 rfl, by simpa using hf 3 f3 rfl, by simpa using hf 4 f4 rfl, by simpa using hf 5 f5 rfl⟩
end

set_option maxRecDepth 100000 in
theorem open_tab_cells {H : Type} {enc : TypeId × Value → H} {w : World} {n : Nat} {y : DataW H × List MemPlace} {cs : List Value} (hlen : cs.length = 6)
    (h2 : DataW.trod enc Try.prog w 0 (fun _ => true) true n 40 cs = some y) : ∃ x : Pl.Tb, x.fine ∧ cs = tcell x := by
  obtain ⟨y0, y1, y2, y3, y4, y5, k, hx, t0, t1, t2, t3, t4, t5⟩ := trod_struct6 Try.underlying40 h2
  match cs, hlen with
  | [c0, c1, c2, c3, c4, c5], _ =>
    replace t0 : DataW.trod enc Try.prog w 0 (fun _ => true) true k 22 [c0] = some y0 := t0
    replace t1 : DataW.trod enc Try.prog w 0 (fun _ => true) true k 3 [c1] = some y1 := t1
    replace t2 : DataW.trod enc Try.prog w 0 (fun _ => true) true k 3 [c2] = some y2 := t2
    replace t3 : DataW.trod enc Try.prog w 0 (fun _ => true) true k 3 [c3] = some y3 := t3
    replace t4 : DataW.trod enc Try.prog w 0 (fun _ => true) true k 9 [c4] = some y4 := t4
    replace t5 : DataW.trod enc Try.prog w 0 (fun _ => true) true k 9 [c5] = some y5 := t5
    obtain ⟨q0, e0, _, w0⟩ := DataW.trod_int Try.underlying22 t0
    obtain ⟨q1, e1, _, w1⟩ := DataW.trod_int Try.underlying3 t1
    obtain ⟨q2, e2, _, w2⟩ := DataW.trod_int Try.underlying3 t2
    obtain ⟨q3, e3, _, w3⟩ := DataW.trod_int Try.underlying3 t3
    obtain ⟨q4, e4, _, _⟩ := DataW.trod_string Try.underlying9 t4
    obtain ⟨q5, e5, _, _⟩ := DataW.trod_string Try.underlying9 t5
    simp at e0 e1 e2 e3 e4 e5
    subst e0 e1 e2 e3 e4 e5
    have b0 : 0 ≤ q0 ∧ q0 ≤ 18446744073709551615 := by simpa [Lit.wf, IntKind.min, IntKind.max, IntKind.signed, IntKind.bits] using w0
    have b1 : -9223372036854775808 ≤ q1 ∧ q1 ≤ 9223372036854775807 := by simpa [Lit.wf, IntKind.min, IntKind.max, IntKind.signed, IntKind.bits] using w1
    have b2 : -9223372036854775808 ≤ q2 ∧ q2 ≤ 9223372036854775807 := by simpa [Lit.wf, IntKind.min, IntKind.max, IntKind.signed, IntKind.bits] using w2
    have b3 : -9223372036854775808 ≤ q3 ∧ q3 ≤ 9223372036854775807 := by simpa [Lit.wf, IntKind.min, IntKind.max, IntKind.signed, IntKind.bits] using w3
    obtain ⟨m, rfl⟩ := Int.eq_ofNat_of_zero_le b0.1
    exact ⟨⟨m, q1, q2, q3, q4, q5⟩, ⟨by have := b0.2; show m ≤ _; omega, b1, b2, b3⟩, rfl⟩

set_option maxRecDepth 100000 in
theorem open_tabs_cells {H : Type} {enc : TypeId × Value → H} {W : World} {n : Nat} {u : Value} {y : DataW H × List MemPlace} (h : DataW.trod enc Try.prog W 0 (fun _ => true) true n 27 [u] = some y) :
    ∃ l : List Pl.Tb, TbsIn W u l ∧ (∀ x ∈ l, x.fine) ∧ l.length ≤ Rows.uptoBulk y.1 := by
  rcases open_slice Try.underlying27 h with ⟨hcs, hx⟩ | ⟨a, len, cap, m, n', D, PlX, hcs, _, hl, hm, hmm, hx, hg⟩
  · simp only [List.cons.injEq, and_true] at hcs
    subst hcs hx
    exact ⟨[], ⟨none, 0, rfl, by simp, by omega, fun h => by simp at h⟩, fun b h => (by cases h), by simp⟩
  · simp only [List.cons.injEq, and_true] at hcs
    simp only [if_true] at hmm
    subst hcs hx hmm
    obtain ⟨f, hf⟩ := choose_lt (n := m) (p := fun i (x : Pl.Tb) => x.fine ∧ ∀ j v, (tcell x)[j]? = some v → W.cell? ((a.add (i * 6)).add j) = some v) (fun i hi => by
      obtain ⟨cs', g1, g2⟩ := hg i hi
      rw [cells_table] at g1
      obtain ⟨_, hlen, hcell⟩ := World.cells?_some g1
      obtain ⟨x, e2, e3⟩ := open_tab_cells hlen g2
      subst e3
      refine ⟨x, e2, fun j v hj => ?_⟩
      have hj6 : j < 6 := by have := (List.getElem?_eq_some_iff.1 hj).1; simpa [tcell] using this
      have g0 := hcell j hj6
      rw [g0]
      simpa using hj)
    have hlen : ((List.range len).map f).length = len := by simp
    refine ⟨(List.range len).map f, ⟨some a, m, by rw [hlen], by omega, by unfold maxLen at hm; exact hm, fun h0 => ?_⟩, ?_, ?_⟩
    · rw [hlen] at h0
      obtain ⟨b, off, spot⟩ := a
      have hspot : spot = none := by
        have := World.cell?_spot ((hf 0 (by omega)).2 0 _ rfl)
        simpa [Addr.add] using this
      subst hspot
      have hc := fun i (hi : i < len) => (hf i (by omega)).2
      simp only [add_plain] at hc
      refine ⟨b, off, rfl, ?_, fun i hi => ?_⟩
      · obtain ⟨o, ho, _⟩ := not_walk_of_cell (hc 0 h0 0 _ rfl)
        exact (Array.getElem?_eq_some_iff.1 ho).1
      · rw [hlen] at hi
        simp only [List.getElem_map, List.getElem_range]
        exact TbIn.of (hc i hi)
    · intro b hb
      obtain ⟨i, hi, rfl⟩ := List.mem_map.1 hb
      exact (hf i (by have := List.mem_range.1 hi; omega)).1
    · rw [hlen]
      refine Nat.le_trans ?_ (bulks.slice_le _ _)
      simp
      omega

set_option maxRecDepth 100000 in
theorem open_nums_cells {H : Type} {enc : TypeId × Value → H} {W : World} {n : Nat} {u : Value} {y : DataW H × List MemPlace} (h : DataW.trod enc Try.prog W 0 (fun _ => true) true n 55 [u] = some y) :
    ∃ l : List Nat, NumsAt W u l ∧ ∀ b ∈ l, b ≤ 18446744073709551615 := by
  rcases open_slice Try.underlying55 h with ⟨hcs, hx⟩ | ⟨a, len, cap, m, n', D, PlX, hcs, _, hl, hm, hmm, hx, hg⟩
  · simp only [List.cons.injEq, and_true] at hcs
    subst hcs hx
    exact ⟨[], ⟨none, 0, rfl, by simp, by omega, fun h => by simp at h⟩, fun b h => (by cases h)⟩
  · simp only [List.cons.injEq, and_true] at hcs
    simp only [if_true] at hmm
    subst hcs hx hmm
    obtain ⟨f, hf⟩ := choose_lt (n := m) (p := fun i (x : Nat) => x ≤ 18446744073709551615 ∧ W.cell? (a.add (i * 1)) = some (.int .u64 (x : Int))) (fun i hi => by
      obtain ⟨cs', g1, g2⟩ := hg i hi
      rw [cells_u64] at g1
      obtain ⟨_, hlen, hcell⟩ := World.cells?_some g1
      match cs', hlen with
      | [c0], _ =>
        obtain ⟨d, e2, e3, wd⟩ := DataW.trod_int Try.underlying22 g2
        simp at e2 e3
        subst e2
        have g0 := hcell 0 (by omega)
        have bd : 0 ≤ d ∧ d ≤ 18446744073709551615 := by simpa [Lit.wf, IntKind.min, IntKind.max, IntKind.signed, IntKind.bits] using wd
        obtain ⟨q, rfl⟩ := Int.eq_ofNat_of_zero_le bd.1
        exact ⟨q, by have := bd.2; omega, by simpa [Addr.add] using g0⟩)
    have hlen : ((List.range len).map f).length = len := by simp
    refine ⟨(List.range len).map f, ⟨some a, m, by rw [hlen], by omega, by unfold maxLen at hm; exact hm, fun h0 => ?_⟩, ?_⟩
    · rw [hlen] at h0
      obtain ⟨b, off, spot⟩ := a
      have hspot : spot = none := by simpa [Addr.add] using World.cell?_spot ((hf 0 (by omega)).2)
      subst hspot
      have hc := fun i (hi : i < len) => (hf i (by omega)).2
      simp only [add_plain, Nat.mul_one] at hc
      refine ⟨b, off, rfl, ?_, fun i hi => ?_⟩
      · obtain ⟨o, ho, _⟩ := not_walk_of_cell (hc 0 h0)
        exact (Array.getElem?_eq_some_iff.1 ho).1
      · rw [hlen] at hi
        simp only [List.getElem_map, List.getElem_range]
        exact hc i hi
    · intro b hb
      obtain ⟨i, hi, rfl⟩ := List.mem_map.1 hb
      exact (hf i (by have := List.mem_range.1 hi; omega)).1

theorem le_aggBulk {H : Type} {n : Nat} {a b c d e : DataW H} (h : n ≤ Rows.uptoBulk d) : n ≤ Rows.uptoBulk (.agg [a, b, c, d, e]) := by
  simp only [Rows.uptoBulk, Rows.uptoBulkAll]
  omega
set_option maxRecDepth 100000 in
theorem open_edit_cells {H : Type} {enc : TypeId × Value → H} {w : World} {n : Nat} {y : DataW H × List MemPlace} {cs : List Value} (hlen : cs.length = 5)
    (h2 : DataW.trod enc Try.prog w 0 (fun _ => true) true n 57 cs = some y) :
    ∃ (x : Pl.Ed) (ua ud : Value), x.fine ∧ cs = [.int .u64 (x.next : Int), .int .u64 (x.seq : Int), .int .u64 (x.log : Int), ua, ud] ∧ TbsIn w ua x.add ∧ NumsAt w ud x.drop ∧ x.add.length ≤ Rows.uptoBulk y.1 := by
  obtain ⟨y0, y1, y2, y3, y4, k, hx, t0, t1, t2, t3, t4⟩ := trod_struct5 Try.underlying57 h2
  match cs, hlen with
  | [c0, c1, c2, c3, c4], _ =>
    replace t0 : DataW.trod enc Try.prog w 0 (fun _ => true) true k 22 [c0] = some y0 := t0
    replace t1 : DataW.trod enc Try.prog w 0 (fun _ => true) true k 22 [c1] = some y1 := t1
    replace t2 : DataW.trod enc Try.prog w 0 (fun _ => true) true k 22 [c2] = some y2 := t2
    replace t3 : DataW.trod enc Try.prog w 0 (fun _ => true) true k 27 [c3] = some y3 := t3
    replace t4 : DataW.trod enc Try.prog w 0 (fun _ => true) true k 55 [c4] = some y4 := t4
    obtain ⟨q0, e0, _, w0⟩ := DataW.trod_int Try.underlying22 t0
    obtain ⟨q1, e1, _, w1⟩ := DataW.trod_int Try.underlying22 t1
    obtain ⟨q2, e2, _, w2⟩ := DataW.trod_int Try.underlying22 t2
    obtain ⟨la, ha1, ha2, ha3⟩ := open_tabs_cells t3
    obtain ⟨ld, hd1, hd2⟩ := open_nums_cells t4
    simp at e0 e1 e2
    subst e0 e1 e2
    have b0 : 0 ≤ q0 ∧ q0 ≤ 18446744073709551615 := by simpa [Lit.wf, IntKind.min, IntKind.max, IntKind.signed, IntKind.bits] using w0
    have b1 : 0 ≤ q1 ∧ q1 ≤ 18446744073709551615 := by simpa [Lit.wf, IntKind.min, IntKind.max, IntKind.signed, IntKind.bits] using w1
    have b2 : 0 ≤ q2 ∧ q2 ≤ 18446744073709551615 := by simpa [Lit.wf, IntKind.min, IntKind.max, IntKind.signed, IntKind.bits] using w2
    obtain ⟨m0, rfl⟩ := Int.eq_ofNat_of_zero_le b0.1
    obtain ⟨m1, rfl⟩ := Int.eq_ofNat_of_zero_le b1.1
    obtain ⟨m2, rfl⟩ := Int.eq_ofNat_of_zero_le b2.1
    exact ⟨⟨m0, m1, m2, la, ld⟩, c3, c4, ⟨by have := b0.2; show m0 ≤ _; omega, by have := b1.2; show m1 ≤ _; omega, by have := b2.2; show m2 ≤ _; omega, ha2, hd2⟩, rfl, ha1, hd1, by rw [hx]; exact le_aggBulk ha3⟩

theorem sum_bulk {H : Type} {f : Nat → Nat} {D : Nat → DataW H} : ∀ is : List Nat, (∀ i ∈ is, f i ≤ Rows.uptoBulk (D i)) → (is.map f).sum ≤ Rows.uptoBulkAll (is.map D)
  | [], _ => by simp
  | i :: is, h => by
    have h1 := h i (by simp)
    have h2 := sum_bulk is (fun j hj => h j (by simp [hj]))
    simp only [List.map_cons, List.sum_cons, Rows.uptoBulkAll]
    omega
set_option maxRecDepth 100000 in
theorem open_eds {H : Type} {enc : TypeId × Value → H} {W : World} {v : Value} {d : DataW H} {p : List MemPlace} (hC : Try.prog.cellsOf 25 = 1)
    (h : DataW.Trod enc Try.prog W 0 (fun _ => true) true 25 v d p) (hv : v.cells.toList = [v]) :
    ∃ l : List Pl.Ed, EdsAt W v l ∧ (∀ x ∈ l, x.fine) ∧ (l.map fun e => e.add.length).sum ≤ Rows.uptoBulk d := by
  obtain ⟨fuel, hf⟩ := h
  rw [hv] at hf
  rcases open_slice Try.underlying25 hf with ⟨hcs, hx⟩ | ⟨a, len, cap, m, n', D, PlX, hcs, _, hl, hm, hmm, hx, hg⟩
  · simp only [List.cons.injEq, and_true] at hcs
    subst hcs
    exact ⟨[], ⟨none, 0, rfl, by simp, by omega, fun h => by simp at h⟩, fun b h => (by cases h), by simp⟩
  · simp only [List.cons.injEq, and_true] at hcs
    simp only [if_true] at hmm
    subst hcs hmm
    obtain ⟨f, hf⟩ := choose_lt (n := m) (p := fun i (x : Pl.Ed) => x.fine ∧ x.add.length ≤ Rows.uptoBulk (D i) ∧
        W.cell? (a.add (i * 5)) = some (.int .u64 (x.next : Int)) ∧ W.cell? ((a.add (i * 5)).add 1) = some (.int .u64 (x.seq : Int)) ∧ W.cell? ((a.add (i * 5)).add 2) = some (.int .u64 (x.log : Int)) ∧
        (∃ u, W.cell? ((a.add (i * 5)).add 3) = some u ∧ TbsIn W u x.add) ∧ ∃ u, W.cell? ((a.add (i * 5)).add 4) = some u ∧ NumsAt W u x.drop) (fun i hi => by
      obtain ⟨cs', g1, g2⟩ := hg i hi
      rw [cells_edit] at g1
      obtain ⟨_, hlen, hcell⟩ := World.cells?_some g1
      obtain ⟨x, ua, ud, e2, e3, e4, e5, e6⟩ := open_edit_cells hlen g2
      subst e3
      have g0 := hcell 0 (by omega)
      have g1 := hcell 1 (by omega)
      have g2 := hcell 2 (by omega)
      have g3 := hcell 3 (by omega)
      have g4 := hcell 4 (by omega)
      exact ⟨x, e2, e6, by simpa [Addr.add] using g0, by simpa using g1, by simpa using g2, ⟨ua, by simpa using g3, e4⟩, ud, by simpa using g4, e5⟩)
    have hlen : ((List.range len).map f).length = len := by simp
    refine ⟨(List.range len).map f, ⟨some a, m, by rw [hlen], by omega, by unfold maxLen at hm; exact hm, fun h0 => ?_⟩, ?_, ?_⟩
    · rw [hlen] at h0
      obtain ⟨b, off, spot⟩ := a
      have hspot : spot = none := by simpa [Addr.add] using World.cell?_spot ((hf 0 (by omega)).2.2.1)
      subst hspot
      have hc := fun i (hi : i < len) => (hf i (by omega)).2.2
      simp only [add_plain] at hc
      refine ⟨b, off, rfl, ?_, fun i hi => ?_⟩
      · obtain ⟨o, ho, _⟩ := not_walk_of_cell (hc 0 h0).1
        exact (Array.getElem?_eq_some_iff.1 ho).1
      · rw [hlen] at hi
        simp only [List.getElem_map, List.getElem_range]
        obtain ⟨h1, h2, h3, h4, h5⟩ := hc i hi
        exact ⟨h1, h2, h3, h4, h5⟩
    · intro b hb
      obtain ⟨i, hi, rfl⟩ := List.mem_map.1 hb
      exact (hf i (by have := List.mem_range.1 hi; omega)).1
    · have e : d = .slice ((List.range len).map D) ((List.range (m - len)).map fun j => D (len + j)) := congrArg Prod.fst hx
      rw [e, List.map_map]
      refine Nat.le_trans (sum_bulk (f := (fun e : Pl.Ed => e.add.length) ∘ f) (D := D) (List.range len) (fun i hi => (hf i (by have := List.mem_range.1 hi; omega)).2.1)) ?_
      have := bulks.slice_elems ((List.range len).map D) ((List.range (m - len)).map fun j => D (len + j))
      omega
end Go.Proofs.Ytekfaodjadinnaa
