
/- Arguments opened: slices of slices of versions, of the statement's own size. Condition: none. -/
import Derived.Test.YtiogjebekadmcaaOpenVers
import Derived.Test.YtiogjebekadmcaaBulk
import Derived.Test.YtiogjebekadmcaaWRefMrg
namespace Go.Proofs.Ytiogjebekadmcaa
open Go.ChangeShapes Go.WideShapes Go.ChangeAt Go.RowKit Go.Joins Go.Deep

theorem cells_vers : Try.prog.cellsOf 22 = 1 := by kernel_rfl

/-- rows as data -/
def LsD {H : Type} (d : DataW H) (ls : List (List Ver)) : Prop := (d = .nil ∧ ls = []) ∨ ∃ es sp, d = .slice es sp ∧ es.length = ls.length ∧ ∀ i (h1 : i < es.length) (h2 : i < ls.length), (es[i] = .nil ∧ ls[i] = []) ∨ ∃ sp', es[i] = .slice (ls[i].map Ver.d) sp'

set_option maxRecDepth 100000 in
theorem open_ls {H : Type} {enc : TypeId × Value → H} {W : World} {r : Reach} {b0 : Nat} {v : Value} {d : DataW H} {p : List MemPlace}
    (hv : Value.okWide Try.prog W r b0 37 v) (h : DataW.Trod enc Try.prog W 0 (fun _ => true) true 37 v d p) :
    ∃ ls : List (List Ver), LsAt W v ls ∧ (∀ l ∈ ls, ∀ x ∈ l, x.seq ≤ 18446744073709551615) ∧ LsD d ls := by
  obtain ⟨a0, len, cap, rfl⟩ := okWide_slice Try.underlying37 hv
  obtain ⟨fuel, hf⟩ := h
  rcases open_slice Try.underlying37 hf with ⟨hcs, hx⟩ | ⟨a, len', cap', m, n', D, Pl, hcs, _, hl, hm, hmm, hx, hg⟩
  · simp only [Value.cells, List.cons.injEq, Value.slice.injEq, and_true] at hcs
    obtain ⟨rfl, rfl, rfl⟩ := hcs
    have hd : d = .nil := by have := congrArg Prod.fst hx; simpa using this
    exact ⟨[], ⟨none, 0, rfl, fun h => by simp at h⟩, fun l h => (by cases h), .inl ⟨hd, rfl⟩⟩
  · simp only [Value.cells, List.cons.injEq, Value.slice.injEq, and_true] at hcs
    obtain ⟨rfl, rfl, rfl⟩ := hcs
    simp only [if_true] at hmm
    subst hmm
    have hd : d = .slice ((List.range len).map D) ((List.range (m - len)).map fun j => D (len + j)) := by have := congrArg Prod.fst hx; simpa using this
    obtain ⟨f, hf⟩ := choose_lt (n := m) (p := fun i (x : List Ver) => ((D i = .nil ∧ x = []) ∨ ∃ sp, D i = .slice (x.map Ver.d) sp) ∧ (∀ y ∈ x, y.seq ≤ 18446744073709551615) ∧ ∃ u, W.cell? (a.add (i * 1)) = some u ∧ VersAt W u x) (fun i hi => by
      obtain ⟨cs', g1, g2⟩ := hg i hi
      rw [cells_vers] at g1
      obtain ⟨_, hlen, hcell⟩ := World.cells?_some g1
      match cs', hlen with
      | [c0], _ =>
        obtain ⟨l, e1, e2, e3⟩ := open_vers_cells g2
        have g0 := hcell 0 (by omega)
        exact ⟨l, e3, fun y hy => (e2 y hy).1, c0, by simpa [Addr.add] using g0, e1⟩)
    have hlen : ((List.range len).map f).length = len := by simp
    refine ⟨(List.range len).map f, ⟨some a, m, by rw [hlen], fun h0 => ?_⟩, ?_, .inr ⟨_, _, hd, by simp, fun i h1 h2 => ?_⟩⟩
    · rw [hlen] at h0
      obtain ⟨b, off, spot⟩ := a
      obtain ⟨u0, hu0, _⟩ := (hf 0 (by omega)).2.2
      have hspot : spot = none := by simpa [Addr.add] using World.cell?_spot hu0
      subst hspot
      have hc := fun i (hi : i < len) => (hf i (by omega)).2.2
      simp only [add_plain, Nat.mul_one] at hc
      refine ⟨b, off, rfl, ?_, fun i hi => ?_⟩
      · obtain ⟨u, hu, _⟩ := hc 0 h0
        obtain ⟨o, ho, _⟩ := not_walk_of_cell hu
        exact (Array.getElem?_eq_some_iff.1 ho).1
      · rw [hlen] at hi
        simp only [List.getElem_map, List.getElem_range]
        exact hc i hi
    · intro l h
      obtain ⟨i, hi, rfl⟩ := List.mem_map.1 h
      exact (hf i (by have := List.mem_range.1 hi; omega)).2.1
    · simp only [List.getElem_map, List.getElem_range]
      exact (hf i (by simp at h1; omega)).1
theorem ls_bulk {H : Type} : ∀ {es : List (DataW H)} {ls : List (List Ver)}, es.length = ls.length → (∀ i (h1 : i < es.length) (h2 : i < ls.length), (es[i] = .nil ∧ ls[i] = []) ∨ ∃ sp', es[i] = .slice (ls[i].map Ver.d) sp') → Pl.total ls ≤ Rows.uptoBulkAll es
  | [], [], _, _ => by simp [Pl.total]
  | e :: es, l :: ls, hl, h => by
    have ih := ls_bulk (es := es) (ls := ls) (by simpa using hl) (fun i h1 h2 => by
      have := h (i + 1) (by simpa using h1) (by simpa using h2)
      simpa using this)
    rw [Pl.total_cons]
    simp only [Rows.uptoBulkAll]
    have h0 := h 0 (by simp) (by simp)
    simp only [List.getElem_cons_zero] at h0
    rcases h0 with ⟨_, rfl⟩ | ⟨sp, rfl⟩
    · simp; omega
    · have := bulks.slice_le (l.map (Ver.d (H := H))) sp
      rw [List.length_map] at this
      omega
theorem ls_small {H : Type} {ds : List (DataW H)} {d : DataW H} {ls : List (List Ver)} (hk : Rows.uptoSmall H ds = true) (hm : d ∈ ds) (hs : LsD d ls) : Pl.total ls ≤ 1048576 ∧ ls.length ≤ 1048576 := by
  rcases hs with ⟨_, rfl⟩ | ⟨es, sp, rfl, hl, h⟩
  · simp [Pl.total]
  · have h1 := bulks.part_le hm
    have h2 := bulks.bound hk
    have h3 := bulks.slice_le es sp
    have h4 := bulks.slice_elems es sp
    have h5 := ls_bulk hl h
    omega
theorem total_mem {ls : List (List Ver)} {l : List Ver} (h : l ∈ ls) : l.length ≤ Pl.total ls := by
  induction ls with
  | nil => cases h
  | cons x ls ih =>
    rw [Pl.total_cons]
    rcases List.mem_cons.1 h with e | e
    · subst e; omega
    · have := ih e; omega
end Go.Proofs.Ytiogjebekadmcaa
