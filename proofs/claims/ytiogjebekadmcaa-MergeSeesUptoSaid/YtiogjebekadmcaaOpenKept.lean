
/- Arguments opened: slices of numbers, and what MergeKeeps takes. Condition: none. -/
import Derived.Test.YtiogjebekadmcaaOpenVers
import Derived.Test.YtiogjebekadmcaaOpenAgg
import Derived.Test.YtiogjebekadmcaaWFloor
namespace Go.Proofs.Ytiogjebekadmcaa
open Go.ChangeShapes Go.WideShapes Go.ChangeAt Go.RowKit Go.Joins Go.Deep

theorem cells_u64 : Try.prog.cellsOf 23 = 1 := by kernel_rfl
theorem bytes_u64 : Try.prog.bytesOf 23 = 8 := by kernel_rfl

set_option maxRecDepth 100000 in
theorem open_nums_cells {H : Type} {enc : TypeId × Value → H} {W : World} {n : Nat} {u : Value} {y : DataW H × List MemPlace} (h : DataW.trod enc Try.prog W 0 (fun _ => true) true n 46 [u] = some y) :
    ∃ l : List Nat, NumsAt W u l ∧ ((y.1 = .nil ∧ l = []) ∨ ∃ sp, y.1 = .slice (l.map fun (x : Nat) => .lit (.int .u64 (x : Int))) sp) := by
  rcases open_slice Try.underlying46 h with ⟨hcs, hx⟩ | ⟨a, len, cap, m, n', D, Pl, hcs, _, hl, hm, hmm, hx, hg⟩
  · simp only [List.cons.injEq, and_true] at hcs
    subst hcs hx
    exact ⟨[], ⟨none, 0, rfl, by simp, by omega, fun h => by simp at h⟩, .inl ⟨rfl, rfl⟩⟩
  · simp only [List.cons.injEq, and_true] at hcs
    simp only [if_true] at hmm
    subst hcs hx hmm
    obtain ⟨f, hf⟩ := choose_lt (n := m) (p := fun i (x : Nat) => D i = .lit (.int .u64 (x : Int)) ∧ W.cell? (a.add (i * 1)) = some (.int .u64 (x : Int))) (fun i hi => by
      obtain ⟨cs', g1, g2⟩ := hg i hi
      rw [cells_u64] at g1
      obtain ⟨_, hlen, hcell⟩ := World.cells?_some g1
      match cs', hlen with
      | [c0], _ =>
        obtain ⟨d, e2, e3, w3⟩ := DataW.trod_int Try.underlying23 g2
        simp at e2 e3
        subst e2
        have b3 : 0 ≤ d ∧ d ≤ 18446744073709551615 := by simpa [Lit.wf, IntKind.min, IntKind.max, IntKind.signed, IntKind.bits] using w3
        obtain ⟨q, rfl⟩ := Int.eq_ofNat_of_zero_le b3.1
        have g0 := hcell 0 (by omega)
        exact ⟨q, e3.1, by simpa [Addr.add] using g0⟩)
    have hlen : ((List.range len).map f).length = len := by simp
    refine ⟨(List.range len).map f, ⟨some a, m, by rw [hlen], by omega, by unfold maxLen at hm; exact hm, fun h0 => ?_⟩, .inr ⟨(List.range (m - len)).map fun j => D (len + j), ?_⟩⟩
    · rw [hlen] at h0
      obtain ⟨b, off, spot⟩ := a
      have hspot : spot = none := by simpa [Addr.add] using World.cell?_spot ((hf 0 (by omega)).2)
      subst hspot
      have hc := fun i (hi : i < len) => (hf i (by omega)).2
      simp only [add_plain, Nat.mul_one] at hc
      refine ⟨b, off, rfl, ?_, fun i hi => ?_⟩
      · obtain ⟨o, ho, _⟩ := not_walk_of_cell (hc 0 h0)
        exact (Array.getElem?_eq_some_iff.1 ho).1
      · rw [hlen] at hi
        simp only [List.getElem_map, List.getElem_range]
        exact hc i hi
    · show DataW.slice _ _ = DataW.slice _ _
      rw [List.map_map, List.map_congr_left (f := D) (g := (fun (x : Nat) => .lit (.int .u64 (x : Int))) ∘ f) (fun i hi => (hf i (by have := List.mem_range.1 hi; omega)).1)]
set_option maxRecDepth 100000 in
theorem open_nums {H : Type} {enc : TypeId × Value → H} {W : World} {r : Reach} {b0 : Nat} {v : Value} {d : DataW H} {p : List MemPlace}
    (hv : Value.okWide Try.prog W r b0 46 v) (h : DataW.Trod enc Try.prog W 0 (fun _ => true) true 46 v d p) :
    ∃ l : List Nat, NumsAt W v l ∧ ((d = .nil ∧ l = []) ∨ ∃ sp, d = .slice (l.map fun (x : Nat) => .lit (.int .u64 (x : Int))) sp) := by
  obtain ⟨a0, len, cap, rfl⟩ := okWide_slice Try.underlying46 hv
  obtain ⟨fuel, hf⟩ := h
  exact open_nums_cells hf
set_option maxRecDepth 100000 in
/-- the form's own reach, of a slice of numbers -/
theorem nums_weight {H : Type} {d : DataW H} {l : List Nat} (hs : (d = .nil ∧ l = []) ∨ ∃ sp, d = .slice (l.map fun (x : Nat) => .lit (.int .u64 (x : Int))) sp) {ns : List Nat} (h : ns.all (· ≤ reachBytes) = true) (hm : ∀ n ∈ d.weights Try.prog 46, n ∈ ns) : l.length * 8 ≤ 140737488355328 := by
  rcases hs with ⟨_, rfl⟩ | ⟨sp, rfl⟩
  · simp
  · have h1 := List.all_eq_true.1 h _ (hm (((l.map (fun (x : Nat) => (DataW.lit (.int .u64 (x : Int)) : DataW H))).length + sp.length) * Try.prog.bytesOf 23) (by simp [DataW.weights, Try.underlying46]))
    rw [bytes_u64] at h1
    simp only [List.length_map, reachBytes, decide_eq_true_eq] at h1
    omega

theorem list4 {α : Type} {l : List α} (h : l.length = 4) : ∃ a0 a1 a2 a3, l = [a0, a1, a2, a3] := by
  match l, h with
  | [a0, a1, a2, a3], _ => exact ⟨_, _, _, _, rfl⟩
set_option maxRecDepth 100000 in
theorem open_kept {H : Type} {enc : TypeId × Value → H} {W : World} {r : Reach} {b0 : Nat} {v : Value} {d : DataW H} {p : List MemPlace}
    (hv : Value.okWide Try.prog W r b0 48 v) (h : DataW.Trod enc Try.prog W 0 (fun _ => true) true 48 v d p) :
    ∃ (u f : Value) (l : List Ver) (fs : List Nat) (bot : Bool) (most : Int) (dl df d2 d3 : DataW H), v = .agg #[u, f, .bool bot, .int .i64 most] ∧ d = .agg [dl, df, d2, d3] ∧ VersAt W u l ∧ NumsAt W f fs ∧
      ((dl = .nil ∧ l = []) ∨ ∃ sp, dl = .slice (l.map Ver.d) sp) ∧ ((df = .nil ∧ fs = []) ∨ ∃ sp, df = .slice (fs.map fun (x : Nat) => .lit (.int .u64 (x : Int))) sp) ∧ -9223372036854775808 ≤ most ∧ most ≤ 9223372036854775807 := by
  obtain ⟨cs, ys, n, rfl, rfl, hcl, hyl, hf⟩ := open_aggs Try.underlying48 (by kernel_rfl) (by kernel_rfl) hv h
  obtain ⟨e0, e1, e2, e3, rfl⟩ := list4 hcl
  obtain ⟨z0, z1, z2, z3, rfl⟩ := list4 hyl
  obtain ⟨u0, y0, g0, k0, t0⟩ := hf 0 _ rfl
  obtain ⟨u1, y1, g1, k1, t1⟩ := hf 1 _ rfl
  obtain ⟨u2, y2, g2, k2, t2⟩ := hf 2 _ rfl
  obtain ⟨u3, y3, g3, k3, t3⟩ := hf 3 _ rfl
  simp only [List.getElem?_cons_zero, List.getElem?_cons_succ, Option.some.injEq] at g0 k0 g1 k1 g2 k2 g3 k3
  subst g0 k0 g1 k1 g2 k2 g3 k3
  obtain ⟨l, hl, _, hd⟩ := open_vers_cells t0
  obtain ⟨fs, hfl, hfd⟩ := open_nums_cells t1
  obtain ⟨c2, q2, _⟩ := DataW.trod_bool Try.underlying4 t2
  obtain ⟨c3, q3, _, w3⟩ := DataW.trod_int Try.underlying3 t3
  simp at q2 q3
  subst q2 q3
  have b3 : -9223372036854775808 ≤ c3 ∧ c3 ≤ 9223372036854775807 := by simpa [Lit.wf, IntKind.min, IntKind.max, IntKind.signed, IntKind.bits] using w3
  exact ⟨_, _, l, fs, c2, c3, _, _, _, _, rfl, rfl, hl, hfl, hd, hfd, b3.1, b3.2⟩
end Go.Proofs.Ytiogjebekadmcaa
