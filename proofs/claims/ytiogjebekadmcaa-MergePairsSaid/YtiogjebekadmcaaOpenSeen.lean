
/- Arguments opened: what MergePairs takes. Condition: none. -/
import Derived.Test.YtiogjebekadmcaaOpenVers
import Derived.Test.YtiogjebekadmcaaOpenAgg
namespace Go.Proofs.Ytiogjebekadmcaa
open Go.ChangeShapes Go.WideShapes Go.ChangeAt Go.RowKit Go.Joins Go.Deep

set_option maxRecDepth 100000 in
theorem open_seen {H : Type} {enc : TypeId × Value → H} {W : World} {r : Reach} {b0 : Nat} {v : Value} {d : DataW H} {p : List MemPlace}
    (hv : Value.okWide Try.prog W r b0 25 v) (h : DataW.Trod enc Try.prog W 0 (fun _ => true) true 25 v d p) :
    ∃ (u : Value) (l : List Ver) (sq : Nat) (lo hi : ByteArray) (most : Int) (dl d1 d2 d3 d4 : DataW H), v = .agg #[u, .int .u64 (sq : Int), .string lo, .string hi, .int .i64 most] ∧ d = .agg [dl, d1, d2, d3, d4] ∧ VersAt W u l ∧
      ((dl = .nil ∧ l = []) ∨ ∃ sp, dl = .slice (l.map Ver.d) sp) ∧ -9223372036854775808 ≤ most ∧ most ≤ 9223372036854775807 := by
  obtain ⟨cs, ys, n, rfl, rfl, hcl, hyl, hf⟩ := open_aggs Try.underlying25 (by kernel_rfl) (by kernel_rfl) hv h
  obtain ⟨e0, e1, e2, e3, e4, rfl⟩ := list5 hcl
  obtain ⟨z0, z1, z2, z3, z4, rfl⟩ := list5 hyl
  obtain ⟨u0, y0, g0, k0, t0⟩ := hf 0 _ rfl
  obtain ⟨u1, y1, g1, k1, t1⟩ := hf 1 _ rfl
  obtain ⟨u2, y2, g2, k2, t2⟩ := hf 2 _ rfl
  obtain ⟨u3, y3, g3, k3, t3⟩ := hf 3 _ rfl
  obtain ⟨u4, y4, g4, k4, t4⟩ := hf 4 _ rfl
  simp only [List.getElem?_cons_zero, List.getElem?_cons_succ, Option.some.injEq] at g0 k0 g1 k1 g2 k2 g3 k3 g4 k4
  subst g0 k0 g1 k1 g2 k2 g3 k3 g4 k4
  obtain ⟨l, hl, _, hd⟩ := open_vers_cells t0
  obtain ⟨c1, q1, _, w1⟩ := DataW.trod_int Try.underlying23 t1
  obtain ⟨c2, q2, _, _⟩ := DataW.trod_string Try.underlying9 t2
  obtain ⟨c3, q3, _, _⟩ := DataW.trod_string Try.underlying9 t3
  obtain ⟨c4, q4, _, w4⟩ := DataW.trod_int Try.underlying3 t4
  simp at q1 q2 q3 q4
  subst q1 q2 q3 q4
  have b1 : 0 ≤ c1 ∧ c1 ≤ 18446744073709551615 := by simpa [Lit.wf, IntKind.min, IntKind.max, IntKind.signed, IntKind.bits] using w1
  have b4 : -9223372036854775808 ≤ c4 ∧ c4 ≤ 9223372036854775807 := by simpa [Lit.wf, IntKind.min, IntKind.max, IntKind.signed, IntKind.bits] using w4
  obtain ⟨m, rfl⟩ := Int.eq_ofNat_of_zero_le b1.1
  exact ⟨_, l, m, c2, c3, c4, _, _, _, _, _, rfl, rfl, hl, hd, b4.1, b4.2⟩
end Go.Proofs.Ytiogjebekadmcaa
