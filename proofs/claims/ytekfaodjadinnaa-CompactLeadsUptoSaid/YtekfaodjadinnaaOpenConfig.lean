
/- Arguments opened: a configuration. Condition: none. -/
import Derived.Test.YtekfaodjadinnaaOpenAgg
namespace Go.Proofs.Ytekfaodjadinnaa
open Go.ChangeShapes Go.WideShapes Go.ChangeAt Go.RowKit Go.Joins Go.Deep
set_option linter.unusedSimpArgs false

set_option maxRecDepth 100000 in
theorem open_config {H : Type} {enc : TypeId × Value → H} {w : World} {base : Nat} {spare : Nat → Bool} {held : Bool} {r : Reach} {b0 : Nat} {v : Value} {d : DataW H} {p : List MemPlace}
    (hv : Value.okWide Try.prog w r b0 24 v) (h : DataW.Trod enc Try.prog w base spare held 24 v d p) :
    ∃ c0 c1 c2 c3 c4 c5 c6 c7 : Int, v = .agg #[.int .i64 c0, .int .i64 c1, .int .i64 c2, .int .i64 c3, .int .i64 c4, .int .i64 c5, .int .i64 c6, .int .u64 c7] ∧
      d = .agg [.lit (.int .i64 c0), .lit (.int .i64 c1), .lit (.int .i64 c2), .lit (.int .i64 c3), .lit (.int .i64 c4), .lit (.int .i64 c5), .lit (.int .i64 c6), .lit (.int .u64 c7)] ∧
      (-9223372036854775808 ≤ c0 ∧ c0 ≤ 9223372036854775807) ∧ (-9223372036854775808 ≤ c1 ∧ c1 ≤ 9223372036854775807) ∧ (-9223372036854775808 ≤ c2 ∧ c2 ≤ 9223372036854775807) ∧ (-9223372036854775808 ≤ c3 ∧ c3 ≤ 9223372036854775807) ∧
      (-9223372036854775808 ≤ c4 ∧ c4 ≤ 9223372036854775807) ∧ (-9223372036854775808 ≤ c5 ∧ c5 ≤ 9223372036854775807) ∧ (-9223372036854775808 ≤ c6 ∧ c6 ≤ 9223372036854775807) ∧ (0 ≤ c7 ∧ c7 ≤ 18446744073709551615) := by
  obtain ⟨cs, ys, n, rfl, rfl, hcl, hyl, hf⟩ := open_aggs Try.underlying24 (by kernel_rfl) (by kernel_rfl) hv h
  obtain ⟨e0, e1, e2, e3, e4, e5, e6, e7, rfl⟩ := list8 hcl
  obtain ⟨z0, z1, z2, z3, z4, z5, z6, z7, rfl⟩ := list8 hyl
  obtain ⟨u0, y0, g0, k0, t0⟩ := hf 0 _ rfl
  simp only [List.getElem?_cons_zero, List.getElem?_cons_succ, Option.some.injEq] at g0 k0
  subst g0 k0
  obtain ⟨c0, q0, rfl, w0⟩ := DataW.trod_int Try.underlying3 t0
  simp at q0
  subst q0
  obtain ⟨u1, y1, g1, k1, t1⟩ := hf 1 _ rfl
  simp only [List.getElem?_cons_zero, List.getElem?_cons_succ, Option.some.injEq] at g1 k1
  subst g1 k1
  obtain ⟨c1, q1, rfl, w1⟩ := DataW.trod_int Try.underlying3 t1
  simp at q1
  subst q1
  obtain ⟨u2, y2, g2, k2, t2⟩ := hf 2 _ rfl
  simp only [List.getElem?_cons_zero, List.getElem?_cons_succ, Option.some.injEq] at g2 k2
  subst g2 k2
  obtain ⟨c2, q2, rfl, w2⟩ := DataW.trod_int Try.underlying3 t2
  simp at q2
  subst q2
  obtain ⟨u3, y3, g3, k3, t3⟩ := hf 3 _ rfl
  simp only [List.getElem?_cons_zero, List.getElem?_cons_succ, Option.some.injEq] at g3 k3
  subst g3 k3
  obtain ⟨c3, q3, rfl, w3⟩ := DataW.trod_int Try.underlying3 t3
  simp at q3
  subst q3
  obtain ⟨u4, y4, g4, k4, t4⟩ := hf 4 _ rfl
  simp only [List.getElem?_cons_zero, List.getElem?_cons_succ, Option.some.injEq] at g4 k4
  subst g4 k4
  obtain ⟨c4, q4, rfl, w4⟩ := DataW.trod_int Try.underlying3 t4
  simp at q4
  subst q4
  obtain ⟨u5, y5, g5, k5, t5⟩ := hf 5 _ rfl
  simp only [List.getElem?_cons_zero, List.getElem?_cons_succ, Option.some.injEq] at g5 k5
  subst g5 k5
  obtain ⟨c5, q5, rfl, w5⟩ := DataW.trod_int Try.underlying3 t5
  simp at q5
  subst q5
  obtain ⟨u6, y6, g6, k6, t6⟩ := hf 6 _ rfl
  simp only [List.getElem?_cons_zero, List.getElem?_cons_succ, Option.some.injEq] at g6 k6
  subst g6 k6
  obtain ⟨c6, q6, rfl, w6⟩ := DataW.trod_int Try.underlying3 t6
  simp at q6
  subst q6
  obtain ⟨u7, y7, g7, k7, t7⟩ := hf 7 _ rfl
  simp only [List.getElem?_cons_zero, List.getElem?_cons_succ, Option.some.injEq] at g7 k7
  subst g7 k7
  obtain ⟨c7, q7, rfl, w7⟩ := DataW.trod_int Try.underlying22 t7
  simp at q7
  subst q7
  refine ⟨c0, c1, c2, c3, c4, c5, c6, c7, rfl, rfl, ?_, ?_, ?_, ?_, ?_, ?_, ?_, ?_⟩
  · simpa [Lit.wf, IntKind.min, IntKind.max, IntKind.signed, IntKind.bits] using w0
  · simpa [Lit.wf, IntKind.min, IntKind.max, IntKind.signed, IntKind.bits] using w1
  · simpa [Lit.wf, IntKind.min, IntKind.max, IntKind.signed, IntKind.bits] using w2
  · simpa [Lit.wf, IntKind.min, IntKind.max, IntKind.signed, IntKind.bits] using w3
  · simpa [Lit.wf, IntKind.min, IntKind.max, IntKind.signed, IntKind.bits] using w4
  · simpa [Lit.wf, IntKind.min, IntKind.max, IntKind.signed, IntKind.bits] using w5
  · simpa [Lit.wf, IntKind.min, IntKind.max, IntKind.signed, IntKind.bits] using w6
  · simpa [Lit.wf, IntKind.min, IntKind.max, IntKind.signed, IntKind.bits] using w7
end Go.Proofs.Ytekfaodjadinnaa
