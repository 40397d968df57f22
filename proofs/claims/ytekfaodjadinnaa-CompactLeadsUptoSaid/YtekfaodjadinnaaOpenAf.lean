
/- Arguments opened: an array of four texts. Condition: none. -/
import Derived.Test.YtekfaodjadinnaaOpenAgg
import Derived.Laws.IdiomArrays
namespace Go.Proofs.Ytekfaodjadinnaa
open Go.ChangeShapes Go.WideShapes Go.ChangeAt Go.RowKit Go.Joins Go.Deep

theorem okWide_array {P : Program} {w : World} {r : Reach} {base : Nat} {t : TypeId} {v : Value} {n : Nat} {e : TypeId} (ht : P.underlying t = some (.array n e)) (h : Value.okWide P w r base t v) : ∃ cs, v = .agg cs ∧ cs.size = P.cellsOf t := by
  simp only [Value.okWide, ht] at h
  obtain ⟨cs, h1, h2, _⟩ := h
  exact ⟨cs, h1, h2⟩
set_option maxRecDepth 100000 in
theorem open_four {H : Type} {enc : TypeId × Value → H} {w : World} {base : Nat} {spare : Nat → Bool} {held : Bool} {r : Reach} {b0 : Nat} {v : Value} {d : DataW H} {p : List MemPlace}
    (hv : Value.okWide Try.prog w r b0 26 v) (h : DataW.Trod enc Try.prog w base spare held 26 v d p) :
    ∃ s0 s1 s2 s3 : ByteArray, v = .agg #[.string s0, .string s1, .string s2, .string s3] := by
  obtain ⟨cs, rfl, hsz⟩ := okWide_array Try.underlying26 hv
  have hsz' : cs.size = 4 := hsz
  obtain ⟨l⟩ := cs
  match l, hsz' with
  | [c0, c1, c2, c3], _ =>
    obtain ⟨fuel, hf⟩ := h
    obtain ⟨y0, y1, y2, y3, n, _, t0, t1, t2, t3⟩ := trod_array4 Try.underlying26 (by kernel_rfl) (show DataW.trod enc Try.prog w base spare held fuel 26 [c0, c1, c2, c3] = _ from hf)
    obtain ⟨q0, e0, _, _⟩ := DataW.trod_string Try.underlying9 t0
    obtain ⟨q1, e1, _, _⟩ := DataW.trod_string Try.underlying9 t1
    obtain ⟨q2, e2, _, _⟩ := DataW.trod_string Try.underlying9 t2
    obtain ⟨q3, e3, _, _⟩ := DataW.trod_string Try.underlying9 t3
    simp at e0 e1 e2 e3
    subst e0 e1 e2 e3
    exact ⟨q0, q1, q2, q3, rfl⟩
end Go.Proofs.Ytekfaodjadinnaa
