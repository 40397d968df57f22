/- Arguments opened: a struct of a number, a number with a sign and two texts. Condition: none. -/
import Derived.Test.YtlchkpmmemdjcaaRow
import Derived.Test.YtlchkpmmemdjcaaBulk
import Derived.Lib.SmallJoins
namespace Go.Proofs.Ytlchkpmmemdjcaa
open Go.ChangeShapes Go.WideShapes Go.ChangeAt Go.RowKit Go.Joins

theorem cells_things : Try.prog.cellsOf 28 = 4 := by kernel_rfl

theorem open_things {H : Type} {enc : TypeId × Value → H} {w : World} {base : Nat} {spare : Nat → Bool} {held : Bool} {r : Reach} {b0 : Nat} {v : Value} {d : DataW H} {p : List MemPlace}
    (hv : Value.okWide Try.prog w r b0 28 v) (h : DataW.Trod enc Try.prog w base spare held 28 v d p) :
    ∃ (n : Nat) (m : Int) (s t : ByteArray), v = .agg #[.int .u64 n, .int .i64 m, .string s, .string t] ∧ d = .agg [.lit (.int .u64 n), .lit (.int .i64 m), .lit (.string s.data.toList), .lit (.string t.data.toList)] ∧
      n ≤ 18446744073709551615 ∧ -9223372036854775808 ≤ m ∧ m ≤ 9223372036854775807 := by
  obtain ⟨c0, c1, c2, c3, y0, y1, y2, y3, fu, rfl, rfl, _, h0, h1, h2, h3⟩ := open_agg4 Try.underlying28 (by kernel_rfl) cells_things hv h
  obtain ⟨a, e0, rfl, wa⟩ := DataW.trod_int Try.underlying26 h0
  obtain ⟨m, e1, rfl, wm⟩ := DataW.trod_int Try.underlying2 h1
  obtain ⟨s, e2, rfl, _⟩ := DataW.trod_string Try.underlying9 h2
  obtain ⟨t, e3, rfl, _⟩ := DataW.trod_string Try.underlying9 h3
  simp at e0 e1 e2 e3
  subst e0 e1 e2 e3
  have ba : 0 ≤ a ∧ a ≤ 18446744073709551615 := by simpa [Lit.wf, IntKind.min, IntKind.max, IntKind.signed, IntKind.bits] using wa
  have bm : -9223372036854775808 ≤ m ∧ m ≤ 9223372036854775807 := by simpa [Lit.wf, IntKind.min, IntKind.max, IntKind.signed, IntKind.bits] using wm
  obtain ⟨n, rfl⟩ := Int.eq_ofNat_of_zero_le ba.1
  exact ⟨n, m, s, t, rfl, rfl, by omega, bm.1, bm.2⟩

/-- the bound on a struct's texts -/
theorem things_small {H : Type} {l : List (DataW H)} {a b : DataW H} {s t : ByteArray} (hk : Rows.uptoSmall H l = true) (h : DataW.agg [a, b, .lit (.string s.data.toList), .lit (.string t.data.toList)] ∈ l) : s.size ≤ 1048575 ∧ t.size ≤ 1048575 := by
  have h1 := bulks.bound hk
  have h2 := bulks.part_le h
  have ha := bulks.one_le a
  simp only [Rows.uptoBulk, Rows.uptoBulkAll, Array.length_toList] at h2
  have e : s.data.size = s.size := rfl
  have e2 : t.data.size = t.size := rfl
  omega
end Go.Proofs.Ytlchkpmmemdjcaa
