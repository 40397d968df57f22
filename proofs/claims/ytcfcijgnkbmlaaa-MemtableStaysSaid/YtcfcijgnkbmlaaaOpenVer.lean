
/- Arguments opened: a version. Condition: none. -/
import Derived.Test.YtcfcijgnkbmlaaaRow
import Derived.Test.YtcfcijgnkbmlaaaVer
import Derived.Lib.SmallJoins
namespace Go.Proofs.Ytcfcijgnkbmlaaa
open Go.ChangeShapes Go.WideShapes Go.ChangeAt Go.RowKit Go.Joins

theorem cells_version : Try.prog.cellsOf 24 = 4 := by kernel_rfl

set_option maxRecDepth 100000 in
theorem open_version {H : Type} {enc : TypeId × Value → H} {w : World} {base : Nat} {spare : Nat → Bool} {held : Bool} {r : Reach} {b0 : Nat} {v : Value} {d : DataW H} {p : List MemPlace}
    (hv : Value.okWide Try.prog w r b0 24 v) (h : DataW.Trod enc Try.prog w base spare held 24 v d p) :
    ∃ x : Ver, v = .agg #[.string x.key, .int .u64 (x.seq : Int), .bool x.del, .string x.val] ∧ d = .agg [.lit (.string x.key.data.toList), .lit (.int .u64 (x.seq : Int)), .lit (.bool x.del), .lit (.string x.val.data.toList)] ∧ x.seq ≤ 18446744073709551615 := by
  obtain ⟨c0, c1, c2, c3, y0, y1, y2, y3, fu, rfl, rfl, _, h0, h1, h2, h3⟩ := open_agg4 Try.underlying24 (by kernel_rfl) cells_version hv h
  obtain ⟨k, e0, rfl, _⟩ := DataW.trod_string Try.underlying9 h0
  obtain ⟨a, e1, rfl, wa⟩ := DataW.trod_int Try.underlying22 h1
  obtain ⟨q, e2, rfl⟩ := DataW.trod_bool Try.underlying4 h2
  obtain ⟨s, e3, rfl, _⟩ := DataW.trod_string Try.underlying9 h3
  simp at e0 e1 e2 e3
  subst e0 e1 e2 e3
  have ba : 0 ≤ a ∧ a ≤ 18446744073709551615 := by simpa [Lit.wf, IntKind.min, IntKind.max, IntKind.signed, IntKind.bits] using wa
  obtain ⟨n, rfl⟩ := Int.eq_ofNat_of_zero_le ba.1
  exact ⟨⟨k, n, q, s⟩, rfl, rfl, by have := ba.2; show n ≤ _; omega⟩
end Go.Proofs.Ytcfcijgnkbmlaaa
