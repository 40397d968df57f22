/- Arguments opened: a frame. Condition: none. -/
import Derived.Test.YtlchkpmmemdjcaaRow
import Derived.Test.YtlchkpmmemdjcaaBulk
import Derived.Lib.SmallJoins
namespace Go.Proofs.Ytlchkpmmemdjcaa
open Go.ChangeShapes Go.WideShapes Go.ChangeAt Go.RowKit Go.Joins

theorem cells_frame : Try.prog.cellsOf 32 = 2 := by kernel_rfl

theorem open_frame {H : Type} {enc : TypeId × Value → H} {w : World} {base : Nat} {spare : Nat → Bool} {held : Bool} {r : Reach} {b0 : Nat} {v : Value} {d : DataW H} {p : List MemPlace}
    (hv : Value.okWide Try.prog w r b0 32 v) (h : DataW.Trod enc Try.prog w base spare held 32 v d p) :
    ∃ (k : UInt8) (s : ByteArray), v = .agg #[.int .u8 (k.toNat : Int), .string s] ∧ d = .agg [.lit (.int .u8 (k.toNat : Int)), .lit (.string s.data.toList)] := by
  obtain ⟨c0, c1, y0, y1, fu, rfl, rfl, _, h0, h1⟩ := open_agg2 Try.underlying32 (by kernel_rfl) cells_frame hv h
  obtain ⟨a, e0, rfl, wa⟩ := DataW.trod_int Try.underlying5 h0
  obtain ⟨s, e1, rfl, _⟩ := DataW.trod_string Try.underlying9 h1
  simp at e0 e1
  subst e0 e1
  have ba : 0 ≤ a ∧ a ≤ 255 := by simpa [Lit.wf, IntKind.min, IntKind.max, IntKind.signed, IntKind.bits] using wa
  obtain ⟨n, rfl⟩ := Int.eq_ofNat_of_zero_le ba.1
  have e : ((UInt8.ofNat n).toNat : Int) = (n : Int) := by rw [UInt8.toNat_ofNat']; omega
  refine ⟨UInt8.ofNat n, s, ?_, ?_⟩
  · rw [e]
  · rw [e]

/-- the form's own reach, of the text in a frame -/
theorem frame_sized {H : Type} {ts : List TypeId} {ds : List (DataW H)} (h : (DataW.weightsEach Try.prog ts ds).all (· ≤ reachBytes) = true) {j : Nat} {d : DataW H} {s : ByteArray}
    (ht : ts[j]? = some 32) (hd : ds[j]? = some (.agg [d, .lit (.string s.data.toList)])) : s.size ≤ 140737488351232 := by
  have hx := of_decide_eq_true (List.all_eq_true.1 h s.data.toList.length (DataW.weights_mem_each ht hd _ (by simp [DataW.weights, DataW.weightsEach, Try.underlying32])))
  have e : s.data.toList.length = s.size := by rw [Array.length_toList]; rfl
  rw [e] at hx
  exact hx
end Go.Proofs.Ytlchkpmmemdjcaa
