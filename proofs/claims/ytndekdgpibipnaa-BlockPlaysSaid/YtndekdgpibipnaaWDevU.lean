
/- Walks: a disk of blocks in memory: as its user sees it. Condition: lengths that memory lets. -/
import Derived.Test.YtndekdgpibipnaaWDev4
namespace Go.Proofs.Ytndekdgpibipnaa
open Go.RowKit

variable {B d : Nat} {s : Pl.Dv} {fp fp' : Nat → Prop} {W W' : World}
theorem DevAt.fpB (h : DevAt B d s fp W) : ∀ k, fp k → B ≤ k := let ⟨_, _, _, _, h⟩ := h; h.low
theorem DevAt.wf (h : DevAt B d s fp W) : s.WF := let ⟨_, _, _, _, h⟩ := h; h.wf
/-- what a step turns lies beyond B -/
theorem below_step {w : World} (hb : Below B w W) (hB : B ≤ w.heap.size) (h : DevAt B d s fp W) (st : Step fp fp' W W') : Below B w W' :=
  ⟨st.keep.os.trans hb.os, st.keep.tape.trans hb.tape, st.keep.output.trans hb.output, Nat.le_trans hb.size st.keep.size, fun k hk =>
    (st.keep.block k (fun hf => by have := h.fpB k hf; omega) (by have := hb.size; omega)).trans (hb.block k hk)⟩
theorem DevAt.beyond (h : DevAt B d s fp W) (hb : Below W.heap.size W W') : DevAt B d s fp W' := h.keep (Keep.of_below hb (fun _ _ h => h))
theorem up_is {b : Bool} (h : DevAt B d s fp W) (hd : s.down = b) : Calls Try.prog 19 #[.pointer (some ⟨d, 0, none⟩)] W fun e w' => e = .returned (.bool (!b)) ∧ W = w' := hd ▸ up_any h
theorem acts_is {a : Int} (h : DevAt B d s fp W) (ha : (s.acts : Int) = a) : Calls Try.prog 18 #[.pointer (some ⟨d, 0, none⟩)] W fun e w' => e = .returned (.int .i64 a) ∧ W = w' := ha ▸ acts_any h
theorem new40_any (w : World) :
    Calls Try.prog 13 #[.int .i64 40] w fun e w' => ∃ d fp, e = .returned (.tuple #[.pointer (some ⟨d, 0, none⟩), .int .i64 0]) ∧ DevAt w.heap.size d (Pl.Dv.new 40) fp w' ∧ Below w.heap.size w w' := new_any 40 (by omega) (by omega) w
end Go.Proofs.Ytndekdgpibipnaa
