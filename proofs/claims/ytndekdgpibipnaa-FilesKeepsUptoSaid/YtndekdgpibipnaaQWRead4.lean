
/- Walks: numbers and texts read one behind the other, from bytes that were put. Condition: none. -/
import Derived.Test.YtndekdgpibipnaaQWRefEncRt
import Derived.Test.YtndekdgpibipnaaQGe
import Derived.Test.YtndekdgpibipnaaQGa

namespace Go.Proofs.Ytndekdgpibipnaa
open Go.RowKit

theorem ret_u64 {a b : Int} (h : a = b) : Ending.returned (.int .u64 a) = .returned (.int .u64 b) := by rw [h]
theorem drop_mk (a b : List UInt8) : (ByteArray.mk (a ++ b).toArray).extract a.length (a ++ b).length = ⟨b.toArray⟩ := by
  apply ByteArray.ext
  apply Array.ext'
  simp [ByteArray.data_extract, Array.toList_extract]
/-- in W, a reader lies in the block R -/
def RdAt (W : World) (R : Nat) (l : List UInt8) : Prop := W.heap[R]? = some (.cells #[.string ⟨l.toArray⟩] 124 (0, 0))
theorem RdAt.lt {W : World} {R : Nat} {l : List UInt8} (h : RdAt W R l) : R < W.heap.size := (Array.getElem?_eq_some_iff.1 h).1
theorem RdAt.below {W W' : World} {R : Nat} {l : List UInt8} (h : RdAt W R l) (hb : Below W.heap.size W W') : RdAt W' R l := (hb.block R h.lt).trans h
theorem RdAt.set {W : World} {R : Nat} {l l' : List UInt8} (h : RdAt W R l) : RdAt (W.setCell ⟨R, 0, none⟩ (.string ⟨l'.toArray⟩)) R l' := by
  obtain ⟨hlt, hk⟩ := Array.getElem?_eq_some_iff.1 h
  show (W.heap.modify R _)[R]? = _
  rw [Array.getElem?_eq_getElem (by rw [Array.size_modify]; exact hlt), Array.getElem_modify_self, hk]
  simp
set_option maxRecDepth 100000 in
set_option maxHeartbeats 400000 in
theorem uint_ok (R n most : Nat) (rest : List UInt8) (w : World) (h : RdAt w R (Pl.putUint n ++ rest)) (hn : n ≤ most) (hm : most ≤ 18446744073709551615) (hs : (Pl.putUint n ++ rest).length ≤ 9223372036854775000) :
    Calls Try.prog 100 #[.pointer (some ⟨R, 0, none⟩), .int .u64 (most : Int)] w fun e w' => e = .returned (.int .u64 (n : Int)) ∧ RdAt w' R rest ∧ Keep (fun q => q ≠ R) w w' := by
  have c0 : w.cell? ⟨R, 0, none⟩ = some (.string ⟨(Pl.putUint n ++ rest).toArray⟩) := by simp [World.cell?, show w.heap[R]? = _ from h]
  have f0 : w.frozen? ⟨R, 0, none⟩ = false := by simp [World.frozen?, show w.heap[R]? = _ from h]
  have hz := size_mk (Pl.putUint n ++ rest)
  have P := Lib.hid (takeUint_any ⟨(Pl.putUint n ++ rest).toArray⟩ w (by rw [hz]; omega))
  rw [show (ByteArray.mk (Pl.putUint n ++ rest).toArray).data.toList = Pl.putUint n ++ rest by simp, Pl.take_put n rest (by omega)] at P
  unfold tup3 at P
  have hdr := drop_mk (Pl.putUint n) rest
  have hset := Lib.hid (h.set (l' := rest))
  have hll : (Pl.putUint n).length ≤ (Pl.putUint n ++ rest).length := by simp
  have hlt := h.lt
  obtain ⟨S, hS⟩ : ∃ S, S = ByteArray.mk (Pl.putUint n ++ rest).toArray := ⟨_, rfl⟩
  rw [← hS] at c0 P hz hdr
  have hszS : S.size = (Pl.putUint n ++ rest).length := hz
  have hle2 : (Pl.putUint n).length ≤ S.size := by rw [hszS]; exact hll
  have hdr' : Hid (S.extract (Pl.putUint n).length ((Pl.putUint n).length + rest.length) = ⟨rest.toArray⟩) := Lib.hid (by rw [← List.length_append]; exact hdr)
  clear hS hz hll h hdr
  go_enter Try.func100, Try.ntmps100
  go_wp2_with fail
  refine P.out.mono ?_
  rintro e w' ⟨rfl, rfl⟩
  go_wp2_with fail
  go_ret
  refine ⟨ret_u64 rfl, ?_, (Keep.refl _ _).setCell _ _ _ (fun h _ => h rfl)⟩
  rw [hdr'.out]
  exact hset.out
set_option maxRecDepth 100000 in
set_option maxHeartbeats 400000 in
theorem text_ok (R : Nat) (t : ByteArray) (rest : List UInt8) (w : World) (h : RdAt w R (Pl.putText t.data.toList ++ rest)) (hn : t.size ≤ 32) (hs : (Pl.putText t.data.toList ++ rest).length ≤ 9223372036854775000) :
    Calls Try.prog 101 #[.pointer (some ⟨R, 0, none⟩)] w fun e w' => e = .returned (.string t) ∧ RdAt w' R rest ∧ Keep (fun q => q ≠ R) w w' := by
  have c0 : w.cell? ⟨R, 0, none⟩ = some (.string ⟨(Pl.putText t.data.toList ++ rest).toArray⟩) := by simp [World.cell?, show w.heap[R]? = _ from h]
  have hz := size_mk (Pl.putText t.data.toList ++ rest)
  have htl : t.data.toList.length = t.size := Pl.size_data t
  have P := Lib.hid (takeText_big ⟨(Pl.putText t.data.toList ++ rest).toArray⟩ 32 w (by rw [hz]; omega) (.inr (by omega)) (by omega) (by omega))
  rw [show (ByteArray.mk (Pl.putText t.data.toList ++ rest).toArray).data.toList = Pl.putText t.data.toList ++ rest by simp, Pl.text_back' t.data.toList rest _ (by rw [htl]; exact hn) (by omega)] at P
  unfold tupS at P
  simp only [show (⟨t.data.toList.toArray⟩ : ByteArray) = t by apply ByteArray.ext; simp] at P
  have hdr := drop_mk (Pl.putText t.data.toList) rest
  have hh := Lib.hid h
  have hll : (Pl.putText t.data.toList).length ≤ (Pl.putText t.data.toList ++ rest).length := by simp
  obtain ⟨PT, hPT⟩ : ∃ PT, PT = Pl.putText t.data.toList := ⟨_, rfl⟩
  rw [← hPT] at c0 P hz hdr hh hll hs
  clear hPT h
  obtain ⟨S, hS⟩ : ∃ S, S = ByteArray.mk (PT ++ rest).toArray := ⟨_, rfl⟩
  rw [← hS] at c0 P hz hdr
  have hle2 : PT.length ≤ S.size := by rw [hz]; exact hll
  have hdr' : Hid (S.extract PT.length (PT.length + rest.length) = ⟨rest.toArray⟩) := Lib.hid (by rw [← List.length_append]; exact hdr)
  have hszS : S.size = PT.length + rest.length := by rw [hz, List.length_append]
  have hlt := hh.out.lt
  clear hS hz hll hdr htl hn
  go_enter Try.func101, Try.ntmps101
  go_wp2_with fail
  refine P.out.mono ?_
  rintro e w1 ⟨rfl, b1⟩
  have hR1 := hh.out.below b1
  have c1 : w1.cell? ⟨R, 0, none⟩ = some (.string S) := (b1.cell (p := ⟨R, 0, none⟩) hlt).trans c0
  have f1 : w1.frozen? ⟨R, 0, none⟩ = false := by simp [World.frozen?, show w1.heap[R]? = _ from hR1]
  have hset := Lib.hid (hR1.set (l' := rest))
  have hlt1 := hR1.lt
  clear hR1 P c0
  go_wp2_with fail
  go_ret
  refine ⟨by rfl, ?_, (Keep.of_below (fp := fun q => q ≠ R) b1 (fun _ h _ => by assumption)).setCell _ _ _ (fun h _ => h rfl)⟩
  rw [hdr'.out]
  exact hset.out
end Go.Proofs.Ytndekdgpibipnaa
