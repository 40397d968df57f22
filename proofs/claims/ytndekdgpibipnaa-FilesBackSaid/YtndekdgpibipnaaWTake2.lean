
/- Walks: taking numbers with a sign, and texts. Condition: lengths that texts may have. -/
import Derived.Test.YtndekdgpibipnaaWTake
import Derived.Test.YtndekdgpibipnaaWClone
import Derived.Test.YtndekdgpibipnaaPlainG
namespace Go.Proofs.Ytndekdgpibipnaa
open Go.RowKit

/-- a text, how many bytes, what is wrong -/
def tupS (v : List UInt8 × Nat × Nat) : Value := .tuple #[.string ⟨v.1.toArray⟩, .int .i64 v.2.1, .int .i64 v.2.2]
theorem tupS_some (s : ByteArray) (k n : Nat) : Value.tuple #[.string (s.extract k (k + n)), .int .i64 ((k : Int) + (n : Int)), .int .i64 0] = tupS ((s.data.toList.drop k).take n, k + n, 0) := by
  unfold tupS
  rw [Pl.extract_mk, List.drop_take, Nat.add_sub_cancel_left]
  rfl
theorem takeText_bad {l : List UInt8} {most : Nat} (h : (((Pl.takeUint l).2.2 : Nat) : Int) ≠ 0) : Pl.takeText l most = ([], 0, (Pl.takeUint l).2.2) := by
  unfold Pl.takeText; rw [if_pos (by omega)]
theorem takeText_long {l : List UInt8} {most : Nat} (h : (Pl.takeUint l).2.2 = 0) (h2 : most < (Pl.takeUint l).1) : Pl.takeText l most = ([], 0, 3) := by
  unfold Pl.takeText; rw [if_neg (by omega), if_pos h2]
theorem takeText_short {l : List UInt8} {most : Nat} (h : (Pl.takeUint l).2.2 = 0) (h2 : ¬ most < (Pl.takeUint l).1) (h3 : l.length - (Pl.takeUint l).2.1 < (Pl.takeUint l).1) : Pl.takeText l most = ([], 0, 2) := by
  unfold Pl.takeText; rw [if_neg (by omega), if_neg h2, if_pos h3]
theorem takeText_ok {l : List UInt8} {most : Nat} (h : (Pl.takeUint l).2.2 = 0) (h2 : ¬ most < (Pl.takeUint l).1) (h3 : ¬ l.length - (Pl.takeUint l).2.1 < (Pl.takeUint l).1) :
    Pl.takeText l most = ((l.drop (Pl.takeUint l).2.1).take (Pl.takeUint l).1, (Pl.takeUint l).2.1 + (Pl.takeUint l).1, 0) := by
  unfold Pl.takeText; rw [if_neg (by omega), if_neg h2, if_neg h3]

set_option maxRecDepth 100000 in
set_option maxHeartbeats 400000 in
theorem takeText_big (s : ByteArray) (most : Int) (w : World) (hs : s.size ≤ 9223372036854775800) (hsm : s.size ≤ 281474976710656 ∨ most ≤ 281474976710656) (hm0 : -9223372036854775808 ≤ most) (hm1 : most ≤ 9223372036854775807) :
    Calls Try.prog 99 #[.string s, .int .i64 most] w fun e w' => e = .returned (tupS (Pl.takeText s.data.toList most.toNat)) ∧ Below w.heap.size w w' := by
  obtain ⟨b1, b2, b3⟩ := Pl.takeUint_bound s.data.toList
  have hc := takeUint_any s w (by omega)
  have hbad := takeText_bad (l := s.data.toList) (most := most.toNat)
  have hlong := takeText_long (l := s.data.toList) (most := most.toNat)
  have hshort := takeText_short (l := s.data.toList) (most := most.toNat)
  have hok := takeText_ok (l := s.data.toList) (most := most.toNat)
  have hsz := Pl.size_data s
  generalize Pl.takeUint s.data.toList = v at *
  obtain ⟨n, k, e⟩ := v
  simp only [tup3] at hc
  rw [hsz] at b2 hshort hok
  have hm : IntKind.u64.wrap (max most 0) = (most.toNat : Int) := by rw [IntWalk.u64_in _ ⟨by omega, by omega⟩]; omega
  have HC := Lib.hid hc
  have H1 := Lib.hid b1
  have Hb := Lib.hid hbad
  have Hl := Lib.hid hlong
  have Hs := Lib.hid hshort
  have Ho := Lib.hid hok
  clear hc b1 hbad hlong hshort hok hsz
  go_enter Try.func99, Try.ntmps99
  go_wp2_with fail
  refine (HC.out).mono ?_
  rintro e w1 ⟨rfl, rfl⟩
  go_wp2_with fail
  · have h : ((e : Int) != 0) = true := by assumption
    go_ret3
    exact ⟨ret_val (by rw [Hb.out (by simpa using h)]; rfl), Below.refl _ _⟩
  · have h : ((e : Int) != 0) = false := by assumption
    obtain rfl : e = 0 := by have h' : (e : Int) = 0 := by simpa using h
                             omega
    go_ret3
    exact ⟨ret_val (by rw [Hl.out rfl (by omega)]; rfl), Below.refl _ _⟩
  · have h : ((e : Int) != 0) = false := by assumption
    obtain rfl : e = 0 := by have h' : (e : Int) = 0 := by simpa using h
                             omega
    go_ret3
    exact ⟨ret_val (by rw [Hs.out rfl (by omega) (by show _ < n; omega)]; rfl), Below.refl _ _⟩
  · have h : ((e : Int) != 0) = false := by assumption
    obtain rfl : e = 0 := by have h' : (e : Int) = 0 := by simpa using h
                             omega
    refine (clone_any _ _ (by rw [ByteArray.size_extract]; omega)).mono ?_
    rintro e w2 ⟨rfl, hb⟩
    go_wp2_with fail
    go_ret3
    exact ⟨ret_val (by rw [Ho.out (by first | rfl | trivial) (by omega) (by show ¬ _ < n; omega)]; exact tupS_some s k n), hb⟩
theorem takeText_any (s : ByteArray) (most : Int) (w : World) (hs : s.size ≤ 281474976710656) (hm0 : -9223372036854775808 ≤ most) (hm1 : most ≤ 9223372036854775807) :
    Calls Try.prog 99 #[.string s, .int .i64 most] w fun e w' => e = .returned (tupS (Pl.takeText s.data.toList most.toNat)) ∧ Below w.heap.size w w' :=
  takeText_big s most w (by omega) (.inl hs) hm0 hm1

end Go.Proofs.Ytndekdgpibipnaa
