
/- Walk: the law CodecBack returns true. Condition: texts of at most 2 to the 45 bytes. -/
import Derived.Test.YtlchkpmmemdjcaaWBig
import Derived.Test.YtlchkpmmemdjcaaWTake3
import Derived.Test.YtlchkpmmemdjcaaWTake4
import Derived.Test.YtlchkpmmemdjcaaWKeyText
import Derived.Test.YtlchkpmmemdjcaaPlainI
namespace Go.Proofs.Ytlchkpmmemdjcaa
open Go.RowKit

theorem bcell {W w1 : World} (hb : Below W.heap.size W w1) : ∀ b o, b < W.heap.size → w1.cell? ⟨b, o, none⟩ = W.cell? ⟨b, o, none⟩ :=
  fun b o h => hb.cell (p := ⟨b, o, none⟩) h

/-- block B holds what was handed in -/
def Th (B : Nat) (n m : Int) (s r : ByteArray) (W : World) : Prop :=
  W.cell? ⟨B, 0, none⟩ = some (.int .u64 n) ∧ W.cell? ⟨B, 1, none⟩ = some (.int .i64 m) ∧ W.cell? ⟨B, 2, none⟩ = some (.string s) ∧ W.cell? ⟨B, 3, none⟩ = some (.string r) ∧ B < W.heap.size
theorem Th.kept {B : Nat} {n m : Int} {s r : ByteArray} {W W' : World} (h : Th B n m s r W) (hb : Below W.heap.size W W') : Th B n m s r W' := by
  obtain ⟨h0, h1, h2, h3, hB⟩ := h
  have hs := hb.size
  exact ⟨(hb.cell (p := ⟨B, 0, none⟩) hB).trans h0, (hb.cell (p := ⟨B, 1, none⟩) hB).trans h1, (hb.cell (p := ⟨B, 2, none⟩) hB).trans h2, (hb.cell (p := ⟨B, 3, none⟩) hB).trans h3, by omega⟩
theorem Th.new (w : World) (n m : Int) (s r : ByteArray) (t : TypeId) : Th w.heap.size n m s r (w.alloc (.cells #[.int .u64 n, .int .i64 m, .string s, .string r] t)) :=
  ⟨World.cell?_alloc_mark w _ t (0, 0) 0, World.cell?_alloc_mark w _ t (0, 0) 1, World.cell?_alloc_mark w _ t (0, 0) 2, World.cell?_alloc_mark w _ t (0, 0) 3, by simp⟩

theorem size_mk_append (l : List UInt8) (r : ByteArray) : (ByteArray.mk l.toArray ++ r).size = l.length + r.size := by
  rw [ByteArray.size_append]; rfl
theorem data_mk_append (l : List UInt8) (r : ByteArray) : (ByteArray.mk l.toArray ++ r).data.toList = l ++ r.data.toList := by
  rw [Pl.mk_append]

section
variable (r : ByteArray) (w : World)
theorem back_uint (n : Nat) (hn : U64 n) (hr : r.size ≤ 17592186044416) :
    Calls Try.prog 37 #[.string (⟨(Pl.putUint n).toArray⟩ ++ r)] w fun e w' => e = .returned (.tuple #[.int .u64 n, .int .i64 ((Pl.putUint n).length : Nat), .int .i64 0]) ∧ w = w' := by
  have hl := Pl.putUint_length64 n (by have := hn.le; omega)
  have h := takeUint_any (⟨(Pl.putUint n).toArray⟩ ++ r) w (by rw [size_mk_append]; omega)
  rw [data_mk_append, Pl.take_put n _ hn.le] at h
  exact h
theorem back_int (m : Int) (hm0 : -9223372036854775808 ≤ m) (hm1 : m ≤ 9223372036854775807) (hr : r.size ≤ 17592186044416) :
    Calls Try.prog 39 #[.string (⟨(Pl.putUint (Pl.zig m)).toArray⟩ ++ r)] w fun e w' => e = .returned (.tuple #[.int .i64 m, .int .i64 ((Pl.putUint (Pl.zig m)).length : Nat), .int .i64 0]) ∧ w = w' := by
  have hz := Pl.zig_le hm0 hm1
  have hl := Pl.putUint_length64 (Pl.zig m) (by omega)
  have h := takeInt_any (⟨(Pl.putUint (Pl.zig m)).toArray⟩ ++ r) w (by rw [size_mk_append]; omega)
  rw [data_mk_append, Pl.take_put _ _ hz, Pl.zag_zig] at h
  exact h
theorem back_text (s : ByteArray) (hs : s.size ≤ 17592186044416) (hr : r.size ≤ 17592186044416) :
    Calls Try.prog 41 #[.string (⟨(Pl.putText s.data.toList).toArray⟩ ++ r), .int .i64 s.size] w fun e w' => e = .returned (.tuple #[.string s, .int .i64 ((Pl.putText s.data.toList).length : Nat), .int .i64 0]) ∧ Below w.heap.size w w' := by
  have hl := Pl.putUint_length64 s.data.toList.length (by rw [Pl.size_data]; omega)
  have hs2 := Pl.size_data s
  have h := takeText_any (⟨(Pl.putText s.data.toList).toArray⟩ ++ r) s.size w (by rw [size_mk_append, Pl.putText, List.length_append]; omega) (by omega) (by omega)
  rw [data_mk_append, Int.toNat_natCast, ← hs2, Pl.text_back _ _ (by omega)] at h
  rw [← hs2]
  exact h
theorem back_key (m : Int) (hm0 : -9223372036854775808 ≤ m) (hm1 : m ≤ 9223372036854775807) (hr : r.size ≤ 17592186044416) :
    Calls Try.prog 43 #[.string (⟨(Pl.big (Pl.up m)).toArray⟩ ++ r)] w fun e w' => e = .returned (.tuple #[.int .i64 m, .int .i64 8, .int .i64 0]) ∧ w = w' := by
  have h := takeKeyInt_any (⟨(Pl.big (Pl.up m)).toArray⟩ ++ r) w (by rw [size_mk_append, Pl.big_length]; omega)
  rw [data_mk_append] at h
  unfold keyInt at h
  rw [if_neg (by rw [List.length_append, Pl.big_length]; omega), List.take_append_of_le_length (by rw [Pl.big_length]; exact Nat.le_refl _), List.take_of_length_le (by rw [Pl.big_length]; exact Nat.le_refl _), Pl.word_big _ (Pl.up_le hm0 hm1), Pl.down_up m hm0] at h
  exact h
theorem back_keyText (s : ByteArray) (hs : s.size ≤ 17592186044416) (hr : r.size ≤ 17592186044416) :
    Calls Try.prog 45 #[.string (⟨(Pl.keyText s.data.toList).toArray⟩ ++ r)] w fun e w' => e = .returned (.tuple #[.string s, .int .i64 ((Pl.keyText s.data.toList).length : Nat), .int .i64 0]) ∧ Below w.heap.size w w' := by
  have hl := Pl.esc_length s.data.toList
  have hs2 := Pl.size_data s
  have h := takeKeyText_any (⟨(Pl.keyText s.data.toList).toArray⟩ ++ r) w (by rw [size_mk_append, Pl.keyText, List.length_append]; simp; omega)
  rw [data_mk_append, Pl.key_back] at h
  exact h
end

set_option maxRecDepth 100000 in
set_option maxHeartbeats 2000000 in
theorem codecBack_any (n : Nat) (m : Int) (s r : ByteArray) (w : World) (hn : U64 n) (hm0 : -9223372036854775808 ≤ m) (hm1 : m ≤ 9223372036854775807) (hs : s.size ≤ 17592186044416) (hr : r.size ≤ 17592186044416) :
    Calls Try.prog 13 #[.agg #[.int .u64 n, .int .i64 m, .string s, .string r]] w fun e w' => e = .returned (.bool true) ∧ Below w.heap.size w w' := by
  have hl1 := Pl.putUint_length64 n (by have := hn.le; omega)
  have hl2 := Pl.putUint_length64 (Pl.zig m) (by have := Pl.zig_le hm0 hm1; omega)
  have hl3 : (Pl.putText s.data.toList).length ≤ 17592186044426 := by
    have := Pl.putUint_length64 s.data.toList.length (by rw [Pl.size_data]; omega)
    rw [Pl.putText, List.length_append, Pl.size_data] at *; omega
  have hl4 : (Pl.keyText s.data.toList).length ≤ 35184372088834 := by
    have := Pl.esc_length s.data.toList
    rw [Pl.size_data] at this
    rw [Pl.keyText, List.length_append]; simp; omega
  have hl5 : (Pl.big (Pl.up m)).length ≤ 8 := Nat.le_refl _
  have hb0 : Below w.heap.size w (w.alloc (.cells #[.int .u64 n, .int .i64 m, .string s, .string r] 28)) := (Below.refl _ w).alloc (Nat.le_refl _) _
  have th0 := Th.new w n m s r 28
  have P1 := Lib.hid (fun w => putUint_any n w hn)
  have P2 := Lib.hid (fun w => putInt_any m w hm0 hm1)
  have P3 := Lib.hid (fun w => putText_any s w (by omega))
  have P4 := Lib.hid (fun w => keyInt_any m w hm0 hm1)
  have P5 := Lib.hid (fun w => keyText_any s w (by omega))
  have Q1 := Lib.hid (fun w => back_uint r w n hn hr)
  have Q2 := Lib.hid (fun w => back_int r w m hm0 hm1 hr)
  have Q3 := Lib.hid (fun w => back_text r w s hs hr)
  have Q4 := Lib.hid (fun w => back_key r w m hm0 hm1 hr)
  have Q5 := Lib.hid (fun w => back_keyText r w s hs hr)
  clear hm0 hm1
  go_enter Try.func13, Try.ntmps13
  go_wp2_with fail
  refine (P1.out _).mono ?_
  rintro e w1 ⟨rfl, b1⟩
  have th1 := th0.kept b1
  have ⟨f0, f1, f2, f3, fB⟩ := th1
  go_wp2_with fail
  refine (P2.out _).mono ?_
  rintro e w2 ⟨rfl, b2⟩
  have th2 := th1.kept b2
  clear f0 f1 f2 f3 fB
  have ⟨f0, f1, f2, f3, fB⟩ := th2
  go_wp2_with fail
  refine (P3.out _).mono ?_
  rintro e w3 ⟨rfl, b3⟩
  have th3 := th2.kept b3
  clear f0 f1 f2 f3 fB
  have ⟨f0, f1, f2, f3, fB⟩ := th3
  go_wp2_with fail
  refine (Q1.out _).mono ?_
  rintro e wq ⟨rfl, rfl⟩
  go_wp2_with fail
  refine (Q2.out _).mono ?_
  rintro e wq ⟨rfl, rfl⟩
  go_wp2_with fail
  refine (Q3.out _).mono ?_
  rintro e w4 ⟨rfl, b4⟩
  have th4 := th3.kept b4
  clear f0 f1 f2 f3 fB
  have ⟨f0, f1, f2, f3, fB⟩ := th4
  go_wp2_with fail
  refine (P4.out _).mono ?_
  rintro e w5 ⟨rfl, b5⟩
  have th5 := th4.kept b5
  clear f0 f1 f2 f3 fB
  have ⟨f0, f1, f2, f3, fB⟩ := th5
  go_wp2_with fail
  refine (P5.out _).mono ?_
  rintro e w6 ⟨rfl, b6⟩
  have th6 := th5.kept b6
  clear f0 f1 f2 f3 fB
  have ⟨f0, f1, f2, f3, fB⟩ := th6
  go_wp2_with fail
  refine (Q4.out _).mono ?_
  rintro e wq ⟨rfl, rfl⟩
  go_wp2_with fail
  refine (Q5.out _).mono ?_
  rintro e w7 ⟨rfl, b7⟩
  have th7 := th6.kept b7
  clear f0 f1 f2 f3 fB
  have ⟨f0, f1, f2, f3, fB⟩ := th7
  go_wp2_with fail
  go_ret
  refine ⟨ret_bool (by simp), ?_⟩
  have hz := hb0.size
  exact (below_seq (below_seq (below_seq (below_seq (below_seq (below_seq (below_seq hb0 b1) b2) b3) b4) b5) b6) b7)
end Go.Proofs.Ytlchkpmmemdjcaa
