
/- Walks: taking numbers from bytes. Condition: lengths that are ints. -/
import Derived.Test.YtogblcdefbnbeaaGreatQGd
import Derived.Test.YtogblcdefbnbeaaGreatQGa
import Derived.Lib.Strings
import Derived.Lib.Walk
import Derived.Lib.BufferWrite
import Derived.Lib.UnsafeStr
import Derived.Laws.MakeOwn
set_option maxRecDepth 100000
namespace Go.Proofs.YtogblcdefbnbeaaGreat
section
open Go.RowKit
def tup3 (v : Nat × Nat × Nat) : Value := .tuple #[.int .u64 v.1, .int .i64 v.2.1, .int .i64 v.2.2]
theorem byte_lt' (x : UInt8) : x.toNat < 256 := x.toNat_lt
set_option maxHeartbeats 400000 in
theorem takeUint_any (s : ByteArray) (w : World) (hs : s.size ≤ 9223372036854775800) :
  Calls Tryz.prog 129 #[.string s] w fun e w' => e = .returned (tup3 (Pl.takeUint s.data.toList)) ∧ w = w' := by
 go_enter Tryz.func129, Tryz.ntmps129
 go_wp2
 go_step3
 go_wp2
 go_step3
 go_wp2
 go_loop [11, 7, 5, 6] (fun i _ x e => ∃ k n : Nat, k ≤ s.size ∧ k ≤ 9 ∧ Hid (n < 128 ^ k) ∧ i = .int .i64 k ∧ x = .int .u64 n ∧ e = .int .i64 2 ∧ Hid (Pl.takeUint s.data.toList = Pl.takeFrom n k (s.data.toList.drop k)))
  (fun i _ _ _ => s.size - (intOf i).toNat)
 case atStart => exact ⟨0, 0, by omega, by omega, by show _ < _; simp, rfl, rfl, rfl, by show _ = _; simp [Pl.takeUint]⟩
 case round =>
  obtain ⟨k, n, hk, hk9, hn, rfl, rfl, rfl, H⟩ := hrel
  go_wp2
  ·have h1 : k < s.size := by assumption
   have h2 : (1 : Int) < (s[k].toNat : Int) := by assumption
   go_ret3
   exact ⟨ret_val (by rw [H.out, Pl.takeFrom_bad (by rw [Pl.size_data]; exact h1) (.inl ⟨by omega, by rw [Pl.getElem_data _ _ h1]; omega⟩)]; rfl), rfl⟩
  ·have h1 : k < s.size := by assumption
   have h2 : ((s[k].toNat : Int) == 0) = true := by assumption
   go_ret3
   exact ⟨ret_val (by rw [H.out, Pl.takeFrom_bad (by rw [Pl.size_data]; exact h1) (.inr ⟨by omega, byte_const' 0 rfl h2⟩)]; rfl), rfl⟩
  ·have h1 : k < s.size := by assumption
   have h2 : ((s[k].toNat : Int) == 0) = false := by assumption
   have h3 : (k : Int) = 9 := by assumption
   have h4 : (s[k].toNat : Int) ≤ 1 := by assumption
   obtain rfl : k = 9 := by omega
   have h5 := Pl.takeFrom_last (n := n) (l := s.data.toList) (k := 9) (by rw [Pl.size_data]; exact h1) (by rw [Pl.getElem_data _ _ h1]; rintro (⟨_, h⟩ | ⟨_, h⟩); { omega }; exact byte_const_ne' 0 rfl h2 h) (by rw [Pl.getElem_data _ _ h1]; omega)
   go_ret3
   exact ⟨ret_val (by rw [H.out, h5, Pl.or_nine hn.out (by omega)]; rfl), rfl⟩
  ·have h1 : k < s.size := by assumption
   have h2 : ((s[k].toNat : Int) == 0) = true := by assumption
   go_ret3
   exact ⟨ret_val (by rw [H.out, Pl.takeFrom_bad (by rw [Pl.size_data]; exact h1) (.inr ⟨by omega, byte_const' 0 rfl h2⟩)]; rfl), rfl⟩
  ·have h1 : k < s.size := by assumption
   have h2 : ((s[k].toNat : Int) == 0) = false := by assumption
   have h3 : ¬ (k : Int) = 9 := by assumption
   have h5 := Pl.takeFrom_last (n := n) (l := s.data.toList) (k := k) (by rw [Pl.size_data]; exact h1) (by rw [Pl.getElem_data _ _ h1]; rintro (⟨h, _⟩ | ⟨_, h⟩); { omega }; exact byte_const_ne' 0 rfl h2 h) (by rw [Pl.getElem_data _ _ h1]; omega)
   go_ret3
   exact ⟨ret_val (by rw [H.out, h5, Pl.or_last hn.out (byte_lt' _) (by omega)]; rfl), rfl⟩
  ·have h1 : k < s.size := by assumption
   have h2 : ((s[k].toNat : Int) == 0) = false := by assumption
   have h3 : ¬ (k : Int) = 9 := by assumption
   have h5 := Pl.takeFrom_more (n := n) (l := s.data.toList) (k := k) (by rw [Pl.size_data]; exact h1) (by rw [Pl.getElem_data _ _ h1]; rintro (⟨h, _⟩ | ⟨_, h⟩); { omega }; exact byte_const_ne' 0 rfl h2 h) (by rw [Pl.getElem_data _ _ h1]; omega)
   go_round
   case rel => exact ⟨k + 1, _, by omega, by omega, Pl.more_bound hn.out, by go_num, by rw [Pl.and127 _ (byte_lt' _), Pl.or_last hn.out (by omega) (by omega)], rfl, by show _ = _; rw [H.out, h5]; rfl⟩
   case measure => simp [intOf]; omega
  ·have h1 : k < s.size := by assumption
   have h2 : ¬ 0 < k := by assumption
   have h3 : ¬ (k : Int) = 9 := by assumption
   have h5 := Pl.takeFrom_last (n := n) (l := s.data.toList) (k := k) (by rw [Pl.size_data]; exact h1) (by rw [Pl.getElem_data _ _ h1]; rintro (⟨h, _⟩ | ⟨h, _⟩) <;> omega) (by rw [Pl.getElem_data _ _ h1]; omega)
   go_ret3
   exact ⟨ret_val (by rw [H.out, h5, Pl.or_last hn.out (byte_lt' _) (by omega)]; rfl), rfl⟩
  ·have h1 : k < s.size := by assumption
   have h2 : ¬ 0 < k := by assumption
   have h3 : ¬ (k : Int) = 9 := by assumption
   have h5 := Pl.takeFrom_more (n := n) (l := s.data.toList) (k := k) (by rw [Pl.size_data]; exact h1) (by rw [Pl.getElem_data _ _ h1]; rintro (⟨h, _⟩ | ⟨h, _⟩) <;> omega) (by rw [Pl.getElem_data _ _ h1]; omega)
   go_round
   case rel => exact ⟨k + 1, _, by omega, by omega, Pl.more_bound hn.out, by go_num, by rw [Pl.and127 _ (byte_lt' _), Pl.or_last hn.out (by omega) (by omega)], rfl, by show _ = _; rw [H.out, h5]; rfl⟩
   case measure => simp [intOf]; omega
  ·have h1 : ¬ k < s.size := by assumption
   go_ret3
   exact ⟨ret_val (by rw [H.out, Pl.takeFrom_end (by rw [Pl.size_data]; omega)]; rfl), rfl⟩
set_option maxHeartbeats 400000 in
theorem refTakeUint_any (s : ByteArray) (w : World) (hs : s.size ≤ 9223372036854775800) :
  Calls Tryz.prog 122 #[.string s] w fun e w' => e = .returned (tup3 (Pl.takeUint s.data.toList)) ∧ w = w' := by
 go_enter Tryz.func122, Tryz.ntmps122
 go_wp2
 go_loop [7, 5, 6] (fun i x y => ∃ k n : Nat, k ≤ s.size ∧ k ≤ 9 ∧ Hid (n < 128 ^ k) ∧ i = .int .i64 k ∧ x = .int .u64 n ∧ y = .int .u64 (128 ^ k : Nat) ∧ Hid (Pl.takeUint s.data.toList = Pl.takeFrom n k (s.data.toList.drop k)))
  (fun i _ _ => s.size - (intOf i).toNat)
 case atStart => exact ⟨0, 0, by omega, by omega, by show _ < _; simp, rfl, rfl, rfl, by show _ = _; simp [Pl.takeUint]⟩
 case round =>
  obtain ⟨k, n, hk, hk9, hn, rfl, rfl, rfl, H⟩ := hrel
  obtain ⟨P, hP⟩ : ∃ P, P = 128 ^ k := ⟨_, rfl⟩
  rw [← hP]
  have HP := Lib.hid hP
  clear hP
  by_cases h1 : k < s.size
  ·have hw : IntKind.u64.wrap ((s[k].toNat : Nat) : Int) = ((s[k].toNat : Nat) : Int) := by have := byte_lt s[k]; exact IntWalk.u64_in _ (by omega)
   have hbl := byte_lt s[k]
   have hkl : k < s.data.toList.length := by rw [Pl.size_data]; exact h1
   have hl : s.data.toList[k] = s[k] := rfl
   have HL := Lib.hid hl
   clear hl
   go_wp2
   ·have h2 : 1 < ((s[k].toNat : Nat) : Int) ∨ (((s[k].toNat : Nat) : Int) == 0) = true := by assumption
    have h3 : (k : Int) = 9 := by assumption
    go_ret3
    exact ⟨ret_val (by rw [H.out, Pl.takeFrom_bad hkl (by rw [HL.out]; rcases h2 with h2 | h2; { left; omega }; exact .inr ⟨by omega, byte_const' 0 rfl h2⟩)]; rfl), rfl⟩
   ·have h2 : ((s[k].toNat : Nat) : Int) ≤ 1 ∧ (((s[k].toNat : Nat) : Int) == 0) = false := by assumption
    have h3 : (k : Int) = 9 := by assumption
    obtain rfl : k = 9 := by omega
    have h5 := Pl.takeFrom_last (n := n) hkl (by rw [HL.out]; rintro (⟨_, h⟩ | ⟨_, h⟩); { omega }; exact byte_const_ne' 0 rfl h2.2 h) (by rw [HL.out]; omega)
    go_ret3
    exact ⟨ret_val (by rw [H.out, h5, Pl.ref_num HP.out hn.out hk9 (by omega), HL.out, Nat.mod_eq_of_lt (by omega)]; rfl), rfl⟩
   ·have h2 : (1 : Int) < ((s[k].toNat : Nat) : Int) := by assumption
    go_ret3
    exact ⟨ret_val (by rw [H.out, Pl.takeFrom_bad hkl (by rw [HL.out]; left; omega)]; rfl), rfl⟩
   ·have h2 : (((s[k].toNat : Nat) : Int) == 0) = true := by assumption
    go_ret3
    exact ⟨ret_val (by rw [H.out, Pl.takeFrom_bad hkl (by rw [HL.out]; exact .inr ⟨by omega, byte_const' 0 rfl h2⟩)]; rfl), rfl⟩
   ·have h3 : ¬ (k : Int) = 9 := by assumption
    have h2 : (((s[k].toNat : Nat) : Int) == 0) = false := by assumption
    have h4 : ((s[k].toNat : Nat) : Int) < 128 := by assumption
    have h5 := Pl.takeFrom_last (n := n) hkl (by rw [HL.out]; rintro (⟨h, _⟩ | ⟨_, h⟩); { omega }; exact byte_const_ne' 0 rfl h2 h) (by rw [HL.out]; omega)
    go_ret3
    exact ⟨ret_val (by rw [H.out, h5, Pl.ref_num HP.out hn.out hk9 (by omega), HL.out, Nat.mod_eq_of_lt (by omega)]; rfl), rfl⟩
   ·have h3 : ¬ (k : Int) = 9 := by assumption
    have h2 : (((s[k].toNat : Nat) : Int) == 0) = false := by assumption
    have h4 : (128 : Int) ≤ ((s[k].toNat : Nat) : Int) := by assumption
    have h5 := Pl.takeFrom_more (n := n) hkl (by rw [HL.out]; rintro (⟨h, _⟩ | ⟨_, h⟩); { omega }; exact byte_const_ne' 0 rfl h2 h) (by rw [HL.out]; omega)
    go_round
    case rel => exact ⟨k + 1, _, by omega, by omega, Pl.more_bound hn.out, by go_num, by rw [Pl.ref_num HP.out hn.out hk9 (by omega)], by rw [Pl.ref_place HP.out (by omega)], by show _ = _; rw [H.out, h5, HL.out]⟩
    case measure => simp [intOf]; omega
   ·have h3 : ¬ (k : Int) = 9 := by assumption
    have h2 : ¬ 0 < k := by assumption
    have h4 : ((s[k].toNat : Nat) : Int) < 128 := by assumption
    have h5 := Pl.takeFrom_last (n := n) hkl (by rw [HL.out]; rintro (⟨h, _⟩ | ⟨h, _⟩) <;> omega) (by rw [HL.out]; omega)
    go_ret3
    exact ⟨ret_val (by rw [H.out, h5, Pl.ref_num HP.out hn.out hk9 (by omega), HL.out, Nat.mod_eq_of_lt (by omega)]; rfl), rfl⟩
   ·have h3 : ¬ (k : Int) = 9 := by assumption
    have h2 : ¬ 0 < k := by assumption
    have h4 : (128 : Int) ≤ ((s[k].toNat : Nat) : Int) := by assumption
    have h5 := Pl.takeFrom_more (n := n) hkl (by rw [HL.out]; rintro (⟨h, _⟩ | ⟨h, _⟩) <;> omega) (by rw [HL.out]; omega)
    go_round
    case rel => exact ⟨k + 1, _, by omega, by omega, Pl.more_bound hn.out, by go_num, by rw [Pl.ref_num HP.out hn.out hk9 (by omega)], by rw [Pl.ref_place HP.out (by omega)], by show _ = _; rw [H.out, h5, HL.out]⟩
    case measure => simp [intOf]; omega
  ·go_wp2
   go_ret3
   exact ⟨ret_val (by rw [H.out, Pl.takeFrom_end (by rw [Pl.size_data]; omega)]; rfl), rfl⟩
end
section
open Go.RowKit
set_option maxHeartbeats 4000000 in
theorem slClone_any (s : ByteArray) (w : World) (hlim : s.size ≤ 281474976710656) :
  Calls Tryz.prog 93 #[.string s] w fun e w' => e = .returned (.string s) ∧ Below w.heap.size w w' := by
 by_cases h0 : s.size = 0
 ·have hs : s = ⟨#[]⟩ := by
   apply ByteArray.ext
   exact Array.eq_empty_of_size_eq_zero h0
  subst hs
  go_enter Tryz.func93, Tryz.ntmps93
  go_wp2
  go_ret
  exact ⟨rfl, Below.refl _ _⟩
 ·obtain ⟨i0, hi, hz0, hz1, hz2⟩ := info_parts info_u8
  have hinfo : (Tryz.prog.info? 5).map (·.size) = some 1 := by rw [hi]; simp [hz1]
  have hco : Tryz.prog.cellsOf 5 = 1 := by simp [Program.cellsOf, hi, hz1]
  -- 'make([]byte, len(s))', for the walk to take; what it lays under a name
  obtain ⟨M, hM⟩ : ∃ M, M = madeCells (Value.int .u8 0).cells (((s.size : Nat) : Int).toNat * i0.size) := ⟨_, rfl⟩
  have hMs : M.size = s.size := by rw [hM, size_madeCells, hz1]; simp
  have hmk : ∀ W : World, (Instr.makeSlice 52 (.int .i64 (s.size : Int)) (.int .i64 (s.size : Int))).run Tryz.prog W = .ok (.slice (some ⟨W.heap.size, 0, none⟩) s.size s.size) (W.alloc (.cells M 5)) := fun W => by
   have h := run_make (P := Tryz.prog) W 52 5 i0 (.int .u8 0) Tryz.underlying52 hi hz0 .i64 .i64 (s.size : Int) (s.size : Int) (by omega) (by omega) (by rw [hz2]; omega) (by omega)
   rw [← hM] at h
   simpa using h
  clear hM
  -- 'copy(b, s)'
  have hcp := Lib.run_copy_row_string (P := Tryz.prog) (w.alloc (.cells M 5)) 52 9 3 5 w.heap.size 0 s.size s.size s M 5 Tryz.underlying52 hinfo (heap_alloc_new w _) (Nat.le_refl _) (by omega)
  obtain ⟨Y, hY⟩ : ∃ Y, Y = (M.toList.take 0 ++ Lib.byteCells s.data.toList ++ M.toList.drop (0 + s.size)).toArray := ⟨_, rfl⟩
  rw [← hY] at hcp
  have hYl : Y.toList = Lib.byteCells s.data.toList := by
   rw [hY, List.toList_toArray, List.take_zero, List.nil_append, List.drop_of_length_le (by rw [Array.length_toList]; omega), List.append_nil]
  have hYs : Y.size = s.size := by rw [← Array.length_toList, hYl, Lib.byteCells_length, ← Lib.size_eq]
  have hgY : ((w.alloc (.cells M 5)).setRow w.heap.size Y).heap[w.heap.size]? = some (.cells Y 5 (0, 0)) := setRow_heap _ _ M _ 5 (0, 0) (heap_alloc_new w _)
  -- 'unsafe.String(&b[0], len(b))'
  have hne : s.data.toList ≠ [] := fun e => h0 (by rw [Lib.size_eq, e]; rfl)
  have hUS := Lib.run_unsafeString_row (P := Tryz.prog) ((w.alloc (.cells M 5)).setRow w.heap.size Y) 137 3 9 5 Tryz.underlying137 hco w.heap.size Y.size (by unfold World.shape?; rw [hgY]) s.data.toList hne (by rw [← Lib.size_eq]; omega) (by rw [← Lib.size_eq]; omega)
   (fun j x hx => Lib.cells_of_row hgY Y.size j _ (by rw [List.take_of_length_le (by rw [Array.length_toList]; exact Nat.le_refl _), hYl]; simp [Lib.byteCells, hx]))
  rw [← Lib.size_eq] at hUS
  clear hY
  go_enter Tryz.func93, Tryz.ntmps93
  go_wp2
  go_ret
  have hb1 : Below w.heap.size w (w.alloc (.cells M 5)) := (Below.refl _ w).alloc (Nat.le_refl _) _
  have hb2 : Below w.heap.size (w.alloc (.cells M 5)) ((w.alloc (.cells M 5)).setRow w.heap.size Y) := ⟨rfl, rfl, rfl, by simp, fun k hk => setRow_other _ _ _ _ (by omega)⟩
  exact ⟨rfl, Lib.below_freeze (hb1.trans hb2) (p := ⟨w.heap.size, 0, none⟩) (Nat.le_refl _) _⟩
set_option maxHeartbeats 400000 in
theorem clone_any (s : ByteArray) (w : World) (hlim : s.size ≤ 281474976710656) :
  Calls Tryz.prog 63 #[.string s] w fun e w' => e = .returned (.string s) ∧ Below w.heap.size w w' := by
 go_enter Tryz.func63, Tryz.ntmps63
 go_wp2_with fail
 refine (slClone_any s _ hlim).mono ?_
 rintro e w1 ⟨rfl, hb⟩
 go_wp2_with fail
 go_ret
 exact ⟨rfl, hb⟩
end
section
open Go.RowKit
def tupS (v : List UInt8 × Nat × Nat) : Value := .tuple #[.string ⟨v.1.toArray⟩, .int .i64 v.2.1, .int .i64 v.2.2]
theorem tupS_some (s : ByteArray) (k n : Nat) : Value.tuple #[.string (s.extract k (k + n)), .int .i64 ((k : Int) + (n : Int)), .int .i64 0] = tupS ((s.data.toList.drop k).take n, k + n, 0) := by
  unfold tupS
  rw [Pl.extract_mk, List.drop_take, Nat.add_sub_cancel_left]
  rfl
theorem takeText_bad {l : List UInt8} {most : Nat} (h : (((Pl.takeUint l).2.2 : Nat) : Int) ≠ 0) : Pl.takeText l most = ([], 0, (Pl.takeUint l).2.2) := by
  unfold Pl.takeText; rw [if_pos (by omega)]
theorem takeText_long {l : List UInt8} {most : Nat} (h : (Pl.takeUint l).2.2 = 0) (h2 : most < (Pl.takeUint l).1) : Pl.takeText l most = ([], 0, 3) := by
  unfold Pl.takeText; rw [if_neg (by omega), if_pos h2]
theorem takeText_short {l : List UInt8} {most : Nat} (h : (Pl.takeUint l).2.2 = 0) (h2 : ¬ most < (Pl.takeUint l).1) (h3 : l.length - (Pl.takeUint l).2.1 < (Pl.takeUint l).1) : Pl.takeText l most = ([], 0, 2) := by
  unfold Pl.takeText; rw [if_neg (by omega), if_neg h2, if_pos h3]
theorem takeText_ok {l : List UInt8} {most : Nat} (h : (Pl.takeUint l).2.2 = 0) (h2 : ¬ most < (Pl.takeUint l).1) (h3 : ¬ l.length - (Pl.takeUint l).2.1 < (Pl.takeUint l).1) :
    Pl.takeText l most = ((l.drop (Pl.takeUint l).2.1).take (Pl.takeUint l).1, (Pl.takeUint l).2.1 + (Pl.takeUint l).1, 0) := by
  unfold Pl.takeText; rw [if_neg (by omega), if_neg h2, if_neg h3]
set_option maxHeartbeats 400000 in
theorem takeText_big (s : ByteArray) (most : Int) (w : World) (hs : s.size ≤ 9223372036854775800) (hsm : s.size ≤ 281474976710656 ∨ most ≤ 281474976710656) (hm0 : -9223372036854775808 ≤ most) (hm1 : most ≤ 9223372036854775807) :
    Calls Tryz.prog 105 #[.string s, .int .i64 most] w fun e w' => e = .returned (tupS (Pl.takeText s.data.toList most.toNat)) ∧ Below w.heap.size w w' := by
  obtain ⟨b1, b2, b3⟩ := Pl.takeUint_bound s.data.toList
  have hc := takeUint_any s w (by omega)
  have hbad := takeText_bad (l := s.data.toList) (most := most.toNat)
  have hlong := takeText_long (l := s.data.toList) (most := most.toNat)
  have hshort := takeText_short (l := s.data.toList) (most := most.toNat)
  have hok := takeText_ok (l := s.data.toList) (most := most.toNat)
  have hsz := Pl.size_data s
  generalize Pl.takeUint s.data.toList = v at *
  obtain ⟨n, k, e⟩ := v
  simp only [tup3] at hc
  rw [hsz] at b2 hshort hok
  have hm : IntKind.u64.wrap (max most 0) = (most.toNat : Int) := by rw [IntWalk.u64_in _ ⟨by omega, by omega⟩]; omega
  have HC := Lib.hid hc
  have H1 := Lib.hid b1
  have Hb := Lib.hid hbad
  have Hl := Lib.hid hlong
  have Hs := Lib.hid hshort
  have Ho := Lib.hid hok
  clear hc b1 hbad hlong hshort hok hsz
  go_enter Tryz.func105, Tryz.ntmps105
  go_wp2_with fail
  refine (HC.out).mono ?_
  rintro e w1 ⟨rfl, rfl⟩
  go_wp2_with fail
  · have h : ((e : Int) != 0) = true := by assumption
    go_ret3
    exact ⟨ret_val (by rw [Hb.out (by simpa using h)]; rfl), Below.refl _ _⟩
  · have h : ((e : Int) != 0) = false := by assumption
    obtain rfl : e = 0 := by have h' : (e : Int) = 0 := by simpa using h
                             omega
    go_ret3
    exact ⟨ret_val (by rw [Hl.out rfl (by omega)]; rfl), Below.refl _ _⟩
  · have h : ((e : Int) != 0) = false := by assumption
    obtain rfl : e = 0 := by have h' : (e : Int) = 0 := by simpa using h
                             omega
    go_ret3
    exact ⟨ret_val (by rw [Hs.out rfl (by omega) (by show _ < n; omega)]; rfl), Below.refl _ _⟩
  · have h : ((e : Int) != 0) = false := by assumption
    obtain rfl : e = 0 := by have h' : (e : Int) = 0 := by simpa using h
                             omega
    refine (clone_any _ _ (by rw [ByteArray.size_extract]; omega)).mono ?_
    rintro e w2 ⟨rfl, hb⟩
    go_wp2_with fail
    go_ret3
    exact ⟨ret_val (by rw [Ho.out (by first | rfl | trivial) (by omega) (by show ¬ _ < n; omega)]; exact tupS_some s k n), hb⟩
theorem takeText_any (s : ByteArray) (most : Int) (w : World) (hs : s.size ≤ 281474976710656) (hm0 : -9223372036854775808 ≤ most) (hm1 : most ≤ 9223372036854775807) :
    Calls Tryz.prog 105 #[.string s, .int .i64 most] w fun e w' => e = .returned (tupS (Pl.takeText s.data.toList most.toNat)) ∧ Below w.heap.size w w' :=
  takeText_big s most w (by omega) (.inl hs) hm0 hm1
set_option maxHeartbeats 400000 in
theorem refTakeText_any (s : ByteArray) (most : Int) (w : World) (hs : s.size ≤ 281474976710656) (hm0 : -9223372036854775808 ≤ most) (hm1 : most ≤ 9223372036854775807) :
    Calls Tryz.prog 119 #[.string s, .int .i64 most] w fun e w' => e = .returned (tupS (Pl.takeText s.data.toList most.toNat)) ∧ w = w' := by
  obtain ⟨b1, b2, b3⟩ := Pl.takeUint_bound s.data.toList
  have hc := refTakeUint_any s w (by omega)
  have hbad := takeText_bad (l := s.data.toList) (most := most.toNat)
  have hlong := takeText_long (l := s.data.toList) (most := most.toNat)
  have hshort := takeText_short (l := s.data.toList) (most := most.toNat)
  have hok := takeText_ok (l := s.data.toList) (most := most.toNat)
  have hsz := Pl.size_data s
  generalize Pl.takeUint s.data.toList = v at *
  obtain ⟨n, k, e⟩ := v
  simp only [tup3] at hc
  rw [hsz] at b2 hshort hok
  have HC := Lib.hid hc
  have H1 := Lib.hid b1
  have Hb := Lib.hid hbad
  have Hl := Lib.hid hlong
  have Hs := Lib.hid hshort
  have Ho := Lib.hid hok
  clear hc b1 hbad hlong hshort hok hsz
  go_enter Tryz.func119, Tryz.ntmps119
  go_wp2_with fail
  refine (HC.out).mono ?_
  rintro e w1 ⟨rfl, rfl⟩
  go_wp2_with fail
  · have h : ((e : Int) != 0) = true := by assumption
    go_ret3
    exact ⟨ret_val (by rw [Hb.out (by simpa using h)]; rfl), rfl⟩
  all_goals
    have h : ((e : Int) != 0) = false := by assumption
    obtain rfl : e = 0 := by have h' : (e : Int) = 0 := by simpa using h
                             omega
  · go_ret3
    exact ⟨ret_val (by rw [Hl.out rfl (by omega)]; rfl), rfl⟩
  · go_ret3
    exact ⟨ret_val (by rw [Ho.out (by first | rfl | trivial) (by omega) (by show ¬ _ < n; omega)]; exact tupS_some s k n), rfl⟩
  · go_ret3
    exact ⟨ret_val (by rw [Hl.out rfl (by omega)]; rfl), rfl⟩
  · go_ret3
    exact ⟨ret_val (by rw [Hs.out rfl (by omega) (by show _ < n; omega)]; rfl), rfl⟩
  · go_ret3
    exact ⟨ret_val (by rw [Ho.out (by first | rfl | trivial) (by omega) (by show ¬ _ < n; omega)]; exact tupS_some s k n), rfl⟩
end
section
open Go.RowKit
def keyInt (l : List UInt8) : Value := if l.length < 8 then .tuple #[.int .i64 0, .int .i64 0, .int .i64 2] else .tuple #[.int .i64 (Pl.down (Pl.word (l.take 8))), .int .i64 8, .int .i64 0]
end
section
open Go.RowKit
end
end Go.Proofs.YtogblcdefbnbeaaGreat
