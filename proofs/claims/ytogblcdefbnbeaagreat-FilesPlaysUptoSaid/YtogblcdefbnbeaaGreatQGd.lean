
/- Walks: codec.Common and the reference's. Condition: lengths that are ints. -/
import Derived.Test.YtogblcdefbnbeaaGreatQGa
import Derived.Test.YtogblcdefbnbeaaGreatQGu
set_option maxRecDepth 100000
namespace Go.Proofs.YtogblcdefbnbeaaGreat
section
open Go.RowKit
end
section
open Go.RowKit
set_option maxHeartbeats 400000 in
theorem sum_any (s : ByteArray) (w : World) (hs : s.size ≤ 9223372036854775807) :
  Calls Tryz.prog 107 #[.string s] w fun e w' => e = .returned (.int .u32 (Pl.sum s.data.toList : Nat)) ∧ Q w w' := by
 go_enter Tryz.func107, Tryz.ntmps107
 go_wp2
 go_loopw [3, 7] (fun a i wr => ∃ k n : Nat, k ≤ s.size ∧ n < 4294967296 ∧ a = .int .u32 n ∧ i = .int .i64 k ∧ Q w wr ∧ Hid (Pl.crcL n (s.data.toList.drop k) = Pl.crcL 4294967295 s.data.toList))
  (fun _ i _ => s.size - (intOf i).toNat)
 case atStart => exact ⟨0, 4294967295, by omega, by omega, rfl, rfl, Q.refl _, by show _ = _; simp⟩
 case round =>
  obtain ⟨k, n, hk, hn, rfl, rfl, q, H⟩ := hrel
  by_cases h1 : k < s.size
  ·go_wp2
   rw [Pl.byte_xor' n s[k] hn]
   have hx := Pl.xor_byte_lt s[k] hn
   go_loopw [3, 16] (fun a i wx => ∃ j m : Nat, j ≤ 8 ∧ m < 4294967296 ∧ a = .int .u32 m ∧ i = .int .i64 j ∧ Q wr wx ∧ Hid (Pl.crcs (8 - j) m = Pl.crcB n s[k]))
    (fun _ i _ => 8 - (intOf i).toNat)
   case atStart => exact ⟨0, _, by omega, hx, rfl, rfl, Q.refl _, by show _ = _; rfl⟩
   case round =>
    obtain ⟨j, m, hj, hm, rfl, rfl, q2, H2⟩ := hrel
    by_cases h2 : j < 8
    ·go_wp2
     go_roundw
     case rel => exact ⟨j + 1, Pl.crc1 m, by omega, Pl.crc1_lt hm, by rw [Pl.crc1_eq m hm], by go_num, q2, by
      have H2 := H2.out
      rw [show 8 - j = (8 - (j + 1)) + 1 from by omega] at H2
      exact H2⟩
     case measure => simp [intOf]; omega
    ·have hd : decide ((j : Int) < 8) = false := by simp; omega
     have hd' : decide (j < 8) = false := by simp; omega
     obtain rfl : j = 8 := by omega
     have H2 : m = Pl.crcB n s[k] := H2.out
     go_wp2
     go_roundw
     case rel => exact ⟨k + 1, m, by omega, hm, rfl, by go_num, q.trans q2, by
      have H := H.out
      rw [Pl.crcL_next (by rw [Pl.size_data]; exact h1)] at H
      rw [H2]
      exact H⟩
     case measure => simp [intOf]; omega
  ·have hd : decide ((k : Int) < (s.size : Int)) = false := by simp; omega
   have hd' : decide (k < s.size) = false := by simp; omega
   go_wp2
   go_ret
   refine ⟨ret_int (Pl.sum_end hn ?_), q⟩
   have H := H.out
   rwa [List.drop_eq_nil_of_le (by rw [Pl.size_data]; omega)] at H
set_option maxHeartbeats 400000 in
theorem refSum_any (s : ByteArray) (w : World) (hs : s.size ≤ 9223372036854775807) :
  Calls Tryz.prog 121 #[.string s] w fun e w' => e = .returned (.int .u32 (Pl.sum s.data.toList : Nat)) ∧ Q w w' := by
 go_enter Tryz.func121, Tryz.ntmps121
 go_wp2
 go_loopw [3, 4] (fun a i wr => ∃ k n : Nat, k ≤ s.size ∧ n < 4294967296 ∧ a = .int .u32 n ∧ i = .int .i64 k ∧ Q w wr ∧ Hid (Pl.crcL n (s.data.toList.drop k) = Pl.crcL 4294967295 s.data.toList))
  (fun _ i _ => s.size - (intOf i).toNat)
 case atStart => exact ⟨0, 4294967295, by omega, by omega, rfl, rfl, Q.refl _, by show _ = _; simp⟩
 case round =>
  obtain ⟨k, n, hk, hn, rfl, rfl, q, H⟩ := hrel
  by_cases h1 : k < s.size
  ·go_wp2
   rw [Pl.byte_xor' n s[k] hn]
   have hx := Pl.xor_byte_lt s[k] hn
   go_loopw [3, 5] (fun a i wx => ∃ j m : Nat, j ≤ 8 ∧ m < 4294967296 ∧ a = .int .u32 m ∧ i = .int .i64 j ∧ Q wr wx ∧ Hid (Pl.crcs (8 - j) m = Pl.crcB n s[k]))
    (fun _ i _ => 8 - (intOf i).toNat)
   case atStart => exact ⟨0, _, by omega, hx, rfl, rfl, Q.refl _, by show _ = _; rfl⟩
   case round =>
    obtain ⟨j, m, hj, hm, rfl, rfl, q2, H2⟩ := hrel
    by_cases h2 : j < 8
    ·have H3 : Hid (Pl.crcs (8 - (j + 1)) (Pl.crc1 m) = Pl.crcB n s[k]) := by
      have H2 := H2.out
      rw [show 8 - j = (8 - (j + 1)) + 1 from by omega] at H2
      exact H2
     go_wp2
     ·have ho : (m : Int) % 2 = 1 := eq_of_beq (by assumption)
      go_roundw
      case rel => exact ⟨j + 1, Pl.crc1 m, by omega, Pl.crc1_lt hm, by rw [Pl.crc1_odd m hm ho], by go_num, q2, H3⟩
      case measure => simp [intOf]; omega
     ·have ho : ¬ (m : Int) % 2 = 1 := fun e => absurd (by assumption : ((m : Int) % 2 == 1) = false) (by simp [e])
      go_roundw
      case rel => exact ⟨j + 1, Pl.crc1 m, by omega, Pl.crc1_lt hm, by rw [Pl.crc1_even m ho], by go_num, q2, H3⟩
      case measure => simp [intOf]; omega
    ·have hd : decide ((j : Int) < 8) = false := by simp; omega
     have hd' : decide (j < 8) = false := by simp; omega
     obtain rfl : j = 8 := by omega
     have H2 : m = Pl.crcB n s[k] := H2.out
     go_wp2
     go_roundw
     case rel => exact ⟨k + 1, m, by omega, hm, rfl, by go_num, q.trans q2, by
      have H := H.out
      rw [Pl.crcL_next (by rw [Pl.size_data]; exact h1)] at H
      rw [H2]
      exact H⟩
     case measure => simp [intOf]; omega
  ·have hd : decide ((k : Int) < (s.size : Int)) = false := by simp; omega
   have hd' : decide (k < s.size) = false := by simp; omega
   go_wp2
   go_ret
   refine ⟨ret_int (Pl.sum_end hn ?_), q⟩
   have H := H.out
   rwa [List.drop_eq_nil_of_le (by rw [Pl.size_data]; omega)] at H
end
section
open Go.RowKit
theorem info_u8 : (Tryz.prog.info? 5).map (fun i => (i.zero, i.size, i.bytes)) = some (some (.int .u8 0), 1, 1) := by kernel_rfl
theorem or128 (m : Nat) : bits .or .u8 ((m : Int) % 256) 128 = ((m : Int) % 128 + 128) := by
 have h : ∀ k : Nat, k < 256 → bits .or .u8 (k : Int) 128 = ((k % 128 + 128 : Nat) : Int) := by decide +kernel
 have e : (m : Int) % 256 = ((m % 256 : Nat) : Int) := by omega
 rw [e, h _ (by omega)]
 omega
set_option maxHeartbeats 400000 in
theorem putUint_any (N : Nat) (w : World) (HN : U64 N) :
  Calls Tryz.prog 112 #[.int .u64 N] w fun e w' => e = .returned (.string ⟨(Pl.putUint N).toArray⟩) ∧ Below w.heap.size w w' := by
 go_enter Tryz.func112, Tryz.ntmps112
 go_wp2
 go_loopw [0, 3] (fun x v wr => ∃ (m : Nat) (l : List UInt8), U64 m ∧ x = .int .u64 m ∧ Own w.heap.size 5 1 v l.length (bcells l) w wr ∧ Hid (Pl.putUint N = l ++ Pl.putUint m))
  (fun x _ _ => (intOf x).toNat)
 case atStart => exact ⟨N, [], HN, rfl, Own.nil (Below.refl _ _) (Nat.le_refl _), by show _ = _; simp⟩
 case round =>
  obtain ⟨m, l, hm, rfl, hown, H⟩ := hrel
  have hl : l.length ≤ 100 := by
   have h1 := Pl.putUint_length64 N (by have := HN.le; omega)
   have h2 := congrArg List.length H.out
   simp at h2
   omega
  have hor := or128 m
  go_wp2_with (first
   | (at_builtin; go_must (refine wpList_appb (by rfl) _ _ 52 (by rfl) w.heap.size 5 Tryz.underlying52 info_u8 _ l.length l _ w _ hown (by rfl) (by rfl) (by omega) (by omega) ?_; intro v' w1 hown1))
   | (refine wpList_str (by rfl) _ 52 9 5 (by rfl) Tryz.underlying52 Tryz.underlying5 Tryz.underlying9 (by rfl) (by assumption) ?_))
  ·have h128 : (128 : Int) ≤ (m : Int) := by assumption
   go_roundw
   case rel => exact ⟨m / 128, _, hm.div _, by go_num, by assumption, by show _ = _; rw [H.out, Pl.putUint_step (by omega) l]; congr 4⟩
   case measure => simp [intOf]; omega
  ·have h128 : (m : Int) < 128 := by assumption
   go_ret
   refine ⟨ret_str ?_, Own.below (by assumption)⟩
   rw [H.out, Pl.putUint_last (by omega)]
set_option maxHeartbeats 400000 in
theorem refPutUint_any (N : Nat) (w : World) (HN : U64 N) :
  Calls Tryz.prog 100 #[.int .u64 N] w fun e w' => e = .returned (.string ⟨(Pl.putUint N).toArray⟩) ∧ Below w.heap.size w w' := by
 go_enter Tryz.func100, Tryz.ntmps100
 go_wp2
 go_loopw [0, 3] (fun x v wr => ∃ (m : Nat) (l : List UInt8), U64 m ∧ x = .int .u64 m ∧ Own w.heap.size 5 1 v l.length (bcells l) w wr ∧ Hid (Pl.putUint N = l ++ Pl.putUint m))
  (fun x _ _ => (intOf x).toNat)
 case atStart => exact ⟨N, [], HN, rfl, Own.nil (Below.refl _ _) (Nat.le_refl _), by show _ = _; simp⟩
 case round =>
  obtain ⟨m, l, hm, rfl, hown, H⟩ := hrel
  have hl : l.length ≤ 100 := by
   have h1 := Pl.putUint_length64 N (by have := HN.le; omega)
   have h2 := congrArg List.length H.out
   simp at h2
   omega
  have hq : IntKind.u64.wrap ((m : Int) / 128) = (m : Int) / 128 := by have := hm.le; exact IntWalk.u64_in _ (by omega)
  go_wp2_with (first
   | (at_builtin; go_must (refine wpList_appb (by rfl) _ _ 52 (by rfl) w.heap.size 5 Tryz.underlying52 info_u8 _ l.length l _ w _ hown (by rfl) (by rfl) (by omega) (by omega) ?_; intro v' w1 hown1))
   | (refine wpList_str (by rfl) _ 52 9 5 (by rfl) Tryz.underlying52 Tryz.underlying5 Tryz.underlying9 (by rfl) (by assumption) ?_))
  ·have h128 : (128 : Int) ≤ (m : Int) := by assumption
   go_roundw
   case rel => exact ⟨m / 128, _, hm.div _, by go_num, by assumption, by show _ = _; rw [H.out, Pl.putUint_step (by omega) l]; congr 4⟩
   case measure => simp [intOf]; omega
  ·have h128 : (m : Int) < 128 := by assumption
   go_ret
   refine ⟨ret_str ?_, Own.below (by assumption)⟩
   rw [H.out, Pl.putUint_last (by omega)]
end
section
open Go.RowKit
theorem below_seq {w w1 w2 : World} (h : Below w.heap.size w w1) (h2 : Below w1.heap.size w1 w2) : Below w.heap.size w w2 := h.trans (h2.mono h.size)
set_option maxHeartbeats 400000 in
theorem putText_any (s : ByteArray) (w : World) (hs : s.size ≤ 9223372036854775000) :
  Calls Tryz.prog 113 #[.string s] w fun e w' => e = .returned (.string ⟨(Pl.putText s.data.toList).toArray⟩) ∧ Below w.heap.size w w' := by
 have hl := Pl.putUint_length64 s.size (by omega)
 go_enter Tryz.func113, Tryz.ntmps113
 go_wp2_with fail
 refine (putUint_any _ _ (.mk' (by omega))).mono ?_
 rintro e w1 ⟨rfl, hb⟩
 go_wp2_with fail
 go_ret
 exact ⟨ret_str (by rw [Pl.mk_append, Pl.putText, Pl.size_data]), hb⟩
set_option maxHeartbeats 400000 in
theorem refPutText_any (s : ByteArray) (w : World) (hs : s.size ≤ 9223372036854775000) :
  Calls Tryz.prog 101 #[.string s] w fun e w' => e = .returned (.string ⟨(Pl.putText s.data.toList).toArray⟩) ∧ Below w.heap.size w w' := by
 have hl := Pl.putUint_length64 s.size (by omega)
 go_enter Tryz.func101, Tryz.ntmps101
 go_wp2_with fail
 refine (refPutUint_any _ _ (.mk' (by omega))).mono ?_
 rintro e w1 ⟨rfl, hb⟩
 go_wp2_with fail
 go_ret
 exact ⟨ret_str (by rw [Pl.mk_append, Pl.putText, Pl.size_data]), hb⟩
end
section
open Go.RowKit
theorem big_own (n : Nat) (w : World) : Own w.heap.size 5 1 (.slice (some ⟨w.heap.size, 0, none⟩) 8 8) 8 (bcells (Pl.big n)) w
  (w.alloc (.cells #[.int .u8 ((n : Int) / 72057594037927936 % 256), .int .u8 ((n : Int) / 281474976710656 % 256), .int .u8 ((n : Int) / 1099511627776 % 256), .int .u8 ((n : Int) / 4294967296 % 256), .int .u8 ((n : Int) / 16777216 % 256), .int .u8 ((n : Int) / 65536 % 256), .int .u8 ((n : Int) / 256 % 256), .int .u8 ((n : Int) % 256)] 5)) := by
 refine ⟨?_, (Below.refl _ _).alloc (Nat.le_refl _) _, by simp⟩
 have h := World.ownsRow_lit (base := w.heap.size) (e := 5) (size := 1) w #[.int .u8 ((n : Int) / 72057594037927936 % 256), .int .u8 ((n : Int) / 281474976710656 % 256), .int .u8 ((n : Int) / 1099511627776 % 256), .int .u8 ((n : Int) / 4294967296 % 256), .int .u8 ((n : Int) / 16777216 % 256), .int .u8 ((n : Int) / 65536 % 256), .int .u8 ((n : Int) / 256 % 256), .int .u8 ((n : Int) % 256)] 8 (Nat.le_refl _) (by decide) rfl
 have e : bcells (Pl.big n) = (#[.int .u8 ((n : Int) / 72057594037927936 % 256), .int .u8 ((n : Int) / 281474976710656 % 256), .int .u8 ((n : Int) / 1099511627776 % 256), .int .u8 ((n : Int) / 4294967296 % 256), .int .u8 ((n : Int) / 16777216 % 256), .int .u8 ((n : Int) / 65536 % 256), .int .u8 ((n : Int) / 256 % 256), .int .u8 ((n : Int) % 256)] : Array Value).toList := by
  simp only [bcells, Pl.big, List.map_cons, List.map_nil, Pl.byte_mod]
  simp
 rw [e]
 exact h
theorem big_own' (n : Nat) (w : World) : Own w.heap.size 5 1 (.slice (some ⟨w.heap.size, 0, none⟩) 8 8) 8 (bcells (Pl.big n)) w
  (w.alloc (.cells #[.int .u8 ((n : Int) / 256 / 256 / 256 / 256 / 256 / 256 / 256 % 256), .int .u8 ((n : Int) / 256 / 256 / 256 / 256 / 256 / 256 % 256), .int .u8 ((n : Int) / 256 / 256 / 256 / 256 / 256 % 256), .int .u8 ((n : Int) / 256 / 256 / 256 / 256 % 256), .int .u8 ((n : Int) / 256 / 256 / 256 % 256), .int .u8 ((n : Int) / 256 / 256 % 256), .int .u8 ((n : Int) / 256 % 256), .int .u8 ((n : Int) % 256)] 5)) := by
 rw [show (n : Int) / 256 / 256 / 256 / 256 / 256 / 256 / 256 = (n : Int) / 72057594037927936 from by omega, show (n : Int) / 256 / 256 / 256 / 256 / 256 / 256 = (n : Int) / 281474976710656 from by omega, show (n : Int) / 256 / 256 / 256 / 256 / 256 = (n : Int) / 1099511627776 from by omega, show (n : Int) / 256 / 256 / 256 / 256 = (n : Int) / 4294967296 from by omega, show (n : Int) / 256 / 256 / 256 = (n : Int) / 16777216 from by omega, show (n : Int) / 256 / 256 = (n : Int) / 65536 from by omega]
 exact big_own n w
set_option maxHeartbeats 1000000 in
theorem refBig_any (n : Nat) (w : World) (hn : U64 n) :
  Calls Tryz.prog 90 #[.int .u64 n] w fun e w' => e = .returned (.string ⟨(Pl.big n).toArray⟩) ∧ Below w.heap.size w w' := by
 have hmk : ∀ w, (Instr.makeSlice 52 (.int .i64 8) (.int .i64 8)).run Tryz.prog w = .ok (.slice (some ⟨w.heap.size, 0, none⟩) 8 8) (w.alloc (.cells #[.int .u8 0, .int .u8 0, .int .u8 0, .int .u8 0, .int .u8 0, .int .u8 0, .int .u8 0, .int .u8 0] 5)) := fun _ => by kernel_rfl
 have hk := hn.le
 go_enter Tryz.func90, Tryz.ntmps90
 go_wp2
 refine wp_loop_rounds 9 ?_
 rw [rounds_succ]
 go_wp2
 rw [rounds_succ]
 go_wp2
 rw [rounds_succ]
 go_wp2
 rw [rounds_succ]
 go_wp2
 rw [rounds_succ]
 go_wp2
 rw [rounds_succ]
 go_wp2
 rw [rounds_succ]
 go_wp2
 rw [rounds_succ]
 go_wp2
 rw [rounds_succ]
 have hown := big_own' n w
 go_wp2_with (refine wpList_str (by rfl) _ 52 9 5 (by rfl) Tryz.underlying52 Tryz.underlying5 Tryz.underlying9 (by rfl) (by exact hown) ?_)
 go_ret
 exact ⟨rfl, hown.below⟩
end
section
open Go.RowKit
theorem byte_const' {x : UInt8} {c : Int} (n : UInt8) (hn : (n.toNat : Int) = c) (h : (((x.toNat : Nat) : Int) == c) = true) : x = n := by rw [← hn] at h; exact byte_eq' h
theorem byte_const_ne' {x : UInt8} {c : Int} (n : UInt8) (hn : (n.toNat : Int) = c) (h : (((x.toNat : Nat) : Int) == c) = false) : x ≠ n := by rw [← hn] at h; exact byte_ne' h
end
end Go.Proofs.YtogblcdefbnbeaaGreat
