
/- Walks: frames as bytes. Condition: loads of at most 2 to the 18 bytes, where bytes are made. -/
import Derived.Test.YtogblcdefbnbeaaGreatQGd
import Derived.Deep.RegionWith
import Derived.Deep.DeepCutAuto
set_option maxRecDepth 100000
namespace Go.Proofs.YtogblcdefbnbeaaGreat
section
open Go.RowKit
theorem little_own (n : Nat) (w : World) : Own w.heap.size 5 1 (.slice (some ⟨w.heap.size, 0, none⟩) 4 4) 4 (bcells (Pl.little n)) w
  (w.alloc (.cells #[.int .u8 ((n : Int) % 256), .int .u8 ((n : Int) / 256 % 256), .int .u8 ((n : Int) / 65536 % 256), .int .u8 ((n : Int) / 16777216 % 256)] 5)) := by
 refine ⟨?_, (Below.refl _ _).alloc (Nat.le_refl _) _, by simp⟩
 have h := World.ownsRow_lit (base := w.heap.size) (e := 5) (size := 1) w #[.int .u8 ((n : Int) % 256), .int .u8 ((n : Int) / 256 % 256), .int .u8 ((n : Int) / 65536 % 256), .int .u8 ((n : Int) / 16777216 % 256)] 4 (Nat.le_refl _) (by decide) rfl
 have e : bcells (Pl.little n) = (#[.int .u8 ((n : Int) % 256), .int .u8 ((n : Int) / 256 % 256), .int .u8 ((n : Int) / 65536 % 256), .int .u8 ((n : Int) / 16777216 % 256)] : Array Value).toList := by
  simp only [bcells, Pl.little, List.map_cons, List.map_nil, Pl.byte_mod]
  simp
 rw [e]
 exact h
theorem little_own' (n : Nat) (w : World) : Own w.heap.size 5 1 (.slice (some ⟨w.heap.size, 0, none⟩) 4 4) 4 (bcells (Pl.little n)) w
  (w.alloc (.cells #[.int .u8 ((n : Int) % 256), .int .u8 ((n : Int) / 256 % 256), .int .u8 ((n : Int) / 256 / 256 % 256), .int .u8 ((n : Int) / 256 / 256 / 256 % 256)] 5)) := by
 rw [show (n : Int) / 256 / 256 / 256 = (n : Int) / 16777216 from by omega, show (n : Int) / 256 / 256 = (n : Int) / 65536 from by omega]
 exact little_own n w
set_option maxHeartbeats 400000 in
theorem little_any (n : Nat) (w : World) (hn : n ≤ 4294967295) :
  Calls Tryz.prog 106 #[.int .u32 n] w fun e w' => e = .returned (.string ⟨(Pl.little n).toArray⟩) ∧ Below w.heap.size w w' := by
 go_enter Tryz.func106, Tryz.ntmps106
 have hown := little_own n w
 rw [show (n : Int) / 16777216 % 256 = (n : Int) / 16777216 from by omega] at hown
 go_wp2_with (refine wpList_str (by rfl) _ 52 9 5 (by rfl) Tryz.underlying52 Tryz.underlying5 Tryz.underlying9 (by rfl) (by exact hown) ?_)
 go_ret
 exact ⟨rfl, hown.below⟩
set_option maxHeartbeats 1000000 in
theorem refLittle_any (n : Nat) (w : World) (hn : n ≤ 4294967295) :
  Calls Tryz.prog 120 #[.int .u32 n] w fun e w' => e = .returned (.string ⟨(Pl.little n).toArray⟩) ∧ Below w.heap.size w w' := by
 have hmk : ∀ w, (Instr.makeSlice 52 (.int .i64 4) (.int .i64 4)).run Tryz.prog w = .ok (.slice (some ⟨w.heap.size, 0, none⟩) 4 4) (w.alloc (.cells #[.int .u8 0, .int .u8 0, .int .u8 0, .int .u8 0] 5)) := fun _ => by kernel_rfl
 go_enter Tryz.func120, Tryz.ntmps120
 go_wp2
 refine wp_loop_rounds 5 ?_
 rw [rounds_succ]
 go_wp2
 rw [rounds_succ]
 go_wp2
 rw [rounds_succ]
 go_wp2
 rw [rounds_succ]
 go_wp2
 rw [rounds_succ]
 have hown := little_own' n w
 go_wp2_with (refine wpList_str (by rfl) _ 52 9 5 (by rfl) Tryz.underlying52 Tryz.underlying5 Tryz.underlying9 (by rfl) (by exact hown) ?_)
 go_ret
 exact ⟨rfl, hown.below⟩
theorem kind_ne {k : UInt8} (h : k ≠ 0) : (((k.toNat : Nat) : Int) == 0) = false := by
 have : k.toNat ≠ 0 := fun e => h (UInt8.toNat_inj.mp (by simpa using e))
 simp; omega
theorem kind_pos {k : UInt8} (h : k ≠ 0) : ¬ k.toNat = 0 := fun e => h (UInt8.toNat_inj.mp (by simpa using e))
def Fr (B : Nat) (k : Int) (l : ByteArray) (W : World) : Prop :=
 W.cell? ⟨B, 0, none⟩ = some (.int .u8 k) ∧ W.cell? ⟨B, 1, none⟩ = some (.string l) ∧ B < W.heap.size
theorem Fr.kept {B : Nat} {k : Int} {l : ByteArray} {W W' : World} (h : Fr B k l W) (hb : Below W.heap.size W W') : Fr B k l W' := by
 obtain ⟨h0, h1, hB⟩ := h
 have hs := hb.size
 exact ⟨(hb.cell (p := ⟨B, 0, none⟩) hB).trans h0, (hb.cell (p := ⟨B, 1, none⟩) hB).trans h1, by omega⟩
theorem Fr.new (w : World) (k : Int) (l : ByteArray) (t : TypeId) : Fr w.heap.size k l (w.alloc (.cells #[.int .u8 k, .string l] t)) :=
 ⟨World.cell?_alloc_mark w _ t (0, 0) 0, World.cell?_alloc_mark w _ t (0, 0) 1, by simp⟩
theorem kind_cell {w w1 : World} {F : Obj} {x : Int} {t : TypeId} (hb : Below ((w.alloc F).alloc (.cells #[.int .u8 x] t)).drew.heap.size ((w.alloc F).alloc (.cells #[.int .u8 x] t)).drew w1) : w1.cell? ⟨w.heap.size + 1, 0, none⟩ = some (.int .u8 x) := by
 rw [hb.cell (p := ⟨w.heap.size + 1, 0, none⟩) (by simp)]
 have h := World.cell?_alloc_mark (w.alloc F) #[.int .u8 x] t (0, 0) 0
 rw [World.size_alloc] at h
 exact h
theorem frame_str (k : UInt8) (l : List UInt8) : (ByteArray.mk (Pl.little (Pl.sum (k :: Pl.putText l))).toArray ++ ByteArray.mk (k :: Pl.putText l).toArray) = ByteArray.mk (Pl.frame k l).toArray := by
 apply ByteArray.ext
 simp [Pl.frame, ByteArray.data_append]
theorem ret_cell {a b : ByteArray} (h : a = b) : Value.string a = .string b := by rw [h]
theorem str_at (w : World) (b : Nat) (c : UInt8) (h : w.cell? ⟨b, 0, none⟩ = some (.int .u8 (c.toNat : Int))) :
  (convert 52 9 (.slice (some ⟨b, 0, none⟩) 1 1)).run Tryz.prog w = .ok (.string ⟨#[c]⟩) w :=
 run_convert_bytes_back (P := Tryz.prog) w 52 9 5 ⟨b, 0, none⟩ 1 [c] Tryz.underlying52 Tryz.underlying5 Tryz.underlying9 (fun j hj => by
  have : j = 0 := by simpa using hj
  subst this
  exact h)
set_option maxHeartbeats 400000 in
theorem put_bad (k : UInt8) (l : ByteArray) (w : World) (h : k = 0 ∨ 262144 < l.size) :
  Calls Tryz.prog 115 #[.agg #[.int .u8 (k.toNat : Int), .string l]] w fun e w' =>
   e = .returned (.tuple #[.string ByteArray.empty, .int .i64 1]) ∧ Below w.heap.size w w' := by
 by_cases h0 : k = 0
 ·subst h0
  clear h
  go_enter Tryz.func115, Tryz.ntmps115
  go_wp2_with fail
  go_ret2
  exact ⟨rfl, (Below.refl _ w).alloc (Nat.le_refl _) _⟩
 ·have hk := kind_ne h0
  have hp := kind_pos h0
  have hb : 262144 < l.size := by rcases h with h | h; exact absurd h h0; exact h
  have hb2 : (262144 : Int) < (l.size : Int) := by omega
  clear h
  go_enter Tryz.func115, Tryz.ntmps115
  go_wp2_with fail
  go_ret2
  exact ⟨rfl, (Below.refl _ w).alloc (Nat.le_refl _) _⟩
set_option maxHeartbeats 2000000 in
theorem put_ok (k : UInt8) (l : ByteArray) (w : World) (h0 : k ≠ 0) (hs : l.size ≤ 262144) :
  Calls Tryz.prog 115 #[.agg #[.int .u8 (k.toNat : Int), .string l]] w fun e w' =>
   e = .returned (.tuple #[.string ⟨(Pl.frame k l.data.toList).toArray⟩, .int .i64 0]) ∧ Below w.heap.size w w' := by
 have hk := kind_ne h0
 have hp := kind_pos h0
 have hl : (Pl.putText l.data.toList).length ≤ 262154 := by
  have := Pl.putUint_length64 l.data.toList.length (by rw [Pl.size_data]; omega)
  rw [Pl.putText, List.length_append, Pl.size_data] at *; omega
 have P := Lib.hid (fun w => putText_any l w (by omega))
 go_enter Tryz.func115, Tryz.ntmps115
 go_wp2_with fail
 have kc := fun (w : World) (b : Nat) (h : w.cell? ⟨b, 0, none⟩ = some (.int .u8 (k.toNat : Int))) => str_at w b k h
 have fr0 := Fr.new w (k.toNat : Int) l 128
 have hb0 : Below w.heap.size w (w.alloc (.cells #[.int .u8 (k.toNat : Int), .string l] 128)) := (Below.refl _ w).alloc (Nat.le_refl _) _
 have hz : (ByteArray.mk (k :: Pl.putText l.data.toList).toArray).size ≤ 262155 := by
  show (k :: Pl.putText l.data.toList).toArray.size ≤ _
  simp; omega
 have hd : (ByteArray.mk (k :: Pl.putText l.data.toList).toArray).data.toList = k :: Pl.putText l.data.toList := rfl
 have hl4 : (Pl.little (Pl.sum (k :: Pl.putText l.data.toList))).length ≤ 4 := Nat.le_refl _
 have hl5 : (k :: Pl.putText l.data.toList).length ≤ 262155 := by simp; omega
 have P2 := Lib.hid (fun w => sum_any (ByteArray.mk (k :: Pl.putText l.data.toList).toArray) w (by omega))
 have P3 := Lib.hid (fun w => little_any (Pl.sum (k :: Pl.putText l.data.toList)) w (Pl.sum_le _))
 go_cut [4] (fun v wx => v = .string ⟨(k :: Pl.putText l.data.toList).toArray⟩ ∧ Below w.heap.size w wx)
 case first =>
  go_region_with (go_at_call 113; refine (P.out _).mono ?_; rintro e w1 ⟨rfl, b1⟩; (try (have kx := kind_cell b1)); have fr1 : Fr w.heap.size (k.toNat : Int) l w1 := (by first | exact fr0.kept b1 | exact (fr0.kept ((Below.refl _ _).drew)).kept b1 | exact (fr0.kept (((Below.refl _ _).alloc (Nat.le_refl _) _).drew)).kept b1); have ⟨f0, f1, fB⟩ := fr1; have bb : Below w.heap.size w w1 := (by first | exact below_seq hb0 b1 | exact below_seq hb0.drew b1 | exact below_seq ((hb0.alloc (by simp) _).drew) b1))
  all_goals
   go_wp2_with fail
   go_meet
   refine ⟨ret_cell (by apply ByteArray.ext; simp [ByteArray.data_append]), ?_⟩
   first
    | assumption
    | exact bb.alloc (Nat.le_of_lt fB) _
    | exact (bb.alloc (Nat.le_of_lt fB) _).drew
 case rest =>
  obtain ⟨rfl, hb⟩ := hcut
  go_wp2_with fail
  refine (P2.out _).mono ?_
  rintro e w2 ⟨rfl, q2⟩
  go_wp2_with fail
  refine (P3.out _).mono ?_
  rintro e w3 ⟨rfl, b3⟩
  go_wp2_with fail
  go_ret2
  exact ⟨ret_val (congrArg (fun s => Value.tuple #[Value.string s, .int .i64 0]) (frame_str _ _)), below_seq (below_seq hb (q2.below _)) b3⟩
end
section
open Go.RowKit
set_option maxHeartbeats 400000 in
theorem refPut_bad (k : UInt8) (l : ByteArray) (w : World) (h : k = 0 ∨ 262144 < l.size) :
  Calls Tryz.prog 103 #[.agg #[.int .u8 (k.toNat : Int), .string l]] w fun e w' =>
   e = .returned (.tuple #[.string ByteArray.empty, .int .i64 1]) ∧ Below w.heap.size w w' := by
 by_cases h0 : k = 0
 ·subst h0
  clear h
  go_enter Tryz.func103, Tryz.ntmps103
  go_wp2_with fail
  go_ret2
  exact ⟨rfl, (Below.refl _ w).alloc (Nat.le_refl _) _⟩
 ·have hk := kind_ne h0
  have hp := kind_pos h0
  have hb : 262144 < l.size := by rcases h with h | h; exact absurd h h0; exact h
  have hb2 : (262144 : Int) < (l.size : Int) := by omega
  clear h
  go_enter Tryz.func103, Tryz.ntmps103
  go_wp2_with fail
  go_ret2
  exact ⟨rfl, (Below.refl _ w).alloc (Nat.le_refl _) _⟩
set_option maxHeartbeats 2000000 in
theorem refPut_ok (k : UInt8) (l : ByteArray) (w : World) (h0 : k ≠ 0) (hs : l.size ≤ 262144) :
  Calls Tryz.prog 103 #[.agg #[.int .u8 (k.toNat : Int), .string l]] w fun e w' =>
   e = .returned (.tuple #[.string ⟨(Pl.frame k l.data.toList).toArray⟩, .int .i64 0]) ∧ Below w.heap.size w w' := by
 have hk := kind_ne h0
 have hp := kind_pos h0
 have hl : (Pl.putText l.data.toList).length ≤ 262154 := by
  have := Pl.putUint_length64 l.data.toList.length (by rw [Pl.size_data]; omega)
  rw [Pl.putText, List.length_append, Pl.size_data] at *; omega
 have P := Lib.hid (fun w => refPutText_any l w (by omega))
 go_enter Tryz.func103, Tryz.ntmps103
 go_wp2_with fail
 have kc := fun (w : World) (b : Nat) (h : w.cell? ⟨b, 0, none⟩ = some (.int .u8 (k.toNat : Int))) => str_at w b k h
 have fr0 := Fr.new w (k.toNat : Int) l 128
 have hb0 : Below w.heap.size w (w.alloc (.cells #[.int .u8 (k.toNat : Int), .string l] 128)) := (Below.refl _ w).alloc (Nat.le_refl _) _
 have hz : (ByteArray.mk (k :: Pl.putText l.data.toList).toArray).size ≤ 262155 := by
  show (k :: Pl.putText l.data.toList).toArray.size ≤ _
  simp; omega
 have hd : (ByteArray.mk (k :: Pl.putText l.data.toList).toArray).data.toList = k :: Pl.putText l.data.toList := rfl
 have hl4 : (Pl.little (Pl.sum (k :: Pl.putText l.data.toList))).length ≤ 4 := Nat.le_refl _
 have hl5 : (k :: Pl.putText l.data.toList).length ≤ 262155 := by simp; omega
 have P2 := Lib.hid (fun w => refSum_any (ByteArray.mk (k :: Pl.putText l.data.toList).toArray) w (by omega))
 have P3 := Lib.hid (fun w => refLittle_any (Pl.sum (k :: Pl.putText l.data.toList)) w (Pl.sum_le _))
 go_cut [4] (fun v wx => v = .string ⟨(k :: Pl.putText l.data.toList).toArray⟩ ∧ Below w.heap.size w wx)
 case first =>
  go_region_with (go_at_call 101; refine (P.out _).mono ?_; rintro e w1 ⟨rfl, b1⟩; (try (have kx := kind_cell b1)); have fr1 : Fr w.heap.size (k.toNat : Int) l w1 := (by first | exact fr0.kept b1 | exact (fr0.kept ((Below.refl _ _).drew)).kept b1 | exact (fr0.kept (((Below.refl _ _).alloc (Nat.le_refl _) _).drew)).kept b1); have ⟨f0, f1, fB⟩ := fr1; have bb : Below w.heap.size w w1 := (by first | exact below_seq hb0 b1 | exact below_seq hb0.drew b1 | exact below_seq ((hb0.alloc (by simp) _).drew) b1))
  all_goals
   go_wp2_with fail
   go_meet
   refine ⟨ret_cell (by apply ByteArray.ext; simp [ByteArray.data_append]), ?_⟩
   first
    | assumption
    | exact bb.alloc (Nat.le_of_lt fB) _
    | exact (bb.alloc (Nat.le_of_lt fB) _).drew
 case rest =>
  obtain ⟨rfl, hb⟩ := hcut
  go_wp2_with fail
  refine (P2.out _).mono ?_
  rintro e w2 ⟨rfl, q2⟩
  go_wp2_with fail
  refine (P3.out _).mono ?_
  rintro e w3 ⟨rfl, b3⟩
  go_wp2_with fail
  go_ret2
  exact ⟨ret_val (congrArg (fun s => Value.tuple #[Value.string s, .int .i64 0]) (frame_str _ _)), below_seq (below_seq hb (q2.below _)) b3⟩
end
end Go.Proofs.YtogblcdefbnbeaaGreat
