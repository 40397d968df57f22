/- Walks: the document's places of a key. Condition: lengths that are ints, some bits. -/
import Derived.Test.YtcfcijgnkbmlaaaWHash
import Derived.Test.YtcfcijgnkbmlaaaOwn
namespace Go.Proofs.Ytcfcijgnkbmlaaa
open Go.RowKit

/-- the cells of numbers -/
def icells (l : List Nat) : List Value := l.map fun (i : Nat) => Value.int .i64 (i : Int)
theorem icells_snoc (l : List Nat) (x : Nat) : icells l ++ (#[Value.int .i64 (x : Int)] : Array Value).toList = icells (l ++ [x]) := by simp [icells]
theorem info_int : (Try.prog.info? 3).map (fun i => (i.zero, i.size, i.bytes)) = some (some (.int .i64 0), 1, 8) := by kernel_rfl

set_option maxRecDepth 100000 in
set_option maxHeartbeats 2000000 in
theorem refPlaces_any (key : ByteArray) (k m : Nat) (w : World) (hs : key.size ≤ 9223372036854775807) (hm0 : 0 < m) (hm1 : m ≤ 9223372036854775807) (hk : k ≤ 1000) :
    Calls Try.prog 42 #[.string key, .int .i64 (k : Int), .int .i64 (m : Int)] w fun e w' =>
      ∃ v, e = .returned v ∧ Own w.heap.size 3 1 v k (icells (Pl.keyPlaces key.data.toList k m)) w w' := by
  have hh := Pl.hash_lt key.data.toList
  have hdl := Pl.rot_lt hh
  have P1 := Lib.hid (fun w => refHash_any key w hs)
  have HP : Hid (Pl.keyPlaces key.data.toList k m = Pl.places (Pl.hash key.data.toList) (Pl.rot (Pl.hash key.data.toList)) m k) := by show _ = _; rfl
  have hr := Lib.hid (Pl.rot_eq _ hh)
  generalize Pl.hash key.data.toList = h at *
  go_enter Try.func42, Try.ntmps42
  go_wp2_with fail
  refine (P1.out _).mono ?_
  rintro e w1 ⟨rfl, rfl⟩
  go_wp2_with fail
  rw [hr.out]
  generalize Pl.rot h = d at *
  go_loopw [7, 9, 10] (fun x v i wr => ∃ j : Nat, j ≤ k ∧ i = .int .i64 j ∧ x = .int .u64 (Pl.stepH h d j : Nat) ∧ Own w.heap.size 3 1 v j (icells (Pl.places h d m j)) w wr)
    (fun _ _ i _ => k - (intOf i).toNat)
  case atStart => exact ⟨0, by omega, rfl, rfl, Own.nil (Below.refl _ _) (Nat.le_refl _)⟩
  case round =>
    obtain ⟨j, hj, rfl, rfl, hown⟩ := hrel
    have hst := Pl.stepH_lt (d := d) hh j
    have hsn := Lib.hid (Pl.places_snoc h d m j)
    have hse := Lib.hid (Pl.stepH_eq h d j)
    by_cases hjk : j < k
    · have hmod : Pl.stepH h d j % m < m := Nat.mod_lt _ hm0
      generalize Pl.stepH h d j = y at *
      go_wp2_with (at_builtin; go_must (refine wpList_app (by rfl) _ _ 62 (by rfl) w.heap.size 3 (.int .i64 0) 1 8 Try.underlying62 info_int rfl (by decide) _ j (icells (Pl.places h d m j)) w _ hown (by rfl) #[.int .i64 ((y : Int) % (m : Int))] 1 (by rfl) (by rfl) (by simp [Value.oneCell']) (by omega) (by omega) ?_; intro v' w1 hown1))
      go_roundw
      case rel => exact ⟨j + 1, by omega, by go_num, by rw [hse.out], by
        rw [hsn.out, ← icells_snoc]
        exact hown1⟩
      case measure => simp [intOf]; omega
    · obtain rfl : j = k := by omega
      go_wp2
      go_ret
      exact ⟨_, rfl, by rw [HP.out]; exact hown⟩
end Go.Proofs.Ytcfcijgnkbmlaaa
