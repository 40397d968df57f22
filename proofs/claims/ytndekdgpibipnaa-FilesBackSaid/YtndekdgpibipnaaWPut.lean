
/- Walks: codec.PutUint and the reference's. Condition: none. -/
import Derived.Test.YtndekdgpibipnaaOwn
import Derived.Test.YtndekdgpibipnaaPlainB
namespace Go.Proofs.Ytndekdgpibipnaa
open Go.RowKit

theorem info_u8 : (Try.prog.info? 5).map (fun i => (i.zero, i.size, i.bytes)) = some (some (.int .u8 0), 1, 1) := by kernel_rfl

theorem or128 (m : Nat) : bits .or .u8 ((m : Int) % 256) 128 = ((m : Int) % 128 + 128) := by
  have h : ∀ k : Nat, k < 256 → bits .or .u8 (k : Int) 128 = ((k % 128 + 128 : Nat) : Int) := by decide +kernel
  have e : (m : Int) % 256 = ((m % 256 : Nat) : Int) := by omega
  rw [e, h _ (by omega)]
  omega

set_option maxRecDepth 100000 in
set_option maxHeartbeats 400000 in
theorem putUint_any (N : Nat) (w : World) (HN : U64 N) :
    Calls Try.prog 56 #[.int .u64 N] w fun e w' => e = .returned (.string ⟨(Pl.putUint N).toArray⟩) ∧ Below w.heap.size w w' := by
  go_enter Try.func56, Try.ntmps56
  go_wp2
  go_loopw [0, 3] (fun x v wr => ∃ (m : Nat) (l : List UInt8), U64 m ∧ x = .int .u64 m ∧ Own w.heap.size 5 1 v l.length (bcells l) w wr ∧ Hid (Pl.putUint N = l ++ Pl.putUint m))
    (fun x _ _ => (intOf x).toNat)
  case atStart => exact ⟨N, [], HN, rfl, Own.nil (Below.refl _ _) (Nat.le_refl _), by show _ = _; simp⟩
  case round =>
    obtain ⟨m, l, hm, rfl, hown, H⟩ := hrel
    have hl : l.length ≤ 100 := by
      have h1 := Pl.putUint_length64 N (by have := HN.le; omega)
      have h2 := congrArg List.length H.out
      simp at h2
      omega
    have hor := or128 m
    go_wp2_with (first
      | (at_builtin; go_must (refine wpList_appb (by rfl) _ _ 93 (by rfl) w.heap.size 5 Try.underlying93 info_u8 _ l.length l _ w _ hown (by rfl) (by rfl) (by omega) (by omega) ?_; intro v' w1 hown1))
      | (refine wpList_str (by rfl) _ 93 9 5 (by rfl) Try.underlying93 Try.underlying5 Try.underlying9 (by rfl) (by assumption) ?_))
    · have h128 : (128 : Int) ≤ (m : Int) := by assumption
      go_roundw
      case rel => exact ⟨m / 128, _, hm.div _, by go_num, by assumption, by show _ = _; rw [H.out, Pl.putUint_step (by omega) l]; congr 4⟩
      case measure => simp [intOf]; omega
    · have h128 : (m : Int) < 128 := by assumption
      go_ret
      refine ⟨ret_str ?_, Own.below (by assumption)⟩
      rw [H.out, Pl.putUint_last (by omega)]

set_option maxRecDepth 100000 in
set_option maxHeartbeats 400000 in
theorem refPutUint_any (N : Nat) (w : World) (HN : U64 N) :
    Calls Try.prog 62 #[.int .u64 N] w fun e w' => e = .returned (.string ⟨(Pl.putUint N).toArray⟩) ∧ Below w.heap.size w w' := by
  go_enter Try.func62, Try.ntmps62
  go_wp2
  go_loopw [0, 3] (fun x v wr => ∃ (m : Nat) (l : List UInt8), U64 m ∧ x = .int .u64 m ∧ Own w.heap.size 5 1 v l.length (bcells l) w wr ∧ Hid (Pl.putUint N = l ++ Pl.putUint m))
    (fun x _ _ => (intOf x).toNat)
  case atStart => exact ⟨N, [], HN, rfl, Own.nil (Below.refl _ _) (Nat.le_refl _), by show _ = _; simp⟩
  case round =>
    obtain ⟨m, l, hm, rfl, hown, H⟩ := hrel
    have hl : l.length ≤ 100 := by
      have h1 := Pl.putUint_length64 N (by have := HN.le; omega)
      have h2 := congrArg List.length H.out
      simp at h2
      omega
    have hq : IntKind.u64.wrap ((m : Int) / 128) = (m : Int) / 128 := by have := hm.le; exact IntWalk.u64_in _ (by omega)
    go_wp2_with (first
      | (at_builtin; go_must (refine wpList_appb (by rfl) _ _ 93 (by rfl) w.heap.size 5 Try.underlying93 info_u8 _ l.length l _ w _ hown (by rfl) (by rfl) (by omega) (by omega) ?_; intro v' w1 hown1))
      | (refine wpList_str (by rfl) _ 93 9 5 (by rfl) Try.underlying93 Try.underlying5 Try.underlying9 (by rfl) (by assumption) ?_))
    · have h128 : (128 : Int) ≤ (m : Int) := by assumption
      go_roundw
      case rel => exact ⟨m / 128, _, hm.div _, by go_num, by assumption, by show _ = _; rw [H.out, Pl.putUint_step (by omega) l]; congr 4⟩
      case measure => simp [intOf]; omega
    · have h128 : (m : Int) < 128 := by assumption
      go_ret
      refine ⟨ret_str ?_, Own.below (by assumption)⟩
      rw [H.out, Pl.putUint_last (by omega)]
end Go.Proofs.Ytndekdgpibipnaa
