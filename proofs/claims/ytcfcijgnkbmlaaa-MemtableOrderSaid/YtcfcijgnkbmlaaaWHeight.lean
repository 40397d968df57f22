/- Walks: heights of towers. Condition: numbers of 64 bits. -/
import Derived.Test.YtcfcijgnkbmlaaaWMix
import Derived.Test.YtcfcijgnkbmlaaaPlainHt
namespace Go.Proofs.Ytcfcijgnkbmlaaa
open Go.RowKit

theorem grow_end {M k x : Nat} (h : Pl.grow 7 M = k + Pl.grow (7 - k) x) (h2 : k = 7 ∨ ¬ x % 4 = 0) : Pl.grow 7 M = k := by
  rw [h]
  rcases h2 with rfl | h2
  · rfl
  · rw [Pl.grow_no h2]; omega
theorem grow_go {M k x : Nat} (h : Pl.grow 7 M = k + Pl.grow (7 - k) x) (hk : k < 7) (h2 : x % 4 = 0) : Pl.grow 7 M = (k + 1) + Pl.grow (7 - (k + 1)) (x / 4) := by
  rw [h, show 7 - k = (7 - (k + 1)) + 1 from by omega, Pl.grow_yes h2]; omega
theorem height_eq {seed seq k : Nat} (h : Pl.grow 7 (Pl.mix (seed ^^^ Pl.mix seq)) = k) : (k : Int) + 1 = ((Pl.height seed seq : Nat) : Int) := by
  unfold Pl.height; omega

set_option maxRecDepth 100000 in
set_option maxHeartbeats 1000000 in
theorem height_any (seed seq : Nat) (w : World) (h1 : U64 seed) :
    Calls Try.prog 13 #[.int .u64 (seed : Int), .int .u64 (seq : Int)] w fun e w' => e = .returned (.int .i64 (Pl.height seed seq : Nat)) ∧ w = w' := by
  go_enter Try.func13, Try.ntmps13
  go_wp2_with fail
  refine (mix_any seq _).mono ?_
  rintro e w1 ⟨rfl, rfl⟩
  go_wp2_with fail
  have hm := Pl.mix_lt seq
  have hs : seed < 18446744073709551616 := by have := h1.le; omega
  rw [Pl.xor_u64 _ _ hs hm]
  refine (mix_any _ _).mono ?_
  rintro e w1 ⟨rfl, rfl⟩
  go_wp2_with fail
  clear hm hs
  go_loop [5, 6] (fun x h => ∃ k m : Nat, k ≤ 7 ∧ U64 m ∧ x = .int .u64 m ∧ h = .int .i64 ((k : Int) + 1) ∧ Hid (Pl.grow 7 (Pl.mix (seed ^^^ Pl.mix seq)) = k + Pl.grow (7 - k) m)) (fun _ h => 8 - (intOf h).toNat)
  case atStart => exact ⟨0, _, by omega, .mk' (by have := Pl.mix_lt (seed ^^^ Pl.mix seq); omega), rfl, rfl, by show _ = _; simp⟩
  case round =>
    obtain ⟨k, m, hk, hm, rfl, rfl, H⟩ := hrel
    by_cases hk7 : k < 7
    · have ha := Pl.and3 m (by have := hm.le; omega)
      by_cases hx : m % 4 = 0
      · have hc : (bits .and .u64 (m : Int) 3 == 0) = true := by rw [ha, hx]; rfl
        clear ha
        go_wp2
        go_round
        case rel => exact ⟨k + 1, m / 4, by omega, hm.div _, by go_num, by go_num, grow_go H.out hk7 hx⟩
        case measure => simp [intOf]; omega
      · have hc : (bits .and .u64 (m : Int) 3 == 0) = false := by rw [ha]; simp; omega
        clear ha
        go_wp2
        go_ret
        exact ⟨ret_int (height_eq (grow_end H.out (.inr hx))), rfl⟩
    · have hd : decide ((k : Int) + 1 < 8) = false := by simp; omega
      obtain rfl : k = 7 := by omega
      go_wp2
      go_ret
      exact ⟨ret_int (height_eq (grow_end H.out (.inl rfl))), rfl⟩

set_option maxRecDepth 100000 in
set_option maxHeartbeats 1000000 in
theorem refHeight_any (seed seq : Nat) (w : World) (h1 : U64 seed) :
    Calls Try.prog 16 #[.int .u64 (seed : Int), .int .u64 (seq : Int)] w fun e w' => e = .returned (.int .i64 (Pl.height seed seq : Nat)) ∧ w = w' := by
  go_enter Try.func16, Try.ntmps16
  go_wp2_with fail
  refine (refMix_any seq _).mono ?_
  rintro e w1 ⟨rfl, rfl⟩
  go_wp2_with fail
  have hm := Pl.mix_lt seq
  have hs : seed < 18446744073709551616 := by have := h1.le; omega
  rw [Pl.xor_u64 _ _ hs hm]
  refine (refMix_any _ _).mono ?_
  rintro e w1 ⟨rfl, rfl⟩
  go_wp2_with fail
  clear hm hs
  go_loop [5, 6] (fun x h => ∃ k m : Nat, k ≤ 7 ∧ U64 m ∧ x = .int .u64 m ∧ h = .int .i64 ((k : Int) + 1) ∧ Hid (Pl.grow 7 (Pl.mix (seed ^^^ Pl.mix seq)) = k + Pl.grow (7 - k) m)) (fun _ h => 8 - (intOf h).toNat)
  case atStart => exact ⟨0, _, by omega, .mk' (by have := Pl.mix_lt (seed ^^^ Pl.mix seq); omega), rfl, rfl, by show _ = _; simp⟩
  case round =>
    obtain ⟨k, m, hk, hm, rfl, rfl, H⟩ := hrel
    have hq : IntKind.u64.wrap ((m : Int) / 4) = (m : Int) / 4 := by have := hm.le; exact IntWalk.u64_in _ (by omega)
    by_cases hk7 : k < 7
    · by_cases hx : m % 4 = 0
      · have hc : ((m : Int) % 4 == 0) = true := by simp; omega
        go_wp2
        go_round
        case rel => exact ⟨k + 1, m / 4, by omega, hm.div _, by go_num, by go_num, grow_go H.out hk7 hx⟩
        case measure => simp [intOf]; omega
      · have hc : ((m : Int) % 4 == 0) = false := by simp; omega
        go_wp2
        go_ret
        exact ⟨ret_int (height_eq (grow_end H.out (.inr hx))), rfl⟩
    · have hd : decide ((k : Int) + 1 < 8) = false := by simp; omega
      obtain rfl : k = 7 := by omega
      go_wp2
      go_ret
      exact ⟨ret_int (height_eq (grow_end H.out (.inl rfl))), rfl⟩
end Go.Proofs.Ytcfcijgnkbmlaaa
