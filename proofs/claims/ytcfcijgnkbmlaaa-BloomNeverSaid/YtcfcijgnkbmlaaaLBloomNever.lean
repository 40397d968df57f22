/- Walk: the law BloomNever returns true. Condition: keys that the form's reach lets. -/
import Derived.Test.YtcfcijgnkbmlaaaLBloomBuilds
import Derived.Test.YtcfcijgnkbmlaaaWHas
namespace Go.Proofs.Ytcfcijgnkbmlaaa
open Go.RowKit

set_option maxRecDepth 100000 in
set_option maxHeartbeats 2000000 in
theorem bloomNever_any (each : Int) (v : Value) (keys : List ByteArray) (w : World) (h : TextsAt w v keys) (h2 : each ≤ 9223372036854775807) (hl1 : keys.length ≤ 8796093022208) (hsz : ∀ s ∈ keys, s.size ≤ 9223372036854775807) :
    Calls Try.prog 8 #[.int .i64 each, v] w fun e w' => e = .returned (.bool true) ∧ Below w.heap.size w w' := by
  obtain ⟨ao, cap, rfl, hh⟩ := h
  have hT : TextsAt w (.slice ao keys.length cap) keys := ⟨ao, cap, rfl, hh⟩
  by_cases h0 : keys.length = 0
  · go_enter Try.func8, Try.ntmps8
    go_wp2
    go_ret
    exact ⟨rfl, Below.refl _ _⟩
  · have P1 := Lib.hid (fun w h => build_any each (.slice ao keys.length cap) keys w h h2 hl1 hsz)
    have hb := Pl.build_bound each (texts keys) 8796093022208 (by simp [texts]; omega)
    have hv := Pl.build_valid each (texts keys)
    have hne : texts keys ≠ [] := by
      intro e
      have := congrArg List.length e
      simp [texts] at this
      exact h0 (by rw [this]; rfl)
    have hnil := Pl.build_nil_iff each (texts keys) hne
    have hld := fun h => Pl.build_load each (texts keys) h hne
    have hle := Pl.load_le (Pl.build each (texts keys))
    have hhas : ∀ i (hi : i < keys.length), Pl.has (Pl.build each (texts keys)) (keys[i]).data.toList = true := fun i hi => Pl.build_has each (texts keys) _ (by
      simp only [texts, List.mem_map]
      exact ⟨_, List.getElem_mem hi, rfl⟩)
    generalize Pl.build each (texts keys) = B at P1 hb hv hnil hld hle hhas
    obtain ⟨s, hs⟩ : ∃ s : ByteArray, s = ⟨B.toArray⟩ := ⟨_, rfl⟩
    have hsB : B = s.data.toList := by rw [hs]
    rw [← hs] at P1
    clear hs
    subst hsB
    rw [Pl.size_data] at hb
    have P2 := Lib.hid (fun w => valid_any s w (by omega))
    have P3 := Lib.hid (fun w => load_any s w (by omega))
    have P4 := Lib.hid (fun key w hk => callsIn_wide.1 (has_in 6 s key w (by omega) hk))
    have hN : s.size = 0 ↔ each < 1 := by
      rw [← hnil]
      exact ⟨nil_of_size, fun e => by rw [← Pl.size_data, e]; rfl⟩
    replace hld := fun h => hld (ne_of_size h)
    clear hnil
    rw [hv] at P2
    generalize Pl.load s.data.toList = l at *
    obtain ⟨a, b⟩ := l
    have T2 : Hid (∀ W, Below w.heap.size w W → TextsAt W (.slice ao keys.length cap) keys) := fun W hb => hT.kept hb
    replace hhas := Lib.hid hhas
    replace hld := Lib.hid hld
    replace hle := Lib.hid hle
    replace hN := Lib.hid hN
    clear hv hne
    have hd0 : ((keys.length : Int) == 0) = false := by rw [beq_eq_false_iff_ne]; omega
    go_enter Try.func8, Try.ntmps8
    go_wp2_with fail
    refine (P1.out _ (T2.out _ (Below.refl _ _))).mono ?_
    rintro e w1 ⟨rfl, b1⟩
    go_wp2_with fail
    refine (P2.out _).mono ?_
    rintro e w2 ⟨rfl, rfl⟩
    go_wp2_with fail
    refine (P3.out _).mono ?_
    rintro e w3 ⟨rfl, rfl⟩
    go_wp2
    go_loopw [9, 10] (fun v _ W => ∃ j : Nat, j ≤ keys.length ∧ v = .int .i64 j ∧ Hid (Below w.heap.size w W)) (fun v _ _ => keys.length - (intOf v).toNat)
    case atStart => exact ⟨0, by omega, rfl, b1⟩
    case round =>
      obtain ⟨j, hj, rfl, b3⟩ := hrel
      by_cases hjk : j < keys.length
      · obtain ⟨c1, cap1, e1, h1⟩ := T2.out _ b3.out
        obtain ⟨bA, oA, rfl, _, hcA⟩ := h1 (by omega)
        simp only [Value.slice.injEq] at e1
        obtain ⟨rfl, -, rfl⟩ := e1
        have f1 := hcA j hjk
        have hh1 : Hid _ := hhas.out j hjk
        clear hcA h1
        go_wp2_with fail
        refine (P4.out _ _ (hsz _ (List.getElem_mem hjk))).mono ?_
        rw [hh1.out]
        rintro e w4 ⟨rfl, b4⟩
        go_wp2
        go_roundw
        case rel => exact ⟨j + 1, by omega, by go_num, b3.out.trans (b4.mono b3.out.size)⟩
        case measure => simp [intOf]; omega
      · have hd : decide ((j : Int) < (keys.length : Int)) = false := by simp; omega
        have hd' : decide (j < keys.length) = false := by simp; omega
        have hle1 := hle.out
        by_cases hs0 : s.size = 0
        · have he := isEmpty_of' hs0
          have he1 : decide (each < 1) = true := by simpa using hN.out.1 hs0
          go_wp2
          go_ret
          exact ⟨rfl, b3.out⟩
        · have he := isEmpty_of hs0
          have he1 : decide (each < 1) = false := by
            have := mt hN.out.2 hs0
            simpa using this
          have hl1 := hld.out hs0
          go_wp2
          go_ret
          exact ⟨ret_bool (by simp; omega), b3.out⟩
end Go.Proofs.Ytcfcijgnkbmlaaa
