/- Walk: the law BloomUnion returns true. Condition: keys that the form's reach lets. -/
import Derived.Test.YtcfcijgnkbmlaaaLBloomBuilds
import Derived.Test.YtcfcijgnkbmlaaaPlainBl2
import Derived.BigQuiet
namespace Go.Proofs.Ytcfcijgnkbmlaaa
open Go.RowKit

theorem TextsAt.take {W : World} {ao : Option Addr} {cap : Nat} {l : List ByteArray} (h : TextsAt W (.slice ao l.length cap) l) (n : Nat) (hn : n ≤ l.length) (c : Nat) : TextsAt W (.slice ao n c) (l.take n) := by
  obtain ⟨ao', cap', he, h⟩ := h
  simp only [Value.slice.injEq] at he
  obtain ⟨rfl, -, rfl⟩ := he
  have hl : (l.take n).length = n := by rw [List.length_take]; omega
  refine ⟨ao, c, by rw [hl], fun h0 => ?_⟩
  rw [hl] at h0
  obtain ⟨b, off, rfl, hB, hc⟩ := h (by omega)
  refine ⟨b, off, rfl, hB, fun i hi => ?_⟩
  rw [hl] at hi
  rw [hc i (by omega), List.getElem_take]
theorem texts_take (l : List ByteArray) (n : Nat) : texts (l.take n) = (texts l).take n := by simp [texts, List.map_take]

set_option maxRecDepth 100000 in
set_option maxHeartbeats 2000000 in
theorem bloomUnion_any (each n : Int) (ao : Option Addr) (cap : Nat) (keys : List ByteArray) (w : World) (h : TextsAt w (.slice ao keys.length cap) keys) (hcap : keys.length ≤ cap) (h2 : each ≤ 9223372036854775807) (hl1 : keys.length ≤ 8796093022208) (hsz : ∀ s ∈ keys, s.size ≤ 9223372036854775807) :
    Calls Try.prog 5 #[.int .i64 each, .slice ao keys.length cap, .int .i64 n] w fun e w' => e = .returned (.bool true) ∧ Below w.heap.size w w' := by
  by_cases hn : n < 0 ∨ (keys.length : Int) < n
  · go_enter Try.func5, Try.ntmps5
    rcases hn with hn | hn
    · go_wp2
      go_ret
      exact ⟨rfl, Below.refl _ _⟩
    · have hd : decide (n < 0) = false := by simp; omega
      go_wp2
      go_ret
      exact ⟨rfl, Below.refl _ _⟩
  · obtain ⟨m, rfl⟩ := Int.eq_ofNat_of_zero_le (show 0 ≤ n by omega)
    have hm : m ≤ keys.length := by omega
    have P1 := Lib.hid (fun w h => build_any each (.slice ao m cap) (keys.take m) w h h2 (by rw [List.length_take]; omega) (fun s hs => hsz s (List.mem_of_mem_take hs)))
    have P2 := Lib.hid (fun w h => build_any each (.slice ao keys.length cap) keys w h h2 hl1 hsz)
    have P3 := Lib.hid (fun w h => refBuild_any each (.slice ao m cap) (keys.take m) w h h2 (by rw [List.length_take]; omega) (fun s hs => hsz s (List.mem_of_mem_take hs)))
    have hS := Pl.build_sub each (texts keys) m
    have hH1 := Pl.build_head each ((texts keys).take m)
    have hH2 := Pl.build_head each (texts keys)
    rw [texts_take] at P1 P3
    have hA1 := Pl.build_bound each ((texts keys).take m) 8796093022208 (by simp [texts]; omega)
    have hB1 := Pl.build_bound each (texts keys) 8796093022208 (by simp [texts]; omega)
    generalize Pl.build each ((texts keys).take m) = A at P1 P3 hS hH1 hA1
    generalize Pl.build each (texts keys) = B at P2 hS hH2 hB1
    obtain ⟨s, hs⟩ : ∃ s : ByteArray, s = ⟨A.toArray⟩ := ⟨_, rfl⟩
    obtain ⟨t, ht⟩ : ∃ t : ByteArray, t = ⟨B.toArray⟩ := ⟨_, rfl⟩
    have hsA : A = s.data.toList := by rw [hs]
    have htB : B = t.data.toList := by rw [ht]
    rw [← hs] at P1 P3
    rw [← ht] at P2
    clear hs ht
    subst hsA
    subst htB
    rw [Pl.size_data] at hA1 hB1 hS
    rw [Pl.size_data] at hS
    have hS := Lib.hid hS
    have hH1 := Lib.hid hH1
    have hH2 := Lib.hid hH2
    have hW := Lib.hid h
    have hd0 : decide ((m : Int) < 0) = false := by simp
    have hd1 : decide ((keys.length : Int) < (m : Int)) = false := by simp; omega
    have hd2 : decide (keys.length < m) = false := by simp; omega
    have T1 : Hid (∀ W, Below w.heap.size w W → TextsAt W (.slice ao m cap) (keys.take m)) := fun W hb => (h.kept hb).take m hm cap
    have T2 : Hid (∀ W, Below w.heap.size w W → TextsAt W (.slice ao keys.length cap) keys) := fun W hb => h.kept hb
    clear h hW
    go_enter Try.func5, Try.ntmps5
    go_wp2_with fail
    refine (P1.out _ (T1.out _ (Below.refl _ _))).mono ?_
    rintro e w1 ⟨rfl, b1⟩
    go_wp2_with fail
    refine (P2.out _ (T2.out _ b1)).mono ?_
    rintro e w2 ⟨rfl, b2⟩
    replace b2 := b1.trans (b2.mono b1.size)
    by_cases hl : s.size = t.size
    · have hl2 : ((s.size : Int) != (t.size : Int)) = false := by simp [hl]
      by_cases h0 : s.size = 0
      · have he : s = ⟨#[]⟩ := by
          rcases s with ⟨⟨l⟩⟩
          simp [ByteArray.size] at h0
          rw [h0]
        have hse : (s == (⟨#[]⟩ : ByteArray)) = true := by rw [he]; decide
        have hse' : decide (s = (⟨#[]⟩ : ByteArray)) = true := by simp [he]
        go_wp2_with fail
        refine (P3.out _ (T1.out _ b2)).mono ?_
        rintro e w3 ⟨rfl, b3⟩
        go_wp2
        go_ret
        exact ⟨ret_bool (by simp), b2.trans (b3.mono b2.size)⟩
      · have he : s ≠ ⟨#[]⟩ := by
          rintro rfl
          exact h0 rfl
        have hse' : decide (s = (⟨#[]⟩ : ByteArray)) = false := by simp [he]
        have hne : s.data.toList ≠ [] := by
          intro e
          have := congrArg List.length e
          rw [Pl.size_data] at this
          exact h0 this
        have hne2 : t.data.toList ≠ [] := by
          intro e
          have := congrArg List.length e
          rw [Pl.size_data] at this
          exact h0 (hl.trans this.symm.symm)
        have hsub := Lib.hid (hS.out hl hne)
        have hh := (hH1.out hne).trans (hH2.out hne2).symm
        replace hh := Lib.hid hh
        clear he hne hne2
        go_wp2_with fail
        · refine (P3.out _ (T1.out _ b2)).mono ?_
          rintro e w3 ⟨rfl, b3⟩
          go_wp2
          go_ret
          exact ⟨ret_bool (by simp), b2.trans (b3.mono b2.size)⟩
        · go_loopw [9] (fun v W => ∃ j : Nat, 1 ≤ j ∧ j ≤ s.size ∧ v = .int .i64 j ∧ Hid (Below w.heap.size w W)) (fun v _ => s.size - (intOf v).toNat)
          case atStart => exact ⟨1, by omega, by omega, rfl, b2⟩
          case round =>
            obtain ⟨j, hj1, hj, rfl, b3⟩ := hrel
            by_cases hjk : j < s.size
            · have hjt : j < t.size := by omega
              have hx : bits .andNot .u8 (s[j].toNat : Int) (t[j].toNat : Int) = 0 := Pl.andNot_sub _ _ (hsub.out.2 j (by rw [Pl.size_data]; exact hjk) (by rw [Pl.size_data]; exact hjt))
              go_wp2
              go_quiet (fail)
              go_wp2
              go_roundw
              case rel => exact ⟨j + 1, by omega, by omega, by go_num, below_drewN b3.out _⟩
              case measure => simp [intOf]; omega
            · have hj0 : 0 < s.size := by omega
              have ht0 : 0 < t.size := by omega
              have hd : decide ((j : Int) < (s.size : Int)) = false := by simp; omega
              have hd' : decide (j < s.size) = false := by simp; omega
              have hb : s[0] = t[0] := by
                have := hh.out
                rw [List.getElem?_eq_getElem (by rw [Pl.size_data]; exact hj0), List.getElem?_eq_getElem (by rw [Pl.size_data]; exact ht0)] at this
                exact Option.some.inj this
              go_wp2
              go_quiet (fail)
              go_wp2
              go_ret
              exact ⟨ret_bool (by simp), below_drewN b3.out _⟩
    · have hl2 : ((s.size : Int) != (t.size : Int)) = true := by simp; omega
      go_wp2_with fail
      refine (P3.out _ (T1.out _ b2)).mono ?_
      rintro e w3 ⟨rfl, b3⟩
      go_wp2
      go_ret
      exact ⟨ret_bool (by simp), b2.trans (b3.mono b2.size)⟩
end Go.Proofs.Ytcfcijgnkbmlaaa
