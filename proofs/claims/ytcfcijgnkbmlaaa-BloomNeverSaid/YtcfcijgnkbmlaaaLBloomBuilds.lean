/- Walk: the law BloomBuilds returns true. Condition: keys that the form's reach lets. -/
import Derived.Test.YtcfcijgnkbmlaaaWRefBuild
import Derived.Test.YtcfcijgnkbmlaaaTexts
namespace Go.Proofs.Ytcfcijgnkbmlaaa
open Go.RowKit

theorem textsAt_get {W : World} {ao : Option Addr} {n cap : Nat} {l : List ByteArray} (h : TextsAt W (.slice ao n cap) l) : n = l.length := by
  obtain ⟨ao', cap', he, _⟩ := h
  simp only [Value.slice.injEq] at he
  exact he.2.1
theorem keys_size {keys : List ByteArray} (hsz : ∀ s ∈ keys, s.size ≤ 9223372036854775807) : ∀ i (hi : i < keys.length), (keys[i]).size ≤ 9223372036854775807 := fun _ hi => hsz _ (List.getElem_mem hi)

theorem build_any (each : Int) (v : Value) (keys : List ByteArray) (w : World) (h : TextsAt w v keys) (h2 : each ≤ 9223372036854775807) (hl1 : keys.length ≤ 8796093022208) (hsz : ∀ s ∈ keys, s.size ≤ 9223372036854775807) :
    Calls Try.prog 17 #[.int .i64 each, v] w fun e w' => e = .returned (.string ⟨(Pl.build each (texts keys)).toArray⟩) ∧ Below w.heap.size w w' := by
  obtain ⟨ao, cap, rfl, h⟩ := h
  by_cases hx : each < 1 ∨ keys.length = 0
  · exact (build_none each ao keys.length cap keys w hx rfl).mono fun e w' ⟨he, hw⟩ => ⟨he, by subst hw; exact Below.refl _ _⟩
  · have h0 : 0 < keys.length := by omega
    obtain ⟨b, off, rfl, hB, hc⟩ := h h0
    exact callsIn_wide.1 (build_some 6 each b off cap keys w (by omega) h2 h0 hl1 hc hB (keys_size hsz))
theorem refBuild_any (each : Int) (v : Value) (keys : List ByteArray) (w : World) (h : TextsAt w v keys) (h2 : each ≤ 9223372036854775807) (hl1 : keys.length ≤ 8796093022208) (hsz : ∀ s ∈ keys, s.size ≤ 9223372036854775807) :
    Calls Try.prog 19 #[.int .i64 each, v] w fun e w' => e = .returned (.string ⟨(Pl.build each (texts keys)).toArray⟩) ∧ Below w.heap.size w w' := by
  obtain ⟨ao, cap, rfl, h⟩ := h
  by_cases hx : each < 1 ∨ keys.length = 0
  · exact (refBuild_none each ao keys.length cap keys w hx rfl).mono fun e w' ⟨he, hw⟩ => ⟨he, by subst hw; exact Below.refl _ _⟩
  · have h0 : 0 < keys.length := by omega
    obtain ⟨b, off, rfl, hB, hc⟩ := h h0
    exact refBuild_some each b off cap keys w (by omega) h2 h0 hl1 hc hB (keys_size hsz)
theorem info_string : (Try.prog.info? 9).map (fun i => (i.zero, i.size, i.bytes)) = some (some (.string .empty), 1, 16) := by kernel_rfl

set_option maxRecDepth 100000 in
set_option maxHeartbeats 2000000 in
theorem bloomBuilds_any (each : Int) (v : Value) (keys : List ByteArray) (key : ByteArray) (w : World) (h : TextsAt w v keys) (h2 : each ≤ 9223372036854775807) (hl1 : keys.length ≤ 8796093022208) (hsz : ∀ s ∈ keys, s.size ≤ 9223372036854775807) (hk : key.size ≤ 9223372036854775807) :
    Calls Try.prog 4 #[.int .i64 each, v, .string key] w fun e w' => e = .returned (.bool true) ∧ Below w.heap.size w w' := by
  have P1 := Lib.hid (fun w h => build_any each v keys w h h2 hl1 hsz)
  have P2 := Lib.hid (fun w => hash_any key w hk)
  have P3 := Lib.hid (fun v w h => refBuild_any each v keys w h h2 hl1 hsz)
  have P4 := Lib.hid (fun w => refHash_any key w hk)
  obtain ⟨ao, cap, rfl, hh⟩ := h
  have hK : Hid (TextsAt w (.slice ao keys.length cap) keys) := ⟨ao, cap, rfl, hh⟩
  have hmk := make_row (P := Try.prog) 28 9 (.string .empty) 16 Try.underlying28 info_string rfl keys.length (by omega) (by omega)
  generalize Pl.build each (texts keys) = R at P1 P3
  go_enter Try.func4, Try.ntmps4
  go_wp2_with (with_reducible refine wpList_copy_splice rfl _ _ 28 28 rfl 9 Try.underlying28 (by kernel_rfl) (some ⟨w.heap.size, 0, none⟩) ao keys.length keys.length keys.length cap rfl rfl w.heap.size 0 (List.replicate keys.length (.string .empty)) 9 (World.alloc_heap_new w _) (scells keys) ?c1 ?c2 ?c3 ?c4 w.heap.size w ?c5 (Nat.le_refl _) ?c6)
  case c1 => simp [scells_length]
  case c2 =>
    intro h0
    rw [scells_length] at h0
    obtain ⟨b, off, rfl, hB, hc⟩ := hh h0
    refine ⟨_, rfl, fun j v hj => ?_⟩
    obtain ⟨hj', rfl⟩ := scells_get _ _ _ hj
    rw [Go.WideShapes.add_plain]
    exact ((Below.alloc (Below.refl w.heap.size w) (Nat.le_refl _) _).cell (p := ⟨b, off + j, none⟩) hB).trans (hc j hj')
  case c3 => simp [scells_length]
  case c4 =>
    intro v hv
    obtain ⟨s, _, rfl⟩ := List.mem_map.1 hv
    rfl
  case c5 => exact (Below.refl w.heap.size w).alloc (Nat.le_refl _) _
  case c6 =>
    intro w1 hg b1
    have hg := Lib.hid hg
    have hH : Hid (TextsAt w1 (.slice (some ⟨w.heap.size, 0, none⟩) keys.length keys.length) keys) := TextsAt.block (hg.out.out.trans (by rw [splice_all _ _ (by simp [scells_length])])) _
    have hA : Hid (TextsAt w1 (.slice ao keys.length cap) keys) := hK.out.kept b1
    have hw1 : Hid (w.heap.size < w1.heap.size) := (Array.getElem?_eq_some_iff.1 hg.out.out).1
    clear hg
    go_wp2_with fail
    refine (P1.out _ hA.out).mono ?_
    rintro e w2 ⟨rfl, b2⟩
    go_wp2_with fail
    refine (P2.out _).mono ?_
    rintro e w3 ⟨rfl, rfl⟩
    have hH := Lib.hid (hH.out.kept b2)
    have hA := Lib.hid (hA.out.kept b2)
    have hb : Hid (Below w.heap.size w w2) := b1.trans (b2.mono (by have := hw1.out; omega))
    go_wp2
    go_loopw [10] (fun v W => ∃ j : Nat, j ≤ keys.length ∧ v = .int .i64 j ∧ Hid (Below w2.heap.size w2 W)) (fun v _ => keys.length - (intOf v).toNat)
    case atStart => exact ⟨0, by omega, rfl, Below.refl _ _⟩
    case round =>
      obtain ⟨j, hj, rfl, b3⟩ := hrel
      by_cases hjk : j < keys.length
      · obtain ⟨c1, cap1, e1, h1⟩ := hA.out.kept b3.out
        obtain ⟨bA, oA, rfl, _, hcA⟩ := h1 (by omega)
        simp only [Value.slice.injEq] at e1
        obtain ⟨rfl, -, rfl⟩ := e1
        obtain ⟨c2, cap2, e2, h2'⟩ := hH.out.kept b3.out
        obtain ⟨bH, oH, rfl, _, hcH⟩ := h2' (by omega)
        simp only [Value.slice.injEq, Option.some.injEq] at e2
        obtain ⟨e2, -, -⟩ := e2
        cases e2
        have f1 := hcA j hjk
        have f2 := hcH j hjk
        clear hcA hcH h1 h2'
        have f3 := f2
        simp only [Nat.zero_add] at f3
        go_wp2
        go_quiet (fail)
        go_wp2
        go_roundw
        case rel => exact ⟨j + 1, by omega, by go_num, below_drewN b3.out _⟩
        case measure => simp [intOf]; omega
      · have hA4 := hA.out.kept b3.out
        have hH4 := hH.out.kept b3.out
        have hb4 : Below w.heap.size w wr := hb.out.trans (b3.out.mono hb.out.size)
        have hA4 := Lib.hid hA4
        have hH4 := Lib.hid hH4
        have hb4 := Lib.hid hb4
        have hd : decide ((j : Int) < (keys.length : Int)) = false := by simp; omega
        have hd' : decide (j < keys.length) = false := by simp; omega
        go_wp2_with fail
        refine (P3.out _ _ hH4.out).mono ?_
        rintro e w5 ⟨rfl, b5⟩
        go_wp2_with fail
        refine (P4.out _).mono ?_
        rintro e w6 ⟨rfl, rfl⟩
        go_wp2
        go_ret
        exact ⟨ret_bool (by simp), hb4.out.trans (b5.mono hb4.out.size)⟩
end Go.Proofs.Ytcfcijgnkbmlaaa
