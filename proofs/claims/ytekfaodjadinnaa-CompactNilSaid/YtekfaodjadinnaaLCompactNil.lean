/- Walk: the law CompactNil returns true. Condition: none. -/
import Derived.Test.YtekfaodjadinnaaWRight
import Derived.Test.YtekfaodjadinnaaCells
import Derived.Deep.RegionWith
import Derived.Deep.DeepCutAuto
namespace Go.Proofs.Ytekfaodjadinnaa
open Go.RowKit

set_option maxRecDepth 100000 in
set_option maxHeartbeats 1000000 in
theorem contains_nil (b : Nat) (w : World) (h : w.cell? ⟨b, 0, none⟩ = some (.pointer none)) :
    Calls Try.prog 29 #[.slice (some ⟨b, 0, none⟩) 1 1, .pointer none] w fun e w' => e = .returned (.bool true) ∧ w = w' := by
  go_enter Try.func29, Try.ntmps29
  go_wp2
  refine wp_loop_rounds 1 ?_
  rw [rounds_succ]
  go_wp2
  go_ret
  exact ⟨rfl, rfl⟩

set_option maxRecDepth 100000 in
set_option maxHeartbeats 2000000 in
theorem new_one (c0 c1 c2 c3 c4 c5 c6 c7 level : Int) (f b : Nat) (w : World) (h : w.cell? ⟨b, 0, none⟩ = some (.pointer none)) (hb : b < w.heap.size) :
    Calls Try.prog 16 #[.agg #[.int .i64 c0, .int .i64 c1, .int .i64 c2, .int .i64 c3, .int .i64 c4, .int .i64 c5, .int .i64 c6, .int .u64 c7], .agg #[.int .i64 level, .slice (some ⟨f, 0, none⟩) 1 1, .slice none 0 0, .bool false], .slice (some ⟨b, 0, none⟩) 1 1, .slice none 0 0] w fun e w' =>
      e = .returned (.tuple #[.pointer none, .int .i64 1]) ∧ Below w.heap.size w w' := by
  have P1 := Lib.hid (fun w => right_any c0 c1 c2 c3 c4 c5 c6 c7 w)
  have P2 := Lib.hid (fun w => within_any level 0 2 w)
  have hb0 : Below w.heap.size w ((w.alloc (.cells #[.int .i64 c0, .int .i64 c1, .int .i64 c2, .int .i64 c3, .int .i64 c4, .int .i64 c5, .int .i64 c6, .int .u64 c7] 24)).alloc (.cells #[.int .i64 level, .slice (some ⟨f, 0, none⟩) 1 1, .slice none 0 0, .bool false] 35)) := ((Below.refl _ _).alloc (Nat.le_refl _) _).alloc (by simp) _
  have k0 := World.cell?_alloc_mark (w.alloc (.cells #[.int .i64 c0, .int .i64 c1, .int .i64 c2, .int .i64 c3, .int .i64 c4, .int .i64 c5, .int .i64 c6, .int .u64 c7] 24)) #[.int .i64 level, .slice (some ⟨f, 0, none⟩) 1 1, .slice none 0 0, .bool false] 35 (0, 0)
  rw [World.size_alloc] at k0
  cases h1 : rightB c0 c1 c2 c3 c4 c5 c6
  · go_enter Try.func16, Try.ntmps16
    go_wp2_with fail
    refine (P1.out _).mono ?_
    rintro e w1 ⟨rfl, b1⟩
    go_wp2_with fail
    go_ret2
    exact ⟨rfl, hb0.trans (b1.mono hb0.size)⟩
  · cases h2 : wB level 0 2
    · go_enter Try.func16, Try.ntmps16
      go_wp2_with fail
      refine (P1.out _).mono ?_
      rintro e w1 ⟨rfl, b1⟩
      have j0 := (b1.cell (p := ⟨w.heap.size + 1, 0, none⟩) (by simp)).trans (k0 0)
      have j1 := (b1.cell (p := ⟨w.heap.size + 1, 1, none⟩) (by simp)).trans (k0 1)
      have j2 := (b1.cell (p := ⟨w.heap.size + 1, 2, none⟩) (by simp)).trans (k0 2)
      simp only [List.getElem?_toArray, List.getElem?_cons_zero, List.getElem?_cons_succ] at j0 j1 j2
      go_wp2_with fail
      refine (P2.out _).mono ?_
      rintro e w2 ⟨rfl, rfl⟩
      go_wp2_with fail
      go_ret2
      exact ⟨rfl, hb0.trans (b1.mono hb0.size)⟩
    · go_enter Try.func16, Try.ntmps16
      go_wp2_with fail
      refine (P1.out _).mono ?_
      rintro e w1 ⟨rfl, b1⟩
      have j0 := (b1.cell (p := ⟨w.heap.size + 1, 0, none⟩) (by simp)).trans (k0 0)
      have j1 := (b1.cell (p := ⟨w.heap.size + 1, 1, none⟩) (by simp)).trans (k0 1)
      have j2 := (b1.cell (p := ⟨w.heap.size + 1, 2, none⟩) (by simp)).trans (k0 2)
      simp only [List.getElem?_toArray, List.getElem?_cons_zero, List.getElem?_cons_succ] at j0 j1 j2
      go_wp2_with fail
      refine (P2.out _).mono ?_
      rintro e w2 ⟨rfl, rfl⟩
      go_wp2_with fail
      have hc := (b1.cell (p := ⟨b, 0, none⟩) (by simp; omega)).trans ((hb0.cell (p := ⟨b, 0, none⟩) hb).trans h)
      refine (contains_nil b _ hc).mono ?_
      rintro e w3 ⟨rfl, rfl⟩
      go_wp2_with fail
      go_ret2
      exact ⟨rfl, hb0.trans (b1.mono hb0.size)⟩

set_option maxRecDepth 100000 in
set_option maxHeartbeats 2000000 in
theorem new_none (c0 c1 c2 c3 c4 c5 c6 c7 level : Int) (f : Nat) (w : World) :
    Calls Try.prog 16 #[.agg #[.int .i64 c0, .int .i64 c1, .int .i64 c2, .int .i64 c3, .int .i64 c4, .int .i64 c5, .int .i64 c6, .int .u64 c7], .agg #[.int .i64 level, .slice (some ⟨f, 0, none⟩) 1 1, .slice none 0 0, .bool false], .slice none 0 0, .slice none 0 0] w fun e w' =>
      e = .returned (.tuple #[.pointer none, .int .i64 1]) ∧ Below w.heap.size w w' := by
  have P1 := Lib.hid (fun w => right_any c0 c1 c2 c3 c4 c5 c6 c7 w)
  have P2 := Lib.hid (fun w => within_any level 0 2 w)
  have hb0 : Below w.heap.size w ((w.alloc (.cells #[.int .i64 c0, .int .i64 c1, .int .i64 c2, .int .i64 c3, .int .i64 c4, .int .i64 c5, .int .i64 c6, .int .u64 c7] 24)).alloc (.cells #[.int .i64 level, .slice (some ⟨f, 0, none⟩) 1 1, .slice none 0 0, .bool false] 35)) := ((Below.refl _ _).alloc (Nat.le_refl _) _).alloc (by simp) _
  have k0 := World.cell?_alloc_mark (w.alloc (.cells #[.int .i64 c0, .int .i64 c1, .int .i64 c2, .int .i64 c3, .int .i64 c4, .int .i64 c5, .int .i64 c6, .int .u64 c7] 24)) #[.int .i64 level, .slice (some ⟨f, 0, none⟩) 1 1, .slice none 0 0, .bool false] 35 (0, 0)
  rw [World.size_alloc] at k0
  cases h1 : rightB c0 c1 c2 c3 c4 c5 c6
  · go_enter Try.func16, Try.ntmps16
    go_wp2_with fail
    refine (P1.out _).mono ?_
    rintro e w1 ⟨rfl, b1⟩
    go_wp2_with fail
    go_ret2
    exact ⟨rfl, hb0.trans (b1.mono hb0.size)⟩
  · cases h2 : wB level 0 2
    · go_enter Try.func16, Try.ntmps16
      go_wp2_with fail
      refine (P1.out _).mono ?_
      rintro e w1 ⟨rfl, b1⟩
      have j0 := (b1.cell (p := ⟨w.heap.size + 1, 0, none⟩) (by simp)).trans (k0 0)
      have j1 := (b1.cell (p := ⟨w.heap.size + 1, 1, none⟩) (by simp)).trans (k0 1)
      have j2 := (b1.cell (p := ⟨w.heap.size + 1, 2, none⟩) (by simp)).trans (k0 2)
      simp only [List.getElem?_toArray, List.getElem?_cons_zero, List.getElem?_cons_succ] at j0 j1 j2
      go_wp2_with fail
      refine (P2.out _).mono ?_
      rintro e w2 ⟨rfl, rfl⟩
      go_wp2_with fail
      go_ret2
      exact ⟨rfl, hb0.trans (b1.mono hb0.size)⟩
    · go_enter Try.func16, Try.ntmps16
      go_wp2_with fail
      refine (P1.out _).mono ?_
      rintro e w1 ⟨rfl, b1⟩
      have j0 := (b1.cell (p := ⟨w.heap.size + 1, 0, none⟩) (by simp)).trans (k0 0)
      have j1 := (b1.cell (p := ⟨w.heap.size + 1, 1, none⟩) (by simp)).trans (k0 1)
      have j2 := (b1.cell (p := ⟨w.heap.size + 1, 2, none⟩) (by simp)).trans (k0 2)
      simp only [List.getElem?_toArray, List.getElem?_cons_zero, List.getElem?_cons_succ] at j0 j1 j2
      go_wp2_with fail
      refine (P2.out _).mono ?_
      rintro e w2 ⟨rfl, rfl⟩
      go_wp2_with fail
      go_ret2
      exact ⟨rfl, hb0.trans (b1.mono hb0.size)⟩

set_option maxRecDepth 100000 in
set_option maxHeartbeats 2000000 in
theorem compactNil_any (c0 c1 c2 c3 c4 c5 c6 c7 level : Int) (w : World) :
    Calls Try.prog 5 #[.agg #[.int .i64 c0, .int .i64 c1, .int .i64 c2, .int .i64 c3, .int .i64 c4, .int .i64 c5, .int .i64 c6, .int .u64 c7], .int .i64 level] w fun e w' =>
      e = .returned (.bool true) ∧ Below w.heap.size w w' := by
  have hmk : ∀ w, (Instr.makeSlice 27 (.int .i64 1) (.int .i64 1)).run Try.prog w = .ok (.slice (some ⟨w.heap.size, 0, none⟩) 1 1) (w.alloc (.cells #[.int .u64 0, .int .i64 0, .int .i64 0, .int .i64 0, .string .empty, .string .empty] 40)) := fun _ => by kernel_rfl
  have q0 := ((CellsAt.new w #[.int .i64 c0, .int .i64 c1, .int .i64 c2, .int .i64 c3, .int .i64 c4, .int .i64 c5, .int .i64 c6, .int .u64 c7] 24).alloc (.cells #[.int .u64 0, .int .i64 0, .int .i64 0, .int .i64 0, .string .empty, .string .empty] 40)).alloc (.cells #[.int .u64 0, .int .i64 0, .int .i64 0, .int .i64 0, .string .empty, .string .empty] 40)
  have q1 := CellsAt.new ((w.alloc (.cells #[.int .i64 c0, .int .i64 c1, .int .i64 c2, .int .i64 c3, .int .i64 c4, .int .i64 c5, .int .i64 c6, .int .u64 c7] 24)).alloc (.cells #[.int .u64 0, .int .i64 0, .int .i64 0, .int .i64 0, .string .empty, .string .empty] 40)) #[.int .u64 0, .int .i64 0, .int .i64 0, .int .i64 0, .string .empty, .string .empty] 40
  have hb0 : Below w.heap.size w (((w.alloc (.cells #[.int .i64 c0, .int .i64 c1, .int .i64 c2, .int .i64 c3, .int .i64 c4, .int .i64 c5, .int .i64 c6, .int .u64 c7] 24)).alloc (.cells #[.int .u64 0, .int .i64 0, .int .i64 0, .int .i64 0, .string .empty, .string .empty] 40)).alloc (.cells #[.int .u64 0, .int .i64 0, .int .i64 0, .int .i64 0, .string .empty, .string .empty] 40)) := (((Below.refl _ _).alloc (Nat.le_refl _) _).alloc (by simp) _).alloc (by simp; omega) _
  simp only [World.size_alloc] at q1
  go_enter Try.func5, Try.ntmps5
  go_wp2_with go_in
  refine bodyPost_ret (v := .tuple #[.string .empty, .agg #[.int .u64 0, .int .i64 0, .int .i64 0, .int .i64 0, .string .empty, .string .empty], .bool false]) (by simp [results, Try.results15, go_sem]; rfl) rfl ?_
  go_wp2_with fail
  have hw : ∀ W : World, W = (((w.alloc (.cells #[.int .i64 c0, .int .i64 c1, .int .i64 c2, .int .i64 c3, .int .i64 c4, .int .i64 c5, .int .i64 c6, .int .u64 c7] 24)).alloc (.cells #[.int .u64 0, .int .i64 0, .int .i64 0, .int .i64 0, .string .empty, .string .empty] 40)).alloc (.cells #[.int .u64 0, .int .i64 0, .int .i64 0, .int .i64 0, .string .empty, .string .empty] 40)) → CellsAt w.heap.size [.int .i64 c0, .int .i64 c1, .int .i64 c2, .int .i64 c3, .int .i64 c4, .int .i64 c5, .int .i64 c6, .int .u64 c7] W ∧ CellsAt (w.heap.size + 1 + 1) [.int .u64 0, .int .i64 0, .int .i64 0, .int .i64 0, .string .empty, .string .empty] W ∧ Below w.heap.size w W := by
    rintro W rfl; exact ⟨q0, q1, hb0⟩
  clear q0 q1 hb0
  obtain ⟨W0, hW0⟩ : ∃ W, W = (((w.alloc (.cells #[.int .i64 c0, .int .i64 c1, .int .i64 c2, .int .i64 c3, .int .i64 c4, .int .i64 c5, .int .i64 c6, .int .u64 c7] 24)).alloc (.cells #[.int .u64 0, .int .i64 0, .int .i64 0, .int .i64 0, .string ⟨#[]⟩, .string ⟨#[]⟩] 40)).alloc (.cells #[.int .u64 0, .int .i64 0, .int .i64 0, .int .i64 0, .string .empty, .string .empty] 40)) := ⟨_, rfl⟩
  have ⟨q0, q1, hb0⟩ := hw W0 hW0
  rw [← hW0]
  clear hw hW0
  go_cut [9, 10] (fun x y wx => x = .pointer none ∧ y = .int .i64 1 ∧ CellsAt w.heap.size [.int .i64 c0, .int .i64 c1, .int .i64 c2, .int .i64 c3, .int .i64 c4, .int .i64 c5, .int .i64 c6, .int .u64 c7] wx ∧ CellsAt (w.heap.size + 1 + 1) [.int .u64 0, .int .i64 0, .int .i64 0, .int .i64 0, .string .empty, .string .empty] wx ∧ Below w.heap.size w wx)
  case first =>
    have a0 := q0.2 0 _ rfl
    have a1 := q0.2 1 _ rfl
    have a2 := q0.2 2 _ rfl
    have a3 := q0.2 3 _ rfl
    have a4 := q0.2 4 _ rfl
    have a5 := q0.2 5 _ rfl
    have a6 := q0.2 6 _ rfl
    have a7 := q0.2 7 _ rfl
    have aB := q0.1
    have hb2 : ∀ o1 o2, Below W0.heap.size W0 ((W0.alloc o1).alloc o2).drew := fun o1 o2 => (((Below.refl _ _).alloc (Nat.le_refl _) _).alloc (by simp) _).drew
    go_region_with (go_at_call 16; refine (new_one _ _ _ _ _ _ _ _ _ _ _ _ (by simp) (by simp <;> omega)).mono ?_; rintro e w1 ⟨rfl, b1⟩; have bb : Below W0.heap.size W0 w1 := (hb2 _ _).trans (b1.mono (hb2 _ _).size))
    all_goals
      go_wp2_with fail
      go_meet
      exact ⟨rfl, rfl, q0.kept bb, q1.kept bb, hb0.trans (bb.mono hb0.size)⟩
  case rest =>
    obtain ⟨rfl, rfl, p0, p1, hb1⟩ := hcut
    clear q0 q1 hb0
    go_wp2_with fail
    go_cut [11, 12] (fun x y wx => x = .pointer none ∧ y = .int .i64 1 ∧ CellsAt (w.heap.size + 1 + 1) [.int .u64 0, .int .i64 0, .int .i64 0, .int .i64 0, .string .empty, .string .empty] wx ∧ Below w.heap.size w wx)
    case first =>
      have a0 := p0.2 0 _ rfl
      have a1 := p0.2 1 _ rfl
      have a2 := p0.2 2 _ rfl
      have a3 := p0.2 3 _ rfl
      have a4 := p0.2 4 _ rfl
      have a5 := p0.2 5 _ rfl
      have a6 := p0.2 6 _ rfl
      have a7 := p0.2 7 _ rfl
      have aB := p0.1
      have hb2 : ∀ o1, Below wc.heap.size wc (wc.alloc o1).drew := fun o1 => ((Below.refl _ _).alloc (Nat.le_refl _) _).drew
      go_region_with (go_at_call 16; refine (new_none _ _ _ _ _ _ _ _ _ _ _).mono ?_; rintro e w1 ⟨rfl, b1⟩; have bb : Below wc.heap.size wc w1 := (hb2 _).trans (b1.mono (hb2 _).size))
      all_goals
        go_wp2_with fail
        go_meet
        exact ⟨rfl, rfl, p1.kept bb, hb1.trans (bb.mono hb1.size)⟩
    case rest =>
      obtain ⟨rfl, rfl, r1, hb3⟩ := hcut
      have a0 := r1.2 0 _ rfl
      have a1 := r1.2 1 _ rfl
      have a2 := r1.2 2 _ rfl
      have a3 := r1.2 3 _ rfl
      have a4 := r1.2 4 _ rfl
      have a5 := r1.2 5 _ rfl
      go_wp2_with fail
      go_ret
      exact ⟨ret_bool (by rfl), hb3⟩
end Go.Proofs.Ytekfaodjadinnaa
