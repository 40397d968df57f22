
/- Walk: the law BlockPlays returns true. Condition: acts that the form's reach lets. -/
import Derived.Test.YtndekdgpibipnaaWOneC
import Derived.Test.YtndekdgpibipnaaOpenActs
namespace Go.Proofs.Ytndekdgpibipnaa
open Go.RowKit

variable {B d r n k : Nat} {s : Pl.Dv} {fd fr : Nat → Prop} {W : World}
theorem one_any (h : Two B d r s s fd fr W) (hF : Pl.Fine n k s) (hn1 : 40 ≤ n) (hn2 : n ≤ 16384) (hk : k ≤ 5864062014632) (c : AcT) (u : Value) (hB : B ≤ W.heap.size) (hc : c.fine) (hu : BoolsAt W u c.keep) (hub : 0 < c.keep.length → ∀ b, u.ownBlock = some b → b < B) (hkl : c.keep.length ≤ 140737488355328) :
    Calls Try.prog 30 #[.pointer (some ⟨d, 0, none⟩), .pointer (some ⟨r, 0, none⟩), .agg #[.int .i64 c.kind, .int .i64 c.at', .int .i64 c.num, u]] W fun e w' => e = .returned (.bool true) ∧ ∃ s' fd' fr', Two B d r s' s' fd' fr' w' ∧ Pl.Fine n (k + 1) s' ∧ Below B W w' := by
  by_cases k0 : c.kind = 0
  · rw [k0]; exact one_write h hF hn1 hn2 hk c u hB
  by_cases k1 : c.kind = 1
  · rw [k1]; exact one_read h hF hn1 hn2 hk c u hB
  by_cases k2 : c.kind = 2
  · rw [k2]; exact one_sync h hF hn1 hn2 hk c u hB
  by_cases k3 : c.kind = 3
  · rw [k3]; exact one_arm h hF hn1 hn2 hk c u hB hc.2.2.1.2
  by_cases k4 : c.kind = 4
  · rw [k4]; exact one_crash h hF hn1 hn2 hk c u hB hu hub hkl
  by_cases k5 : c.kind = 5
  · rw [k5]; exact one_alike h hF hn1 hn2 hk c u hB
  exact one_other h hF hn1 hn2 hk c u hB (by simpa using k0) (by simpa using k1) (by simpa using k2) (by simpa using k3) (by simpa using k4) (by simpa using k5)

set_option maxRecDepth 100000 in
theorem plays_bad (n : Int) (h : n < 40 ∨ 16384 < n) (v : Value) (w : World) :
    Calls Try.prog 8 #[.int .i64 n, v] w fun e w' => e = .returned (.bool true) ∧ Below w.heap.size w w' := by
  have r1 := Lib.hid (new_bad n h w)
  have r2 := Lib.hid (takes_no n h w)
  go_enter Try.func8, Try.ntmps8
  go_wp2_with (first
    | (go_at_call 13; ((with_reducible refine r1.out.mono ?_); rintro e w1 ⟨rfl, rfl⟩))
    | (go_at_call 28; ((with_reducible refine r2.out.mono ?_); rintro e w1 ⟨rfl, rfl⟩)))
  go_ret
  exact ⟨rfl, Below.refl _ _⟩

theorem RefAt.base {B' : Nat} (h : RefAt B r s fr W) (hB : B' ≤ B) : RefAt B' r s fr W := by
  obtain ⟨sv, wv, h⟩ := h
  exact ⟨sv, wv, h.blk, Go.Joins.ownsRow_le h.safe hB, Go.Joins.ownsRow_le h.wait hB, h.fr, h.fsv, h.fwv, h.lt, fun k hk => Nat.le_trans hB (h.low k hk), h.wf⟩
theorem boolsAt_nil (w : World) : BoolsAt w (.slice none 0 0) [] := ⟨none, 0, rfl, by simp, by omega, fun h => by simp at h⟩

set_option maxRecDepth 100000 in
set_option maxHeartbeats 2000000 in
theorem plays_any (n : Nat) (hn1 : 40 ≤ n) (hn2 : n ≤ 16384) (v : Value) (l : List AcT) (w : World) (hv : ActsAt w v l) (hl : l.length ≤ 2932031007317) (hf : ∀ x ∈ l, x.fine) (hkl : ∀ x ∈ l, x.keep.length ≤ 140737488355328) :
    Calls Try.prog 8 #[.int .i64 (n : Int), v] w fun e w' => e = .returned (.bool true) ∧ Below w.heap.size w w' := by
  have hv0 := hv
  obtain ⟨ao, cap, rfl, c1, c2, hat⟩ := hv
  have r1 := Lib.hid (new_any n hn1 hn2 w)
  go_enter Try.func8, Try.ntmps8
  go_wp2_with (first
    | (go_at_call 13; ((with_reducible refine r1.out.mono ?_); rintro e w1 ⟨d, fd1, rfl, hD1, hb1⟩; have r2 := Lib.hid (takes_yes (n : Int) (by omega) (by omega) w1); have r3 := Lib.hid (refNew_any n hn2 w1)))
    | (go_at_call 28; ((with_reducible refine r2.out.mono ?_); rintro e w2 ⟨rfl, rfl⟩))
    | (go_at_call 29; ((with_reducible refine r3.out.mono ?_); rintro e w3 ⟨r, fr1, rfl, hR3, hb3⟩)))
  have hT : Two w.heap.size d r (Pl.Dv.new n) (Pl.Dv.new n) fd1 fr1 w3 := ⟨hD1.beyond hb3, hR3.base hb1.size, fun k h1 h2 => by
    have := hD1.lt k h1
    have := hR3.fpB k h2
    omega⟩
  have hb4 := hb1.trans (hb3.mono hb1.size)
  clear r1 r2 r3 hD1 hR3 hb1 hb3
  go_loopw [9, 10] (fun j _ wr => ∃ i : Nat, i ≤ l.length ∧ j = .int .i64 i ∧ ∃ s fd fr, Two w.heap.size d r s s fd fr wr ∧ Pl.Fine n i s ∧ Below w.heap.size w wr) (fun j _ _ => l.length - (intOf j).toNat)
  case atStart => exact ⟨0, by omega, rfl, _, _, _, hT, Pl.Fine.new n, hb4⟩
  case round =>
    obtain ⟨i, hi, rfl, s, fd, fr, hT, hF, hb⟩ := hrel
    clear hb4
    by_cases h1 : i < l.length
    · obtain ⟨b, off, rfl, hlt, hc⟩ := hat (by omega)
      obtain ⟨y0, y1, y2, u, y3, hu⟩ := hc i h1
      have hfx := hf l[i] (List.getElem_mem h1)
      have hkx := hkl l[i] (List.getElem_mem h1)
      clear hc hat
      generalize l[i] = x at y0 y1 y2 y3 hu hfx hkx
      have x0 := (hb.cell (p := ⟨b, off + i * 4, none⟩) hlt).trans y0
      have x1 := (hb.cell (p := ⟨b, off + i * 4 + 1, none⟩) hlt).trans y1
      have x2 := (hb.cell (p := ⟨b, off + i * 4 + 2, none⟩) hlt).trans y2
      have x3 := (hb.cell (p := ⟨b, off + i * 4 + 3, none⟩) hlt).trans y3
      have hub : 0 < x.keep.length → ∀ b, u.ownBlock = some b → b < w.heap.size := fun h0 b e => by
        obtain ⟨_, _, rfl, _, _, h⟩ := hu
        obtain ⟨b', off, rfl, hlt, _⟩ := h h0
        have e' : b' = b := by simpa [Value.ownBlock] using e
        omega
      have hOne := Lib.hid (one_any hT hF hn1 hn2 (by omega) x u hb.size hfx (hu.below hb) hub hkx)
      clear y0 y1 y2 y3 hT
      go_wp2_with (go_at_call 30; ((with_reducible refine hOne.out.mono ?_); rintro e w4 ⟨rfl, s4, fd4, fr4, hT4, hF4, hb4⟩))
      go_roundw
      case rel => exact ⟨i + 1, by omega, by go_num, s4, fd4, fr4, hT4, hF4, hb.trans hb4⟩
      case measure => simp [intOf]; omega
    · obtain rfl : i = l.length := by omega
      have hwl := hF.wait
      have hel := hF.epoch
      have hC1 := Lib.hid (crash_any hT.1 _ [] (boolsAt_nil wr) (fun h0 => by simp at h0) (-1) 0 (by omega) (by omega))
      clear hat
      go_wp2_with (first
        | (go_at_call 20; ((with_reducible refine hC1.out.mono ?_); rintro e w2 ⟨⟨_, rfl⟩, hD2, st2⟩; have h2 := hT.dev hD2 st2; have bb2 := below_step hb (Nat.le_refl _) hT.1 st2; have hC2 := Lib.hid (refCrash_any h2.2.1 _ [] (boolsAt_nil w2) (fun h0 => by simp at h0) (-1) 0 (by omega) (by omega))))
        | (go_at_call 31; ((with_reducible refine hC2.out.mono ?_); rintro e w3 ⟨⟨_, rfl⟩, hR3, st3⟩; have h3 := h2.ref hR3 st3; have bb3 := ref_below_step bb2 (Nat.le_refl _) h2.2.1 st3)))
      have hF4 := hF.crash [] (-1) (clamp 0)
      have hd4 : (s.crash [] (-1) (clamp 0)).down = false := rfl
      have hw4 : (s.crash [] (-1) (clamp 0)).wait = [] := rfl
      clear hC1 hC2 hT hF hD2 st2 h2 bb2 hR3 st3
      generalize s.crash [] (-1) (clamp 0) = s4 at h3 hF4 hd4 hw4
      go_loopw [11, 12, 13] (fun j _ _ wr => ∃ i : Nat, i ≤ n ∧ j = .int .i64 i ∧ wr = w3) (fun j _ _ _ => n - (intOf j).toNat)
      case atStart => exact ⟨0, by omega, rfl, rfl⟩
      case round =>
        obtain ⟨i, hi, rfl, rfl⟩ := hrel
        by_cases h1 : i < n
        · have hl4 := hF4.len
          have hR := read_ok i h3.1 hd4 (by omega) (by omega)
          obtain ⟨sv, wv, hO⟩ := h3.2.1
          obtain ⟨gs, cs, rfl⟩ := hO.safe_form (by omega)
          have c0 := hO.blk.cell 0
          simp at c0
          have cS := hO.safe.cellAt i (by omega)
          rw [scells_get s4.safe i (by omega)] at cS
          have e1 : s4.read i = s4.safe[i]'(by omega) := by unfold Pl.Dv.read; rw [hw4]; simp [Pl.lastW, List.getD_eq_getElem?_getD, show i < s4.safe.length by omega]
          rw [e1] at hR
          replace hR := Lib.hid hR
          rw [hl4] at c0
          clear e1 hO
          go_wp2_with (go_at_call 21; ((with_reducible refine hR.out.mono ?_); rintro e w4 ⟨rfl, rfl⟩))
          go_roundw
          case rel => exact ⟨i + 1, by omega, by go_num, trivial⟩
          case measure => simp [intOf]; omega
        · obtain rfl : i = n := by omega
          have hAl := Lib.hid (alike_any h3 hF4 hn1 (by omega))
          go_wp2_with (go_at_call 32; ((with_reducible refine hAl.out.mono ?_); rintro e w4 ⟨rfl, hb5⟩))
          go_ret
          exact ⟨rfl, bb3.trans (hb5.mono bb3.size)⟩
theorem plays_all (n : Int) (v : Value) (l : List AcT) (w : World) (hv : ActsAt w v l) (hl : l.length ≤ 2932031007317) (hf : ∀ x ∈ l, x.fine) (hkl : ∀ x ∈ l, x.keep.length ≤ 140737488355328) :
    Calls Try.prog 8 #[.int .i64 n, v] w fun e w' => e = .returned (.bool true) ∧ Below w.heap.size w w' := by
  by_cases h : n < 40 ∨ 16384 < n
  · exact plays_bad n h v w
  · obtain ⟨m, rfl⟩ := Int.eq_ofNat_of_zero_le (show 0 ≤ n by omega)
    exact plays_any m (by omega) (by omega) v l w hv hl hf hkl
end Go.Proofs.Ytndekdgpibipnaa
