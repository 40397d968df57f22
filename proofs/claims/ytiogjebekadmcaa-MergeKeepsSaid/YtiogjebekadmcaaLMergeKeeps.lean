
/- Walk: the law MergeKeeps returns true. Condition: rows that the form's reach lets. -/
import Derived.Test.YtiogjebekadmcaaWKeep3
import Derived.Test.YtiogjebekadmcaaWRefKeep
import Derived.Test.YtiogjebekadmcaaTexts
import Derived.Deep.RegionHeld3
import Derived.Deep.DeepCutAuto
import Derived.Deep.RegionWith
namespace Go.Proofs.Ytiogjebekadmcaa
open Go.RowKit

/-- a block of numbers, known whole -/
def NBlk (W : World) (g : Nat) (l : List Nat) : Prop := W.heap[g]? = some (.cells (ncells l).toArray 23 (0, 0))
theorem NBlk.lt {W : World} {g : Nat} {l : List Nat} (h : NBlk W g l) : g < W.heap.size := (Array.getElem?_eq_some_iff.1 h).1
theorem NBlk.cell {W : World} {g : Nat} {l : List Nat} (h : NBlk W g l) {i : Nat} (hi : i < l.length) : W.cell? ⟨g, i, none⟩ = some (.int .u64 (l[i] : Int)) := by
  simp [World.cell?, show W.heap[g]? = _ from h, ncells, hi]
theorem NBlk.frozen {W : World} {g : Nat} {l : List Nat} (h : NBlk W g l) (i : Nat) : W.frozen? ⟨g, i, none⟩ = false := by simp [World.frozen?, show W.heap[g]? = _ from h]
theorem NBlk.nums {W : World} {g : Nat} {l : List Nat} (h : NBlk W g l) (hl : l.length ≤ 9223372036854775807) : NumsAt W (.slice (some ⟨g, 0, none⟩) l.length l.length) l :=
  ⟨_, l.length, rfl, Nat.le_refl _, hl, fun _ => ⟨g, 0, rfl, h.lt, fun i hi => by rw [Nat.zero_add]; exact h.cell hi⟩⟩
theorem NBlk.set {W : World} {g : Nat} {l : List Nat} (h : NBlk W g l) (k x : Nat) : NBlk (W.setCell ⟨g, k, none⟩ (.int .u64 (x : Int))) g (l.set k x) := by
  have e : (ncells (l.set k x)).toArray = (ncells l).toArray.setIfInBounds k (.int .u64 (x : Int)) := by
    unfold ncells; rw [List.map_set]; simp
  unfold NBlk
  rw [e]
  have h1 : W.heap[g]? = some (.cells (ncells l).toArray 23 (0, 0)) := h
  simp [World.setCell, Array.getElem?_modify, h1]
theorem NBlk.keep {f : Nat → Prop} {W W' : World} {g : Nat} {l : List Nat} (h : NBlk W g l) (hk : Keep f W W') (hf : f g) : NBlk W' g l := (hk.block g hf h.lt).trans h
theorem NBlk.below {W W' : World} {g : Nat} {l : List Nat} (h : NBlk W g l) (hb : Below W.heap.size W W') : NBlk W' g l := (hb.block g h.lt).trans h
theorem ncells_zero (n : Nat) : List.replicate n (Value.int .u64 0) = ncells (List.replicate n 0) := by simp [ncells]

/-- the row, its sequence and what stands about them stay, whatever is done to one other block -/
theorem KeepIt.keep {W W' : World} {v : Value} {l : List Ver} {fs : List Nat} {bot : Bool} {r s g : Nat} (h : KeepIt W v l fs bot r s) (hk : Keep (fun k => k ≠ g) W W') (hg : g < r) (hv : 0 < l.length → ∀ k, v.ownBlock = some k → k ≠ g) : KeepIt W' v l fs bot r s := by
  obtain ⟨h0, h1, h2, ⟨fv, h3, h4, h5⟩, h6, h7, h8⟩ := h
  refine ⟨hk.boxed (show r ≠ g by omega) h0, ?_, hk.boxed (show s ≠ g by omega) h2, ⟨fv, hk.boxed (show s + 1 ≠ g by omega) h3, h4.kept hk.size (fun _ b hl e => hk.block b (show b ≠ g by have := (h5 b e).1; omega) hl), fun k e => ⟨(h5 k e).1, Nat.lt_of_lt_of_le (h5 k e).2 hk.size⟩⟩, hk.boxed (show s + 2 ≠ g by omega) h6, h7, h8⟩
  obtain ⟨ao, cap, rfl, c1, c2, hr⟩ := h1
  refine ⟨ao, cap, rfl, c1, c2, fun hp => ?_⟩
  obtain ⟨b, off, rfl, hr2⟩ := hr hp
  exact ⟨b, off, rfl, hr2.kept hk.size (hk.block b (hv hp b rfl) hr2.1)⟩

theorem head_max (v : Value) (l : List Ver) (most : Int) (w : World) (hv : VersAt w v l) (hl : l.length ≤ 2932031007317) :
    Calls Try.prog 21 #[v, .int .i64 (if most < 0 then 0 else most)] w fun e w' => ∃ v', e = .returned v' ∧ VersAt w v' (heads l most) ∧ w = w' := by
  by_cases h0 : most < 0
  · have e : heads l most = heads l 0 := by rw [heads_none (by omega), heads_none (by omega)]
    rw [if_pos h0, e]
    exact head_any v l 0 w hv (by omega) hl
  · rw [if_neg h0]
    exact head_any v l most w hv (by omega) hl

set_option maxRecDepth 100000 in
set_option maxHeartbeats 800000 in
theorem mergeKeeps_any (v fv : Value) (l : List Ver) (fs : List Nat) (bot : Bool) (most : Int) (w : World) (hv : VersAt w v l) (hf : NumsAt w fv fs) (hl : l.length ≤ 2932031007317) (hfl : fs.length * 8 ≤ 140737488355328) (hm1 : -9223372036854775808 ≤ most) (hm2 : most ≤ 9223372036854775807) :
    Calls Try.prog 5 #[.agg #[v, fv, .bool bot, .int .i64 most]] w fun e w' => e = .returned (.bool true) ∧ Below w.heap.size w w' := by
  obtain ⟨ao, cap, rfl, c1, c2, hrow⟩ := id hv
  obtain ⟨fo, fcap, rfl, f1, f2, hfr⟩ := id hf
  obtain ⟨W1, hW1⟩ : ∃ W1, w.alloc (.cells #[.slice ao l.length cap, .slice fo fs.length fcap, .bool bot, .int .i64 most] 48) = W1 := ⟨_, rfl⟩
  have x0 : W1.cell? ⟨w.heap.size, 0, none⟩ = some (.slice ao l.length cap) := by rw [← hW1]; exact World.cell?_alloc_mark w _ _ (0, 0) 0
  have x1 : W1.cell? ⟨w.heap.size, 1, none⟩ = some (.slice fo fs.length fcap) := by rw [← hW1]; exact World.cell?_alloc_mark w _ _ (0, 0) 1
  have x2 : W1.cell? ⟨w.heap.size, 2, none⟩ = some (.bool bot) := by rw [← hW1]; exact World.cell?_alloc_mark w _ _ (0, 0) 2
  have x3 : W1.cell? ⟨w.heap.size, 3, none⟩ = some (.int .i64 most) := by rw [← hW1]; exact World.cell?_alloc_mark w _ _ (0, 0) 3
  have hb1 : Below w.heap.size w W1 := by rw [← hW1]; exact (Below.refl _ _).alloc (Nat.le_refl _) _
  have hz1 : W1.heap.size = w.heap.size + 1 := by rw [← hW1]; simp
  have hv1 := hv.below hb1
  have hf1 := hf.below hb1
  have hvb : 0 < l.length → ∀ k, (Value.slice ao l.length cap).ownBlock = some k → k < w.heap.size := by
    intro h0 k hk
    obtain ⟨b, off, rfl, hr⟩ := hrow h0
    have e : b = k := by simpa [Value.ownBlock] using hk
    have := hr.1
    omega
  have hmk := make_row (P := Try.prog) 46 23 (.int .u64 0) 8 Try.underlying46 info_u64 rfl fs.length (by omega) (by omega) W1
  rw [ncells_zero, hz1] at hmk
  obtain ⟨W2, hW2⟩ : ∃ W2, W1.alloc (.cells (ncells (List.replicate fs.length 0)).toArray 23) = W2 := ⟨_, rfl⟩
  have hG : W2.heap[w.heap.size + 1]? = some (.cells (ncells (List.replicate fs.length 0)).toArray 23 (0, 0)) := by rw [← hW2, ← hz1]; exact World.alloc_heap_new _ _
  have hb2 : Below (w.heap.size + 1) W1 W2 := by rw [← hW2, ← hz1]; exact (Below.refl _ _).alloc (Nat.le_refl _) _
  have hlt1 : w.heap.size < W1.heap.size := by omega
  have y1 := (hb2.cell (p := ⟨w.heap.size, 1, none⟩) (by simp)).trans x1
  rw [hW2] at hmk
  have hsz8 : (Try.prog.info? 23).map (·.size) = some 1 := by kernel_rfl
  have hfl1 : fs.length ≤ 9223372036854775807 := by omega
  have hfb0 : 0 < fs.length → ∀ k, (Value.slice fo fs.length fcap).ownBlock = some k → k < w.heap.size := by
    intro h0 k hk
    obtain ⟨b, off, rfl, hr⟩ := hfr h0
    have e : b = k := by simpa [Value.ownBlock] using hk
    have := hr.1
    omega
  clear hrow hfr hv hf
  go_enter Try.func5, Try.ntmps5
  go_wp2_with (with_reducible refine wpList_copy_splice rfl _ _ 46 46 rfl 23 Try.underlying46 hsz8 (some ⟨w.heap.size + 1, 0, none⟩) fo fs.length fs.length fs.length fcap rfl rfl (w.heap.size + 1) 0 (ncells (List.replicate fs.length 0)) 23 hG (ncells fs) ?c1 ?c2 ?c3 ?c4 (w.heap.size + 1) _ hb2 (Nat.le_refl _) ?c6)
  case c1 => simp [ncells]
  case c2 =>
    intro h0
    obtain ⟨_, _, e, _, _, hc⟩ := hf1
    cases e
    obtain ⟨b, off, rfl, hlt, hc⟩ := hc (by simpa [ncells] using h0)
    refine ⟨_, rfl, fun j u hj => ?_⟩
    have hjl : j < fs.length := by have := (List.getElem?_eq_some_iff.1 hj).1; rwa [ncells_length] at this
    rw [Go.WideShapes.add_plain, hb2.cell (p := ⟨b, off + j, none⟩) (show b < w.heap.size + 1 by omega), hc j hjl]
    have : (ncells fs)[j]? = some (Value.int .u64 (fs[j] : Int)) := by simp [ncells, hjl]
    rw [this] at hj; exact hj
  case c3 => simp [ncells]
  case c4 => intro u hu; obtain ⟨x, _, rfl⟩ := List.mem_map.1 hu; rfl
  case c6 =>
    intro W3 hg3 hb3
    have hN3 : NBlk W3 (w.heap.size + 1) fs := by
      have := hg3.out
      rwa [splice_all _ _ (by simp [ncells])] at this
    clear hg3 hG hb2 hmk y1
    have w0 := (hb3.cell (p := ⟨w.heap.size, 0, none⟩) (by simp)).trans x0
    have w1 := (hb3.cell (p := ⟨w.heap.size, 1, none⟩) (by simp)).trans x1
    have w2 := (hb3.cell (p := ⟨w.heap.size, 2, none⟩) (by simp)).trans x2
    have w3 := (hb3.cell (p := ⟨w.heap.size, 3, none⟩) (by simp)).trans x3
    have hz3 := hb3.size
    have hlt3 := hN3.lt
    obtain ⟨W4, hW4⟩ : ∃ W4, (W3.alloc (.cells #[.slice ao l.length cap] 22)).drew = W4 := ⟨_, rfl⟩
    have hb4 : Below W3.heap.size W3 W4 := by rw [← hW4]; exact ((Below.refl _ _).alloc (Nat.le_refl _) _).drew
    have hR4 : Boxed W4 W3.heap.size 22 (.slice ao l.length cap) := by rw [← hW4]; exact Boxed.new W3 _ _
    have hN4 := hN3.below hb4
    have hlt4 : w.heap.size + 1 < W4.heap.size := by have := hb4.size; omega
    have z0 := (hb4.cell (p := ⟨w.heap.size, 0, none⟩) (by simp; omega)).trans w0
    have z1 := (hb4.cell (p := ⟨w.heap.size, 1, none⟩) (by simp; omega)).trans w1
    have z2 := (hb4.cell (p := ⟨w.heap.size, 2, none⟩) (by simp; omega)).trans w2
    have z3 := (hb4.cell (p := ⟨w.heap.size, 3, none⟩) (by simp; omega)).trans w3
    have hK := Lib.hid (mkeep_func 34 #[.pointer (some ⟨W3.heap.size, 0, none⟩)] (.slice (some ⟨w.heap.size + 1, 0, none⟩) fs.length fs.length) fs bot W4 (hN4.nums hfl1) hfl)
    have hb13 : Below W1.heap.size W1 W3 := by rw [hz1]; exact hb3
    have hbw4 := (hb1.trans (hb13.mono hb1.size)).trans (hb4.mono (Nat.le_trans hb1.size hb13.size))
    have hv4 := (hv1.below hb13).below hb4
    have hf4 := (hf1.below hb13).below hb4
    clear x0 x1 x2 x3 hb1
    go_wp2_with fail
    go_region_held3 (fun w' => w'.cell? ⟨w.heap.size, 0, none⟩ = some (.slice ao l.length cap) ∧ w'.cell? ⟨w.heap.size, 2, none⟩ = some (.bool bot)) (first | exact ⟨z0, z2⟩ | exact ⟨k0, k2⟩ | go_keep)
      (first | (go_at_call 11; refine (row_any _ _ _ _).mono ?_; rintro e w' ⟨rfl, rfl⟩) | (go_at_call 18; refine hK.out.mono ?_; rintro e W5 ⟨rfl, hKA⟩; have k0 := (hKA.2.2.2.cell (p := ⟨w.heap.size, 0, none⟩) (by simp; omega)).trans z0; have k2 := (hKA.2.2.2.cell (p := ⟨w.heap.size, 2, none⟩) (by simp; omega)).trans z2))
    have hI5 := keepIt_new hR4 hv4 (fun h0 k e => by have := hvb h0 k e; omega) hKA
    have hb5 := hKA.2.2.2
    clear hKA hK hR4 k0 k2
    have hN5 := hN4.below hb5
    have hlt5 : w.heap.size + 1 < W5.heap.size := by have := hb5.size; omega
    have hbw5 := hbw4.trans (hb5.mono hbw4.size)
    have hf5 := hf4.below hb5
    have u0 := (hb5.cell (p := ⟨w.heap.size, 0, none⟩) (by simp; omega)).trans z0
    have u1 := (hb5.cell (p := ⟨w.heap.size, 1, none⟩) (by simp; omega)).trans z1
    have u2 := (hb5.cell (p := ⟨w.heap.size, 2, none⟩) (by simp; omega)).trans z2
    have u3 := (hb5.cell (p := ⟨w.heap.size, 3, none⟩) (by simp; omega)).trans z3
    have hrs : w.heap.size + 1 < W3.heap.size := hlt3
    have hfb : 0 < fs.length → ∀ k, (Value.slice fo fs.length fcap).ownBlock = some k → k < w.heap.size := hfb0
    generalize W4.heap.size = s at *
    generalize W3.heap.size = r at *
    clear hN4 hb4 z0 z1 z2 z3 hbw4 hv4 hf4 hb5 hW4 hb13 hb3 hN3 w0 w1 w2 w3 hz3 hlt3 hlt4 hW2 hW1 hv1 hf1 hz1 hlt1
    go_wp2_with fail
    go_loopw [5] (fun i wr => ∃ (k : Nat) (gs : List Nat), k ≤ fs.length ∧ i = .int .i64 k ∧ gs.length = fs.length ∧ NBlk wr (w.heap.size + 1) gs ∧ Keep (fun k => k ≠ w.heap.size + 1) W5 wr) (fun i _ => fs.length - (intOf i).toNat)
    case atStart => exact ⟨0, fs, by omega, rfl, rfl, hN5, Keep.refl _ _⟩
    case round =>
      obtain ⟨k, gs, hk, rfl, hgl, hNg, hkp⟩ := hrel
      by_cases h1 : k < fs.length
      · have a1 := hNg.cell (show k < gs.length by omega)
        have a2 := hNg.frozen k
        have hlg := hNg.lt
        go_wp2_with fail
        go_roundw
        case rel => exact ⟨k + 1, gs.set k 5, by omega, by go_num, by simpa using hgl, hNg.set k 5, hkp.setCell _ _ _ (fun h _ => h rfl)⟩
        case measure => simp [intOf]; omega
      · obtain rfl : k = fs.length := by omega
        have hI6 := hI5.keep hkp hrs (fun h0 k e => by have := hvb h0 k e; omega)
        have hf6 : NumsAt wr (.slice fo fs.length fcap) fs := hf5.kept hkp.size (fun h0 b hl e => hkp.block b (show b ≠ w.heap.size + 1 by have := hfb h0 b e; omega) hl)
        have q0 := hkp.cell (show w.heap.size ≠ w.heap.size + 1 by omega) u0
        have q1 := hkp.cell (show w.heap.size ≠ w.heap.size + 1 by omega) u1
        have q2 := hkp.cell (show w.heap.size ≠ w.heap.size + 1 by omega) u2
        have q3 := hkp.cell (show w.heap.size ≠ w.heap.size + 1 by omega) u3
        have hbw6 := hkp.below hbw5 (Nat.le_refl _) (fun k h => show k ≠ w.heap.size + 1 by omega)
        have hltg := hNg.lt
        clear hkp hI5 hf5 hN5 hbw5 u0 u1 u2 u3 hfb hlt5
        have P0 := Lib.hid (refKeep_any _ _ l fs bot wr hI6.2.1 hf6 hl)
        go_wp2_with fail
        refine P0.out.mono ?_
        rintro e Wk ⟨v6, rfl, hV6, hbk⟩
        have hIk := hI6.below hbk
        have hNk := hNg.below hbk
        have p2 := (hbk.cell (p := ⟨w.heap.size, 2, none⟩) (by simp; omega)).trans q2
        have p3 := (hbk.cell (p := ⟨w.heap.size, 3, none⟩) (by simp; omega)).trans q3
        have hbwk := hbw6.trans (hbk.mono hbw6.size)
        have hltk := hNk.lt
        clear hI6 hf6 q0 q1 q2 q3 hbw6 P0 hNg hbk hltg
        have hSk : Wk.cell? ⟨w.heap.size, 2, none⟩ = some (.bool bot) ∧ Wk.cell? ⟨w.heap.size, 3, none⟩ = some (.int .i64 most) ∧ Below Wk.heap.size Wk Wk := ⟨p2, p3, Below.refl _ _⟩
        have hSn : ∀ W' W'' : World, (W'.cell? ⟨w.heap.size, 2, none⟩ = some (.bool bot) ∧ W'.cell? ⟨w.heap.size, 3, none⟩ = some (.int .i64 most) ∧ Below Wk.heap.size Wk W') → Below W'.heap.size W' W'' → (W''.cell? ⟨w.heap.size, 2, none⟩ = some (.bool bot) ∧ W''.cell? ⟨w.heap.size, 3, none⟩ = some (.int .i64 most) ∧ Below Wk.heap.size Wk W'') := fun W' W'' ⟨a, b, c⟩ hb => ⟨(hb.cell (p := ⟨w.heap.size, 2, none⟩) (by have := c.size; simp; omega)).trans a, (hb.cell (p := ⟨w.heap.size, 3, none⟩) (by have := c.size; simp; omega)).trans b, c.trans (hb.mono c.size)⟩
        have hkl := Pl.keepOf_length fs bot l
        have P1 : Hid (∀ W' : World, (W'.cell? ⟨w.heap.size, 2, none⟩ = some (.bool bot) ∧ W'.cell? ⟨w.heap.size, 3, none⟩ = some (.int .i64 most) ∧ Below Wk.heap.size Wk W') → Calls Try.prog 20 #[.func (.func 40) #[] #[.pointer (some ⟨s, 0, none⟩), .pointer (some ⟨s + 1, 0, none⟩), .pointer (some ⟨s + 2, 0, none⟩)], .int .i64 most] W' fun e w' => ∃ v', e = .returned v' ∧ VersAt w' v' (heads (Pl.keepOf fs bot l) most) ∧ Below W'.heap.size W' w' ∧ (w'.cell? ⟨w.heap.size, 2, none⟩ = some (.bool bot) ∧ w'.cell? ⟨w.heap.size, 3, none⟩ = some (.int .i64 most) ∧ Below Wk.heap.size Wk w')) := Lib.hid (fun W' h => (keep_call (.slice ao l.length cap) l fs bot r s most W' hl (hIk.below h.2.2)).mono (fun e w' ⟨v', h1, h2, h3⟩ => ⟨v', h1, h2, h3, hSn _ _ h h3⟩))
        have P2 : Hid (∀ W' : World, (W'.cell? ⟨w.heap.size, 2, none⟩ = some (.bool bot) ∧ W'.cell? ⟨w.heap.size, 3, none⟩ = some (.int .i64 most) ∧ Below Wk.heap.size Wk W') → Calls Try.prog 21 #[v6, .int .i64 (if most < 0 then 0 else most)] W' fun e w' => ∃ v', e = .returned v' ∧ VersAt W' v' (heads (Pl.keepOf fs bot l) most) ∧ W' = w') := Lib.hid (fun W' h => head_max v6 (Pl.keepOf fs bot l) most W' (hV6.below h.2.2) (by omega))
        have P3 : Hid (∀ (W' : World) (a b : Value) (L : List Ver), (W'.cell? ⟨w.heap.size, 2, none⟩ = some (.bool bot) ∧ W'.cell? ⟨w.heap.size, 3, none⟩ = some (.int .i64 most) ∧ Below Wk.heap.size Wk W') → VersAt W' a L → VersAt W' b L → Calls Try.prog 17 #[a, b] W' fun e w' => e = .returned (.bool true) ∧ (w'.cell? ⟨w.heap.size, 2, none⟩ = some (.bool bot) ∧ w'.cell? ⟨w.heap.size, 3, none⟩ = some (.int .i64 most) ∧ Below Wk.heap.size Wk w')) := Lib.hid (fun W' a b L h ha hb => (same_same a b L W' ha hb).mono (fun e w' ⟨h1, h2⟩ => ⟨h1, hSn _ _ h (h2.below _)⟩))
        go_wp2_with fail
        go_cut [7] (fun v wx => v = .bool true ∧ ∃ Wx, Wx = wx ∧ Wx.cell? ⟨w.heap.size, 2, none⟩ = some (.bool bot) ∧ Wx.cell? ⟨w.heap.size, 3, none⟩ = some (.int .i64 most) ∧ Below Wk.heap.size Wk Wx)
        case first =>
          by_cases h0 : most < 0
          · have P2i := P2
            rw [if_pos h0] at P2
            go_region_held3 (fun w' => w'.cell? ⟨w.heap.size, 2, none⟩ = some (.bool bot) ∧ w'.cell? ⟨w.heap.size, 3, none⟩ = some (.int .i64 most) ∧ Below Wk.heap.size Wk w') (first | assumption | exact ⟨p2, p3, (Below.refl _ _).drew⟩ | exact hSw | exact ⟨hSw.1, hSw.2.1, hSw.2.2.drew⟩ | go_keep)
              (first | (go_at_call 20; with_reducible refine (P1.out _ (by assumption)).mono ?_; rintro e w1 ⟨v1, rfl, hL1, hb1, hSw⟩) | (go_at_call 21; (first | (with_reducible refine (P2.out _ (by assumption)).mono ?_) | go_must (with_reducible refine (P2i.out _ (by assumption)).mono ?_)); rintro e w1 ⟨v2, rfl, hL2, rfl⟩) | (go_at_call 17; with_reducible refine (P3.out _ _ _ (heads (Pl.keepOf fs bot l) most) (by assumption) (by first | exact hL1) (by first | exact hL2 | exact hL2.below hb1)).mono ?_; rintro e w1 ⟨rfl, hSw⟩))
            all_goals
              first
                | exact ⟨rfl, _, rfl, hSw⟩
                | (go_meet; exact ⟨rfl, _, rfl, hSw⟩)
                | (go_wp2_with fail; go_meet; exact ⟨rfl, _, rfl, hSw⟩)
          · have P2i := P2
            rw [if_neg h0] at P2
            go_region_held3 (fun w' => w'.cell? ⟨w.heap.size, 2, none⟩ = some (.bool bot) ∧ w'.cell? ⟨w.heap.size, 3, none⟩ = some (.int .i64 most) ∧ Below Wk.heap.size Wk w') (first | assumption | exact ⟨p2, p3, (Below.refl _ _).drew⟩ | exact hSw | exact ⟨hSw.1, hSw.2.1, hSw.2.2.drew⟩ | go_keep)
              (first | (go_at_call 20; with_reducible refine (P1.out _ (by assumption)).mono ?_; rintro e w1 ⟨v1, rfl, hL1, hb1, hSw⟩) | (go_at_call 21; (first | (with_reducible refine (P2.out _ (by assumption)).mono ?_) | go_must (with_reducible refine (P2i.out _ (by assumption)).mono ?_)); rintro e w1 ⟨v2, rfl, hL2, rfl⟩) | (go_at_call 17; with_reducible refine (P3.out _ _ _ (heads (Pl.keepOf fs bot l) most) (by assumption) (by first | exact hL1) (by first | exact hL2 | exact hL2.below hb1)).mono ?_; rintro e w1 ⟨rfl, hSw⟩))
            all_goals
              first
                | exact ⟨rfl, _, rfl, hSw⟩
                | (go_meet; exact ⟨rfl, _, rfl, hSw⟩)
                | (go_wp2_with fail; go_meet; exact ⟨rfl, _, rfl, hSw⟩)
        case rest =>
          obtain ⟨rfl, Wx, rfl, hSx⟩ := hcut
          have hz0 : heads (Pl.keepOf fs bot l) 0 = Pl.keepOf fs bot l := heads_none (by omega)
          have P4 := Lib.hid (keep_call (.slice ao l.length cap) l fs bot r s 0 Wx hl (hIk.below hSx.2.2))
          rw [hz0] at P4
          have hV6x := hV6.below hSx.2.2
          clear P1 P2 hIk hz0 hSk
          go_wp2_with fail
          refine P4.out.mono ?_
          rintro e Wy ⟨v5, rfl, hV5, hby⟩
          have hSy := hSn _ _ hSx hby
          have P5 := Lib.hid (P3.out Wy v5 v6 _ hSy hV5 (hV6x.below hby))
          clear hSx hby P4 hV6x
          go_wp2_with fail
          refine P5.out.mono ?_
          rintro e Wz ⟨rfl, hSz⟩
          have hNz := hNk.below hSz.2.2
          have hbwz := hbwk.trans (hSz.2.2.mono hbwk.size)
          have hNn := hNz.nums (by omega)
          rw [hgl] at hNn
          have P6 := Lib.hid (mkeep_nil (.slice (some ⟨w.heap.size + 1, 0, none⟩) fs.length fs.length) gs bot Wz hNn (by omega))
          have z2 := hSz.1
          clear P3 P5 hSn hSz hNk hbwk hNn hNz hSy
          go_wp2_with fail
          refine P6.out.mono ?_
          rintro e Wa ⟨rfl, hKA⟩
          have hba := hKA.2.2.2
          have P7 := Lib.hid (keepnil_call gs bot Wz Wa hKA)
          have hbwa := hbwz.trans (hba.mono hbwz.size)
          clear hKA P6 z2
          go_wp2_with fail
          refine P7.out.mono ?_
          rintro e Wb ⟨v9, rfl, hV9, hbb⟩
          obtain ⟨_, _, rfl, _, _, _⟩ := hV9
          have hbwb := hbwa.trans (hbb.mono hbwa.size)
          clear P7
          go_wp2_with fail
          go_ret
          exact ⟨ret_bool (by rfl), hbwb⟩
end Go.Proofs.Ytiogjebekadmcaa
