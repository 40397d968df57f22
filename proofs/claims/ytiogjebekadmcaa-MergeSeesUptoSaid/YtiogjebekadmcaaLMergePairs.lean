
/- Walk: the law MergePairs returns true. Condition: rows that the form's reach lets. -/
import Derived.Test.YtiogjebekadmcaaWPairs
import Derived.Test.YtiogjebekadmcaaWRefPairs
import Derived.Deep.RegionHeld3
namespace Go.Proofs.Ytiogjebekadmcaa
open Go.RowKit

/-- in W, the sequence that merge.Pairs makes of a row lies ready -/
def PairIt (W : World) (v : Value) (l : List Ver) (sq : Nat) (lo hi : ByteArray) (r s : Nat) : Prop :=
  Boxed W r 22 v ∧ VersAt W v l ∧ Boxed W s 30 (.func (.func 34) #[] #[.pointer (some ⟨r, 0, none⟩)]) ∧ Boxed W (s + 1) 23 (.int .u64 (sq : Int)) ∧ Boxed W (s + 2) 9 (.string lo) ∧ Boxed W (s + 3) 9 (.string hi) ∧
    (0 < l.length → ∀ k, v.ownBlock = some k → k < r) ∧ r < s
theorem PairIt.below {W W' : World} {v : Value} {l : List Ver} {sq : Nat} {lo hi : ByteArray} {r s : Nat} (h : PairIt W v l sq lo hi r s) (hb : Below W.heap.size W W') : PairIt W' v l sq lo hi r s := by
  obtain ⟨h0, h1, h2, h3, h4, h5, h6⟩ := h
  exact ⟨(hb.block _ h0.lt).trans h0, h1.below hb, (hb.block _ h2.lt).trans h2, (hb.block _ h3.lt).trans h3, (hb.block _ h4.lt).trans h4, (hb.block _ h5.lt).trans h5, h6⟩
theorem pairIt_new (W0 : World) (ao : Option Addr) (len cap : Nat) (l : List Ver) (sq : Nat) (lo hi : ByteArray) (z : Nat) (hz : W0.heap.size = z) (hv : VersAt W0 (.slice ao len cap) l) (hblk : 0 < l.length → ∀ k, (Value.slice ao len cap).ownBlock = some k → k < z) :
    PairIt ((((((W0.alloc (.cells #[.slice ao len cap] 22)).alloc (.cells #[.func (.func 34) #[] #[.pointer (some ⟨z, 0, none⟩)]] 30)).alloc (.cells #[.int .u64 (sq : Int)] 23)).alloc (.cells #[.string lo] 9)).alloc (.cells #[.string hi] 9)).drew) (.slice ao len cap) l sq lo hi z (z + 1) ∧ Below W0.heap.size W0 ((((((W0.alloc (.cells #[.slice ao len cap] 22)).alloc (.cells #[.func (.func 34) #[] #[.pointer (some ⟨z, 0, none⟩)]] 30)).alloc (.cells #[.int .u64 (sq : Int)] 23)).alloc (.cells #[.string lo] 9)).alloc (.cells #[.string hi] 9)).drew) := by
  subst hz
  have hb : Below W0.heap.size W0 ((((((W0.alloc (.cells #[.slice ao len cap] 22)).alloc (.cells #[.func (.func 34) #[] #[.pointer (some ⟨W0.heap.size, 0, none⟩)]] 30)).alloc (.cells #[.int .u64 (sq : Int)] 23)).alloc (.cells #[.string lo] 9)).alloc (.cells #[.string hi] 9)).drew) := ((((((Below.refl W0.heap.size W0).alloc (Nat.le_refl _) _).alloc (by simp) _).alloc (by simp; omega) _).alloc (by simp; omega) _).alloc (by simp; omega) _).drew
  have bR := (((((Boxed.new W0 22 (.slice ao len cap)).alloc (.cells #[.func (.func 34) #[] #[.pointer (some ⟨W0.heap.size, 0, none⟩)]] 30)).alloc (.cells #[.int .u64 (sq : Int)] 23)).alloc (.cells #[.string lo] 9)).alloc (.cells #[.string hi] 9))
  have bS := ((((Boxed.new (W0.alloc (.cells #[.slice ao len cap] 22)) 30 (.func (.func 34) #[] #[.pointer (some ⟨W0.heap.size, 0, none⟩)])).alloc (.cells #[.int .u64 (sq : Int)] 23)).alloc (.cells #[.string lo] 9)).alloc (.cells #[.string hi] 9))
  have bQ := (((Boxed.new ((W0.alloc (.cells #[.slice ao len cap] 22)).alloc (.cells #[.func (.func 34) #[] #[.pointer (some ⟨W0.heap.size, 0, none⟩)]] 30)) 23 (.int .u64 (sq : Int))).alloc (.cells #[.string lo] 9)).alloc (.cells #[.string hi] 9))
  have bL := ((Boxed.new (((W0.alloc (.cells #[.slice ao len cap] 22)).alloc (.cells #[.func (.func 34) #[] #[.pointer (some ⟨W0.heap.size, 0, none⟩)]] 30)).alloc (.cells #[.int .u64 (sq : Int)] 23)) 9 (.string lo)).alloc (.cells #[.string hi] 9))
  have bH := (Boxed.new ((((W0.alloc (.cells #[.slice ao len cap] 22)).alloc (.cells #[.func (.func 34) #[] #[.pointer (some ⟨W0.heap.size, 0, none⟩)]] 30)).alloc (.cells #[.int .u64 (sq : Int)] 23)).alloc (.cells #[.string lo] 9)) 9 (.string hi))
  simp only [World.size_alloc] at bS bQ bL bH
  exact ⟨⟨bR, hv.below hb, bS, bQ, bL, bH, hblk, by omega⟩, hb⟩
theorem pairs_call (v : Value) (l : List Ver) (sq : Nat) (lo hi : ByteArray) (r s : Nat) (most : Int) (W : World) (hl : l.length ≤ 2932031007317) (h : PairIt W v l sq lo hi r s) :
    Calls Try.prog 13 #[.func (.func 33) #[] #[.pointer (some ⟨s, 0, none⟩), .pointer (some ⟨s + 3, 0, none⟩), .pointer (some ⟨s + 2, 0, none⟩), .pointer (some ⟨s + 1, 0, none⟩)], .int .i64 most] W fun e w' =>
      ∃ v', e = .returned v' ∧ PairsAt w' v' (heads (Pl.pairsOf sq lo hi l) most) ∧ Below W.heap.size W w' := by
  obtain ⟨h0, h1, h2, h3, h4, h5, h6, h7⟩ := h
  have g3 := h5.lt
  refine Calls.mono (callsIn_wide.1 (pairs_in 9 (by omega) 33 _ most W (fun k => (k = r ∨ (0 < l.length ∧ v.ownBlock = some k)) ∨ (k = s ∨ k = s + 1 ∨ k = s + 2 ∨ k = s + 3)) (Pl.pairsOf sq lo hi l) l.length ?_ (by omega) (enters_of Try.func33 (by kernel_rfl) rfl) ?_)) ?_
  · rintro k ((rfl | h) | (rfl | rfl | rfl | rfl))
    · omega
    · have := h6 h.1 k h.2; omega
    · omega
    · omega
    · omega
    · omega
  · intro W' hk
    have hv' : VersAt W' v l := by
      obtain ⟨ao, cap, rfl, c1, c2, h⟩ := h1
      refine ⟨ao, cap, rfl, c1, c2, fun hp => ?_⟩
      obtain ⟨b, off, rfl, hr⟩ := h hp
      exact ⟨b, off, rfl, hr.kept hk.size (hk.block b (.inl (.inr ⟨hp, rfl⟩)) hr.1)⟩
    have hr' := hk.boxed (.inl (.inl rfl)) h0
    refine pairs1_seq 8 (by omega) r s (s + 1) (s + 2) (s + 3) v l sq lo hi W' (fun k => k = r ∨ (0 < l.length ∧ v.ownBlock = some k)) (fun k => k = s ∨ k = s + 1 ∨ k = s + 2 ∨ k = s + 3) (by omega) hr' hv' (fun h0 _ h => .inr ⟨h0, h⟩) (.inl rfl) rfl ?_ ?_
      (hk.boxed (.inr (.inl rfl)) h2) (hk.boxed (.inr (.inr (.inl rfl))) h3) (hk.boxed (.inr (.inr (.inr (.inl rfl)))) h4) (hk.boxed (.inr (.inr (.inr (.inr rfl)))) h5)
    · rintro k hU (rfl | h)
      · rcases hU with h | h | h | h <;> omega
      · have := h6 h.1 k h.2
        rcases hU with h | h | h | h <;> omega
    · rintro k (rfl | h)
      · exact hr'.lt
      · have := h6 h.1 k h.2; have := hr'.lt; omega
  · rintro e w' ⟨v', he, hr, hb⟩
    exact ⟨v', he, own_pairs hr, hb⟩

theorem heads_take {α : Type} (xs : List α) (most : Int) : ∃ m : Nat, m ≤ xs.length ∧ heads xs most = xs.take m ∧ (0 < most → min (xs.length : Int) most = (m : Int)) ∧ (most ≤ 0 → m = xs.length) := by
  unfold heads
  by_cases h : 0 < most ∧ most ≤ xs.length
  · rw [if_pos h]
    exact ⟨most.toNat, by omega, rfl, fun _ => by omega, fun h1 => by omega⟩
  · rw [if_neg h]
    exact ⟨xs.length, Nat.le_refl _, by simp, fun _ => by omega, fun _ => rfl⟩
theorem heads_zero {α : Type} (xs : List α) : heads xs 0 = xs := heads_none (by omega)
theorem cut_length (hi : ByteArray) (l : List Ver) : (Pl.cutHi hi l).length ≤ l.length := (List.takeWhile_prefix _).length_le
theorem pairsOf_length (sq : Nat) (lo hi : ByteArray) (l : List Ver) : (Pl.pairsOf sq lo hi l).length ≤ l.length := Nat.le_trans (Pl.prun_length _ _) (cut_length hi l)

set_option maxRecDepth 100000 in
set_option maxHeartbeats 2000000 in
theorem mergePairs_any (v : Value) (l : List Ver) (sq : Nat) (lo hi : ByteArray) (most : Int) (w : World) (hv : VersAt w v l) (hl : l.length ≤ 2932031007317) (hm1 : -9223372036854775808 ≤ most) (hm2 : most ≤ 9223372036854775807) :
    Calls Try.prog 3 #[.agg #[v, .int .u64 (sq : Int), .string lo, .string hi, .int .i64 most]] w fun e w' => e = .returned (.bool true) ∧ Below w.heap.size w w' := by
  obtain ⟨ao, cap, rfl, c1, c2, hrow⟩ := hv
  have f0 : (w.alloc (.cells #[.slice ao l.length cap, .int .u64 (sq : Int), .string lo, .string hi, .int .i64 most] 25)).cell? ⟨w.heap.size, 0, none⟩ = some (.slice ao l.length cap) := World.cell?_alloc_mark w _ _ (0, 0) 0
  have f1 : (w.alloc (.cells #[.slice ao l.length cap, .int .u64 (sq : Int), .string lo, .string hi, .int .i64 most] 25)).cell? ⟨w.heap.size, 1, none⟩ = some (.int .u64 (sq : Int)) := World.cell?_alloc_mark w _ _ (0, 0) 1
  have f2 : (w.alloc (.cells #[.slice ao l.length cap, .int .u64 (sq : Int), .string lo, .string hi, .int .i64 most] 25)).cell? ⟨w.heap.size, 2, none⟩ = some (.string lo) := World.cell?_alloc_mark w _ _ (0, 0) 2
  have f3 : (w.alloc (.cells #[.slice ao l.length cap, .int .u64 (sq : Int), .string lo, .string hi, .int .i64 most] 25)).cell? ⟨w.heap.size, 3, none⟩ = some (.string hi) := World.cell?_alloc_mark w _ _ (0, 0) 3
  have f4 : (w.alloc (.cells #[.slice ao l.length cap, .int .u64 (sq : Int), .string lo, .string hi, .int .i64 most] 25)).cell? ⟨w.heap.size, 4, none⟩ = some (.int .i64 most) := World.cell?_alloc_mark w _ _ (0, 0) 4
  have hb0 : Below w.heap.size w (w.alloc (.cells #[.slice ao l.length cap, .int .u64 (sq : Int), .string lo, .string hi, .int .i64 most] 25)) := (Below.refl _ _).alloc (Nat.le_refl _) _
  have hz0 : (w.alloc (.cells #[.slice ao l.length cap, .int .u64 (sq : Int), .string lo, .string hi, .int .i64 most] 25)).heap.size = w.heap.size + 1 := by simp
  have hv0 : VersAt (w.alloc (.cells #[.slice ao l.length cap, .int .u64 (sq : Int), .string lo, .string hi, .int .i64 most] 25)) (.slice ao l.length cap) l := VersAt.below (W := w) ⟨ao, cap, rfl, c1, c2, hrow⟩ hb0
  have hblk : 0 < l.length → ∀ k, (Value.slice ao l.length cap).ownBlock = some k → k < w.heap.size + 1 := by
    intro h0 k hk
    obtain ⟨b, off, rfl, hr⟩ := hrow h0
    have e : b = k := by simpa [Value.ownBlock] using hk
    have := hr.1
    omega
  go_enter Try.func3, Try.ntmps3
  go_wp2_with fail
  generalize (w.alloc (.cells #[.slice ao l.length cap, .int .u64 (sq : Int), .string lo, .string hi, .int .i64 most] 25)) = W0 at f0 f1 f2 f3 f4 hb0 hz0 hv0 ⊢
  have hlt0 : w.heap.size < W0.heap.size := by omega
  have hk5 : ∀ (o1 o2 o3 o4 o5 : Obj) (off : Nat) (u : Value), W0.cell? ⟨w.heap.size, off, none⟩ = some u → (((((W0.alloc o1).alloc o2).alloc o3).alloc o4).alloc o5).drew.cell? ⟨w.heap.size, off, none⟩ = some u := fun o1 o2 o3 o4 o5 off u h =>
    (((((((Below.refl W0.heap.size W0).alloc (Nat.le_refl _) o1).alloc (by simp) o2).alloc (by simp; omega) o3).alloc (by simp; omega) o4).alloc (by simp; omega) o5).cell (p := ⟨w.heap.size, off, none⟩) hlt0).trans h
  replace hk5 := Lib.hid hk5
  go_region_held3 (fun w' => w'.cell? ⟨w.heap.size, 0, none⟩ = some (.slice ao l.length cap) ∧ w'.cell? ⟨w.heap.size, 1, none⟩ = some (.int .u64 (sq : Int)) ∧ w'.cell? ⟨w.heap.size, 2, none⟩ = some (.string lo) ∧ w'.cell? ⟨w.heap.size, 3, none⟩ = some (.string hi)) (first | exact ⟨hk5.out _ _ _ _ _ _ _ f0, hk5.out _ _ _ _ _ _ _ f1, hk5.out _ _ _ _ _ _ _ f2, hk5.out _ _ _ _ _ _ _ f3⟩ | go_keep)
    (first | (go_at_call 11; refine (row_any _ _ _ _).mono ?_; rintro e w' ⟨rfl, rfl⟩) | (go_at_call 10; refine (mpairs_any _ _ _ _ _ _).mono ?_; rintro e w' ⟨rfl, rfl⟩))
  obtain ⟨it, hbF⟩ := pairIt_new W0 ao l.length cap l sq lo hi (w.heap.size + 1) hz0 hv0 hblk
  clear hk5
  generalize (((((W0.alloc (.cells #[.slice ao l.length cap] 22)).alloc (.cells #[.func (.func 34) #[] #[.pointer (some ⟨w.heap.size + 1, 0, none⟩)]] 30)).alloc (.cells #[.int .u64 (sq : Int)] 23)).alloc (.cells #[.string lo] 9)).alloc (.cells #[.string hi] 9)).drew = WF at it hbF ⊢
  have hF : ∀ {o : Nat} {u : Value}, W0.cell? ⟨w.heap.size, o, none⟩ = some u → WF.cell? ⟨w.heap.size, o, none⟩ = some u := fun {o u} h => (hbF.cell (p := ⟨w.heap.size, o, none⟩) hlt0).trans h
  replace f0 := hF f0
  replace f1 := hF f1
  replace f2 := hF f2
  replace f3 := hF f3
  replace f4 := hF f4
  replace hb0 := hb0.trans (hbF.mono hb0.size)
  replace hlt0 : w.heap.size < WF.heap.size := by have := hbF.size; omega
  clear hF hbF hz0 hv0 hblk
  have P1 := Lib.hid (refPairs_any (.slice ao l.length cap) l sq lo hi WF it.2.1 hl)
  go_wp2_with fail
  refine P1.out.mono ?_
  rintro e W2 ⟨v2, rfl, hw2, hb2⟩
  have it2 := it.below hb2
  replace f0 := (hb2.cell (p := ⟨w.heap.size, 0, none⟩) hlt0).trans f0
  replace f1 := (hb2.cell (p := ⟨w.heap.size, 1, none⟩) hlt0).trans f1
  replace f2 := (hb2.cell (p := ⟨w.heap.size, 2, none⟩) hlt0).trans f2
  replace f3 := (hb2.cell (p := ⟨w.heap.size, 3, none⟩) hlt0).trans f3
  replace f4 := (hb2.cell (p := ⟨w.heap.size, 4, none⟩) hlt0).trans f4
  replace hb0 := hb0.trans (hb2.mono hb0.size)
  replace hlt0 : w.heap.size < W2.heap.size := by have := hb2.size; omega
  clear hb2 it P1
  have P2 := Lib.hid (pairs_call _ l sq lo hi (w.heap.size + 1) (w.heap.size + 1 + 1) most W2 hl it2)
  have hpl := pairsOf_length sq lo hi l
  obtain ⟨m, hm, hhd, hmin, hmz⟩ := heads_take (Pl.pairsOf sq lo hi l) most
  have hz := heads_zero (Pl.pairsOf sq lo hi l)
  rw [hhd] at P2
  go_wp2_with fail
  refine P2.out.mono ?_
  rintro e W3 ⟨v3, rfl, hw3, hb3⟩
  obtain ⟨ao2, cap2, rfl, hlc, hcut⟩ := hw2.take m hm
  have it3 := it2.below hb3
  have hw2' := hw2.below hb3
  have hcut3 := hcut.below hb3
  have P3 := Lib.hid (samePairs_same v3 _ ((Pl.pairsOf sq lo hi l).take m) W3 hw3 hcut3 (by rw [List.length_take]; omega))
  have hwt : PairsAt W3 (.slice ao2 (Pl.pairsOf sq lo hi l).length cap2) (Pl.pairsOf sq lo hi l) := hw2'
  replace f4 := (hb3.cell (p := ⟨w.heap.size, 4, none⟩) hlt0).trans f4
  replace hb0 := hb0.trans (hb3.mono hb0.size)
  replace hlt0 : w.heap.size < W3.heap.size := by have := hb3.size; omega
  clear hb3 it2 P2 hcut hcut3 hw2 hw2' f0 f1 f2 f3 hhd
  have hmc : m ≤ cap2 := by omega
  generalize hN : (Pl.pairsOf sq lo hi l).length = N at *
  by_cases hmo : 0 < most
  · have hmin' := Lib.hid (hmin hmo)
    clear hmin hmz
    go_wp2_with fail
    · obtain rfl : m = most.toNat := by have := hmin'.out; omega
      refine P3.out.mono ?_
      rintro e W4 ⟨rfl, n4, rfl⟩
      have P4 := Lib.hid (pairs_call _ l sq lo hi (w.heap.size + 1) (w.heap.size + 1 + 1) 0 (W3.drewN n4) hl (it3.below (((Q.refl W3).drewN n4).below _)))
      rw [hz] at P4
      go_wp2_with fail
      refine P4.out.mono ?_
      rintro e W5 ⟨v5, rfl, hw5, hb5⟩
      have hb35 : Below W3.heap.size W3 W5 := (((Q.refl W3).drewN n4).below _).trans hb5
      have P5 := Lib.hid (samePairs_same v5 _ (Pl.pairsOf sq lo hi l) W5 hw5 (hwt.below hb35) (by omega))
      go_wp2_with fail
      refine P5.out.mono ?_
      rintro e W6 ⟨rfl, n6, rfl⟩
      go_wp2_with fail
      go_ret
      exact ⟨ret_bool (by rfl), below_drewN (hb0.trans (hb35.mono hb0.size)) n6⟩
    · obtain rfl : m = N := by have := hmin'.out; omega
      refine P3.out.mono ?_
      rintro e W4 ⟨rfl, n4, rfl⟩
      have P4 := Lib.hid (pairs_call _ l sq lo hi (w.heap.size + 1) (w.heap.size + 1 + 1) 0 (W3.drewN n4) hl (it3.below (((Q.refl W3).drewN n4).below _)))
      rw [hz] at P4
      go_wp2_with fail
      refine P4.out.mono ?_
      rintro e W5 ⟨v5, rfl, hw5, hb5⟩
      have hb35 : Below W3.heap.size W3 W5 := (((Q.refl W3).drewN n4).below _).trans hb5
      have P5 := Lib.hid (samePairs_same v5 _ (Pl.pairsOf sq lo hi l) W5 hw5 (hwt.below hb35) (by omega))
      go_wp2_with fail
      refine P5.out.mono ?_
      rintro e W6 ⟨rfl, n6, rfl⟩
      go_wp2_with fail
      go_ret
      exact ⟨ret_bool (by rfl), below_drewN (hb0.trans (hb35.mono hb0.size)) n6⟩
  · obtain rfl : m = N := hmz (by omega)
    clear hmin hmz
    go_wp2_with fail
    refine P3.out.mono ?_
    rintro e W4 ⟨rfl, n4, rfl⟩
    have P4 := Lib.hid (pairs_call _ l sq lo hi (w.heap.size + 1) (w.heap.size + 1 + 1) 0 (W3.drewN n4) hl (it3.below (((Q.refl W3).drewN n4).below _)))
    rw [hz] at P4
    go_wp2_with fail
    refine P4.out.mono ?_
    rintro e W5 ⟨v5, rfl, hw5, hb5⟩
    have hb35 : Below W3.heap.size W3 W5 := (((Q.refl W3).drewN n4).below _).trans hb5
    have P5 := Lib.hid (samePairs_same v5 _ (Pl.pairsOf sq lo hi l) W5 hw5 (hwt.below hb35) (by omega))
    go_wp2_with fail
    refine P5.out.mono ?_
    rintro e W6 ⟨rfl, n6, rfl⟩
    go_wp2_with fail
    go_ret
    exact ⟨ret_bool (by rfl), below_drewN (hb0.trans (hb35.mono hb0.size)) n6⟩
end Go.Proofs.Ytiogjebekadmcaa
