
/- Walk: the law MergeRows returns true. Condition: rows whose bytes fit, together too. -/
import Derived.Test.YtiogjebekadmcaaWRows2
import Derived.Laws.EntriesVeiled
namespace Go.Proofs.Ytiogjebekadmcaa
open Go.RowKit

theorem head_max2 (v : Value) (l : List Ver) (most : Int) (w : World) (hv : VersAt w v l) (hl : l.length ≤ 2932031007317) :
    Calls Try.prog 21 #[v, .int .i64 (if most < 0 then 0 else most)] w fun e w' => ∃ v', e = .returned v' ∧ VersAt w v' (heads l most) ∧ w = w' := by
  by_cases h0 : most < 0
  · have e : heads l most = heads l 0 := by rw [heads_none (by omega), heads_none (by omega)]
    rw [if_pos h0, e]
    exact head_any v l 0 w hv (by omega) hl
  · rw [if_neg h0]
    exact head_any v l most w hv (by omega) hl
/-- a block of n sequences -/
def SBlk (W : World) (g n : Nat) : Prop := ∃ cs : Array Value, W.heap[g]? = some (.cells cs 30 (0, 0)) ∧ ∀ k, k < n → cs[k]? = some .nilFunc ∨ ∃ lb, cs[k]? = some (.func (.func 34) #[] lb)
theorem SBlk.cell {W : World} {g n k : Nat} (h : SBlk W g n) (hk : k < n) : W.cell? ⟨g, k, none⟩ = some .nilFunc ∨ ∃ lb, W.cell? ⟨g, k, none⟩ = some (.func (.func 34) #[] lb) := by
  obtain ⟨cs, h1, h2⟩ := h
  have e : W.cell? ⟨g, k, none⟩ = cs[k]? := by simp [World.cell?, h1]
  rw [e]
  exact h2 k hk
theorem SBlk.frozen {W : World} {g n : Nat} (h : SBlk W g n) (k : Nat) : W.frozen? ⟨g, k, none⟩ = false := by
  obtain ⟨cs, h1, _⟩ := h; simp [World.frozen?, h1]
theorem SBlk.set {W : World} {g n : Nat} (h : SBlk W g n) (k : Nat) (hk : k < n) : SBlk (W.setCell ⟨g, k, none⟩ .nilFunc) g n := by
  obtain ⟨cs, h1, h2⟩ := h
  refine ⟨_, heap_set h1 k .nilFunc, fun j hj => ?_⟩
  by_cases e : j = k
  · subst e
    left
    have hl : j < cs.size := by
      rcases h2 j hj with h | ⟨lb, h⟩
      · exact (Array.getElem?_eq_some_iff.1 h).1
      · exact (Array.getElem?_eq_some_iff.1 h).1
    simp [hl]
  · have : (cs.setIfInBounds k .nilFunc)[j]? = cs[j]? := by simp [show k ≠ j from fun h => e h.symm]
    rw [this]
    exact h2 j hj
theorem sblk_own {W w : World} {base : Nat} {g n cap : Nat} {gs : List Value} {ls : List (List Ver)} (h : W.ownsRow base 30 1 (.slice (some ⟨g, 0, none⟩) n cap) n gs) (hf : FunsR w W gs ls) : SBlk W g n := by
  have hl := h.1
  rcases h.2 with ⟨e, _⟩ | ⟨g', cap', cur, e, h1, h2, h3, h4, h5, h6⟩
  · cases e
  · cases e
    refine ⟨_, h2, fun k hk => ?_⟩
    have hc := h.cellAt k (by omega)
    simp [World.cell?, h2] at hc
    have hx : k < gs.length := by omega
    rw [List.getElem?_eq_getElem hx] at hc
    rcases hf.at' k hx (by have := hf.len; omega) with ⟨e, _⟩ | ⟨r, v, e, _⟩
    · left; rw [← e]; simpa using hc
    · right; exact ⟨_, by rw [← e]; simpa using hc⟩

set_option maxRecDepth 100000 in
set_option maxHeartbeats 800000 in
theorem mergeRows_any (v : Value) (ls : List (List Ver)) (most : Int) (w : World) (hv : LsAt w v ls) (hl : ∀ l ∈ ls, l.length ≤ 2932031007317) (hll : ls.length ≤ 2932031007317) (ht : Pl.total ls ≤ 2932031007317) (hm1 : -9223372036854775808 ≤ most) (hm2 : most ≤ 9223372036854775807) :
    Calls Try.prog 6 #[v, .int .i64 most] w fun e w' => e = .returned (.bool true) ∧ Below w.heap.size w w' := by
  have P0 := Lib.hid (rows_any v ls w hv hl hll)
  have hml := Pl.mergeOf_length ls
  obtain ⟨ao, cap, rfl, _⟩ := id hv
  go_enter Try.func6, Try.ntmps6
  go_wp2_with fail
  refine P0.out.mono ?_
  rintro e W1 ⟨o, gs, rfl, ho1, hf1, hb1⟩
  have hgl := hf1.len
  have P1 := Lib.hid (mmerge_any w.heap.size o gs W1 ho1 hf1.one (by omega))
  clear P0
  go_wp2_with fail
  refine P1.out.mono ?_
  rintro e W2 ⟨rfl, u, hbx, ho2, hb2⟩
  have ho1' := (Keep.of_below hb2 (fun k (_ : True) h => h)).ownsRow ho1 (fun _ _ => trivial)
  have hf2 := hf1.below hb2
  have hbw2 := hb1.trans (hb2.mono hb1.size)
  have hz1 := hb1.size
  have hr1 : ∀ k, o.ownBlock = some k → w.heap.size ≤ k ∧ k < W1.heap.size := fun k e => ho1.lt k e
  replace hgl := Lib.hid hgl
  have hgn : ls.length = gs.length := hgl.out.symm
  have hso : ∃ (ao1 : Option Addr) (cap1 : Nat), o = .slice ao1 ls.length cap1 ∧ (0 < ls.length → ∃ g, ao1 = some ⟨g, 0, none⟩ ∧ SBlk W2 g ls.length) := by
    rcases own_at ho1' with ⟨h0, e⟩ | ⟨g, cap1, e, _⟩
    · exact ⟨none, 0, by rw [e, hgn, h0], fun h => by omega⟩
    · exact ⟨_, cap1, by rw [e, hgn], fun _ => ⟨g, rfl, by rw [hgn]; exact sblk_own (e ▸ ho1') hf2⟩⟩
  have hot := row_typed ho1'
  clear P1 ho1 hf1 hb1 hb2 ho1'
  generalize W1.heap.size = s at *
  obtain ⟨ao1, cap1, rfl, hsb⟩ := hso
  replace hgn := Lib.hid hgn
  go_wp2_with fail
  go_loopw [7] (fun i wr => ∃ k : Nat, k ≤ ls.length ∧ i = .int .i64 k ∧ Keep (fun b => (Value.slice ao1 ls.length cap1).ownBlock ≠ some b) W2 wr ∧ (0 < ls.length → ∃ g, ao1 = some ⟨g, 0, none⟩ ∧ SBlk wr g ls.length)) (fun i _ => ls.length - (intOf i).toNat)
  case atStart => exact ⟨0, by omega, rfl, Keep.refl _ _, hsb⟩
  case round =>
    obtain ⟨k, hk, rfl, hkp, hsb'⟩ := hrel
    by_cases h1 : k < ls.length
    · obtain ⟨g, rfl, hS⟩ := hsb' (by omega)
      have a2 := hS.frozen k
      have hg := hS.set k h1
      clear hsb hsb'
      rcases hS.cell h1 with a1 | ⟨lb, a1⟩
      all_goals
        go_wp2_with fail
        go_roundw
        case rel => exact ⟨k + 1, by omega, by go_num, hkp.setCell _ _ _ (fun h _ => h rfl), fun _ => ⟨g, rfl, hg⟩⟩
        case measure => simp [intOf]; omega
    · obtain rfl : k = ls.length := by omega
      have hbw3 : Below w.heap.size w wr := hkp.below hbw2 (Nat.le_refl _) (fun k h e => by have := (hr1 k e).1; omega)
      have hbx3 : Boxed wr s 54 u := hkp.boxed (fun e => by have := (hr1 s e).2; omega) hbx
      have ho3 := hkp.ownsRow ho2 (fun k e e2 => by have := (hr1 k e2).2; have := (ho2.lt k e).1; omega)
      have hf3 := hf2.kept (W' := wr) (fun b cs z e => hkp.block b (fun e2 => by
        obtain ⟨cs', z', h'⟩ := hot b e2
        exact typed_ne e h' (by decide) rfl) (Array.getElem?_eq_some_iff.1 e).1)
      have hF := hf3.toAt hbw3 ho3
      have hv3 := hv.below hbw3
      clear hkp hsb' hsb ho2 hf2 hbx ho3 hf3 hot hbw2 hv
      have P2 := Lib.hid (refMerge_any _ ls wr hv3 hl hll ht)
      clear hv3
      go_wp2_with fail
      refine P2.out.mono ?_
      rintro e Wk ⟨v6, rfl, hV6, hbk⟩
      have hbxk := boxed_below hbk hbx3
      have hFk := hF.below hbk
      have hbwk := hbw3.trans (hbk.mono hbw3.size)
      have P3 := Lib.hid (merge_call s u ls most Wk hbxk hFk hl hll ht)
      clear P2 hF hbx3 hbk hbw3
      go_wp2_with fail
      refine P3.out.mono ?_
      rintro e Wx ⟨v5, rfl, hV5, hb5⟩
      have hbxx := boxed_below hb5 hbxk
      have hFx := hFk.below hb5
      have hbwx := hbwk.trans (hb5.mono hbwk.size)
      have hV6x := hV6.below hb5
      have hz0 : heads (Pl.mergeOf ls) 0 = Pl.mergeOf ls := heads_none (by omega)
      have P4 := Lib.hid (head_max2 v6 (Pl.mergeOf ls) most Wx hV6x (by omega))
      have P4' := P4
      clear P3 hbxk hFk hb5 hbwk hV6
      by_cases h0 : most < 0
      · rw [if_pos h0] at P4'
        have P4i := P4
        go_wp2_with fail
        first
          | (with_reducible refine P4.out.mono ?_)
          | (with_reducible refine P4'.out.mono ?_)
        rintro e Wh ⟨v7, rfl, hV7, rfl⟩
        have P5 := Lib.hid (same_same v5 v7 (heads (Pl.mergeOf ls) most) Wx hV5 hV7)
        go_wp2_with fail
        refine P5.out.mono ?_
        rintro e Wy ⟨rfl, hqy⟩
        have hby := hqy.below Wx.heap.size
        have P6 := Lib.hid (merge_call s u ls 0 Wy (boxed_below hby hbxx) (hFx.below hby) hl hll ht)
        rw [hz0] at P6
        have hV6y := hV6x.below hby
        have hbwy := hbwx.trans (hby.mono hbwx.size)
        clear P4 P4' P4i P5 hbxx hFx
        go_wp2_with fail
        refine P6.out.mono ?_
        rintro e Wz ⟨v8, rfl, hV8, hbz⟩
        have P7 := Lib.hid (same_same v8 v6 (Pl.mergeOf ls) Wz hV8 (hV6y.below hbz))
        have hbwz := hbwy.trans (hbz.mono hbwy.size)
        clear P6
        go_wp2_with fail
        refine P7.out.mono ?_
        rintro e We ⟨rfl, hqe⟩
        go_wp2_with fail
        go_ret
        exact ⟨ret_bool (by rfl), hbwz.trans ((hqe.below _).mono hbwz.size)⟩
      · rw [if_neg h0] at P4'
        have P4i := P4
        go_wp2_with fail
        first
          | (with_reducible refine P4.out.mono ?_)
          | (with_reducible refine P4'.out.mono ?_)
        rintro e Wh ⟨v7, rfl, hV7, rfl⟩
        have P5 := Lib.hid (same_same v5 v7 (heads (Pl.mergeOf ls) most) Wx hV5 hV7)
        go_wp2_with fail
        refine P5.out.mono ?_
        rintro e Wy ⟨rfl, hqy⟩
        have hby := hqy.below Wx.heap.size
        have P6 := Lib.hid (merge_call s u ls 0 Wy (boxed_below hby hbxx) (hFx.below hby) hl hll ht)
        rw [hz0] at P6
        have hV6y := hV6x.below hby
        have hbwy := hbwx.trans (hby.mono hbwx.size)
        clear P4 P4' P4i P5 hbxx hFx
        go_wp2_with fail
        refine P6.out.mono ?_
        rintro e Wz ⟨v8, rfl, hV8, hbz⟩
        have P7 := Lib.hid (same_same v8 v6 (Pl.mergeOf ls) Wz hV8 (hV6y.below hbz))
        have hbwz := hbwy.trans (hbz.mono hbwy.size)
        clear P6
        go_wp2_with fail
        refine P7.out.mono ?_
        rintro e We ⟨rfl, hqe⟩
        go_wp2_with fail
        go_ret
        exact ⟨ret_bool (by rfl), hbwz.trans ((hqe.below _).mono hbwz.size)⟩
end Go.Proofs.Ytiogjebekadmcaa
