
/- Walk: the last nodes ahead of a version, of each level. Condition: none. -/
import Derived.Test.YtcfcijgnkbmlaaaSk
import Derived.Test.YtcfcijgnkbmlaaaPlainTb
import Derived.Deep.RegionHeld3
import Derived.Deep.LoopGhost
import Derived.BigQuiet
import Derived.StillTailTactics
namespace Go.Proofs.Ytcfcijgnkbmlaaa
open Go.RowKit

/-- a block of eight pointers: those of levels from m on are set -/
def PBlk8 (W : World) (d : Nat) (f : Nat → Value) (m : Nat) : Prop := ∃ g : Nat → Value, (∀ lv, lv < 8 → g lv = if m ≤ lv then f lv else .pointer none) ∧ W.heap[d]? = some (.cells #[g 0, g 1, g 2, g 3, g 4, g 5, g 6, g 7] 77 (0, 0))

theorem PBlk8.lt {W : World} {d m : Nat} {f : Nat → Value} (h : PBlk8 W d f m) : d < W.heap.size := by
  obtain ⟨g, _, h⟩ := h
  exact (Array.getElem?_eq_some_iff.1 h).1
theorem PBlk8.cell {W : World} {d m lv : Nat} {f : Nat → Value} (h : PBlk8 W d f m) (hl : lv < 8) : W.cell? ⟨d, lv, none⟩ = some (if m ≤ lv then f lv else .pointer none) := by
  obtain ⟨g, h1, h2⟩ := h
  rw [cell_of h2, ← h1 lv hl]
  rcases eight hl with rfl | rfl | rfl | rfl | rfl | rfl | rfl | rfl <;> rfl
theorem PBlk8.frozen {W : World} {d m : Nat} {f : Nat → Value} (h : PBlk8 W d f m) (o : Nat) : W.frozen? ⟨d, o, none⟩ = false := by
  obtain ⟨g, h1, h2⟩ := h
  exact frozen_of h2
theorem PBlk8.below {W W' : World} {d m : Nat} {f : Nat → Value} (h : PBlk8 W d f m) (hb : Below W.heap.size W W') : PBlk8 W' d f m := by
  obtain ⟨g, h1, h2⟩ := h
  exact ⟨g, h1, (hb.block d (Array.getElem?_eq_some_iff.1 h2).1).trans h2⟩
theorem PBlk8.set {W : World} {d lv : Nat} {f : Nat → Value} (h : PBlk8 W d f (lv + 1)) (hl : lv < 8) : PBlk8 (W.setCell ⟨d, lv, none⟩ (f lv)) d f lv := by
  obtain ⟨g, h1, h2⟩ := h
  refine ⟨fun l => if l = lv then f lv else g l, fun l hl2 => ?_, ?_⟩
  · by_cases e : l = lv
    · subst e; simp
    · show (if l = lv then f lv else g l) = _
      rw [if_neg e, h1 l hl2]
      by_cases h3 : lv ≤ l
      · rw [if_pos (show lv + 1 ≤ l by omega), if_pos h3]
      · rw [if_neg (show ¬ lv + 1 ≤ l by omega), if_neg h3]
  · have h3 : (W.setCell ⟨d, lv, none⟩ (f lv)).heap[d]? = some (.cells ((#[g 0, g 1, g 2, g 3, g 4, g 5, g 6, g 7] : Array Value).setIfInBounds lv (f lv)) 77 (0, 0)) := by
      simp [World.setCell, Array.getElem?_modify, h2]
    rw [h3]
    rcases eight hl with rfl | rfl | rfl | rfl | rfl | rfl | rfl | rfl <;> rfl

theorem set_heap {W : World} {b : Nat} {cs : Array Value} {t : TypeId} (h : W.heap[b]? = some (.cells cs t (0, 0))) (k : Nat) (v : Value) : (W.setCell ⟨b, k, none⟩ v).heap[b]? = some (.cells (cs.setIfInBounds k v) t (0, 0)) := by
  simp [World.setCell, Array.getElem?_modify, h]
theorem over8 {W : World} {b : Nat} {t : TypeId} {u0 u1 u2 u3 u4 u5 u6 u7 : Value} (h : W.heap[b]? = some (.cells #[u0, u1, u2, u3, u4, u5, u6, u7] t (0, 0))) (a0 a1 a2 a3 a4 a5 a6 a7 : Value) :
    ((((((((W.setCell ⟨b, 0, none⟩ a0).setCell ⟨b, 1, none⟩ a1).setCell ⟨b, 2, none⟩ a2).setCell ⟨b, 3, none⟩ a3).setCell ⟨b, 4, none⟩ a4).setCell ⟨b, 5, none⟩ a5).setCell ⟨b, 6, none⟩ a6).setCell ⟨b, 7, none⟩ a7).heap[b]? = some (.cells #[a0, a1, a2, a3, a4, a5, a6, a7] t (0, 0)) :=
  by
  have h0 := set_heap h 0 a0
  have e0 : (#[u0, u1, u2, u3, u4, u5, u6, u7] : Array Value).setIfInBounds 0 a0 = #[a0, u1, u2, u3, u4, u5, u6, u7] := by simp
  rw [e0] at h0
  have h1 := set_heap h0 1 a1
  have e1 : (#[a0, u1, u2, u3, u4, u5, u6, u7] : Array Value).setIfInBounds 1 a1 = #[a0, a1, u2, u3, u4, u5, u6, u7] := by simp
  rw [e1] at h1
  have h2 := set_heap h1 2 a2
  have e2 : (#[a0, a1, u2, u3, u4, u5, u6, u7] : Array Value).setIfInBounds 2 a2 = #[a0, a1, a2, u3, u4, u5, u6, u7] := by simp
  rw [e2] at h2
  have h3 := set_heap h2 3 a3
  have e3 : (#[a0, a1, a2, u3, u4, u5, u6, u7] : Array Value).setIfInBounds 3 a3 = #[a0, a1, a2, a3, u4, u5, u6, u7] := by simp
  rw [e3] at h3
  have h4 := set_heap h3 4 a4
  have e4 : (#[a0, a1, a2, a3, u4, u5, u6, u7] : Array Value).setIfInBounds 4 a4 = #[a0, a1, a2, a3, a4, u5, u6, u7] := by simp
  rw [e4] at h4
  have h5 := set_heap h4 5 a5
  have e5 : (#[a0, a1, a2, a3, a4, u5, u6, u7] : Array Value).setIfInBounds 5 a5 = #[a0, a1, a2, a3, a4, a5, u6, u7] := by simp
  rw [e5] at h5
  have h6 := set_heap h5 6 a6
  have e6 : (#[a0, a1, a2, a3, a4, a5, u6, u7] : Array Value).setIfInBounds 6 a6 = #[a0, a1, a2, a3, a4, a5, a6, u7] := by simp
  rw [e6] at h6
  have h7 := set_heap h6 7 a7
  have e7 : (#[a0, a1, a2, a3, a4, a5, a6, u7] : Array Value).setIfInBounds 7 a7 = #[a0, a1, a2, a3, a4, a5, a6, a7] := by simp
  rw [e7] at h7
  exact h7
theorem arr_loadVar {W : World} {B : Nat} {a0 a1 a2 a3 a4 a5 a6 a7 : Value} (h : W.heap[B]? = some (.cells #[a0, a1, a2, a3, a4, a5, a6, a7] 77 (0, 0))) : (loadVar 77 ⟨B, 0, none⟩).run Try.prog W = .ok (.agg #[a0, a1, a2, a3, a4, a5, a6, a7]) W :=
  run_loadVar_mid (P := Try.prog) W B 0 77 [a0, a1, a2, a3, a4, a5, a6, a7] _ (fun j u hj => by
    rw [Nat.zero_add, cell_of h]
    rw [← hj]
    simp) Try.underlying77 rfl (by kernel_rfl)
theorem results_arr {fn : Func} {p : Tmp} (h : fn.results = #[.cell p 77]) {tmps : Array Value} {B : Nat} {a0 a1 a2 a3 a4 a5 a6 a7 : Value} {w : World} (hp : tmps.getD p undef = .pointer (some ⟨B, 0, none⟩)) (hf : w.heap[B]? = some (.cells #[a0, a1, a2, a3, a4, a5, a6, a7] 77 (0, 0))) :
    (results fn tmps).run Try.prog w = .ok (.agg #[a0, a1, a2, a3, a4, a5, a6, a7]) w := by
  have hp' : tmps[p]?.getD undef = .pointer (some ⟨B, 0, none⟩) := by simpa using hp
  simp [results, h, hp', asAddr, arr_loadVar hf]

set_option maxRecDepth 100000 in
set_option maxHeartbeats 800000 in
theorem behind_any (T : Nat) (xs : List Ver) (hs bs : List Nat) (n by' : Int) (v : Ver) (k : Nat) (w : World) (hS : SkAt w T xs hs bs n by') (hA : Ahead (fun x => lessV x.key x.seq v.key v.seq) xs k) :
    Calls Try.prog 46 #[.pointer (some ⟨T, 0, none⟩), .agg #[.string v.key, .int .u64 (v.seq : Int), .bool v.del, .string v.val]] w fun e w' =>
      e = .returned (.agg #[.pointer (some ⟨blk T bs (Pl.pd hs 0 k), 0, none⟩), .pointer (some ⟨blk T bs (Pl.pd hs 1 k), 0, none⟩), .pointer (some ⟨blk T bs (Pl.pd hs 2 k), 0, none⟩), .pointer (some ⟨blk T bs (Pl.pd hs 3 k), 0, none⟩), .pointer (some ⟨blk T bs (Pl.pd hs 4 k), 0, none⟩), .pointer (some ⟨blk T bs (Pl.pd hs 5 k), 0, none⟩), .pointer (some ⟨blk T bs (Pl.pd hs 6 k), 0, none⟩), .pointer (some ⟨blk T bs (Pl.pd hs 7 k), 0, none⟩)]) ∧ Below w.heap.size w w' := by
  obtain ⟨W0, hW0⟩ : ∃ W0, ((w.alloc (.cells #[.string v.key, .int .u64 (v.seq : Int), .bool v.del, .string v.val] 24)).alloc (.cells #[.pointer none, .pointer none, .pointer none, .pointer none, .pointer none, .pointer none, .pointer none, .pointer none] 77)).alloc (.cells #[.pointer none, .pointer none, .pointer none, .pointer none, .pointer none, .pointer none, .pointer none, .pointer none] 77) = W0 := ⟨_, rfl⟩
  have hb0 : Below w.heap.size w W0 := by rw [← hW0]; exact (((Below.refl _ _).alloc (Nat.le_refl _) _).alloc (by simp) _).alloc (by simp; omega) _
  have hz0 : W0.heap.size = w.heap.size + 3 := by rw [← hW0]; simp
  have hV0 : VrAt w.heap.size v.key (v.seq : Int) v.del v.val W0 := by rw [← hW0]; exact ((VrAt.new _ _ _ _ _ _).alloc _).alloc _
  have hD1 : W0.heap[w.heap.size + 1]? = some (.cells #[.pointer none, .pointer none, .pointer none, .pointer none, .pointer none, .pointer none, .pointer none, .pointer none] 77 (0, 0)) := by
    rw [← hW0]
    have := World.alloc_heap_new (w.alloc (.cells #[.string v.key, .int .u64 (v.seq : Int), .bool v.del, .string v.val] 24)) (.cells #[.pointer none, .pointer none, .pointer none, .pointer none, .pointer none, .pointer none, .pointer none, .pointer none] 77)
    rw [World.size_alloc] at this
    exact (Below.heap_alloc _ _ _ (by simp)).trans this
  have hD2 : W0.heap[w.heap.size + 1 + 1]? = some (.cells #[.pointer none, .pointer none, .pointer none, .pointer none, .pointer none, .pointer none, .pointer none, .pointer none] 77 (0, 0)) := by
    rw [← hW0]
    have := World.alloc_heap_new ((w.alloc (.cells #[.string v.key, .int .u64 (v.seq : Int), .bool v.del, .string v.val] 24)).alloc (.cells #[.pointer none, .pointer none, .pointer none, .pointer none, .pointer none, .pointer none, .pointer none, .pointer none] 77)) (.cells #[.pointer none, .pointer none, .pointer none, .pointer none, .pointer none, .pointer none, .pointer none, .pointer none] 77)
    rw [World.size_alloc, World.size_alloc] at this
    exact this
  obtain ⟨F, hF⟩ : ∃ F : Nat → Value, Hid (∀ lv, F lv = .pointer (some ⟨blk T bs (Pl.pd hs lv k), 0, none⟩)) := ⟨_, Lib.hid (fun _ => rfl)⟩
  have hP0 : PBlk8 W0 (w.heap.size + 1 + 1) F 8 := ⟨fun _ => .pointer none, fun lv h => by rw [if_neg (by omega)], hD2⟩
  have hSlt := fun k hk => hS.lt (k := k) hk
  have hl1 := hS.hl
  have hl2 := hS.bl
  have hS0 := hS.below hb0
  have hSc : ∀ b, SkB T bs b → b < w.heap.size := fun b hb => hS.lt hb
  replace hSc := Lib.hid hSc
  clear hSlt hD2 hS
  have hkn := hA.le
  replace hA := Lib.hid hA
  go_enter Try.func46, Try.ntmps46
  go_wp2
  clear hW0
  go_loopw [6, 7] (fun at' i W => ∃ (m p : Nat), m ≤ 8 ∧ i = .int .i64 ((m : Int) - 1) ∧ p ≤ k ∧ Hid (m ≤ Pl.hof hs p) ∧ at' = .pointer (some ⟨blk T bs p, 0, none⟩) ∧ PBlk8 W (w.heap.size + 1 + 1) F m ∧ Keep (fun b => b ≠ w.heap.size + 1 + 1) W0 W) (fun _ i _ => (intOf i + 1).toNat)
  case atStart => exact ⟨8, 0, by omega, rfl, by omega, Lib.hid (Nat.le_refl 8), rfl, hP0, Keep.refl _ _⟩
  case round =>
    obtain ⟨m, p, hm, hi, hp, hh, rfl, hP, hkp⟩ := hrel
    obtain ⟨wo, rfl⟩ : ∃ wo : World, wo = wr := ⟨_, rfl⟩
    have hSo := hS0.keep hkp (fun b hb => show b ≠ w.heap.size + 1 + 1 by have := hSc.out b hb; omega)
    cases m with
    | zero =>
      obtain rfl := hi
      obtain ⟨g, hg1, hg2⟩ := hP
      have hg : ∀ lv, lv < 8 → g lv = .pointer (some ⟨blk T bs (Pl.pd hs lv k), 0, none⟩) := fun lv h => (hg1 lv h).trans ((if_pos (Nat.zero_le lv)).trans (hF.out lv))
      rw [hg 0 (by omega), hg 1 (by omega), hg 2 (by omega), hg 3 (by omega), hg 4 (by omega), hg 5 (by omega), hg 6 (by omega), hg 7 (by omega)] at hg2
      have hd1 := (hkp.block (w.heap.size + 1) (show w.heap.size + 1 ≠ w.heap.size + 1 + 1 by omega) (by omega)).trans hD1
      have hbw : Below w.heap.size w wo := hb0.trans (Below.mono (B := w.heap.size + 1 + 1) ⟨hkp.os, hkp.tape, hkp.output, hkp.size, fun j hj => hkp.block j (show j ≠ w.heap.size + 1 + 1 by omega) (by omega)⟩ (by omega))
      clear hg hg1 hF hP0 hD1 hV0 hS0 hSo hkp
      have c0 := (cell_of hg2 (o := 0)).trans rfl
      have c1 := (cell_of hg2 (o := 1)).trans rfl
      have c2 := (cell_of hg2 (o := 2)).trans rfl
      have c3 := (cell_of hg2 (o := 3)).trans rfl
      have c4 := (cell_of hg2 (o := 4)).trans rfl
      have c5 := (cell_of hg2 (o := 5)).trans rfl
      have c6 := (cell_of hg2 (o := 6)).trans rfl
      have c7 := (cell_of hg2 (o := 7)).trans rfl
      have e0 := (cell_of hd1 (o := 0)).trans rfl
      have e1 := (cell_of hd1 (o := 1)).trans rfl
      have e2 := (cell_of hd1 (o := 2)).trans rfl
      have e3 := (cell_of hd1 (o := 3)).trans rfl
      have e4 := (cell_of hd1 (o := 4)).trans rfl
      have e5 := (cell_of hd1 (o := 5)).trans rfl
      have e6 := (cell_of hd1 (o := 6)).trans rfl
      have e7 := (cell_of hd1 (o := 7)).trans rfl
      have f0 := frozen_of hd1 (o := 0)
      have f1 := frozen_of hd1 (o := 1)
      have f2 := frozen_of hd1 (o := 2)
      have f3 := frozen_of hd1 (o := 3)
      have f4 := frozen_of hd1 (o := 4)
      have f5 := frozen_of hd1 (o := 5)
      have f6 := frozen_of hd1 (o := 6)
      have f7 := frozen_of hd1 (o := 7)
      replace hg2 := Lib.hid hg2
      replace hd1 := Lib.hid hd1
      go_wp2
      have hr := over8 hd1.out (.pointer (some ⟨blk T bs (Pl.pd hs 0 k), 0, none⟩)) (.pointer (some ⟨blk T bs (Pl.pd hs 1 k), 0, none⟩)) (.pointer (some ⟨blk T bs (Pl.pd hs 2 k), 0, none⟩)) (.pointer (some ⟨blk T bs (Pl.pd hs 3 k), 0, none⟩)) (.pointer (some ⟨blk T bs (Pl.pd hs 4 k), 0, none⟩)) (.pointer (some ⟨blk T bs (Pl.pd hs 5 k), 0, none⟩)) (.pointer (some ⟨blk T bs (Pl.pd hs 6 k), 0, none⟩)) (.pointer (some ⟨blk T bs (Pl.pd hs 7 k), 0, none⟩))
      refine bodyPost_ret (results_arr rfl rfl hr) rfl ⟨rfl, ?_⟩
      have hge : w.heap.size ≤ w.heap.size + 1 := by omega
      exact ((((((((hbw).setCell (p := ⟨w.heap.size + 1, 0, none⟩) hge _).setCell (p := ⟨w.heap.size + 1, 1, none⟩) hge _).setCell (p := ⟨w.heap.size + 1, 2, none⟩) hge _).setCell (p := ⟨w.heap.size + 1, 3, none⟩) hge _).setCell (p := ⟨w.heap.size + 1, 4, none⟩) hge _).setCell (p := ⟨w.heap.size + 1, 5, none⟩) hge _).setCell (p := ⟨w.heap.size + 1, 6, none⟩) hge _).setCell (p := ⟨w.heap.size + 1, 7, none⟩) hge _
    | succ lv =>
      rw [show (((lv + 1 : Nat) : Int) - 1) = (lv : Int) by omega] at hi
      subst hi
      have hVo : VrAt w.heap.size v.key (v.seq : Int) v.del v.val wo := hV0.keep hkp (show w.heap.size ≠ w.heap.size + 1 + 1 by omega)
      have hwz := hkp.size
      go_wp2
      go_loopg [6] (k - p) (fun g at' W => ∃ q, g = k - q ∧ q ≤ k ∧ Hid (lv + 1 ≤ Pl.hof hs q) ∧ at' = .pointer (some ⟨blk T bs q, 0, none⟩) ∧ Below wo.heap.size wo W)
      case atStart => exact ⟨p, rfl, hp, hh, rfl, Below.refl _ _⟩
      case round =>
        obtain ⟨q, rfl, hq, hh2, rfl, hb2⟩ := hrel
        have hSr := hSo.below hb2
        have l1 := hSr.link (p := q) (lv := lv) (by omega) (by omega)
        rw [Pl.lnk_step (show lv < Pl.hof hs q by have := hh2.out; omega) rfl] at l1
        obtain ⟨j, hj⟩ : ∃ j, Pl.nx hs q lv = j := ⟨_, rfl⟩
        have hj1 := Pl.nx_ge hs q lv
        have hj2 := Pl.nx_le (hs := hs) (p := q) (by omega) lv
        have hj3 : Hid (j < xs.length → lv < hs.getD j 0) := Lib.hid (fun h => by subst hj; exact Pl.nx_hit (by omega))
        have hj4 : Hid (∀ i, q ≤ i → i < j → hs.getD i 0 ≤ lv) := Lib.hid (fun i h1 h2 => by subst hj; exact Pl.nx_miss h1 h2)
        rw [hj] at l1 hj1 hj2
        clear hj
        have hend : Hid (¬ j < k → Pl.pd hs lv k = q) := Lib.hid (fun h => Pl.pd_eq (by omega) hq (by have := hh2.out; omega) (fun i h1 h2 => hj4.out i h1 (by omega)))
        have hw1 : IntKind.i64.wrap (lv : Int) = (lv : Int) := IntWalk.i64_in _ (by omega)
        have hw2 : (0 : Int) ≤ (lv : Int) := by omega
        have hw3 : ¬ ((lv : Int) < 0) := by omega
        have hw4 : (lv : Int) < 8 := by omega
        have hw5 : lv < 8 := by omega
        by_cases h1 : j < xs.length
        · rw [ptr_blk (by omega)] at l1
          have hvj := hSr.ver h1
          have hVr := hVo.kept hb2
          have P := Lib.hid (fun W => less_any xs[j] v W)
          have hres : Hid (lessV xs[j].key xs[j].seq v.key v.seq = decide (j < k)) := Lib.hid (by
            by_cases h2 : j < k
            · rw [hA.out.yes j h1 h2]; simp [h2]
            · rw [hA.out.no j h1 (by omega)]; simp [h2])
          rw [hres.out] at P
          obtain ⟨x0, x1, x2, x3, xB⟩ := hvj
          obtain ⟨y0, y1, y2, y3, yB⟩ := hVr
          obtain ⟨B, hB⟩ : ∃ B, blk T bs q = B := ⟨_, rfl⟩
          obtain ⟨C, hC⟩ : ∃ C, blk T bs (j + 1) = C := ⟨_, rfl⟩
          have hBlt : B < wr.heap.size := by rw [← hB]; exact hSr.lt (hSr.blk_mem (by omega))
          rw [hB, hC] at l1
          rw [hC] at x0 x1 x2 x3 xB
          rw [hB]
          replace hB := Lib.hid hB
          replace hC := Lib.hid hC
          have hkp0 : Hid (∀ w1 : World, Below wr.heap.size wr w1 → w1.cell? ⟨B, 4 + lv, none⟩ = some (.pointer (some ⟨C, 0, none⟩)) ∧ w1.cell? ⟨C, 0, none⟩ = some (.string xs[j].key) ∧ w1.cell? ⟨C, 1, none⟩ = some (.int .u64 (xs[j].seq : Int)) ∧ w1.cell? ⟨C, 2, none⟩ = some (.bool xs[j].del) ∧ w1.cell? ⟨C, 3, none⟩ = some (.string xs[j].val) ∧ w1.cell? ⟨w.heap.size, 0, none⟩ = some (.string v.key) ∧ w1.cell? ⟨w.heap.size, 1, none⟩ = some (.int .u64 (v.seq : Int)) ∧ w1.cell? ⟨w.heap.size, 2, none⟩ = some (.bool v.del) ∧ w1.cell? ⟨w.heap.size, 3, none⟩ = some (.string v.val)) := Lib.hid (fun w1 hbl => ⟨(hbl.cell (p := ⟨B, 4 + lv, none⟩) hBlt).trans l1, (hbl.cell (p := ⟨C, 0, none⟩) xB).trans x0, (hbl.cell (p := ⟨C, 1, none⟩) xB).trans x1, (hbl.cell (p := ⟨C, 2, none⟩) xB).trans x2, (hbl.cell (p := ⟨C, 3, none⟩) xB).trans x3, (hbl.cell (p := ⟨w.heap.size, 0, none⟩) yB).trans y0, (hbl.cell (p := ⟨w.heap.size, 1, none⟩) yB).trans y1, (hbl.cell (p := ⟨w.heap.size, 2, none⟩) yB).trans y2, (hbl.cell (p := ⟨w.heap.size, 3, none⟩) yB).trans y3⟩)
          by_cases h2 : j < k
          · rw [decide_eq_true h2] at P
            clear hSr hVo hP hSo hS0 hV0 hD1 hP0
            go_wp2
            go_region_held3 (fun w' => w'.cell? ⟨B, 4 + lv, none⟩ = some (.pointer (some ⟨C, 0, none⟩)) ∧ w'.cell? ⟨C, 0, none⟩ = some (.string xs[j].key) ∧ w'.cell? ⟨C, 1, none⟩ = some (.int .u64 (xs[j].seq : Int)) ∧ w'.cell? ⟨C, 2, none⟩ = some (.bool xs[j].del) ∧ w'.cell? ⟨C, 3, none⟩ = some (.string xs[j].val) ∧ w'.cell? ⟨w.heap.size, 0, none⟩ = some (.string v.key) ∧ w'.cell? ⟨w.heap.size, 1, none⟩ = some (.int .u64 (v.seq : Int)) ∧ w'.cell? ⟨w.heap.size, 2, none⟩ = some (.bool v.del) ∧ w'.cell? ⟨w.heap.size, 3, none⟩ = some (.string v.val)) (first | exact ⟨l1, x0, x1, x2, x3, y0, y1, y2, y3⟩ | exact hkp | go_keep)
              (first | (go_at_call 12; (with_reducible refine (P.out _).mono ?_); rintro e w1 ⟨rfl, hbl⟩; have hbq := below_seq ((Below.refl _ wr).drew) hbl; have hkp := hkp0.out w1 hbq))
            all_goals
              obtain ⟨l1, x0, x1, x2, x3, y0, y1, y2, y3⟩ := hkp
              go_wp2
              go_roundg (k - (j + 1))
              case measure => omega
              case rel => exact ⟨j + 1, rfl, by omega, Lib.hid (by have := hj3.out h1; exact this), by rw [hC.out], hb2.trans (hbq.mono hb2.size)⟩
          · rw [decide_eq_false h2] at P
            have hpe := hend.out h2
            have hPr := hP.below hb2
            have hFl := hF.out lv
            rw [hpe, hB.out] at hFl
            replace hpe := Lib.hid hpe
            replace hFl := Lib.hid hFl
            clear hSr hVo hSo hS0 hV0 hD1 hP0
            go_wp2
            go_region_held3 (fun w' => w'.cell? ⟨B, 4 + lv, none⟩ = some (.pointer (some ⟨C, 0, none⟩)) ∧ w'.cell? ⟨C, 0, none⟩ = some (.string xs[j].key) ∧ w'.cell? ⟨C, 1, none⟩ = some (.int .u64 (xs[j].seq : Int)) ∧ w'.cell? ⟨C, 2, none⟩ = some (.bool xs[j].del) ∧ w'.cell? ⟨C, 3, none⟩ = some (.string xs[j].val) ∧ w'.cell? ⟨w.heap.size, 0, none⟩ = some (.string v.key) ∧ w'.cell? ⟨w.heap.size, 1, none⟩ = some (.int .u64 (v.seq : Int)) ∧ w'.cell? ⟨w.heap.size, 2, none⟩ = some (.bool v.del) ∧ w'.cell? ⟨w.heap.size, 3, none⟩ = some (.string v.val)) (first | exact ⟨l1, x0, x1, x2, x3, y0, y1, y2, y3⟩ | exact hkp1 | go_keep)
              (first | (go_at_call 12; (with_reducible refine (P.out _).mono ?_); rintro e w1 ⟨rfl, hbl⟩; have hbq := below_seq ((Below.refl _ wr).drew) hbl; have hkp1 := hkp0.out w1 hbq))
            all_goals
              have hPq := hPr.below hbq
              have c1 := hPq.cell hw5
              have c2 := hPq.frozen lv
              have c3 := hPq.set hw5
              rw [hFl.out] at c3
              have hk1 : Keep (fun b => b ≠ w.heap.size + 1 + 1) wo w1 := Keep.of_below (hb2.trans (hbq.mono hb2.size)) (fun k' (_ : k' ≠ w.heap.size + 1 + 1) h => h)
              have hk2 := (hkp.trans hk1 (fun _ h _ => h)).setCell (w.heap.size + 1 + 1) lv (.pointer (some ⟨B, 0, none⟩)) (fun h _ => h rfl)
              clear hkp1
              go_wp2
              go_roundw
              case rel => exact ⟨lv, q, by omega, rfl, hq, Lib.hid (by have := hh2.out; omega), by first | rw [hB.out] | trivial, c3, hk2⟩
              case measure => simp [intOf]
        · rw [ptr_none (by omega)] at l1
          have hpe := hend.out (by omega)
          have hPr := hP.below hb2
          have hFl := hF.out lv
          rw [hpe] at hFl
          replace hpe := Lib.hid hpe
          obtain ⟨B, hB⟩ : ∃ B, blk T bs q = B := ⟨_, rfl⟩
          rw [hB] at l1 hFl ⊢
          replace hB := Lib.hid hB
          replace hFl := Lib.hid hFl
          clear hSr hVo hSo hS0 hV0 hD1 hP0
          go_wp2
          go_quiet (fail)
          have hPq : PBlk8 (wr.drewN nq) (w.heap.size + 1 + 1) F (lv + 1) := hPr.below (below_drewN (Below.refl _ wr) nq)
          have c1 := hPq.cell hw5
          have c2 := hPq.frozen lv
          have c3 := hPq.set hw5
          rw [hFl.out] at c3
          have hk1 : Keep (fun b => b ≠ w.heap.size + 1 + 1) wo (wr.drewN nq) := Keep.of_below (below_drewN hb2 nq) (fun k' (_ : k' ≠ w.heap.size + 1 + 1) h => h)
          have hk2 := (hkp.trans hk1 (fun _ h _ => h)).setCell (w.heap.size + 1 + 1) lv (.pointer (some ⟨B, 0, none⟩)) (fun h _ => h rfl)
          go_wp2
          go_roundw
          case rel => exact ⟨lv, q, by omega, rfl, hq, Lib.hid (by have := hh2.out; omega), by first | rw [hB.out] | trivial, c3, hk2⟩
          case measure => simp [intOf]
end Go.Proofs.Ytcfcijgnkbmlaaa
