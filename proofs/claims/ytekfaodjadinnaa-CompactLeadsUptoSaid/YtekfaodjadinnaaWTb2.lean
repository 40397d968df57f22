
/- Walk: the numbers of live tables. Condition: the rows are short enough. -/
import Derived.Test.YtekfaodjadinnaaWTb1
namespace Go.Proofs.Ytekfaodjadinnaa
open Go.RowKit

namespace Pl
/-- the numbers of all live tables -/
def numsTo (L : Lv) (k : Nat) : List Nat := (List.range k).flatMap fun j => (L.t j).map (·.num)
def nums (L : Lv) : List Nat := numsTo L 4
theorem numsTo_succ (L : Lv) (k : Nat) : numsTo L (k + 1) = numsTo L k ++ (L.t k).map (·.num) := by
  unfold numsTo
  rw [List.range_succ, List.flatMap_append]; simp
theorem numsTo_length (L : Lv) (N : Nat) (h : ∀ k, k < 4 → (L.t k).length ≤ N) : ∀ k, k ≤ 4 → (numsTo L k).length ≤ k * N
  | 0, _ => by simp [numsTo]
  | k + 1, hk => by
    rw [numsTo_succ, List.length_append, List.length_map]
    have := numsTo_length L N h k (by omega)
    have := h k (by omega)
    rw [Nat.add_mul]; omega
end Pl

theorem cell_of_tbs {W : World} {ao : Option Addr} {n cap b off i : Nat} {l : List Pl.Tb} (h : TbsAt W (.slice ao n cap) l) (ha : ao = some ⟨b, off, none⟩) (hi : i < l.length) : TbIn W b (off + i * 6) l[i] := by
  obtain ⟨ao', cap', e, h1, h2, _, hc⟩ := h
  injection e with e1 e2 e3
  obtain ⟨b', off', e4, _, hx⟩ := hc (by omega)
  rw [← e1, ha] at e4
  injection e4 with e4
  injection e4 with e5 e6
  subst e5 e6
  exact hx i hi

set_option maxRecDepth 100000 in
set_option maxHeartbeats 800000 in
theorem numbers_any (L : Pl.Lv) (a : Nat → Option Addr) (c : Nat → Nat) (w : World) (hL : LvAt w L a c) (hs : ∀ k, k < 4 → (L.t k).length ≤ 1073741824) :
    Calls Try.prog 38 #[lvV L a c] w fun e w' => ∃ v, e = .returned v ∧ NumsAt w' v (Pl.nums L) ∧ Below w.heap.size w w' := by
  unfold lvV
  have hlen := Lib.hid (Pl.numsTo_length L 1073741824 hs)
  obtain ⟨W0, hW0⟩ : ∃ W0, w.alloc (.cells (lvCells L a c) 30) = W0 := ⟨_, rfl⟩
  have hb0 : Below w.heap.size w W0 := by rw [← hW0]; exact (Below.refl _ _).alloc (Nat.le_refl _) _
  have hR0 : W0.heap[w.heap.size]? = some (.cells (lvCells L a c) 30 (0, 0)) := by rw [← hW0]; exact World.alloc_heap_new _ _
  have hRlt : w.heap.size < W0.heap.size := (Array.getElem?_eq_some_iff.1 hR0).1
  have hrk : ∀ k, k < 4 → W0.cell? ⟨w.heap.size, 3 + k, none⟩ = some (.slice (a k) (L.t k).length (c k)) := fun k hk => by simp [World.cell?, hR0, lvCells_k L a c k hk]
  unfold lvCells at hW0
  replace hR0 := Lib.hid hR0
  replace hs := Lib.hid hs
  replace hL := Lib.hid (hL.below hb0)
  replace hrk := Lib.hid hrk
  go_enter Try.func38, Try.ntmps38
  go_wp2
  go_loopw [3, 4] (fun v i W' => ∃ k : Nat, k ≤ 4 ∧ i = .int .i64 (k : Int) ∧ NOwn W' W0.heap.size v (Pl.numsTo L k) ∧ Below W0.heap.size W0 W') (fun _ i _ => 4 - (intOf i).toNat)
  case atStart => exact ⟨0, Nat.zero_le _, rfl, World.ownsRow_nil _ _ _ _, Below.refl _ _⟩
  case round =>
    obtain ⟨k, hk, rfl, hown, hbr⟩ := hrel
    have hbw : Below w.heap.size w wr := hb0.trans (hbr.mono (by omega))
    by_cases hk4 : k < 4
    case neg =>
      obtain rfl : k = 4 := by omega
      go_wp2
      go_ret
      exact ⟨_, rfl, hown.at, hbw⟩
    have hcell := (hbr.cell (p := ⟨w.heap.size, 3 + k, none⟩) hRlt).trans (hrk.out k hk4)
    have hrow := (hL.out k hk4).below hbr
    have hnum := hlen.out k hk
    have hsk := hs.out k hk4
    have hatw := Lib.hid (fun (W' : World) (h : Below W0.heap.size W0 W') => (hL.out k hk4).below h)
    obtain ⟨ao, cap, hsl, h1, h2, hn, hc⟩ := hrow
    injection hsl with e1 e2 e3
    subst e1 e3
    clear e2 hn
    have hkI : (0 : Int) ≤ (k : Int) := by omega
    have hkI4 : (k : Int) < 4 := by omega
    have hnk : (Pl.numsTo L k).length ≤ 4294967296 := by omega
    clear hnum
    replace hrk := hrk
    have hks : Hid (Pl.numsTo L (k + 1) = Pl.numsTo L k ++ (L.t k).map (·.num)) := Lib.hid (Pl.numsTo_succ L k)
    obtain ⟨wo, rfl⟩ : ∃ wo : World, wo = wr := ⟨_, rfl⟩
    go_wp2
    go_loopw [3, 5] (fun v i W' => ∃ j : Nat, j ≤ (L.t k).length ∧ i = .int .i64 (j : Int) ∧ NOwn W' W0.heap.size v (Pl.numsTo L k ++ ((L.t k).take j).map (·.num)) ∧ Below W0.heap.size W0 W') (fun _ i _ => (L.t k).length - (intOf i).toNat)
    case atStart => exact ⟨0, Nat.zero_le _, rfl, by simpa using hown, hbr⟩
    case round =>
      obtain ⟨j, hj, rfl, hown, hbr⟩ := hrel
      have hcr := (hbr.cell (p := ⟨w.heap.size, 3 + k, none⟩) hRlt).trans (hrk.out k hk4)
      by_cases hjl : j < (L.t k).length
      case neg =>
        obtain rfl : j = (L.t k).length := by omega
        rw [List.take_of_length_le (Nat.le_refl _), ← hks.out] at hown
        clear hcell
        go_wp2
        go_roundw
        case rel => exact ⟨k + 1, by omega, by go_num, hown, hbr⟩
        case measure => simp [intOf]; omega
      obtain ⟨b, off, hao, hbl, hx⟩ := hc (by omega)
      have hbl' := hx j hjl
      have hsn := Lib.hid (show Pl.numsTo L k ++ ((L.t k).take (j + 1)).map (·.num) = Pl.numsTo L k ++ ((L.t k).take j).map (·.num) ++ [(L.t k)[j].num] by rw [List.take_succ_eq_append_getElem hjl, List.map_append, ← List.append_assoc]; rfl)
      have hcx : wr.cell? ⟨b, off + j * 6, none⟩ = some (.int .u64 ((L.t k)[j].num : Int)) := (cell_of_tbs (hatw.out wr hbr) hao hjl).c0
      rw [hao] at hcr
      have hlen2 : (Pl.numsTo L k ++ ((L.t k).take j).map (·.num)).length + 1 ≤ 17592186044416 := by
        rw [List.length_append, List.length_map, List.length_take]
        omega
      generalize (L.t k)[j].num = m at *
      generalize Pl.numsTo L k ++ ((L.t k).take j).map (·.num) = xs at *
      have hB : W0.heap.size ≤ wr.heap.size := hbr.size
      have hrow : wr.ownsRow W0.heap.size 22 1 u3 xs.length (ncells xs) := hown
      have hA := Lib.hid (fun (w3 : World) (g cap : Nat) (o : Obj) (h1 : w3.ownsRow W0.heap.size 22 1 (.slice (some ⟨g, 0, none⟩) (xs.length + 1) cap) (xs.length + 1) (ncells xs ++ (#[Value.int .u64 (m : Int)] : Array Value).toList)) (h2 : (wr.alloc o).grownBy w3 u3.ownBlock) =>
        show NOwn w3 W0.heap.size (.slice (some ⟨g, 0, none⟩) (xs.length + 1) cap) (xs ++ [m]) ∧ Below W0.heap.size W0 w3 from
        ⟨by rw [ncells_snoc] at h1; unfold NOwn; simpa using h1, (hbr.alloc hB o).grown h2 (by simp; omega) (fun k e => (hrow.lt k e).1)⟩)
      replace hown := Lib.hid hown
      clear hcell hx hbl'
      go_wp2_with (at_builtin; go_must (refine wpList_app1 (by rfl) _ _ 55 (by rfl) W0.heap.size 22 (.int .u64 0) 1 8 Try.underlying55 info_num rfl (by decide) u3 xs.length (ncells xs) wr hrow hB (by rfl) #[.int .u64 (m : Int)] 22 (by rfl) rfl (by simp [Value.oneCell']) (by omega) (by decide) ?_; intro g cap w3 hown' hgrow hat hg; have ⟨hF1, hF2⟩ := hA.out w3 g cap _ hown' hgrow; replace hF1 := Lib.hid hF1))
      go_roundw
      case rel => exact ⟨j + 1, by omega, by go_num, by rw [hsn.out]; exact hF1.out, hF2⟩
      case measure => simp [intOf]; omega
end Go.Proofs.Ytekfaodjadinnaa
