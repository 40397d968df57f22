
/- Memory: a file system as the document has it, by its footprint. Condition: none. -/
import Derived.Test.YtogblcdefbnbeaaGreatQPa
import Derived.Test.YtogblcdefbnbeaaGreatQGi
import Derived.Test.YtogblcdefbnbeaaGreatQPi
import Derived.Test.YtogblcdefbnbeaaGreatQGx
set_option maxRecDepth 100000
namespace Go.Proofs.YtogblcdefbnbeaaGreat
section
open Go.RowKit
def rfcells : List (Pl.RF1 × Value) → List Value
 | [] => []
 | x :: l => .string x.1.name :: .string x.1.data :: .int .i64 (x.1.old : Int) :: x.2 :: rfcells l
theorem rfcells_append : ∀ l r : List (Pl.RF1 × Value), rfcells (l ++ r) = rfcells l ++ rfcells r
 | [], _ => rfl
 | x :: l, r => by simp [rfcells, rfcells_append l r]
theorem rfcells_length : ∀ l : List (Pl.RF1 × Value), (rfcells l).length = l.length * 4
 | [] => rfl
 | x :: l => by simp only [rfcells, List.length_cons, rfcells_length l]; omega
theorem rfcells_drop : ∀ (k : Nat) (l : List (Pl.RF1 × Value)), (rfcells l).drop (k * 4) = rfcells (l.drop k)
 | 0, _ => by simp
 | k + 1, [] => by simp [rfcells]
 | k + 1, x :: l => by
  have e : (k + 1) * 4 = k * 4 + 1 + 1 + 1 + 1 := by omega
  rw [e]
  simp only [rfcells, List.drop_succ_cons]
  exact rfcells_drop k l
theorem rfcells_get (l : List (Pl.RF1 × Value)) (i : Nat) (h : i < l.length) : (rfcells l)[i * 4]? = some (.string l[i].1.name) ∧ (rfcells l)[i * 4 + 1]? = some (.string l[i].1.data) ∧ (rfcells l)[i * 4 + 2]? = some (.int .i64 (l[i].1.old : Int)) ∧ (rfcells l)[i * 4 + 3]? = some l[i].2 := by
 have hd := rfcells_drop i l
 have e : l.drop i = l[i] :: l.drop (i + 1) := List.drop_eq_getElem_cons h
 rw [e] at hd
 have g : ∀ j, (rfcells l)[i * 4 + j]? = (rfcells (l[i] :: l.drop (i + 1)))[j]? := fun j => by rw [← hd, List.getElem?_drop]
 refine ⟨?_, ?_, ?_, ?_⟩
 ·have := g 0
  rw [Nat.add_zero] at this
  rw [this]; rfl
 ·rw [g 1]; rfl
 ·rw [g 2]; rfl
 ·rw [g 3]; rfl
theorem info_rf1 : (Tryz.prog.info? 111).map (fun i => (i.zero, i.size, i.bytes)) = some (some (.agg #[.string .empty, .string .empty, .int .i64 0, .slice none 0 0]), 4, 64) := by kernel_rfl
structure RfO (B q r : Nat) (vf vh : Value) (rp : Nat → Prop) (hl : List (Pl.RF1 × Value)) (x : Pl.Rf) (W : World) : Prop where
 blk : Blk W q #[.pointer (some ⟨r, 0, none⟩), .int .i64 (x.epoch : Int), .int .u64 (x.safe.gen : Int), vf, vh, .bool x.changed] 101
 files : FilesF rp W vf x.safe.files
 hand : W.ownsRow B 111 4 vh hl.length (rfcells hl)
 ints : ∀ y ∈ hl, IntsF rp W y.2 y.1.blocks
 heq : x.hand = hl.map (·.1)
 nq : ¬ rp q
 nh : ∀ k, vh.ownBlock = some k → ¬ rp k ∧ k ≠ q
 lt : ∀ k, rp k → k < W.heap.size
 low : ∀ k, rp k → B ≤ k
 lq : B ≤ q
def rfFp (q : Nat) (vh : Value) (rp : Nat → Prop) : Nat → Prop := fun k => k = q ∨ vh.ownBlock = some k ∨ rp k
def RfAt (B q r : Nat) (x : Pl.Rf) (fp : Nat → Prop) (W : World) : Prop := ∃ vf vh rp hl, RfO B q r vf vh rp hl x W ∧ fp = rfFp q vh rp
variable {B q r : Nat} {vf vh : Value} {rp fp : Nat → Prop} {hl : List (Pl.RF1 × Value)} {x : Pl.Rf} {W W' : World}
theorem RfO.fpLt (h : RfO B q r vf vh rp hl x W) : ∀ k, rfFp q vh rp k → k < W.heap.size := fun k hk => by
 rcases hk with rfl | hk | hk
 ·exact h.blk.lt
 ·exact (h.hand.lt k hk).2
 ·exact h.lt k hk
theorem RfO.fpLow (h : RfO B q r vf vh rp hl x W) : ∀ k, rfFp q vh rp k → B ≤ k := fun k hk => by
 rcases hk with rfl | hk | hk
 ·exact h.lq
 ·exact (h.hand.lt k hk).1
 ·exact h.low k hk
theorem RfO.keep (h : RfO B q r vf vh rp hl x W) (hk : Keep (rfFp q vh rp) W W') : RfO B q r vf vh rp hl x W' :=
 have hr := hk.mono (fp' := rp) (fun k hr _ => .inr (.inr hr))
 ⟨h.blk.keep hk (.inl rfl), h.files.keep hr (fun _ h => h), hk.ownsRow h.hand (fun k e => .inr (.inl e)), fun y hy => (h.ints y hy).keep hr (fun _ h => h), h.heq, h.nq, h.nh, fun k hk' => Nat.lt_of_lt_of_le (h.lt k hk') hk.size, h.low, h.lq⟩
theorem RfAt.of (h : RfO B q r vf vh rp hl x W) : RfAt B q r x (rfFp q vh rp) W := ⟨_, _, _, _, h, rfl⟩
theorem RfAt.keep (h : RfAt B q r x fp W) (hk : Keep fp W W') : RfAt B q r x fp W' := by
 obtain ⟨vf, vh, rp, hl, h, rfl⟩ := h
 exact ⟨vf, vh, rp, hl, h.keep hk, rfl⟩
theorem RfAt.lt (h : RfAt B q r x fp W) : ∀ k, fp k → k < W.heap.size := by
 obtain ⟨vf, vh, rp, hl, h, rfl⟩ := h
 exact h.fpLt
theorem RfAt.fpB (h : RfAt B q r x fp W) : ∀ k, fp k → B ≤ k := by
 obtain ⟨vf, vh, rp, hl, h, rfl⟩ := h
 exact h.fpLow
theorem RfAt.beyond (h : RfAt B q r x fp W) (hb : Below W.heap.size W W') : RfAt B q r x fp W' := h.keep (Keep.of_below hb (fun k hk _ => h.lt k hk))
theorem RfO.beyond (h : RfO B q r vf vh rp hl x W) (hb : Below W.heap.size W W') : RfO B q r vf vh rp hl x W' := h.keep (Keep.of_below hb (fun k hk _ => h.fpLt k hk))
theorem RfO.cells (h : RfO B q r vf vh rp hl x W) : W.cell? ⟨q, 0, none⟩ = some (.pointer (some ⟨r, 0, none⟩)) ∧ W.cell? ⟨q, 1, none⟩ = some (.int .i64 (x.epoch : Int)) ∧ W.cell? ⟨q, 2, none⟩ = some (.int .u64 (x.safe.gen : Int)) ∧ W.cell? ⟨q, 3, none⟩ = some vf ∧ W.cell? ⟨q, 4, none⟩ = some vh ∧ W.cell? ⟨q, 5, none⟩ = some (.bool x.changed) := by
 refine ⟨?_, ?_, ?_, ?_, ?_, ?_⟩ <;> simp [h.blk.cell]
theorem RfO.row (h : RfO B q r vf vh rp hl x W) : ∃ (a : Option Addr) (c : Nat), vh = .slice a hl.length c ∧ hl.length ≤ c ∧ c ≤ 9223372036854775807 ∧ ∀ i (hi : i < hl.length), ∃ g, a = some ⟨g, 0, none⟩ ∧ g < W.heap.size ∧ W.cell? ⟨g, i * 4, none⟩ = some (.string hl[i].1.name) ∧ W.cell? ⟨g, i * 4 + 1, none⟩ = some (.string hl[i].1.data) ∧ W.cell? ⟨g, i * 4 + 2, none⟩ = some (.int .i64 (hl[i].1.old : Int)) ∧ W.cell? ⟨g, i * 4 + 3, none⟩ = some hl[i].2 := by
 have hh := h.hand
 rcases id hh.2 with ⟨e, h0⟩ | ⟨g, cap, cur, e, hB, hg, hnc, hcm, _⟩
 ·exact ⟨none, 0, by rw [e, h0], by omega, by omega, fun i hi => by omega⟩
 ·refine ⟨_, _, e, hnc, by unfold maxLen at hcm; exact hcm, fun i hi => ⟨g, rfl, (Array.getElem?_eq_some_iff.1 hg).1, ?_⟩⟩
  obtain ⟨c0, c1, c2, c3⟩ := rfcells_get hl i hi
  have cc : ∀ j v, (rfcells hl)[j]? = some v → W.cell? ⟨g, j, none⟩ = some v := fun j v hj => by
   have := hh.cells (g := g) (by rw [e]; rfl) j v hj
   rw [Addr.add_lit, Nat.zero_add] at this
   exact this
  exact ⟨cc _ _ c0, cc _ _ c1, cc _ _ c2, cc _ _ c3⟩
theorem rfcells_one (l : List (Pl.RF1 × Value)) (h : ∀ y ∈ l, ∃ a n c, y.2 = .slice a n c) : ∀ u ∈ rfcells l, u.oneCell' = true := by
 induction l with
 | nil => intro u hu; cases hu
 | cons y l ih =>
  intro u hu
  obtain ⟨a, n, c, e⟩ := h y List.mem_cons_self
  simp only [rfcells, List.mem_cons] at hu
  rcases hu with rfl | rfl | rfl | rfl | hu
  ·rfl
  ·rfl
  ·rfl
  ·rw [e]; rfl
  ·exact ih (fun z hz => h z (List.mem_cons_of_mem _ hz)) u hu
theorem RfO.slices (h : RfO B q r vf vh rp hl x W) : ∀ y ∈ hl, ∃ a n c, y.2 = .slice a n c := fun y hy => by
 obtain ⟨a, c, e, _⟩ := (h.ints y hy).1
 exact ⟨_, _, _, e⟩
theorem RfO.part (h : RfO B q r vf vh rp hl x W) {g : Nat} {n c : Nat} (e : vh = .slice (some ⟨g, 0, none⟩) n c) (k m : Nat) (hkm : k + m ≤ hl.length) : (rfcells ((hl.drop k).take m)).length = m * 4 ∧ (∀ j u, (rfcells ((hl.drop k).take m))[j]? = some u → W.cell? ((⟨g, k * 4, none⟩ : Addr).add j) = some u) ∧ ∀ u ∈ rfcells ((hl.drop k).take m), u.oneCell' = true := by
 have hlen : ((hl.drop k).take m).length = m := by rw [List.length_take, List.length_drop]; omega
 refine ⟨by rw [rfcells_length, hlen], fun j u hj => ?_, rfcells_one _ (fun y hy => h.slices y (List.mem_of_mem_drop (List.mem_of_mem_take hy)))⟩
 have hsp : rfcells (hl.drop k) = rfcells ((hl.drop k).take m) ++ rfcells ((hl.drop k).drop m) := by rw [← rfcells_append, List.take_append_drop]
 have hj1 : j < (rfcells ((hl.drop k).take m)).length := (List.getElem?_eq_some_iff.1 hj).1
 have h2 : (rfcells hl)[k * 4 + j]? = some u := by
  rw [← List.getElem?_drop, rfcells_drop, hsp, List.getElem?_append_left hj1]
  exact hj
 have := h.hand.cells (g := g) (by rw [e]; rfl) (k * 4 + j) u h2
 rw [Addr.add_lit, Nat.zero_add] at this
 rw [Addr.add_lit]
 exact this
theorem RfO.swap (h : RfO B q r vf vh rp hl x W) {w3 : World} {v3 : Value} {hl' : List (Pl.RF1 × Value)} (hb : Below W.heap.size W w3) (hrow : w3.ownsRow W.heap.size 111 4 v3 hl'.length (rfcells hl')) (hi : ∀ y ∈ hl', IntsF rp W y.2 y.1.blocks) (hB : B ≤ W.heap.size) :
  RfO B q r vf v3 rp hl' { x with hand := hl'.map (·.1) } (w3.setCell ⟨q, 4, none⟩ v3) ∧ Step (rfFp q vh rp) (rfFp q v3 rp) W (w3.setCell ⟨q, 4, none⟩ v3) ∧ Keep rp W (w3.setCell ⟨q, 4, none⟩ v3) := by
 have kb : Keep (fun k => k < W.heap.size) W w3 := Keep.of_below hb (fun _ h _ => h)
 have k5 := keep_set w3 q 4 v3
 have hq := h.blk.lt
 have hz := hb.size
 have hnew : ∀ k, v3.ownBlock = some k → W.heap.size ≤ k ∧ k < w3.heap.size := fun k e => hrow.lt k e
 have kr : Keep rp W (w3.setCell ⟨q, 4, none⟩ v3) := (kb.mono (fun k hk _ => h.lt k hk)).trans k5 (fun k hk _ e => h.nq (e ▸ hk))
 have hz5 := k5.size
 refine ⟨⟨?_, h.files.keep kr (fun _ h => h), k5.ownsRow (row_base hrow hB) (fun k e => by have := hnew k e; omega), fun y hy => (hi y hy).keep kr (fun _ h => h), rfl, h.nq, fun k e => ⟨fun e2 => by have := h.lt k e2; have := hnew k e; omega, by have := hnew k e; omega⟩, fun k hk => Nat.lt_of_lt_of_le (h.lt k hk) (Nat.le_trans hz hz5), h.low, h.lq⟩, ⟨?_, fun k hk => ?_, fun k hk => ?_⟩, kr⟩
 ·have b3 : Blk w3 q _ _ := h.blk.keep kb hq
  exact b3.set 4 v3
 ·refine (kb.mono (fun k _ hl => hl)).trans k5 (fun k hk _ e => hk (.inl e))
 ·rcases hk with hk | hk | hk
  ·exact .inl (.inl hk)
  ·exact .inr (hnew k hk).1
  ·exact .inl (.inr (.inr hk))
 ·rcases hk with rfl | hk | hk
  ·omega
  ·have := hnew k hk; omega
  ·have := h.lt k hk; omega
theorem RfO.flag (h : RfO B q r vf vh rp hl x W) (b : Bool) : RfO B q r vf vh rp hl { x with changed := b } (W.setCell ⟨q, 5, none⟩ (.bool b)) ∧ Step (rfFp q vh rp) (rfFp q vh rp) W (W.setCell ⟨q, 5, none⟩ (.bool b)) := by
 have k5 := keep_set W q 5 (.bool b)
 have kr : Keep rp W (W.setCell ⟨q, 5, none⟩ (.bool b)) := k5.mono (fun k hk _ e => h.nq (e ▸ hk))
 have hz5 := k5.size
 exact ⟨⟨h.blk.set 5 (.bool b), h.files.keep kr (fun _ h => h), k5.ownsRow h.hand (fun k e e2 => (h.nh k e).2 e2), fun y hy => (h.ints y hy).keep kr (fun _ h => h), h.heq, h.nq, h.nh, fun k hk => Nat.lt_of_lt_of_le (h.lt k hk) hz5, h.low, h.lq⟩,
  ⟨k5.mono (fun k hk _ e => hk (.inl e)), fun k hk => .inl hk, fun k hk => Nat.lt_of_lt_of_le (h.fpLt k hk) hz5⟩⟩
theorem rf_own_slice {W : World} {b sz n : Nat} {e : TypeId} {v : Value} {xs : List Value} (h : W.ownsRow b e sz v n xs) : ∃ a cap, v = .slice a n cap := by
 rcases h.2 with ⟨rfl, h0⟩ | ⟨g, cap, cur, rfl, _⟩
 ·exact ⟨none, 0, by rw [h0]⟩
 ·exact ⟨_, _, rfl⟩
theorem RfO.addr {a : Option Addr} {n c : Nat} (h : RfO B q r vf (.slice a n c) rp hl x W) : (a = none ∧ c = 0 ∧ hl.length = 0) ∨ ∃ g, a = some ⟨g, 0, none⟩ ∧ g < W.heap.size := by
 rcases id h.hand.2 with ⟨e, h0⟩ | ⟨g, cap, cur, e, hB, hg, _⟩
 ·injection e with e1 e2 e3
  exact .inl ⟨e1, e3, h0⟩
 ·injection e with e1 e2 e3
  exact .inr ⟨g, e1, (Array.getElem?_eq_some_iff.1 hg).1⟩
theorem drewN_two (w : World) (a b : Nat) : (w.drewN a).drewN b = w.drewN (a + b) := by simp [World.drewN, Nat.add_assoc]
end
section
open Go.RowKit
variable {B Br q r : Nat} {vf vh : Value} {rp fp fpr : Nat → Prop} {hl : List (Pl.RF1 × Value)} {x : Pl.Rf} {s : Pl.Dv} {W W' : World}
set_option maxHeartbeats 1000000 in
theorem rdead_any (h : RfAt B q r x fp W) (hr : RefAt Br r s fpr W) : Calls Tryz.prog 64 #[.pointer (some ⟨q, 0, none⟩)] W fun e w' => e = .returned (.bool (x.dead s)) ∧ ∃ n, w' = W.drewN n := by
 obtain ⟨vf, vh, rp, hl, h, rfl⟩ := h
 obtain ⟨sv, wv, hr⟩ := hr
 obtain ⟨c0, c1, c2, c3, c4, c5⟩ := h.cells
 have d2 : W.cell? ⟨r, 2, none⟩ = some (.bool s.down) := by simp [hr.blk.cell]
 have d5 : W.cell? ⟨r, 5, none⟩ = some (.int .i64 (s.epoch : Int)) := by simp [hr.blk.cell]
 obtain ⟨D, hD⟩ : ∃ D, D = x.dead s := ⟨_, rfl⟩
 rw [← hD]
 cases hdn : s.down with
 | true =>
  have hD' : D = true := by rw [hD]; unfold Pl.Rf.dead; rw [hdn]; rfl
  subst hD'
  rw [hdn] at d2
  clear hD hdn h hr
  go_enter Tryz.func64, Tryz.ntmps64
  go_wp2_with fail
  go_quiet (fail)
  go_wp2
  go_ret
  exact ⟨rfl, _, rfl⟩
 | false =>
  have hD' := Lib.hid (show D = decide (s.epoch ≠ x.epoch) by rw [hD]; unfold Pl.Rf.dead; rw [hdn]; rfl)
  rw [hdn] at d2
  clear hD hdn h hr
  go_enter Tryz.func64, Tryz.ntmps64
  go_wp2_with fail
  go_quiet (fail)
  go_wp2
  go_ret
  refine ⟨?_, _, rfl⟩
  rw [hD'.out]
  by_cases e : s.epoch = x.epoch
  ·simp [e]
  ·have h1 : (s.epoch : Int) ≠ (x.epoch : Int) := by omega
   simp [e, h1]
theorem rdead_is {b : Bool} (hb : x.dead s = b) (h : RfAt B q r x fp W) (hr : RefAt Br r s fpr W) : Calls Tryz.prog 64 #[.pointer (some ⟨q, 0, none⟩)] W fun e w' => e = .returned (.bool b) ∧ ∃ n, w' = W.drewN n := hb ▸ rdead_any h hr
set_option maxHeartbeats 1000000 in
theorem rplace_any (h : RfAt B q r x fp W) (nm : ByteArray) : Calls Tryz.prog 65 #[.pointer (some ⟨q, 0, none⟩), .string nm] W fun e w' => ∃ k, e = .returned (.int .i64 k) ∧ Pl.RPlace (x.hand.map (·.name)) nm k ∧ w' = W := by
 obtain ⟨vf, vh, rp, hl, h, rfl⟩ := h
 obtain ⟨a, c, rfl, hc1, hc2, hrow⟩ := h.row
 obtain ⟨c0, c1, c2, c3, c4, c5⟩ := h.cells
 have hns : Hid (x.hand.map (·.name) = hl.map (·.1.name)) := Lib.hid (by rw [h.heq, List.map_map]; rfl)
 clear h
 go_enter Tryz.func65, Tryz.ntmps65
 go_wp2_with fail
 go_loopw [5] (fun iv X => ∃ i : Nat, i ≤ hl.length ∧ iv = .int .i64 (i : Int) ∧ X = W ∧ ∀ j (hj : j < hl.length), j < i → hl[j].1.name ≠ nm) (fun iv _ => hl.length - (intOf iv).toNat)
 case atStart => exact ⟨0, Nat.zero_le _, rfl, rfl, fun _ _ h => absurd h (Nat.not_lt_zero _)⟩
 case round =>
  obtain ⟨i, hi, rfl, rfl, hno⟩ := hrel
  by_cases hil : i < hl.length
  case neg =>
   have hend : Hid (Pl.RPlace (x.hand.map (·.name)) nm (-1)) := Lib.hid (.inl ⟨rfl, fun hm => by
    rw [hns.out] at hm
    obtain ⟨y, hy, e⟩ := List.mem_map.1 hm
    obtain ⟨j, hj, rfl⟩ := List.mem_iff_getElem.1 hy
    exact hno j hj (by omega) e⟩)
   have hi2 : ¬ ((i : Int) < (hl.length : Int)) := by omega
   clear hno hrow
   go_wp2
   go_ret
   exact ⟨_, rfl, hend.out, rfl⟩
  obtain ⟨g, rfl, hgl, r0, r1, r2, r3⟩ := hrow i hil
  have hi2 : (i : Int) < (hl.length : Int) := by omega
  have hi0 : (0 : Int) ≤ (i : Int) := by omega
  by_cases hq : hl[i].1.name = nm
  ·have hend : Hid (Pl.RPlace (x.hand.map (·.name)) nm (i : Int)) := Lib.hid (.inr ⟨i, by rw [hns.out, List.length_map]; exact hil, rfl, by simp only [hns.out, List.getElem_map]; exact hq⟩)
   rw [hq] at r0
   clear hno hrow r1 r2 r3 hq
   go_wp2
   go_ret
   exact ⟨_, rfl, hend.out, rfl⟩
  ·have hno2 : Hid (∀ j (hj : j < hl.length), j < i + 1 → hl[j].1.name ≠ nm) := Lib.hid (fun j hj h1 => by
    by_cases e : j = i
    ·subst e; exact hq
    ·exact hno j hj (by omega))
   generalize hl[i].1.name = nn at r0 hq
   obtain ⟨q1, q2⟩ := toList_bne hq
   clear hno hrow r1 r2 r3 hq
   go_wp2
   go_roundw
   case rel => exact ⟨i + 1, by omega, by go_num, by trivial, hno2.out⟩
   case measure => simp [intOf]; omega
end
section
open Go.RowKit
variable {B Br q r : Nat} {vf vh : Value} {rp fp fpr : Nat → Prop} {hl : List (Pl.RF1 × Value)} {x : Pl.Rf} {s : Pl.Dv} {W W' : World}
theorem erase_split {α : Type} (l : List α) (i : Nat) (h : i < l.length) : l.take i ++ l.drop (i + 1) = l.eraseIdx i := (List.eraseIdx_eq_take_drop_succ l i).symm
set_option maxHeartbeats 1000000 in
theorem rremove_any (h : RfO B q r vf vh rp hl x W) (i : Nat) (hi : i < hl.length) (hlen : hl.length ≤ 1000) (hB : B ≤ W.heap.size) : Calls Tryz.prog 74 #[.pointer (some ⟨q, 0, none⟩), .int .i64 (i : Int)] W fun e w' => (∃ v, e = .returned v) ∧ ∃ vh', RfO B q r vf vh' rp (hl.eraseIdx i) { x with hand := x.hand.eraseIdx i } w' ∧ Step (rfFp q vh rp) (rfFp q vh' rp) W w' ∧ Keep rp W w' := by
 obtain ⟨a, c, rfl, hc1, hc2, hrow⟩ := h.row
 obtain ⟨g, rfl, hgl, _⟩ := hrow i hi
 obtain ⟨p1, p2, p3⟩ := h.part rfl 0 i (by omega)
 obtain ⟨t1, t2, t3⟩ := h.part rfl (i + 1) (hl.length - (i + 1)) (by omega)
 rw [List.drop_zero] at p1 p2 p3
 rw [Nat.zero_mul] at p2
 have htk : (hl.drop (i + 1)).take (hl.length - (i + 1)) = hl.drop (i + 1) := List.take_of_length_le (by rw [List.length_drop]; exact Nat.le_refl _)
 rw [htk] at t1 t2 t3
 obtain ⟨c0, c1, c2, c3, c4, c5⟩ := h.cells
 have z4 := h.blk.frozen 4
 have hql := h.blk.lt
 have hsw : Hid (∀ (w3 : World) (v3 : Value), Below W.heap.size W w3 → w3.ownsRow W.heap.size 111 4 v3 (i + (hl.length - (i + 1))) (rfcells (hl.take i) ++ rfcells (hl.drop (i + 1))) → RfO B q r vf v3 rp (hl.eraseIdx i) { x with hand := x.hand.eraseIdx i } (w3.setCell ⟨q, 4, none⟩ v3) ∧ Step (rfFp q (.slice (some ⟨g, 0, none⟩) hl.length c) rp) (rfFp q v3 rp) W (w3.setCell ⟨q, 4, none⟩ v3) ∧ Keep rp W (w3.setCell ⟨q, 4, none⟩ v3)) := Lib.hid (fun w3 v3 hb hr => by
  rw [← rfcells_append, erase_split hl i hi] at hr
  have e1 : i + (hl.length - (i + 1)) = (hl.eraseIdx i).length := by rw [List.length_eraseIdx, if_pos hi]; omega
  rw [e1] at hr
  have := h.swap hb hr (fun y hy => h.ints y (List.mem_of_mem_eraseIdx hy)) hB
  rw [Pl.map_erase, ← h.heq] at this
  exact this)
 obtain ⟨P1, hP1⟩ : ∃ P, P = rfcells (hl.take i) := ⟨_, rfl⟩
 obtain ⟨P2, hP2⟩ : ∃ P, P = rfcells (hl.drop (i + 1)) := ⟨_, rfl⟩
 rw [← hP1] at p1 p2 p3 hsw
 rw [← hP2] at t1 t2 t3 hsw
 have hB4 := Lib.hid h.blk
 clear hrow hP1 hP2 htk h
 obtain ⟨n, hn⟩ : ∃ n, n = hl.length := ⟨_, rfl⟩
 rw [← hn] at hi hlen hc1 c4 t1 hsw hB4
 clear hn
 have hi0 : (0 : Int) ≤ (i : Int) := by omega
 have hw : IntKind.i64.wrap ((i : Int) + 1) = ((i + 1 : Nat) : Int) := by rw [IntWalk.i64_in _ (by omega)]; rfl
 have hi1 : ((i + 1 : Nat) : Int) ≤ (n : Int) := by omega
 have hnil := World.ownsRow_nil W W.heap.size 111 4
 have hT : Hid (∀ w1, Below W.heap.size W w1 → ∀ j u, P2[j]? = some u → w1.cell? ((⟨g, (i + 1) * 4, none⟩ : Addr).add j) = some u) := Lib.hid (fun w1 hb j u hj => (hb.cell (p := (⟨g, (i + 1) * 4, none⟩ : Addr).add j) (by rw [Addr.add_lit]; exact hgl)).trans (t2 j u hj))
 have hT0 : Hid (P2.length = 0 → P2 = []) := Lib.hid (fun h => List.length_eq_zero_iff.1 h)
 clear t2
 by_cases hcap : c = i + 1
 ·obtain rfl : n = i + 1 := by omega
  subst hcap
  have hP0 := hT0.out (by rw [t1, Nat.sub_self, Nat.zero_mul])
  subst hP0
  rw [Nat.sub_self] at t1 hsw
  go_enter Tryz.func74, Tryz.ntmps74
  go_upto_region 2 with (at_builtin; go_must (refine wpList_appP (by rfl) _ _ 99 (by rfl) W.heap.size 111 _ 4 64 Tryz.underlying99 info_rf1 rfl (by decide) (.slice none 0 0) 0 [] W hnil (Nat.le_refl _) (by rfl) ⟨g, 0, none⟩ i (i + 1) P1 (by rfl) p1 p2 p3 (by omega) (by decide) ?_; intro v1 w1 ho1 hb1; rw [Nat.zero_add, List.nil_append] at ho1; obtain ⟨a1, k1, rfl⟩ := rf_own_slice ho1))
  have d4 := (hb1.cell (p := ⟨q, 4, none⟩) hql).trans c4
  have hz1 := hb1.size
  clear c0 c1 c2 c3 c4 c5 z4 hnil
  go_upto_region 3 with (at_builtin; go_must (refine wpList_appP (by rfl) _ _ 99 (by rfl) W.heap.size 111 _ 4 64 Tryz.underlying99 info_rf1 rfl (by decide) (.slice a1 i k1) i _ w1 ho1 hz1 (by rfl) ⟨g, 0, none⟩ 0 0 [] (by rfl) rfl (fun _ _ h => by simp at h) (fun _ h => by cases h) (by omega) (by decide) ?_; intro v2 w2 ho2 hb2; rw [Nat.add_zero] at ho2; obtain ⟨a2, k2, rfl⟩ := rf_own_slice ho2))
  have hb02 := hb1.trans hb2
  have hB2 : Blk w2 q _ _ := (hb02.block q hql).trans hB4.out
  have e4 := (hb02.cell (p := ⟨q, 4, none⟩) hql)
  have z4 := hB2.frozen 4
  have hq2 := hB2.lt
  rw [Nat.add_zero] at hsw
  obtain ⟨o1, o2⟩ := hsw.out w2 _ hb02 ho2
  replace o1 := Lib.hid o1
  replace o2 := Lib.hid o2
  have d4 : w2.cell? ⟨q, 4, none⟩ = some (.slice (some ⟨g, 0, none⟩) (i + 1) (i + 1)) := by simp [hB2.cell]
  clear hsw hB4 hB2 e4
  go_wp2_with fail
  go_end0
  exact ⟨⟨_, rfl⟩, _, o1.out, o2.out⟩
 ·go_enter Tryz.func74, Tryz.ntmps74
  go_upto_region 2 with (at_builtin; go_must (refine wpList_appP (by rfl) _ _ 99 (by rfl) W.heap.size 111 _ 4 64 Tryz.underlying99 info_rf1 rfl (by decide) (.slice none 0 0) 0 [] W hnil (Nat.le_refl _) (by rfl) ⟨g, 0, none⟩ i c P1 (by rfl) p1 p2 p3 (by omega) (by decide) ?_; intro v1 w1 ho1 hb1; rw [Nat.zero_add, List.nil_append] at ho1; obtain ⟨a1, k1, rfl⟩ := rf_own_slice ho1))
  have d4 := (hb1.cell (p := ⟨q, 4, none⟩) hql).trans c4
  have hT1 := hT.out w1 hb1
  have hz1 := hb1.size
  clear c0 c1 c2 c3 c4 c5 z4 hnil
  go_upto_region 3 with (at_builtin; go_must (refine wpList_appP (by rfl) _ _ 99 (by rfl) W.heap.size 111 _ 4 64 Tryz.underlying99 info_rf1 rfl (by decide) (.slice a1 i k1) i _ w1 ho1 hz1 (by rfl) ⟨g, (i + 1) * 4, none⟩ (n - (i + 1)) (c - (i + 1)) P2 (by rfl) t1 hT1 t3 (by omega) (by decide) ?_; intro v2 w2 ho2 hb2; obtain ⟨a2, k2, rfl⟩ := rf_own_slice ho2))
  have hb02 := hb1.trans hb2
  have hB2 : Blk w2 q _ _ := (hb02.block q hql).trans hB4.out
  have z4 := hB2.frozen 4
  have hq2 := hB2.lt
  obtain ⟨o1, o2⟩ := hsw.out w2 _ hb02 ho2
  replace o1 := Lib.hid o1
  replace o2 := Lib.hid o2
  clear d4
  have d4 : w2.cell? ⟨q, 4, none⟩ = some (.slice (some ⟨g, 0, none⟩) n c) := by simp [hB2.cell]
  clear hsw hB4 hB2 hT hT1
  go_wp2_with fail
  go_end0
  exact ⟨⟨_, rfl⟩, _, o1.out, o2.out⟩
theorem rins_at (y : Pl.RF1) : ∀ (l : List Pl.RF1) (k : Nat) (hk : k ≤ l.length), (∀ j (h : j < l.length), j < k → bytesBefore l[j].name.data.toList y.name.data.toList = true) → (∀ h : k < l.length, bytesBefore l[k].name.data.toList y.name.data.toList = false) → Pl.rins y l = l.take k ++ y :: l.drop k
 | [], k, hk, _, _ => by
  obtain rfl : k = 0 := by simpa using hk
  rfl
 | z :: l, 0, _, _, h2 => by
  have := h2 (by simp)
  show (if bytesBefore z.name.data.toList y.name.data.toList = true then z :: Pl.rins y l else y :: z :: l) = _
  rw [if_neg (by rw [show bytesBefore z.name.data.toList y.name.data.toList = false from this]; exact Bool.false_ne_true)]
  rfl
 | z :: l, k + 1, hk, h1, h2 => by
  have h0 : bytesBefore z.name.data.toList y.name.data.toList = true := h1 0 (by simp) (by omega)
  show (if bytesBefore z.name.data.toList y.name.data.toList = true then z :: Pl.rins y l else y :: z :: l) = _
  rw [if_pos h0, rins_at y l k (by simpa using hk) (fun j h hj => h1 (j + 1) (by simpa using h) (by omega)) (fun h => h2 (by simpa using h))]
  rfl
set_option maxHeartbeats 2000000 in
theorem rinsert_any (h : RfO B q r vf vh rp hl x W) (y : Pl.RF1) (ua : Option Addr) (un uc : Nat) (hu : IntsF rp W (.slice ua un uc) y.blocks) (hlen : hl.length ≤ 1000) (hB : B ≤ W.heap.size) : Calls Tryz.prog 73 #[.pointer (some ⟨q, 0, none⟩), .agg #[.string y.name, .string y.data, .int .i64 (y.old : Int), .slice ua un uc]] W fun e w' => (∃ v, e = .returned v) ∧ ∃ vh' hl', RfO B q r vf vh' rp hl' { x with hand := Pl.rins y x.hand } w' ∧ Step (rfFp q vh rp) (rfFp q vh' rp) W w' := by
 obtain ⟨a, c, rfl, hc1, hc2, hrow⟩ := h.row
 obtain ⟨c0, c1, c2, c3, c4, c5⟩ := h.cells
 have hql := h.blk.lt
 have hB4 := Lib.hid h.blk
 obtain ⟨nm, dat, old, bls⟩ := y
 simp only at hu
 have hsw : Hid (∀ (k : Nat) (w3 : World) (v3 : Value), k ≤ hl.length → (∀ j (h : j < hl.length), j < k → bytesBefore hl[j].1.name.data.toList nm.data.toList = true) → (∀ h : k < hl.length, bytesBefore hl[k].1.name.data.toList nm.data.toList = false) → Below W.heap.size W w3 → w3.ownsRow W.heap.size 111 4 v3 (k + 1 + (hl.length - k)) (rfcells (hl.take k) ++ (#[.string nm, .string dat, .int .i64 (old : Int), .slice ua un uc] : Array Value).toList ++ rfcells (hl.drop k)) → ∃ hl', RfO B q r vf v3 rp hl' { x with hand := Pl.rins ⟨nm, dat, old, bls⟩ x.hand } (w3.setCell ⟨q, 4, none⟩ v3) ∧ Step (rfFp q (.slice a hl.length c) rp) (rfFp q v3 rp) W (w3.setCell ⟨q, 4, none⟩ v3)) := Lib.hid (fun k w3 v3 hk h1 h2 hb hr => by
  have e0 : (#[.string nm, .string dat, .int .i64 (old : Int), .slice ua un uc] : Array Value).toList = rfcells [((⟨nm, dat, old, bls⟩ : Pl.RF1), Value.slice ua un uc)] := rfl
  rw [e0, ← rfcells_append, ← rfcells_append] at hr
  have e1 : k + 1 + (hl.length - k) = (hl.take k ++ [((⟨nm, dat, old, bls⟩ : Pl.RF1), Value.slice ua un uc)] ++ hl.drop k).length := by rw [List.length_append, List.length_append, List.length_take, List.length_drop, List.length_singleton]; omega
  rw [e1] at hr
  have hs := h.swap hb hr (fun y hy => by
   rcases List.mem_append.1 hy with hy | hy
   ·rcases List.mem_append.1 hy with hy | hy
    ·exact h.ints y (List.mem_of_mem_take hy)
    ·rw [List.mem_singleton.1 hy]; exact hu
   ·exact h.ints y (List.mem_of_mem_drop hy)) hB
  have e2 : (hl.take k ++ [((⟨nm, dat, old, bls⟩ : Pl.RF1), Value.slice ua un uc)] ++ hl.drop k).map (·.1) = Pl.rins ⟨nm, dat, old, bls⟩ x.hand := by
   rw [h.heq, rins_at ⟨nm, dat, old, bls⟩ (hl.map (·.1)) k (by rw [List.length_map]; exact hk) (fun j hj hjk => by rw [List.getElem_map]; exact h1 j (by simpa using hj) hjk) (fun hk2 => by rw [List.getElem_map]; exact h2 (by simpa using hk2))]
   simp [List.map_take, List.map_drop]
  rw [e2] at hs
  exact ⟨_, hs.1, hs.2.1⟩)
 have hadr := h.addr
 have hpart : Hid (∀ (g : Nat), a = some ⟨g, 0, none⟩ → ∀ (k m : Nat), k + m ≤ hl.length → (rfcells ((hl.drop k).take m)).length = m * 4 ∧ (∀ (w1 : World), Below W.heap.size W w1 → ∀ j u, (rfcells ((hl.drop k).take m))[j]? = some u → w1.cell? ((⟨g, k * 4, none⟩ : Addr).add j) = some u) ∧ ∀ u ∈ rfcells ((hl.drop k).take m), u.oneCell' = true) := Lib.hid (fun g e k m hkm => by
  subst e
  obtain ⟨p1, p2, p3⟩ := h.part rfl k m hkm
  have hgl : g < W.heap.size := (h.hand.lt g rfl).2
  exact ⟨p1, fun w1 hb j u hj => (hb.cell (p := (⟨g, k * 4, none⟩ : Addr).add j) (by rw [Addr.add_lit]; exact hgl)).trans (p2 j u hj), p3⟩)
 obtain ⟨W1, hW1⟩ : ∃ W1, W.alloc (.cells #[.string nm, .string dat, .int .i64 (old : Int), .slice ua un uc] 111) = W1 := ⟨_, rfl⟩
 have hX : Blk W1 W.heap.size #[.string nm, .string dat, .int .i64 (old : Int), .slice ua un uc] 111 := by rw [← hW1]; exact Blk.new _ _ _
 have hbW : Below W.heap.size W W1 := by rw [← hW1]; exact (Below.refl _ _).alloc (Nat.le_refl _) _
 have hnil : Hid (∀ X, World.ownsRow X W.heap.size 111 4 (.slice none 0 0) 0 []) := Lib.hid (fun X => World.ownsRow_nil X _ _ _)
 clear h hu
 go_enter Tryz.func73, Tryz.ntmps73
 go_wp2_with fail
 try rw [hW1]
 clear hW1
 go_loopw [4] (fun iv X => ∃ (k m : Nat), k ≤ hl.length ∧ iv = .int .i64 (k : Int) ∧ X = W1.drewN m ∧ ∀ j (h : j < hl.length), j < k → bytesBefore hl[j].1.name.data.toList nm.data.toList = true) (fun iv _ => hl.length - (intOf iv).toNat)
 case atStart => exact ⟨0, 0, Nat.zero_le _, rfl, rfl, fun _ _ h => absurd h (Nat.not_lt_zero _)⟩
 case round =>
  obtain ⟨k, m, hk, rfl, rfl, hpre⟩ := hrel
  have x0 : W1.cell? ⟨W.heap.size, 0, none⟩ = some (.string nm) := by simp [hX.cell]
  have x1 : W1.cell? ⟨W.heap.size, 1, none⟩ = some (.string dat) := by simp [hX.cell]
  have x2 : W1.cell? ⟨W.heap.size, 2, none⟩ = some (.int .i64 (old : Int)) := by simp [hX.cell]
  have x3 : W1.cell? ⟨W.heap.size, 3, none⟩ = some (.slice ua un uc) := by simp [hX.cell]
  have d4 := (hbW.cell (p := ⟨q, 4, none⟩) hql).trans c4
  have hk0 : (0 : Int) ≤ (k : Int) := by omega
  go_upto_region 2 with (fail)
  go_cut [25] (fun v wx => ∃ (bb : Bool) (m2 : Nat), v = .bool bb ∧ (bb = true → ∃ h : k < hl.length, bytesBefore hl[k].1.name.data.toList nm.data.toList = true) ∧ (bb = false → ∀ h : k < hl.length, bytesBefore hl[k].1.name.data.toList nm.data.toList = false) ∧ wx = W1.drewN m2)
  case first =>
   by_cases hkl : k < hl.length
   ·obtain ⟨g, rfl, hgl, r0, r1, r2, r3⟩ := hrow k hkl
    have e0 := (hbW.cell (p := ⟨g, k * 4, none⟩) hgl).trans r0
    have hk1 : (k : Int) < (hl.length : Int) := by omega
    cases hlt : Op.bytesLess hl[k].1.name.toList nm.toList with
    | true =>
     have hh : Hid (bytesBefore hl[k].1.name.data.toList nm.data.toList = true) := Lib.hid (by rw [Pl.before_less, ← ByteArray.toList_eq, ← ByteArray.toList_eq]; exact hlt)
     clear hpre hrow r0 r1 r2 r3
     go_wp2_with fail
     go_quiet (fail)
     go_wp2_with fail
     go_meet
     exact ⟨true, _, rfl, fun _ => ⟨hkl, hh.out⟩, fun h => (by cases h), by first | rfl | exact drewN_two _ _ _⟩
    | false =>
     have hh : Hid (bytesBefore hl[k].1.name.data.toList nm.data.toList = false) := Lib.hid (by rw [Pl.before_less, ← ByteArray.toList_eq, ← ByteArray.toList_eq]; exact hlt)
     clear hpre hrow r0 r1 r2 r3
     go_wp2_with fail
     go_quiet (fail)
     go_wp2_with fail
     go_meet
     exact ⟨false, _, rfl, fun h => (by cases h), fun _ _ => hh.out, by first | rfl | exact drewN_two _ _ _⟩
   ·have hk1 : ¬ (k : Int) < (hl.length : Int) := by omega
    have hk1b : decide ((k : Int) < (hl.length : Int)) = false := by simpa using hk1
    clear hpre hrow
    go_wp2_with fail
    go_quiet (fail)
    go_wp2_with fail
    go_meet
    exact ⟨false, _, rfl, fun h => (by cases h), fun _ h => absurd h hkl, by first | rfl | exact drewN_two _ _ _⟩
  case rest =>
   obtain ⟨bb, m2, rfl, hbt, hbf, hwc⟩ := hcut
   obtain ⟨wx, rfl⟩ : ∃ wx : World, wx = wc := ⟨_, rfl⟩
   have hb2 : Below W.heap.size W wx := hwc ▸ below_drewN hbW m2
   replace hwc := Lib.hid hwc
   have hX2 : Blk wx W.heap.size #[.string nm, .string dat, .int .i64 (old : Int), .slice ua un uc] 111 := hwc.out ▸ hX.keep ((Keep.refl (fun _ => True) W1).drewN m2) trivial
   cases bb with
   | true =>
    obtain ⟨hkl, hh⟩ := hbt rfl
    have hpre2 : Hid (∀ j (h : j < hl.length), j < k + 1 → bytesBefore hl[j].1.name.data.toList nm.data.toList = true) := Lib.hid (fun j hj hj2 => by
     by_cases e : j = k
     ·subst e; exact hh
     ·exact hpre j hj (by omega))
    clear hpre hbt hbf hh hrow x0 x1 x2 x3 hb2 hX2
    go_wp2_with fail
    go_roundw
    case rel => exact ⟨k + 1, m2, by omega, by go_num, hwc.out, hpre2.out⟩
    case measure => simp [intOf]; omega
   | false =>
    have hstop := Lib.hid (hbf rfl)
    have hpre' := Lib.hid hpre
    have hfin := Lib.hid (fun w3 v3 h1 h2 => hsw.out k w3 v3 hk hpre hstop.out h1 h2)
    clear hpre hbt hbf hsw hstop hpre' x0 x1 x2 x3 d4 hwc hX hbW
    have x0 : wx.cell? ⟨W.heap.size, 0, none⟩ = some (.string nm) := by simp [hX2.cell]
    have x1 : wx.cell? ⟨W.heap.size, 1, none⟩ = some (.string dat) := by simp [hX2.cell]
    have x2 : wx.cell? ⟨W.heap.size, 2, none⟩ = some (.int .i64 (old : Int)) := by simp [hX2.cell]
    have x3 : wx.cell? ⟨W.heap.size, 3, none⟩ = some (.slice ua un uc) := by simp [hX2.cell]
    have d4 := (hb2.cell (p := ⟨q, 4, none⟩) hql).trans c4
    have hn1 : wx.ownsRow (W.heap.size + 1) 111 4 (.slice none 0 0) 0 [] := World.ownsRow_nil _ _ _ _
    have hz1 : W.heap.size + 1 ≤ wx.heap.size := hX2.lt
    have hBx := Lib.hid (show Blk wx q _ _ from (hb2.block q hql).trans hB4.out)
    rcases hadr with ⟨rfl, rfl, hn0⟩ | ⟨g, rfl, hgl⟩
    ·have hl0 : hl = [] := List.length_eq_zero_iff.1 hn0
     subst hl0
     obtain rfl : k = 0 := by simpa using hk
     have hfin' : Hid (∀ w3 v3, Below W.heap.size W w3 → w3.ownsRow W.heap.size 111 4 v3 1 (#[.string nm, .string dat, .int .i64 (old : Int), .slice ua un uc] : Array Value).toList → ∃ hl', RfO B q r vf v3 rp hl' { x with hand := Pl.rins ⟨nm, dat, old, bls⟩ x.hand } (w3.setCell ⟨q, 4, none⟩ v3) ∧ Step (rfFp q (.slice none 0 0) rp) (rfFp q v3 rp) W (w3.setCell ⟨q, 4, none⟩ v3)) := Lib.hid (fun w3 v3 h1 h2 => hfin.out w3 v3 h1 (by
      have e : rfcells (([] : List (Pl.RF1 × Value)).take 0) ++ (#[.string nm, .string dat, .int .i64 (old : Int), .slice ua un uc] : Array Value).toList ++ rfcells (([] : List (Pl.RF1 × Value)).drop 0) = (#[.string nm, .string dat, .int .i64 (old : Int), .slice ua un uc] : Array Value).toList := by simp [rfcells]
      rw [e]
      exact h2))
     obtain ⟨iF, hiF, _⟩ := info_parts info_rf1
     have c4h := Lib.hid c4
     have hXh := Lib.hid hX2
     have d4' : wx.cell? ⟨q, 4, none⟩ = some (.slice none 0 0) := d4
     clear hfin hpart hrow hnil hX2 c0 c1 c2 c3 c4 c5 hn0 d4
     go_upto_region 6 with (at_builtin; go_must (refine wpList_append_own_none (by rfl) _ _ 99 (by rfl) (W.heap.size + 1) 111 iF 4 Tryz.underlying99 hiF (.slice none 0 0) 0 [] (by rfl) hn1 (by rfl) ?_))
     go_upto_region 7 with (at_builtin; go_must (refine wpList_app1 (by rfl) _ _ 99 (by rfl) (W.heap.size + 1) 111 _ 4 64 Tryz.underlying99 info_rf1 rfl (by decide) (.slice none 0 0) 0 [] wx hn1 hz1 (by rfl) #[.string nm, .string dat, .int .i64 (old : Int), .slice ua un uc] 111 (by rfl) rfl (by simp [Value.oneCell']) (by omega) (by decide) ?_; intro g3 k3 w3 ho3 hgrow hat3 hg3; rw [Nat.zero_add, List.nil_append] at ho3))
     have hb3 : Below (W.heap.size + 1) wx w3 := (keep_app hgrow).below (Below.refl _ _) hz1 (fun q hq e => by cases e)
     have hbw3 := hb2.trans (hb3.mono (Nat.le_succ _))
     have d4 : w3.cell? ⟨q, 4, none⟩ = some (.slice none 0 0) := (hbw3.cell (p := ⟨q, 4, none⟩) hql).trans c4h.out
     clear x0 x1 x2 x3 hgrow hat3 d4'
     go_upto_region 8 with (at_builtin; go_must (refine wpList_append_own_none (by rfl) _ _ 99 (by rfl) (W.heap.size + 1) 111 iF 4 Tryz.underlying99 hiF (.slice (some ⟨g3, 0, none⟩) 1 k3) 1 _ (by rfl) ho3 (by rfl) ?_))
     have hB5 : Blk w3 q _ _ := (hbw3.block q hql).trans hB4.out
     have z4 := hB5.frozen 4
     have hq5 := hB5.lt
     obtain ⟨hl', o1, o2⟩ := hfin'.out w3 _ hbw3 (row_base ho3 (Nat.le_succ _))
     replace o1 := Lib.hid o1
     replace o2 := Lib.hid o2
     clear hfin' hB4 hB5 hBx
     go_wp2_with fail
     go_end0
     exact ⟨⟨_, rfl⟩, _, ⟨hl', o1.out⟩, o2.out⟩
    ·obtain ⟨p1, p2, p3⟩ := hpart.out g rfl 0 k (by omega)
     obtain ⟨t1, t2, t3⟩ := hpart.out g rfl k (hl.length - k) (by omega)
     have htk : (hl.drop k).take (hl.length - k) = hl.drop k := List.take_of_length_le (by rw [List.length_drop]; exact Nat.le_refl _)
     rw [htk] at t1 t2 t3
     rw [List.drop_zero] at p1 p2 p3
     rw [Nat.zero_mul] at p2
     have p2' := p2 wx hb2
     obtain ⟨P1, hP1⟩ : ∃ P, P = rfcells (hl.take k) := ⟨_, rfl⟩
     obtain ⟨P2, hP2⟩ : ∃ P, P = rfcells (hl.drop k) := ⟨_, rfl⟩
     rw [← hP1] at p1 p2' p3 hfin
     rw [← hP2] at t1 t2 t3 hfin
     replace t2 := Lib.hid t2
     clear hpart hP1 hP2 htk p2 hrow hnil
     obtain ⟨n, hn⟩ : ∃ n, n = hl.length := ⟨_, rfl⟩
     have c4h := Lib.hid c4
     rw [← hn] at hlen hc1 d4 hk t1 hfin c4h
     have hXh := Lib.hid hX2
     clear hn hX2 c0 c1 c2 c3 c4 c5
     have hkn : (k : Int) ≤ (n : Int) := by omega
     by_cases hcap : c = k
     ·have hnk : n = k := by omega
      have hP0 : P2 = [] := List.length_eq_zero_iff.1 (by rw [t1, hnk, Nat.sub_self, Nat.zero_mul])
      subst hP0 hnk hcap
      rw [Nat.sub_self] at hfin
      rw [Nat.add_zero] at hfin
      go_upto_region 6 with (at_builtin; go_must (refine wpList_appP (by rfl) _ _ 99 (by rfl) (W.heap.size + 1) 111 _ 4 64 Tryz.underlying99 info_rf1 rfl (by decide) (.slice none 0 0) 0 [] wx hn1 hz1 (by rfl) ⟨g, 0, none⟩ c c P1 (by rfl) p1 p2' p3 (by omega) (by decide) ?_; intro v1 w1 ho1 hb1; rw [Nat.zero_add, List.nil_append] at ho1; obtain ⟨a1, k1, rfl⟩ := rf_own_slice ho1))
      have hX1 : Blk w1 W.heap.size _ _ := (hb1.block _ (Nat.lt_succ_self _)).trans hXh.out
      have y0 : w1.cell? ⟨W.heap.size, 0, none⟩ = some (.string nm) := by simp [hX1.cell]
      have y1 : w1.cell? ⟨W.heap.size, 1, none⟩ = some (.string dat) := by simp [hX1.cell]
      have y2 : w1.cell? ⟨W.heap.size, 2, none⟩ = some (.int .i64 (old : Int)) := by simp [hX1.cell]
      have y3 : w1.cell? ⟨W.heap.size, 3, none⟩ = some (.slice ua un uc) := by simp [hX1.cell]
      have hz1' := hb1.size
      have hz1'' : W.heap.size + 1 ≤ w1.heap.size := by omega
      have hbw1 := hb2.trans (hb1.mono (Nat.le_succ _))
      clear x0 x1 x2 x3 hn1 d4 hX1 hXh
      go_upto_region 7 with (at_builtin; go_must (refine wpList_app1 (by rfl) _ _ 99 (by rfl) (W.heap.size + 1) 111 _ 4 64 Tryz.underlying99 info_rf1 rfl (by decide) (.slice a1 c k1) c P1 w1 ho1 hz1'' (by rfl) #[.string nm, .string dat, .int .i64 (old : Int), .slice ua un uc] 111 (by rfl) rfl (by simp [Value.oneCell']) (by omega) (by decide) ?_; intro g3 k3 w3 ho3 hgrow hat3 hg3))
      have hb3 : Below (W.heap.size + 1) w1 w3 := (keep_app hgrow).below (Below.refl _ _) hz1'' (fun q hq e => by have := (ho1.lt q e).1; omega)
      have hbw3 := hbw1.trans (hb3.mono (Nat.le_succ _))
      have d4 := (hbw3.cell (p := ⟨q, 4, none⟩) hql).trans c4h.out
      have hz3 := hb3.size
      have hz3' : W.heap.size + 1 ≤ w3.heap.size := by omega
      clear y0 y1 y2 y3 hgrow hat3
      go_upto_region 8 with (at_builtin; go_must (refine wpList_appP (by rfl) _ _ 99 (by rfl) (W.heap.size + 1) 111 _ 4 64 Tryz.underlying99 info_rf1 rfl (by decide) (.slice (some ⟨g3, 0, none⟩) (c + 1) k3) (c + 1) _ w3 ho3 hz3' (by rfl) ⟨g, 0, none⟩ 0 0 [] (by rfl) rfl (fun _ _ h => by simp at h) (fun _ h => by cases h) (by omega) (by decide) ?_; intro v5 w5 ho5 hb5; rw [Nat.add_zero] at ho5; obtain ⟨a5, k5, rfl⟩ := rf_own_slice ho5))
      have hbw5 := hbw3.trans (hb5.mono (Nat.le_succ _))
      have hB5 : Blk w5 q _ _ := (hbw5.block q hql).trans hB4.out
      have z4 := hB5.frozen 4
      have hq5 := hB5.lt
      obtain ⟨hl', o1, o2⟩ := hfin.out w5 _ hbw5 (row_base ho5 (Nat.le_succ _))
      replace o1 := Lib.hid o1
      replace o2 := Lib.hid o2
      clear d4
      have d4 : w5.cell? ⟨q, 4, none⟩ = some (.slice (some ⟨g, 0, none⟩) c c) := (hbw5.cell (p := ⟨q, 4, none⟩) hql).trans c4h.out
      clear hfin hB4 hB5 t2 hBx
      go_wp2_with fail
      go_end0
      exact ⟨⟨_, rfl⟩, _, ⟨hl', o1.out⟩, o2.out⟩
     ·go_upto_region 6 with (at_builtin; go_must (refine wpList_appP (by rfl) _ _ 99 (by rfl) (W.heap.size + 1) 111 _ 4 64 Tryz.underlying99 info_rf1 rfl (by decide) (.slice none 0 0) 0 [] wx hn1 hz1 (by rfl) ⟨g, 0, none⟩ k c P1 (by rfl) p1 p2' p3 (by omega) (by decide) ?_; intro v1 w1 ho1 hb1; rw [Nat.zero_add, List.nil_append] at ho1; obtain ⟨a1, k1, rfl⟩ := rf_own_slice ho1))
      have hX1 : Blk w1 W.heap.size _ _ := (hb1.block _ (Nat.lt_succ_self _)).trans hXh.out
      have y0 : w1.cell? ⟨W.heap.size, 0, none⟩ = some (.string nm) := by simp [hX1.cell]
      have y1 : w1.cell? ⟨W.heap.size, 1, none⟩ = some (.string dat) := by simp [hX1.cell]
      have y2 : w1.cell? ⟨W.heap.size, 2, none⟩ = some (.int .i64 (old : Int)) := by simp [hX1.cell]
      have y3 : w1.cell? ⟨W.heap.size, 3, none⟩ = some (.slice ua un uc) := by simp [hX1.cell]
      have hz1' := hb1.size
      have hz1'' : W.heap.size + 1 ≤ w1.heap.size := by omega
      have hbw1 := hb2.trans (hb1.mono (Nat.le_succ _))
      clear x0 x1 x2 x3 hn1 d4 hX1 hXh
      go_upto_region 7 with (at_builtin; go_must (refine wpList_app1 (by rfl) _ _ 99 (by rfl) (W.heap.size + 1) 111 _ 4 64 Tryz.underlying99 info_rf1 rfl (by decide) (.slice a1 k k1) k P1 w1 ho1 hz1'' (by rfl) #[.string nm, .string dat, .int .i64 (old : Int), .slice ua un uc] 111 (by rfl) rfl (by simp [Value.oneCell']) (by omega) (by decide) ?_; intro g3 k3 w3 ho3 hgrow hat3 hg3))
      have hb3 : Below (W.heap.size + 1) w1 w3 := (keep_app hgrow).below (Below.refl _ _) hz1'' (fun q hq e => by have := (ho1.lt q e).1; omega)
      have hbw3 := hbw1.trans (hb3.mono (Nat.le_succ _))
      have d4 := (hbw3.cell (p := ⟨q, 4, none⟩) hql).trans c4h.out
      have t2' := t2.out w3 hbw3
      have hz3 := hb3.size
      have hz3' : W.heap.size + 1 ≤ w3.heap.size := by omega
      clear y0 y1 y2 y3 hgrow hat3
      go_upto_region 8 with (at_builtin; go_must (refine wpList_appP (by rfl) _ _ 99 (by rfl) (W.heap.size + 1) 111 _ 4 64 Tryz.underlying99 info_rf1 rfl (by decide) (.slice (some ⟨g3, 0, none⟩) (k + 1) k3) (k + 1) _ w3 ho3 hz3' (by rfl) ⟨g, k * 4, none⟩ (n - k) (c - k) P2 (by rfl) t1 t2' t3 (by omega) (by decide) ?_; intro v5 w5 ho5 hb5; obtain ⟨a5, k5, rfl⟩ := rf_own_slice ho5))
      have hbw5 := hbw3.trans (hb5.mono (Nat.le_succ _))
      have hB5 : Blk w5 q _ _ := (hbw5.block q hql).trans hB4.out
      have z4 := hB5.frozen 4
      have hq5 := hB5.lt
      obtain ⟨hl', o1, o2⟩ := hfin.out w5 _ hbw5 (row_base ho5 (Nat.le_succ _))
      replace o1 := Lib.hid o1
      replace o2 := Lib.hid o2
      clear d4
      have d4 : w5.cell? ⟨q, 4, none⟩ = some (.slice (some ⟨g, 0, none⟩) n c) := (hbw5.cell (p := ⟨q, 4, none⟩) hql).trans c4h.out
      clear hfin hB4 hB5 t2 t2' hBx
      go_wp2_with fail
      go_end0
      exact ⟨⟨_, rfl⟩, _, ⟨hl', o1.out⟩, o2.out⟩
end
section
open Go.RowKit
variable {B Br q r : Nat} {vf vh : Value} {rp fp fpr : Nat → Prop} {hl : List (Pl.RF1 × Value)} {x : Pl.Rf} {s : Pl.Dv} {W W' : World}
theorem mk_append (a : List UInt8) (b : ByteArray) : (⟨a.toArray⟩ : ByteArray) ++ b = ⟨(a ++ b.data.toList).toArray⟩ := by
 apply Pl.eq_of_list
 rw [ByteArray.data_append, Array.toList_append]
theorem mk_size (a : List UInt8) : (⟨a.toArray⟩ : ByteArray).size = a.length := by
 show a.toArray.size = _
 simp
set_option maxHeartbeats 2000000 in
theorem rload_any (hc0 : W.cell? ⟨q, 0, none⟩ = some (.pointer (some ⟨r, 0, none⟩))) (hql : q < W.heap.size) (hr : RefAt Br r s fpr W) (hup : s.down = false) (hw : s.wait.length ≤ 9223372036854775807) (f : Pl.FileP) (ua : Option Addr) (uc : Nat) (hu : IntsAt W (.slice ua f.blocks.length uc) f.blocks) (hbl : f.blocks.length ≤ 16384) (hin : ∀ b ∈ f.blocks, 0 ≤ b ∧ b < (s.safe.length : Int)) (hsz0 : 0 ≤ f.size) (hsz : f.size ≤ (f.blocks.length * 256 : Nat)) :
  Calls Tryz.prog 77 #[.pointer (some ⟨q, 0, none⟩), .agg #[.string f.name, .int .i64 f.size, .slice ua f.blocks.length uc]] W fun e w' => e = .returned (.string (Pl.loadF s f)) ∧ Below W.heap.size W w' := by
 have hwf : s.WF := by obtain ⟨_, _, h⟩ := hr; exact h.wf
 obtain ⟨nm, sz, bl⟩ := f
 simp only at hu hbl hin hsz hsz0 ⊢
 obtain ⟨szn, rfl⟩ := Int.eq_ofNat_of_zero_le hsz0
 have hszn : szn ≤ bl.length * 256 := by omega
 have hlF : Hid (Pl.loadF s ⟨nm, (szn : Int), bl⟩ = (⟨(Pl.bytesL s bl).toArray⟩ : ByteArray).extract 0 szn) := Lib.hid (by
  apply Pl.eq_of_list
  unfold Pl.loadF
  simp [ByteArray.data_extract, Array.toList_extract, List.extract_eq_take_drop])
 have hbl8 : Hid (∀ k, (Pl.bytesL s (bl.take k)).length = (bl.take k).length * 256) := Lib.hid (fun k => Pl.bytesL_length hwf _ (fun q hq => hin q (List.mem_of_mem_take hq)))
 obtain ⟨W1, hW1⟩ : ∃ W1, W.alloc (.cells #[.string nm, .int .i64 (szn : Int), .slice ua bl.length uc] 76) = W1 := ⟨_, rfl⟩
 have hX : Blk W1 W.heap.size #[.string nm, .int .i64 (szn : Int), .slice ua bl.length uc] 76 := by rw [← hW1]; exact Blk.new _ _ _
 have hbW : Below W.heap.size W W1 := by rw [← hW1]; exact (Below.refl _ _).alloc (Nat.le_refl _) _
 have hr1 := hr.beyond hbW
 have e0 := (hbW.cell (p := ⟨q, 0, none⟩) hql).trans hc0
 have PRd := Lib.hid (fun (m n i : Nat) (hi : i < s.safe.length) => refRead_ok i ((hr1.keep ((Keep.refl _ W1).drewN m)).keep ((Keep.refl _ (W1.drewN m)).drewN n)) hup hi hw)
 have hrd8 : Hid (∀ i, i < s.safe.length → (s.read i).size = 256) := Lib.hid (fun i hi => hwf.read hi)
 have hu1 := hu.below hbW
 obtain ⟨ua', uc', he, i1, i2, hia⟩ := hu1
 injection he with he1 he2 he3
 subst he1 he3
 have x1 : W1.cell? ⟨W.heap.size, 1, none⟩ = some (.int .i64 (szn : Int)) := by simp [hX.cell]
 have x2 : W1.cell? ⟨W.heap.size, 2, none⟩ = some (.slice ua bl.length uc) := by simp [hX.cell]
 clear hr hr1 hu hwf hc0
 go_enter Tryz.func77, Tryz.ntmps77
 go_wp2_with fail
 try rw [hW1]
 clear hW1
 go_loopw [5, 6] (fun sv iv X => ∃ (k m : Nat), k ≤ bl.length ∧ iv = .int .i64 (k : Int) ∧ sv = .string ⟨(Pl.bytesL s (bl.take k)).toArray⟩ ∧ X = W1.drewN m) (fun _ iv _ => bl.length - (intOf iv).toNat)
 case atStart => exact ⟨0, 0, Nat.zero_le _, rfl, rfl, rfl⟩
 case round =>
  obtain ⟨k, m, hk, rfl, rfl, rfl⟩ := hrel
  have hk0 : (0 : Int) ≤ (k : Int) := by omega
  by_cases hkl : k < bl.length
  ·have hkl2 : (k : Int) < (bl.length : Int) := by omega
   obtain ⟨b, off, rfl, hb, hx⟩ := hia (by omega)
   have y0 := hx k hkl
   obtain ⟨hm0, hm1⟩ := hin _ (List.getElem_mem hkl)
   have hnx : Hid (Pl.bytesL s (bl.take (k + 1)) = Pl.bytesL s (bl.take k) ++ (s.read bl[k].toNat).data.toList) := Lib.hid (by rw [List.take_succ_eq_append_getElem hkl, Pl.bytesL_snoc])
   generalize bl[k] = bv at y0 hm0 hm1 hnx
   obtain ⟨bn, rfl⟩ := Int.eq_ofNat_of_zero_le hm0
   have hbn : bn < s.safe.length := by omega
   have PR := Lib.hid (fun n => PRd.out m n bn hbn)
   rw [Int.toNat_natCast] at hnx
   have hl1 := hbl8.out k
   rw [List.length_take] at hl1
   have hz1 : (⟨(Pl.bytesL s (bl.take k)).toArray⟩ : ByteArray).size = min k bl.length * 256 := by rw [mk_size]; exact hl1
   have hz2 := hrd8.out bn hbn
   have hap := Lib.hid (mk_append (Pl.bytesL s (bl.take k)) (s.read bn))
   generalize (⟨(Pl.bytesL s (bl.take k)).toArray⟩ : ByteArray) = A at hz1 hap ⊢
   generalize s.read bn = Rb at hz2 hap PR hnx
   have hss : A.size + Rb.size ≤ 9223372036854775807 := by omega
   have hss2 : ¬ (9223372036854775807 < A.size + Rb.size) := by omega
   have kd : Keep (fun _ => True) W1 (W1.drewN m) := (Keep.refl _ W1).drewN m
   have e0' := kd.cell (b := q) (o := 0) trivial e0
   have x2' := kd.cell (b := W.heap.size) (o := 2) trivial x2
   have y0' := kd.cell (b := b) (o := off + k) trivial y0
   clear hx hia PRd hl1 hrd8 e0 x1 x2 y0 kd hX hbW
   obtain ⟨wv, hwv⟩ : ∃ wv, wv = W1.drewN m := ⟨_, rfl⟩
   rw [← hwv] at e0' x2' y0' PR ⊢
   replace hwv := Lib.hid hwv
   go_wp2_with fail
   go_quiet ((go_at_call 56; exact Calls.quiet_of_same ((PR.out _).mono fun _ _ ⟨h1, h2⟩ => ⟨h1, h2.symm⟩)))
   go_wp2_with fail
   go_roundw
   case rel => exact ⟨k + 1, _, by omega, by go_num, by rw [hap.out, hnx.out], by rw [hwv.out]; exact drewN_two _ _ _⟩
   case measure => simp [intOf]; omega
  ·obtain rfl : k = bl.length := by omega
   have hkl2 : ¬ (bl.length : Int) < (bl.length : Int) := by omega
   have hl1 := hbl8.out bl.length
   rw [List.take_length] at hl1 ⊢
   have hz1 : (⟨(Pl.bytesL s bl).toArray⟩ : ByteArray).size = bl.length * 256 := by rw [mk_size]; exact hl1
   generalize (⟨(Pl.bytesL s bl).toArray⟩ : ByteArray) = A at hz1 hlF ⊢
   have hs1 : (szn : Int) ≤ (A.size : Int) := by omega
   have hs0 : (0 : Int) ≤ (szn : Int) := by omega
   have hbf := Lib.hid (below_drewN hbW m)
   clear hia PRd hl1 hrd8
   go_wp2
   go_ret
   exact ⟨by rw [hlF.out]; rfl, hbf.out⟩
end
section
open Go.RowKit
namespace Pl
def rf0 : RF1 := ⟨.empty, .empty, 0, []⟩
def Rf.lengthR (x : Rf) (s : Dv) (k : Int) : Int × Int := if x.dead s = true then (0, 4) else if k < 0 then (0, 6) else (((x.hand.getD k.toNat rf0).data.size : Int), 0)
def Rf.namesR (x : Rf) (s : Dv) : List ByteArray := if x.dead s = true then [] else x.hand.map (·.name)
def cutR (d : ByteArray) (fr n : Nat) : ByteArray := (d.extract (min fr d.size) d.size).extract 0 (min n (d.extract (min fr d.size) d.size).size)
def Rf.readR (x : Rf) (s : Dv) (k fr n : Int) : ByteArray × Int := if x.dead s = true then (.empty, 4) else if fr < 0 ∨ n < 0 then (.empty, 1) else if k < 0 then (.empty, 6) else (cutR (x.hand.getD k.toNat rf0).data fr.toNat n.toNat, 0)
end Pl
variable {B Br q r : Nat} {vf vh : Value} {rp fp fpr : Nat → Prop} {hl : List (Pl.RF1 × Value)} {x : Pl.Rf} {s : Pl.Dv} {W W' : World}
theorem rplace_get {k : Int} (h : RfO B q r vf vh rp hl x W) {nm : ByteArray} (hk : Pl.RPlace (x.hand.map (·.name)) nm k) (h0 : ¬ k < 0) : ∃ (i : Nat) (hi : i < hl.length), k = (i : Int) ∧ hl[i].1.name = nm ∧ x.hand.getD k.toNat Pl.rf0 = hl[i].1 := by
 rcases hk with ⟨rfl, _⟩ | ⟨i, hi, rfl, e⟩
 ·exact absurd (by decide : (-1 : Int) < 0) h0
 ·have hx := h.heq
  have hi2 : i < hl.length := by
   rw [hx, List.length_map, List.length_map] at hi
   exact hi
  refine ⟨i, hi2, rfl, ?_, ?_⟩
  ·have : (x.hand.map (·.name))[i]? = some nm := by rw [List.getElem?_eq_getElem hi, e]
   rw [hx, List.map_map, List.getElem?_map, List.getElem?_eq_getElem hi2] at this
   exact Option.some.inj this
  ·rw [Int.toNat_natCast, List.getD_eq_getElem?_getD, hx, List.getElem?_map, List.getElem?_eq_getElem hi2]
   rfl
set_option maxHeartbeats 1000000 in
theorem rlength_any (h : RfAt B q r x fp W) (hr : RefAt Br r s fpr W) (nm : ByteArray) : Calls Tryz.prog 23 #[.pointer (some ⟨q, 0, none⟩), .string nm] W fun e w' => ∃ k, Pl.RPlace (x.hand.map (·.name)) nm k ∧ e = .returned (.tuple #[.int .i64 (x.lengthR s k).1, .int .i64 (x.lengthR s k).2]) ∧ Below W.heap.size W w' := by
 have h0 := h
 obtain ⟨vf, vh, rp, hl, h, rfl⟩ := h
 have PP := Lib.hid (fun n => rplace_any (h0.keep ((Keep.refl _ W).drewN n)) nm)
 have hget := Lib.hid (fun k hk hk0 => rplace_get (k := k) h (nm := nm) hk hk0)
 have hrow0 := h.row
 obtain ⟨a, c, rfl, hc1, hc2, hrow⟩ := hrow0
 obtain ⟨c0, c1, c2, c3, c4, c5⟩ := h.cells
 cases hdd : x.dead s with
 | true =>
  have PD := Lib.hid (rdead_is hdd h0 hr)
  have hres : Hid (∀ k, x.lengthR s k = (0, 4)) := Lib.hid (fun k => by unfold Pl.Rf.lengthR; rw [if_pos hdd])
  clear h h0 hr hrow hget hdd
  go_enter Tryz.func23, Tryz.ntmps23
  go_upto_region 2 with (go_at_call 64; refine PD.out.mono ?_; rintro e w1 ⟨rfl, m, rfl⟩)
  go_wp2_with (go_at_call 65; refine (PP.out m).mono ?_; rintro e w2 ⟨k, rfl, hk, rfl⟩)
  go_ret2
  exact ⟨k, hk, by rw [hres.out]; rfl, below_drewN (Below.refl _ _) _⟩
 | false =>
  have PD := Lib.hid (rdead_is hdd h0 hr)
  have hres : Hid (∀ k, x.lengthR s k = if k < 0 then (0, 6) else (((x.hand.getD k.toNat Pl.rf0).data.size : Int), 0)) := Lib.hid (fun k => by unfold Pl.Rf.lengthR; rw [if_neg (by rw [hdd]; exact Bool.false_ne_true)])
  clear h h0 hr hdd
  go_enter Tryz.func23, Tryz.ntmps23
  go_upto_region 2 with (go_at_call 64; refine PD.out.mono ?_; rintro e w1 ⟨rfl, m, rfl⟩)
  go_upto_region 3 with (go_at_call 65; refine (PP.out m).mono ?_; rintro e w2 ⟨k, rfl, hk, rfl⟩)
  by_cases hk0 : k < 0
  ·have hr2 := hres.out k
   rw [if_pos hk0] at hr2
   replace hr2 := Lib.hid hr2
   have hk' := Lib.hid hk
   clear hres hrow hget PP PD hk
   go_wp2
   go_ret2
   exact ⟨k, hk'.out, by rw [hr2.out]; rfl, below_drewN (Below.refl _ _) _⟩
  ·obtain ⟨i, hi, rfl, hnm, hgd⟩ := hget.out k hk (by omega)
   have hr2 := hres.out (i : Int)
   rw [if_neg hk0, hgd] at hr2
   replace hr2 := Lib.hid hr2
   have hk' := Lib.hid hk
   obtain ⟨g, rfl, hgl, r0, r1, r2, r3⟩ := hrow i hi
   have hi2 : (i : Int) < (hl.length : Int) := by omega
   have hi0 : (0 : Int) ≤ (i : Int) := by omega
   generalize hl[i].1.data = dd at r1 hr2
   clear hres hrow hget PP PD hk r0 r2 r3 hnm hgd
   go_wp2
   go_ret2
   exact ⟨(i : Int), hk'.out, by rw [hr2.out]; rfl, below_drewN (Below.refl _ _) _⟩
set_option maxHeartbeats 1000000 in
theorem rread_any (h : RfAt B q r x fp W) (hr : RefAt Br r s fpr W) (nm : ByteArray) (fr n : Int) (hb1 : -9223372036854775808 ≤ fr ∧ fr ≤ 9223372036854775807) (hb2 : -9223372036854775808 ≤ n ∧ n ≤ 9223372036854775807) : Calls Tryz.prog 21 #[.pointer (some ⟨q, 0, none⟩), .string nm, .int .i64 fr, .int .i64 n] W fun e w' => ∃ k, Pl.RPlace (x.hand.map (·.name)) nm k ∧ e = .returned (.tuple #[.string (x.readR s k fr n).1, .int .i64 (x.readR s k fr n).2]) ∧ Below W.heap.size W w' := by
 have h0 := h
 obtain ⟨vf, vh, rp, hl, h, rfl⟩ := h
 have PP := Lib.hid (fun n => rplace_any (h0.keep ((Keep.refl _ W).drewN n)) nm)
 have hget := Lib.hid (fun k hk hk0 => rplace_get (k := k) h (nm := nm) hk hk0)
 have hrow0 := h.row
 obtain ⟨a, c, rfl, hc1, hc2, hrow⟩ := hrow0
 obtain ⟨c0, c1, c2, c3, c4, c5⟩ := h.cells
 cases hdd : x.dead s with
 | true =>
  have PD := Lib.hid (rdead_is hdd h0 hr)
  have hres : Hid (∀ k, x.readR s k fr n = (.empty, 4)) := Lib.hid (fun k => by unfold Pl.Rf.readR; rw [if_pos hdd])
  clear h h0 hr hrow hget hdd
  go_enter Tryz.func21, Tryz.ntmps21
  go_upto_region 2 with (go_at_call 64; refine PD.out.mono ?_; rintro e w1 ⟨rfl, m, rfl⟩)
  go_wp2_with (go_at_call 65; refine (PP.out m).mono ?_; rintro e w2 ⟨k, rfl, hk, rfl⟩)
  go_ret2
  exact ⟨k, hk, by rw [hres.out]; rfl, below_drewN (Below.refl _ _) _⟩
 | false =>
  have PD := Lib.hid (rdead_is hdd h0 hr)
  have hres : Hid (∀ k, x.readR s k fr n = if fr < 0 ∨ n < 0 then (.empty, 1) else if k < 0 then (.empty, 6) else (Pl.cutR (x.hand.getD k.toNat Pl.rf0).data fr.toNat n.toNat, 0)) := Lib.hid (fun k => by unfold Pl.Rf.readR; rw [if_neg (by rw [hdd]; exact Bool.false_ne_true)])
  clear h h0 hr hdd
  go_enter Tryz.func21, Tryz.ntmps21
  go_upto_region 2 with (go_at_call 64; refine PD.out.mono ?_; rintro e w1 ⟨rfl, m, rfl⟩)
  go_upto_region 3 with (go_at_call 65; refine (PP.out m).mono ?_; rintro e w2 ⟨k, rfl, hk, rfl⟩)
  by_cases hf0 : fr < 0
  ·have hr2 := hres.out k
   rw [if_pos (.inl hf0)] at hr2
   replace hr2 := Lib.hid hr2
   have hk' := Lib.hid hk
   clear hres hrow hget PP PD hk
   go_wp2
   go_ret2
   exact ⟨k, hk'.out, by rw [hr2.out]; rfl, below_drewN (Below.refl _ _) _⟩
  by_cases hn0 : n < 0
  ·have hr2 := hres.out k
   rw [if_pos (.inr hn0)] at hr2
   replace hr2 := Lib.hid hr2
   have hk' := Lib.hid hk
   clear hres hrow hget PP PD hk
   go_wp2
   go_ret2
   exact ⟨k, hk'.out, by rw [hr2.out]; rfl, below_drewN (Below.refl _ _) _⟩
  by_cases hk0 : k < 0
  ·have hr2 := hres.out k
   rw [if_neg (by omega), if_pos hk0] at hr2
   replace hr2 := Lib.hid hr2
   have hk' := Lib.hid hk
   clear hres hrow hget PP PD hk
   go_wp2
   go_ret2
   exact ⟨k, hk'.out, by rw [hr2.out]; rfl, below_drewN (Below.refl _ _) _⟩
  ·obtain ⟨i, hi, rfl, hnm, hgd⟩ := hget.out k hk (by omega)
   have hr2 := hres.out (i : Int)
   rw [if_neg (by omega), if_neg hk0, hgd] at hr2
   replace hr2 := Lib.hid hr2
   have hk' := Lib.hid hk
   obtain ⟨g, rfl, hgl, r0, r1, r2, r3⟩ := hrow i hi
   have hi2 : (i : Int) < (hl.length : Int) := by omega
   have hi0 : (0 : Int) ≤ (i : Int) := by omega
   obtain ⟨fn, rfl⟩ := Int.eq_ofNat_of_zero_le (show 0 ≤ fr by omega)
   obtain ⟨nn, rfl⟩ := Int.eq_ofNat_of_zero_le (show 0 ≤ n by omega)
   generalize hl[i].1.data = dd at r1 hr2
   rw [Int.toNat_natCast, Int.toNat_natCast] at hr2
   clear hres hrow hget PP PD hk r0 r2 r3 hnm hgd
   have hm1 : min (fn : Int) (dd.size : Int) = ((min fn dd.size : Nat) : Int) := by omega
   have hm2 : min (nn : Int) ((dd.extract (min fn dd.size) dd.size).size : Int) = ((min nn (dd.extract (min fn dd.size) dd.size).size : Nat) : Int) := by omega
   have hcut : Hid ((dd.extract (min fn dd.size) dd.size).extract 0 (min (nn : Int) ((dd.size - min fn dd.size : Nat) : Int)).toNat = Pl.cutR dd fn nn) := Lib.hid (by
    unfold Pl.cutR
    congr 1
    rw [ByteArray.size_extract]
    omega)
   go_wp2
   go_ret2
   exact ⟨(i : Int), hk'.out, by rw [hr2.out, ← hcut.out]; rfl, below_drewN (Below.refl _ _) _⟩
set_option maxHeartbeats 1000000 in
theorem rnames_any (h : RfAt B q r x fp W) (hr : RefAt Br r s fpr W) (hlen : x.hand.length ≤ 1000) : Calls Tryz.prog 26 #[.pointer (some ⟨q, 0, none⟩)] W fun e w' => ∃ v, e = .returned v ∧ w'.ownsRow W.heap.size 9 1 v (x.namesR s).length ((x.namesR s).map Value.string) ∧ Below W.heap.size W w' := by
 obtain ⟨NS, hNS⟩ : ∃ NS, NS = x.namesR s := ⟨_, rfl⟩
 rw [← hNS]
 have h0 := h
 obtain ⟨vf, vh, rp, hl, h, rfl⟩ := h
 have hll : hl.length ≤ 1000 := by have := congrArg List.length h.heq; rw [List.length_map] at this; omega
 have hnm : Hid (x.hand.map (·.name) = hl.map (·.1.name)) := Lib.hid (by rw [h.heq, List.map_map]; rfl)
 have hrow0 := h.row
 obtain ⟨a, c, rfl, hc1, hc2, hrow⟩ := hrow0
 obtain ⟨c0, c1, c2, c3, c4, c5⟩ := h.cells
 have hqlt := h.blk.lt
 cases hdd : x.dead s with
 | true =>
  have PD := Lib.hid (rdead_is hdd h0 hr)
  obtain rfl : NS = [] := by rw [hNS]; unfold Pl.Rf.namesR; rw [if_pos hdd]
  clear h h0 hr hNS hdd
  go_enter Tryz.func26, Tryz.ntmps26
  go_upto_region 3 with (go_at_call 64; refine PD.out.mono ?_; rintro e w1 ⟨rfl, m, rfl⟩)
  go_wp2_with fail
  go_loopw [3, 5] (fun vo iv X => vo = .slice none 0 0 ∧ iv = .int .i64 0 ∧ X = W.drewN m) (fun _ _ _ => 0)
  case atStart => exact ⟨rfl, rfl, rfl⟩
  case round =>
   obtain ⟨rfl, rfl, rfl⟩ := hrel
   by_cases hz : 0 < hl.length
   ·have hz2 : (0 : Int) < (hl.length : Int) := by omega
    go_wp2
    go_ret
    exact ⟨_, rfl, World.ownsRow_nil _ _ _ _, below_drewN (Below.refl _ _) _⟩
   ·have hz2 : ¬ (0 : Int) < (hl.length : Int) := by omega
    go_wp2
    go_ret
    exact ⟨_, rfl, World.ownsRow_nil _ _ _ _, below_drewN (Below.refl _ _) _⟩
 | false =>
  have PD := Lib.hid (rdead_is hdd h0 hr)
  have hN2 : Hid (NS = hl.map (·.1.name)) := Lib.hid (by rw [hNS]; unfold Pl.Rf.namesR; rw [if_neg (by rw [hdd]; exact Bool.false_ne_true)]; exact hnm.out)
  clear h h0 hr hNS hdd hnm
  go_enter Tryz.func26, Tryz.ntmps26
  go_upto_region 3 with (go_at_call 64; refine PD.out.mono ?_; rintro e w1 ⟨rfl, m, rfl⟩)
  go_wp2_with fail
  go_loopw [3, 5] (fun vo iv X => ∃ (i : Nat) (a1 : Option Addr) (k1 : Nat), i ≤ hl.length ∧ iv = .int .i64 (i : Int) ∧ vo = .slice a1 i k1 ∧ X.ownsRow W.heap.size 9 1 vo i (((hl.take i).map (·.1.name)).map Value.string) ∧ Below W.heap.size W X) (fun _ iv _ => hl.length - (intOf iv).toNat)
  case atStart => exact ⟨0, none, 0, Nat.zero_le _, rfl, rfl, World.ownsRow_nil _ _ _ _, below_drewN (Below.refl _ _) _⟩
  case round =>
   obtain ⟨i, a1, k1, hi, rfl, rfl, hown, hb⟩ := hrel
   have d4 := (hb.cell (p := ⟨q, 4, none⟩) hqlt).trans c4
   have hzz := hb.size
   by_cases hil : i < hl.length
   case neg =>
    obtain rfl : i = hl.length := by omega
    have hres : Hid (wr.ownsRow W.heap.size 9 1 (.slice a1 hl.length k1) NS.length (NS.map Value.string)) := Lib.hid (by
     rw [List.take_length] at hown
     rw [hN2.out, List.length_map]
     exact hown)
    have hii : ¬ ((hl.length : Int) < (hl.length : Int)) := by omega
    have hidec : decide ((hl.length : Int) < (hl.length : Int)) = false := by simp
    clear hown hrow hN2
    go_wp2
    go_ret
    exact ⟨_, rfl, hres.out, hb⟩
   obtain ⟨g, rfl, hgl, r0, r1, r2, r3⟩ := hrow i hil
   have e0 := (hb.cell (p := ⟨g, i * 4, none⟩) hgl).trans r0
   have hi2 : (i : Int) < (hl.length : Int) := by omega
   have hi0 : (0 : Int) ≤ (i : Int) := by omega
   have hnxt : Hid (((hl.take (i + 1)).map (·.1.name)).map Value.string = ((hl.take i).map (·.1.name)).map Value.string ++ (#[.string hl[i].1.name] : Array Value).toList) := Lib.hid (by rw [List.take_succ_eq_append_getElem hil, List.map_append, List.map_append]; rfl)
   generalize hl[i].1.name = nn at e0 hnxt
   obtain ⟨xs, hxs⟩ : ∃ xs, xs = ((hl.take i).map (·.1.name)).map Value.string := ⟨_, rfl⟩
   rw [← hxs] at hown hnxt
   clear hxs hrow r0 r1 r2 r3 hN2 c0 c1 c2 c3 c4 c5
   have hown' := hown
   go_wp2_with (at_builtin; go_must (refine wpList_app1 (by rfl) _ _ 43 (by rfl) W.heap.size 9 (.string .empty) 1 16 Tryz.underlying43 info_string rfl (by decide) (.slice a1 i k1) i xs wr hown' hzz (by rfl) #[.string nn] 9 (by rfl) rfl (by simp [Value.oneCell']) (by omega) (by decide) ?_; intro g2 cap2 w2 hown2 hgrow hat2 hg2))
   have hb2 : Below W.heap.size W w2 := (keep_app hgrow).below hb (Nat.le_refl _) (fun q hq e => by have := (hown'.lt q e).1; omega)
   go_roundw
   case rel => exact ⟨i + 1, some ⟨g2, 0, none⟩, cap2, by omega, by go_num, rfl, by rw [hnxt.out]; exact hown2, hb2⟩
   case measure => simp [intOf]; omega
end
section
open Go.RowKit
variable {B Br q r : Nat} {vf vh : Value} {rp fp fpr : Nat → Prop} {hl : List (Pl.RF1 × Value)} {x : Pl.Rf} {s : Pl.Dv} {W W' : World}
def REnds (B q r : Nat) (fp : Nat → Prop) (E : Pl.Rf × Int) (W : World) (e : Ending) (W' : World) : Prop := e = .returned (.int .i64 E.2) ∧ ∃ fp', RfAt B q r E.1 fp' W' ∧ Step fp fp' W W'
theorem REnds.still (h : RfAt B q r x fp W) (c : Int) (m : Nat) : REnds B q r fp (x, c) W (.returned (.int .i64 c)) (W.drewN m) :=
 ⟨rfl, fp, h.keep ((Keep.refl _ W).drewN m), ⟨(Keep.refl _ W).drewN m, fun _ h => .inl h, fun k hk => h.lt k hk⟩⟩
theorem rf_len (h : RfO B q r vf vh rp hl x W) : hl.length = x.hand.length := by rw [h.heq, List.length_map]
theorem step_drew {fp fp' : Nat → Prop} {m : Nat} (st : Step fp fp' (W.drewN m) W') : Step fp fp' W W' := ⟨((Keep.refl _ W).drewN m).trans st.keep (fun _ h _ => h), st.new, st.lt⟩
set_option maxHeartbeats 1000000 in
theorem rdelete_any (h : RfAt B q r x fp W) (hr : RefAt Br r s fpr W) (nm : ByteArray) (hlen : x.hand.length ≤ 1000) (hB : B ≤ W.heap.size) : Calls Tryz.prog 39 #[.pointer (some ⟨q, 0, none⟩), .string nm] W fun e w' => ∃ k, Pl.RPlace (x.hand.map (·.name)) nm k ∧ REnds B q r fp (x.deleteR s k) W e w' := by
 have h0 := h
 obtain ⟨vf, vh, rp, hl, h, rfl⟩ := h
 have PP := Lib.hid (fun n => rplace_any (h0.keep ((Keep.refl _ W).drewN n)) nm)
 have hget := Lib.hid (fun k hk hk0 => rplace_get (k := k) h (nm := nm) hk hk0)
 have hll : hl.length ≤ 1000 := by rw [rf_len h]; exact hlen
 cases hdd : x.dead s with
 | true =>
  have PD := Lib.hid (rdead_is hdd h0 hr)
  have hres : Hid (∀ k m, REnds B q r (rfFp q vh rp) (x.deleteR s k) W (.returned (.int .i64 4)) (W.drewN m)) := Lib.hid (fun k m => by unfold Pl.Rf.deleteR; rw [if_pos hdd]; exact REnds.still h0 4 m)
  clear h h0 hr hget hdd
  go_enter Tryz.func39, Tryz.ntmps39
  go_upto_region 2 with (go_at_call 64; refine PD.out.mono ?_; rintro e w1 ⟨rfl, m, rfl⟩)
  go_wp2_with (go_at_call 65; refine (PP.out m).mono ?_; rintro e w2 ⟨k, rfl, hk, rfl⟩)
  go_ret
  exact ⟨k, hk, hres.out k m⟩
 | false =>
  have PD := Lib.hid (rdead_is hdd h0 hr)
  have hres : Hid (∀ k m, k < 0 → REnds B q r (rfFp q vh rp) (x.deleteR s k) W (.returned (.int .i64 6)) (W.drewN m)) := Lib.hid (fun k m hk => by unfold Pl.Rf.deleteR; rw [if_neg (by rw [hdd]; exact Bool.false_ne_true), if_pos hk]; exact REnds.still h0 6 m)
  have hres2 : Hid (∀ (i : Nat), x.deleteR s (i : Int) = ({ x with hand := x.hand.eraseIdx i, changed := true }, 0)) := Lib.hid (fun i => by unfold Pl.Rf.deleteR; rw [if_neg (by rw [hdd]; exact Bool.false_ne_true), if_neg (by omega), Int.toNat_natCast])
  have PR : Hid (∀ (m i : Nat) (hi : i < hl.length), _) := Lib.hid (fun m i hi => rremove_any (h.keep ((Keep.refl _ W).drewN m)) i hi hll hB)
  clear h h0 hr hdd
  go_enter Tryz.func39, Tryz.ntmps39
  go_upto_region 2 with (go_at_call 64; refine PD.out.mono ?_; rintro e w1 ⟨rfl, m, rfl⟩)
  go_upto_region 3 with (go_at_call 65; refine (PP.out m).mono ?_; rintro e w2 ⟨k, rfl, hk, rfl⟩)
  by_cases hk0 : k < 0
  ·have hr2 := Lib.hid (hres.out k m hk0)
   have hk' := Lib.hid hk
   clear hres hres2 hget PP PD PR hk
   go_wp2
   go_ret
   exact ⟨k, hk'.out, hr2.out⟩
  ·obtain ⟨i, hi, rfl, hnm, hgd⟩ := hget.out k hk (by omega)
   have hr2 := Lib.hid (hres2.out i)
   have hk' := Lib.hid hk
   have PR2 := Lib.hid (PR.out m i hi)
   clear hres hres2 hget PP PD PR hk hnm hgd
   go_upto_region 8 with (go_at_call 74; refine PR2.out.mono ?_; rintro e w3 ⟨⟨v3, rfl⟩, vh', ho, st, _⟩)
   obtain ⟨o1, o2⟩ := ho.flag true
   have z5 := ho.blk.frozen 5
   have d5 : w3.cell? ⟨q, 5, none⟩ = some (.bool x.changed) := by simp [ho.blk.cell]
   have hq3 := ho.blk.lt
   replace o1 := Lib.hid o1
   have o2' := Lib.hid (st.trans o2)
   clear ho st o2 PR2
   go_wp2_with fail
   go_ret
   refine ⟨(i : Int), hk'.out, ?_⟩
   rw [hr2.out]
   exact ⟨rfl, _, RfAt.of o1.out, step_drew o2'.out⟩
set_option maxHeartbeats 2000000 in
theorem rcreate_any (h : RfAt B q r x fp W) (hr : RefAt Br r s fpr W) (nm : ByteArray) (hlen : x.hand.length ≤ 1000) (hB : B ≤ W.heap.size) : Calls Tryz.prog 33 #[.pointer (some ⟨q, 0, none⟩), .string nm] W fun e w' => ∃ k, Pl.RPlace (x.hand.map (·.name)) nm k ∧ REnds B q r fp (x.createR s nm k) W e w' := by
 have h0 := h
 obtain ⟨vf, vh, rp, hl, h, rfl⟩ := h
 have PP := Lib.hid (fun n => rplace_any (h0.keep ((Keep.refl _ W).drewN n)) nm)
 have hll : hl.length ≤ 1000 := by rw [rf_len h]; exact hlen
 have hln : Hid (x.hand.length = hl.length) := Lib.hid (rf_len h).symm
 have PN := Lib.hid (fun w => refName_any nm w)
 have hnd : Hid (∀ b : Bool, decide (1 ≤ nm.size ∧ nm.size ≤ 32) = b → Pl.named nm = b) := Lib.hid (fun b h => h)
 obtain ⟨nb, hnb⟩ : ∃ b, b = decide (1 ≤ nm.size ∧ nm.size ≤ 32) := ⟨_, rfl⟩
 have hnb2 := hnd.out nb hnb.symm
 rw [← hnb] at PN
 replace hnb2 := Lib.hid hnb2
 clear hnb hnd
 cases hdd : x.dead s with
 | true =>
  have PD := Lib.hid (rdead_is hdd h0 hr)
  have hres : Hid (∀ k m, REnds B q r (rfFp q vh rp) (x.createR s nm k) W (.returned (.int .i64 4)) (W.drewN m)) := Lib.hid (fun k m => by unfold Pl.Rf.createR; rw [if_pos hdd]; exact REnds.still h0 4 m)
  clear h h0 hr hdd
  go_enter Tryz.func33, Tryz.ntmps33
  go_upto_region 2 with (go_at_call 64; refine PD.out.mono ?_; rintro e w1 ⟨rfl, m, rfl⟩)
  go_wp2_with (first
   | (go_at_call 72; refine (PN.out _).mono ?_; rintro e w2 ⟨rfl, rfl⟩)
   | (go_at_call 65; refine (PP.out m).mono ?_; rintro e w2 ⟨k, rfl, hk, rfl⟩))
  go_ret
  exact ⟨k, hk, hres.out k m⟩
 | false =>
  have PD := Lib.hid (rdead_is hdd h0 hr)
  have hun : Hid (∀ k, x.createR s nm k = if Pl.named nm = false then (x, 1) else if 0 ≤ k then (x, 7) else if 64 ≤ x.hand.length then (x, 5) else ({ x with hand := Pl.rins ⟨nm, .empty, 0, []⟩ x.hand, changed := true }, 0)) := Lib.hid (fun k => by unfold Pl.Rf.createR; rw [if_neg (by rw [hdd]; exact Bool.false_ne_true)])
  have hstill : Hid (∀ (c : Int) m, REnds B q r (rfFp q vh rp) (x, c) W (.returned (.int .i64 c)) (W.drewN m)) := Lib.hid (fun c m => REnds.still h0 c m)
  have PR := Lib.hid (fun (m : Nat) => rinsert_any (h.keep ((Keep.refl _ W).drewN m)) ⟨nm, .empty, 0, []⟩ none 0 0 (IntsF.nil _ _) hll hB)
  have hrow0 := h.row
  obtain ⟨a, c, rfl, hc1, hc2, hrow⟩ := hrow0
  obtain ⟨c0, c1, c2, c3, c4, c5⟩ := h.cells
  clear h h0 hr hdd hrow
  go_enter Tryz.func33, Tryz.ntmps33
  go_upto_region 2 with (go_at_call 64; refine PD.out.mono ?_; rintro e w1 ⟨rfl, m, rfl⟩)
  go_upto_region 4 with (first
   | (go_at_call 72; refine (PN.out _).mono ?_; rintro e w2 ⟨rfl, rfl⟩)
   | (go_at_call 65; refine (PP.out m).mono ?_; rintro e w2 ⟨k, rfl, hk, rfl⟩))
  have hk' := Lib.hid hk
  cases nb with
  | false =>
   have hr2 : Hid (x.createR s nm k = (x, 1)) := Lib.hid (by rw [hun.out, if_pos hnb2.out])
   clear hun hk PP PD PN PR
   go_wp2
   go_ret
   exact ⟨k, hk'.out, by rw [hr2.out]; exact hstill.out 1 m⟩
  | true =>
   by_cases hk0 : 0 ≤ k
   ·have hr2 : Hid (x.createR s nm k = (x, 7)) := Lib.hid (by rw [hun.out, if_neg (by rw [hnb2.out]; decide), if_pos hk0])
    clear hun hk PP PD PN PR
    go_wp2
    go_ret
    exact ⟨k, hk'.out, by rw [hr2.out]; exact hstill.out 7 m⟩
   ·by_cases hl64 : 64 ≤ hl.length
    ·have hr2 : Hid (x.createR s nm k = (x, 5)) := Lib.hid (by rw [hun.out, if_neg (by rw [hnb2.out]; decide), if_neg hk0, if_pos (by rw [hln.out]; exact hl64)])
     have hl2 : (64 : Int) ≤ (hl.length : Int) := by omega
     clear hun hk PP PD PN PR
     go_wp2
     go_ret
     exact ⟨k, hk'.out, by rw [hr2.out]; exact hstill.out 5 m⟩
    ·have hr2 : Hid (x.createR s nm k = ({ x with hand := Pl.rins ⟨nm, .empty, 0, []⟩ x.hand, changed := true }, 0)) := Lib.hid (by rw [hun.out, if_neg (by rw [hnb2.out]; decide), if_neg hk0, if_neg (by rw [hln.out]; exact hl64)])
     have hl2 : ¬ (64 : Int) ≤ (hl.length : Int) := by omega
     have PR2 := Lib.hid (PR.out m)
     clear hun hk PP PD PN PR
     go_upto_region 13 with (go_at_call 73; refine PR2.out.mono ?_; rintro e w3 ⟨⟨v3, rfl⟩, vh', hl', ho, st⟩)
     obtain ⟨o1, o2⟩ := ho.flag true
     have z5 := ho.blk.frozen 5
     have d5 : w3.cell? ⟨q, 5, none⟩ = some (.bool x.changed) := by simp [ho.blk.cell]
     have hq3 := ho.blk.lt
     replace o1 := Lib.hid o1
     have o2' := Lib.hid (st.trans o2)
     clear ho st o2 PR2
     go_wp2_with fail
     go_ret
     refine ⟨k, hk'.out, ?_⟩
     rw [hr2.out]
     exact ⟨rfl, _, RfAt.of o1.out, step_drew o2'.out⟩
theorem rfcells_set (l : List (Pl.RF1 × Value)) : ∀ (i : Nat) (h : i < l.length) (d : ByteArray), (rfcells l).set (i * 4 + 1) (.string d) = rfcells (l.set i ({ l[i].1 with data := d }, l[i].2)) := by
 induction l with
 | nil => intro i h; exact absurd h (Nat.not_lt_zero i)
 | cons y l ih =>
  intro i h d
  cases i with
  | zero => rfl
  | succ i =>
   have e : (i + 1) * 4 + 1 = i * 4 + 1 + 1 + 1 + 1 + 1 := by omega
   rw [e]
   show (.string y.1.name :: .string y.1.data :: .int .i64 (y.1.old : Int) :: y.2 :: (rfcells l).set (i * 4 + 1) (.string d)) = _
   rw [ih i (by simpa using h) d]
   rfl
theorem RfO.longer {g c : Nat} (h : RfO B q r vf (.slice (some ⟨g, 0, none⟩) hl.length c) rp hl x W) (i : Nat) (hi : i < hl.length) (t : ByteArray) :
  RfO B q r vf (.slice (some ⟨g, 0, none⟩) hl.length c) rp (hl.set i ({ hl[i].1 with data := hl[i].1.data ++ t }, hl[i].2)) { x with hand := x.hand.modify i (fun y => { y with data := y.data ++ t }) } (W.setCell ⟨g, i * 4 + 1, none⟩ (.string (hl[i].1.data ++ t))) ∧ Step (rfFp q (.slice (some ⟨g, 0, none⟩) hl.length c) rp) (rfFp q (.slice (some ⟨g, 0, none⟩) hl.length c) rp) W (W.setCell ⟨g, i * 4 + 1, none⟩ (.string (hl[i].1.data ++ t))) := by
 have k5 := keep_set W g (i * 4 + 1) (.string (hl[i].1.data ++ t))
 obtain ⟨n1, n2⟩ := h.nh g rfl
 have kr : Keep rp W (W.setCell ⟨g, i * 4 + 1, none⟩ (.string (hl[i].1.data ++ t))) := k5.mono (fun k hk _ e => n1 (e ▸ hk))
 have hz5 := k5.size
 have hrow := (h.hand.stored (i * 4 + 1) (.string (hl[i].1.data ++ t))).1
 rw [rfcells_set hl i hi] at hrow
 refine ⟨⟨h.blk.keep k5 (fun e => n2 e.symm), h.files.keep kr (fun _ h => h), ?_, fun y hy => ?_, ?_, h.nq, h.nh, fun k hk => Nat.lt_of_lt_of_le (h.lt k hk) hz5, h.low, h.lq⟩,
  ⟨k5.mono (fun k hk _ e => hk (.inr (.inl (by rw [e]; rfl)))), fun k hk => .inl hk, fun k hk => Nat.lt_of_lt_of_le (h.fpLt k hk) hz5⟩⟩
 ·rw [List.length_set]
  exact hrow
 ·rcases List.mem_or_eq_of_mem_set hy with hy | rfl
  ·exact (h.ints y hy).keep kr (fun _ h => h)
  ·exact (h.ints hl[i] (List.getElem_mem hi)).keep kr (fun _ h => h)
 ·show x.hand.modify i _ = _
  rw [h.heq]
  apply List.ext_getElem
  ·simp
  ·intro j h1 h2
   rw [List.getElem_modify]
   simp only [List.getElem_map, List.getElem_set]
   split
   ·rename_i e; subst e; rfl
   ·rfl
set_option maxHeartbeats 2000000 in
theorem rappend_any (h : RfAt B q r x fp W) (hr : RefAt Br r s fpr W) (nm t : ByteArray) (hsz : ∀ y ∈ x.hand, y.data.size + t.size ≤ 9223372036854775807) : Calls Tryz.prog 35 #[.pointer (some ⟨q, 0, none⟩), .string nm, .string t] W fun e w' => ∃ k, Pl.RPlace (x.hand.map (·.name)) nm k ∧ REnds B q r fp (x.appendR s t k) W e w' := by
 have h0 := h
 obtain ⟨vf, vh, rp, hl, h, rfl⟩ := h
 have PP := Lib.hid (fun n => rplace_any (h0.keep ((Keep.refl _ W).drewN n)) nm)
 have hget := Lib.hid (fun k hk hk0 => rplace_get (k := k) h (nm := nm) hk hk0)
 cases hdd : x.dead s with
 | true =>
  have PD := Lib.hid (rdead_is hdd h0 hr)
  have hres : Hid (∀ k m, REnds B q r (rfFp q vh rp) (x.appendR s t k) W (.returned (.int .i64 4)) (W.drewN m)) := Lib.hid (fun k m => by unfold Pl.Rf.appendR; rw [if_pos hdd]; exact REnds.still h0 4 m)
  clear h h0 hr hget hdd hsz
  go_enter Tryz.func35, Tryz.ntmps35
  go_upto_region 2 with (go_at_call 64; refine PD.out.mono ?_; rintro e w1 ⟨rfl, m, rfl⟩)
  go_wp2_with (go_at_call 65; refine (PP.out m).mono ?_; rintro e w2 ⟨k, rfl, hk, rfl⟩)
  go_ret
  exact ⟨k, hk, hres.out k m⟩
 | false =>
  have PD := Lib.hid (rdead_is hdd h0 hr)
  have hres : Hid (∀ k m, k < 0 → REnds B q r (rfFp q vh rp) (x.appendR s t k) W (.returned (.int .i64 6)) (W.drewN m)) := Lib.hid (fun k m hk => by unfold Pl.Rf.appendR; rw [if_neg (by rw [hdd]; exact Bool.false_ne_true), if_pos hk]; exact REnds.still h0 6 m)
  have hres2 : Hid (∀ (i : Nat), x.appendR s t (i : Int) = ({ x with hand := x.hand.modify i (fun y => { y with data := y.data ++ t }), changed := x.changed || decide (0 < t.size) }, 0)) := Lib.hid (fun i => by unfold Pl.Rf.appendR; rw [if_neg (by rw [hdd]; exact Bool.false_ne_true), if_neg (by omega), Int.toNat_natCast])
  have hsz2 : Hid (∀ i (hi : i < hl.length), hl[i].1.data.size + t.size ≤ 9223372036854775807) := Lib.hid (fun i hi => hsz _ (by rw [h.heq]; exact List.mem_map.2 ⟨_, List.getElem_mem hi, rfl⟩))
  obtain ⟨a, c, rfl, hc1, hc2, hrow⟩ := h.row
  have hH := Lib.hid h
  obtain ⟨c0, c1, c2, c3, c4, c5⟩ := h.cells
  have hql := h.blk.lt
  clear h h0 hr hdd hsz
  go_enter Tryz.func35, Tryz.ntmps35
  go_upto_region 2 with (go_at_call 64; refine PD.out.mono ?_; rintro e w1 ⟨rfl, m, rfl⟩)
  go_upto_region 3 with (go_at_call 65; refine (PP.out m).mono ?_; rintro e w2 ⟨k, rfl, hk, rfl⟩)
  by_cases hk0 : k < 0
  ·have hr2 := Lib.hid (hres.out k m hk0)
   have hk' := Lib.hid hk
   clear hres hres2 hget PP PD hk hrow
   go_wp2
   go_ret
   exact ⟨k, hk'.out, hr2.out⟩
  ·obtain ⟨i, hi, rfl, hnm, hgd⟩ := hget.out k hk (by omega)
   have hr2 := Lib.hid (hres2.out i)
   have hk' := Lib.hid hk
   obtain ⟨g, rfl, hgl, r0, r1, r2, r3⟩ := hrow i hi
   have hD := hH.out.keep ((Keep.refl _ W).drewN (m + 1))
   obtain ⟨o1, o2⟩ := hD.longer i hi t
   have hss := hsz2.out i hi
   have hi2 : (i : Int) < (hl.length : Int) := by omega
   have hi0 : (0 : Int) ≤ (i : Int) := by omega
   have hgq := (hH.out.nh g rfl).2
   have zg : W.frozen? ⟨g, i * 4 + 1, none⟩ = false := hH.out.hand.frozenAt (i * 4 + 1)
   replace o1 := Lib.hid o1
   replace o2 := Lib.hid o2
   generalize hl[i].1.data = dd at r1 hss o1 o2
   have hss2 : ¬ (9223372036854775807 < dd.size + t.size) := by omega
   clear hres hres2 hget PP PD hk hrow hnm hgd hH hD hsz2 r0 r2 r3
   go_upto_region 7 with (fail)
   go_region
   generalize (W.drewN (m + 1)).setCell ⟨g, i * 4 + 1, none⟩ (.string (dd ++ t)) = w3 at *
   have hq3 := o1.out.blk.lt
   have z5 := o1.out.blk.frozen 5
   have d5 : w3.cell? ⟨q, 5, none⟩ = some (.bool x.changed) := by simp [o1.out.blk.cell]
   have hfl := Lib.hid (fun b => o1.out.flag b)
   have hfin : Hid (∀ b : Bool, b = (x.changed || decide (0 < t.size)) → REnds B q r (rfFp q (.slice (some ⟨g, 0, none⟩) hl.length c) rp) (x.appendR s t (i : Int)) W (.returned (.int .i64 0)) (w3.setCell ⟨q, 5, none⟩ (.bool b))) := Lib.hid (fun b hb => by
    rw [hr2.out, ← hb]
    obtain ⟨f1, f2⟩ := hfl.out b
    exact ⟨rfl, _, RfAt.of f1, step_drew (o2.out.trans f2)⟩)
   clear o1 o2 hfl hr2 c0 c1 c2 c3 c4 c5 r1 zg hgl
   cases hch : x.changed with
   | true =>
    rw [hch] at d5
    have hb : Hid (true = (x.changed || decide (0 < t.size))) := Lib.hid (by rw [hch]; rfl)
    clear hch
    go_wp2_with fail
    go_ret
    exact ⟨(i : Int), hk'.out, hfin.out _ hb.out⟩
   | false =>
    rw [hch] at d5
    by_cases ht : t.size = 0
    ·have hb : Hid (false = (x.changed || decide (0 < t.size))) := Lib.hid (by rw [hch, ht]; rfl)
     have he : t.toList.isEmpty = true := by rw [ByteArray.toList_eq]; exact List.isEmpty_iff.2 (List.length_eq_zero_iff.1 (by simpa using ht))
     clear hch ht
     go_wp2_with fail
     go_ret
     exact ⟨(i : Int), hk'.out, hfin.out _ hb.out⟩
    ·have hb : Hid (true = (x.changed || decide (0 < t.size))) := Lib.hid (by rw [hch, decide_eq_true (by omega : 0 < t.size)]; rfl)
     have he : t.toList.isEmpty = false := by rw [ByteArray.toList_eq]; exact List.isEmpty_eq_false_iff.2 (fun e => ht (by have := congrArg List.length e; simpa using this))
     clear hch ht
     go_wp2_with fail
     go_ret
     exact ⟨(i : Int), hk'.out, hfin.out _ hb.out⟩
def RenEnds (B q r : Nat) (fp : Nat → Prop) (x : Pl.Rf) (s : Pl.Dv) (nm tn : ByteArray) (W : World) (e : Ending) (W' : World) : Prop := ∃ k j : Int, Pl.RPlace (x.hand.map (·.name)) nm k ∧ (0 ≤ k → x.dead s = true ∨ Pl.named tn = false ∨ nm = tn ∨ Pl.RPlace ((x.hand.eraseIdx k.toNat).map (·.name)) tn j) ∧ REnds B q r fp (x.renameR s nm tn k j) W e W'
set_option maxHeartbeats 2000000 in
theorem rrename_any (h : RfAt B q r x fp W) (hr : RefAt Br r s fpr W) (nm tn : ByteArray) (hlen : x.hand.length ≤ 1000) (hB : B ≤ W.heap.size) : Calls Tryz.prog 37 #[.pointer (some ⟨q, 0, none⟩), .string nm, .string tn] W fun e w' => RenEnds B q r fp x s nm tn W e w' := by
 obtain ⟨XD, hXD⟩ : ∃ XD, XD = x.dead s := ⟨_, rfl⟩
 replace hXD := Lib.hid hXD
 have h0 := h
 obtain ⟨vf, vh, rp, hl, h, rfl⟩ := h
 have PP := Lib.hid (fun n => rplace_any (h0.keep ((Keep.refl _ W).drewN n)) nm)
 have hget := Lib.hid (fun k hk hk0 => rplace_get (k := k) h (nm := nm) hk hk0)
 have hll : hl.length ≤ 1000 := by rw [rf_len h]; exact hlen
 have PN := Lib.hid (fun w => refName_any tn w)
 have hnd : Hid (∀ b : Bool, decide (1 ≤ tn.size ∧ tn.size ≤ 32) = b → Pl.named tn = b) := Lib.hid (fun b h => h)
 obtain ⟨nb, hnb⟩ : ∃ b, b = decide (1 ≤ tn.size ∧ tn.size ≤ 32) := ⟨_, rfl⟩
 have hnb2 := hnd.out nb hnb.symm
 rw [← hnb] at PN
 replace hnb2 := Lib.hid hnb2
 clear hnb hnd
 cases hdd : x.dead s with
 | true =>
  have PD := Lib.hid (rdead_is hdd h0 hr)
  have hres : Hid (∀ k m, REnds B q r (rfFp q vh rp) (x.renameR s nm tn k 0) W (.returned (.int .i64 4)) (W.drewN m)) := Lib.hid (fun k m => by unfold Pl.Rf.renameR; rw [if_pos hdd]; exact REnds.still h0 4 m)
  have hdd' := Lib.hid hdd
  clear h h0 hr hget hdd
  go_enter Tryz.func37, Tryz.ntmps37
  go_upto_region 2 with (go_at_call 64; refine PD.out.mono ?_; rintro e w1 ⟨rfl, m, rfl⟩)
  go_wp2_with (first
   | (go_at_call 72; refine (PN.out _).mono ?_; rintro e w2 ⟨rfl, rfl⟩)
   | (go_at_call 65; refine (PP.out m).mono ?_; rintro e w2 ⟨k, rfl, hk, rfl⟩))
  go_ret
  exact ⟨k, 0, hk, fun _ => .inl hdd'.out, hres.out k m⟩
 | false =>
  have PD := Lib.hid (rdead_is hdd h0 hr)
  have hun : Hid (∀ k j, x.renameR s nm tn k j = if Pl.named tn = false then (x, 1) else if k < 0 then (x, 6) else if nm = tn then (x, 0) else ({ x with hand := Pl.rins { x.hand.getD k.toNat ⟨nm, .empty, 0, []⟩ with name := tn } (if j < 0 then x.hand.eraseIdx k.toNat else (x.hand.eraseIdx k.toNat).eraseIdx j.toNat), changed := true }, 0)) := Lib.hid (fun k j => by unfold Pl.Rf.renameR; rw [if_neg (by rw [hdd]; exact Bool.false_ne_true)])
  have hstill : Hid (∀ (c : Int) m, REnds B q r (rfFp q vh rp) (x, c) W (.returned (.int .i64 c)) (W.drewN m)) := Lib.hid (fun c m => REnds.still h0 c m)
  have hH := Lib.hid h
  obtain ⟨a, c, rfl, hc1, hc2, hrow⟩ := h.row
  obtain ⟨c0, c1, c2, c3, c4, c5⟩ := h.cells
  have hql := h.blk.lt
  clear h h0 hr hdd
  go_enter Tryz.func37, Tryz.ntmps37
  go_upto_region 2 with (go_at_call 64; refine PD.out.mono ?_; rintro e w1 ⟨rfl, m, rfl⟩)
  go_upto_region 4 with (first
   | (go_at_call 72; refine (PN.out _).mono ?_; rintro e w2 ⟨rfl, rfl⟩)
   | (go_at_call 65; refine (PP.out m).mono ?_; rintro e w2 ⟨k, rfl, hk, rfl⟩))
  have hk' := Lib.hid hk
  cases nb with
  | false =>
   have hr2 : Hid (x.renameR s nm tn k 0 = (x, 1)) := Lib.hid (by rw [hun.out, if_pos hnb2.out])
   clear hun hk PP PD PN hget hrow hH
   go_wp2
   go_ret
   exact ⟨k, 0, hk'.out, fun _ => .inr (.inl hnb2.out), by rw [hr2.out]; exact hstill.out 1 m⟩
  | true =>
   by_cases hk0 : k < 0
   ·have hr2 : Hid (x.renameR s nm tn k 0 = (x, 6)) := Lib.hid (by rw [hun.out, if_neg (by rw [hnb2.out]; decide), if_pos hk0])
    clear hun hk PP PD PN hget hrow hH
    go_wp2
    go_ret
    exact ⟨k, 0, hk'.out, fun h => (by omega), by rw [hr2.out]; exact hstill.out 6 m⟩
   ·by_cases heq : nm = tn
    ·have hr2 : Hid (x.renameR s nm tn k 0 = (x, 0)) := Lib.hid (by rw [hun.out, if_neg (by rw [hnb2.out]; decide), if_neg hk0, if_pos heq])
     have he : (nm.toList == tn.toList) = true := by rw [heq]; simp
     have heq' := Lib.hid heq
     clear hun hk PP PD PN hget hrow hH heq
     go_wp2
     go_ret
     exact ⟨k, 0, hk'.out, fun _ => .inr (.inr (.inl heq'.out)), by rw [hr2.out]; exact hstill.out 0 m⟩
    ·obtain ⟨i, hi, rfl, hnm, hgd⟩ := hget.out k hk (by omega)
     obtain ⟨q1, q2⟩ := toList_bne heq
     have hr2 : Hid (∀ j, x.renameR s nm tn (i : Int) j = ({ x with hand := Pl.rins { hl[i].1 with name := tn } (if j < 0 then x.hand.eraseIdx i else (x.hand.eraseIdx i).eraseIdx j.toNat), changed := true }, 0)) := Lib.hid (fun j => by
      rw [hun.out, if_neg (by rw [hnb2.out]; decide), if_neg hk0, if_neg heq, Int.toNat_natCast]
      have e2 : x.hand.getD i ⟨nm, .empty, 0, []⟩ = hl[i].1 := by rw [List.getD_eq_getElem?_getD, hH.out.heq, List.getElem?_map, List.getElem?_eq_getElem hi]; rfl
      rw [e2])
     obtain ⟨g, rfl, hgl, r0, r1, r2, r3⟩ := hrow i hi
     have hi2 : (i : Int) < (hl.length : Int) := by omega
     have hi0 : (0 : Int) ≤ (i : Int) := by omega
     have hui := hH.out.ints _ (List.getElem_mem hi)
     obtain ⟨ua, un, uc, hue⟩ := hH.out.slices _ (List.getElem_mem hi)
     rw [hue] at hui r3
     replace hui := Lib.hid hui
     have kd : Keep (fun _ => True) W (W.drewN m) := (Keep.refl _ W).drewN m
     have r0' := kd.cell (b := g) (o := i * 4) trivial r0
     have r1' := kd.cell (b := g) (o := i * 4 + 1) trivial r1
     have r2' := kd.cell (b := g) (o := i * 4 + 2) trivial r2
     have r3' := kd.cell (b := g) (o := i * 4 + 3) trivial r3
     have d4 := kd.cell (b := q) (o := 4) trivial c4
     have hD := Lib.hid (hH.out.keep (kd.mono (fun _ _ _ => trivial)))
     have hrst : Hid (∀ fp' W', Step (rfFp q (.slice (some ⟨g, 0, none⟩) hl.length c) rp) fp' (W.drewN m) W' → Step (rfFp q (.slice (some ⟨g, 0, none⟩) hl.length c) rp) fp' W W') := Lib.hid (fun fp' W' st => step_drew st)
     have hui2 := Lib.hid (hui.out.keep (kd.mono (fun _ _ _ => trivial)) (fun _ h => h))
     have hBd : B ≤ (W.drewN m).heap.size := hB
     clear hun hk PP PD PN hget hrow hnm hgd hue heq hstill hui hH kd r0 r1 r2 r3 c0 c1 c2 c3 c4 c5 hql hB
     generalize W.drewN m = w2 at *
     go_upto_region 14 with (fail)
     have hX0 := Blk.new w2 #[.string tn, .string hl[i].1.data, .int .i64 (hl[i].1.old : Int), .slice ua un uc] 111
     have hb4 : Below w2.heap.size w2 (w2.alloc (.cells #[.string tn, .string hl[i].1.data, .int .i64 (hl[i].1.old : Int), .slice ua un uc] 111)) := (Below.refl _ _).alloc (Nat.le_refl _) _
     have hz4 : (w2.alloc (.cells #[.string tn, .string hl[i].1.data, .int .i64 (hl[i].1.old : Int), .slice ua un uc] 111)).heap.size = w2.heap.size + 1 := by simp
     have hD4 := hD.out.beyond hb4
     have hu4 := hui2.out.keep (Keep.of_below (fp := rp) hb4 (fun k hk _ => hD.out.lt k hk)) (fun _ h => h)
     have hst4 : Hid (∀ fp' W', Step (rfFp q (.slice (some ⟨g, 0, none⟩) hl.length c) rp) fp' (w2.alloc (.cells #[.string tn, .string hl[i].1.data, .int .i64 (hl[i].1.old : Int), .slice ua un uc] 111)) W' → Step (rfFp q (.slice (some ⟨g, 0, none⟩) hl.length c) rp) fp' W W') := Lib.hid (fun fp' W' st => hrst.out fp' W' ⟨(Keep.of_below (fp := fun k => k < w2.heap.size ∧ ¬ rfFp q (.slice (some ⟨g, 0, none⟩) hl.length c) rp k) hb4 (fun _ h _ => h.1)).trans st.keep (fun _ h _ => h.2) |>.mono (fun k hk hl => ⟨hl, hk⟩), fun k hk => (st.new k hk).imp id (fun h => by omega), st.lt⟩)
     have hfb : ∀ k, rfFp q (.slice (some ⟨g, 0, none⟩) hl.length c) rp k → k ≠ w2.heap.size := fun k hk e => by have := hD.out.fpLt k hk; omega
     have hY : Hid (({ hl[i].1 with name := tn } : Pl.RF1) = ⟨tn, hl[i].1.data, hl[i].1.old, hl[i].1.blocks⟩) := Lib.hid rfl
     generalize w2.alloc (.cells #[.string tn, .string hl[i].1.data, .int .i64 (hl[i].1.old : Int), .slice ua un uc] 111) = w4 at *
     generalize w2.heap.size = bX at *
     have hB4 : B ≤ w4.heap.size := by omega
     have PR := Lib.hid (rremove_any hD4 i hi hll hB4)
     replace hu4 := Lib.hid hu4
     replace hX0 := Lib.hid hX0
     clear hD4 hb4 hui2 hrst hD r0' r1' r2' r3' d4
     go_upto_region 15 with (go_at_call 74; refine PR.out.mono ?_; rintro e w5 ⟨⟨v5, rfl⟩, vh5, o5, st5, kr5⟩)
     have hX5 := hX0.out.keep st5.keep (fun e => hfb _ e rfl)
     have hu5 := hu4.out.keep kr5 (fun _ h => h)
     have PP5 := Lib.hid (rplace_any (RfAt.of o5) tn)
     have hg5 := Lib.hid (fun k hk hk0 => rplace_get (k := k) o5 (nm := tn) hk hk0)
     have hl5 : (hl.eraseIdx i).length ≤ 1000 := by rw [List.length_eraseIdx]; split <;> omega
     have hz5 := st5.keep.size
     have hfb5 : ∀ k, rfFp q vh5 rp k → k ≠ bX := fun k hk e => (st5.new k hk).elim (fun h => hfb k h e) (fun h => by omega)
     have hst5 := Lib.hid (fun (fp' : Nat → Prop) (W' : World) (st : Step (rfFp q vh5 rp) fp' w5 W') => hst4.out fp' W' (st5.trans st))
     clear PR st5 kr5 hst4 hu4 hX0
     go_upto_region 16 with (go_at_call 65; refine PP5.out.mono ?_; rintro e w6 ⟨j, rfl, hj, rfl⟩)
     have hj' := Lib.hid hj
     have hr3 := hr2.out j
     have fin : ∀ (vhz : Value) (hlz : List (Pl.RF1 × Value)) (HZ : List Pl.RF1) (wz : World), HZ = (if j < 0 then x.hand.eraseIdx i else (x.hand.eraseIdx i).eraseIdx j.toNat) → RfO B q r vf vhz rp hlz { x with hand := HZ } wz → hlz.length ≤ 1000 → B ≤ wz.heap.size → IntsF rp wz (.slice ua un uc) hl[i].1.blocks → Hid (Calls Tryz.prog 73 #[.pointer (some ⟨q, 0, none⟩), .agg #[.string tn, .string hl[i].1.data, .int .i64 (hl[i].1.old : Int), .slice ua un uc]] wz fun e w' => (∃ v, e = .returned v) ∧ ∃ vh' hl', RfO B q r vf vh' rp hl' { x with hand := Pl.rins ⟨tn, hl[i].1.data, hl[i].1.old, hl[i].1.blocks⟩ HZ } w' ∧ Step (rfFp q vhz rp) (rfFp q vh' rp) wz w') := fun vhz hlz HZ wz _ ho h1 h2 h3 => Lib.hid (rinsert_any ho ⟨tn, hl[i].1.data, hl[i].1.old, hl[i].1.blocks⟩ ua un uc h3 h1 h2)
     by_cases hj0 : j < 0
     ·have PI := fin vh5 _ _ w6 (if_pos hj0).symm o5 hl5 (by omega) hu5
      rw [if_pos hj0] at hr3
      replace hr3 := Lib.hid hr3
      have y0 : w6.cell? ⟨bX, 0, none⟩ = some (.string tn) := by simp [hX5.cell]
      have y1 : w6.cell? ⟨bX, 1, none⟩ = some (.string hl[i].1.data) := by simp [hX5.cell]
      have y2 : w6.cell? ⟨bX, 2, none⟩ = some (.int .i64 (hl[i].1.old : Int)) := by simp [hX5.cell]
      have y3 : w6.cell? ⟨bX, 3, none⟩ = some (.slice ua un uc) := by simp [hX5.cell]
      clear fin hj hg5 PP5 o5 hu5 hX5
      go_upto_region 19 with (go_at_call 73; refine PI.out.mono ?_; rintro e w8 ⟨⟨v8, rfl⟩, vh8, hl8, o8, st8⟩)
      obtain ⟨f1, f2⟩ := o8.flag true
      have z5 := o8.blk.frozen 5
      have d5 : w8.cell? ⟨q, 5, none⟩ = some (.bool x.changed) := by simp [o8.blk.cell]
      have hq8 := o8.blk.lt
      replace f1 := Lib.hid f1
      have f3 := Lib.hid (hst5.out _ _ (st8.trans f2))
      clear o8 st8 f2 PI
      go_wp2_with fail
      go_ret
      exact ⟨(i : Int), j, hk'.out, fun _ => .inr (.inr (.inr (by rw [Int.toNat_natCast]; exact hj'.out))), by
       rw [hr3.out]
       exact ⟨rfl, _, RfAt.of f1.out, f3.out⟩⟩
     ·obtain ⟨jn, hjn, rfl, _, _⟩ := hg5.out j hj (by omega)
      have PR6 := Lib.hid (rremove_any o5 jn hjn hl5 (by omega))
      have hjn0 : ¬ (jn : Int) < 0 := by omega
      rw [if_neg hjn0] at hr3
      replace hr3 := Lib.hid hr3
      replace hX5 := Lib.hid hX5
      replace hu5 := Lib.hid hu5
      clear hj hg5 PP5 o5
      go_upto_region 18 with (go_at_call 74; refine PR6.out.mono ?_; rintro e w7 ⟨⟨v7, rfl⟩, vh7, o7, st7, kr7⟩)
      have hX7 := hX5.out.keep st7.keep (fun e => hfb5 _ e rfl)
      have hu7 := hu5.out.keep kr7 (fun _ h => h)
      have hz7 := st7.keep.size
      have PI := fin vh7 _ _ w7 (if_neg (show ¬ (jn : Int) < 0 by omega)).symm o7 (by rw [List.length_eraseIdx]; split <;> omega) (by omega) hu7
      have hst7 := Lib.hid (fun (fp' : Nat → Prop) (W' : World) (st : Step (rfFp q vh7 rp) fp' w7 W') => hst5.out fp' W' (st7.trans st))
      have y0 : w7.cell? ⟨bX, 0, none⟩ = some (.string tn) := by simp [hX7.cell]
      have y1 : w7.cell? ⟨bX, 1, none⟩ = some (.string hl[i].1.data) := by simp [hX7.cell]
      have y2 : w7.cell? ⟨bX, 2, none⟩ = some (.int .i64 (hl[i].1.old : Int)) := by simp [hX7.cell]
      have y3 : w7.cell? ⟨bX, 3, none⟩ = some (.slice ua un uc) := by simp [hX7.cell]
      clear fin o7 hu7 hX7 st7 kr7 hst5 hX5 hu5
      go_upto_region 19 with (go_at_call 73; refine PI.out.mono ?_; rintro e w8 ⟨⟨v8, rfl⟩, vh8, hl8, o8, st8⟩)
      obtain ⟨f1, f2⟩ := o8.flag true
      have z5 := o8.blk.frozen 5
      have d5 : w8.cell? ⟨q, 5, none⟩ = some (.bool x.changed) := by simp [o8.blk.cell]
      have hq8 := o8.blk.lt
      replace f1 := Lib.hid f1
      have f3 := Lib.hid (hst7.out _ _ (st8.trans f2))
      clear o8 st8 f2 PI
      go_wp2_with fail
      go_ret
      exact ⟨(i : Int), (jn : Int), hk'.out, fun _ => .inr (.inr (.inr (by rw [Int.toNat_natCast]; exact hj'.out))), by
       rw [hr3.out]
       exact ⟨rfl, _, RfAt.of f1.out, f3.out⟩⟩
end
end Go.Proofs.YtogblcdefbnbeaaGreat
