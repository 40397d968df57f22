
/- Walk: may a root be? Condition: none. -/
import Derived.Test.YtogblcdefbnbeaaGreatQGn
import Derived.Test.YtogblcdefbnbeaaGreatQGa
import Derived.Deep.QuietTactic
import Derived.Deep.DeepCutAuto
import Derived.BigQuiet
import Derived.IntWalk
import Derived.Lib.Hide
import Derived.Test.YtogblcdefbnbeaaGreatQGu
set_option maxRecDepth 100000
namespace Go.Proofs.YtogblcdefbnbeaaGreat
section
open Go.RowKit
theorem list_ne_of_size {s : ByteArray} (h : s.size ≠ 0) : s.toList.isEmpty = false := by
 rw [ByteArray.toList_eq, List.isEmpty_eq_false_iff]
 intro e
 apply h
 show s.data.size = 0
 rw [← Array.length_toList, e]; rfl
theorem list_of_size {s : ByteArray} (h : s.size = 0) : s.toList.isEmpty = true := by
 rw [ByteArray.toList_eq, List.isEmpty_iff]
 apply List.eq_nil_of_length_eq_zero
 rw [Array.length_toList]; exact h
theorem not_less {p q : List UInt8} (h : Op.bytesLess p q = false) : (Op.bytesLess q p = true ∧ (q == p) = false) ∨ (Op.bytesLess q p = false ∧ (q == p) = true) := by
 by_cases e : q = p
 ·subst e; exact .inr ⟨h, by simp⟩
 ·exact .inl ⟨Pl.lt_total h (fun e' => e e'.symm), by simpa using e⟩
theorem is_less {p q : List UInt8} (h : Op.bytesLess p q = true) : Op.bytesLess q p = false ∧ (q == p) = false := by
 constructor
 ·cases h1 : Op.bytesLess q p
  ·rfl
  ·have := Pl.lt_trans h h1
   rw [Pl.lt_irrefl] at this
   cases this
 ·cases h1 : q == p
  ·rfl
  ·have e : q = p := by simpa using h1
   subst e
   rw [Pl.lt_irrefl] at h
   cases h
theorem ret_bool4 {a b : Bool} (h : a = b) : Ending.returned (.bool a) = Ending.returned (.bool b) := by rw [h]
theorem named_any (s : ByteArray) (w : World) : Calls Tryz.prog 71 #[.string s] w fun e w' => e = .returned (.bool (decide (1 ≤ s.size ∧ s.size ≤ 32))) ∧ w' = w := by
 by_cases h0 : s.size = 0
 ·have he := list_of_size h0
  have hr : decide (1 ≤ s.size ∧ s.size ≤ 32) = false := by simp [h0]
  rw [hr]
  clear hr
  go_enter Tryz.func71, Tryz.ntmps71
  go_wp2
  go_ret
  exact ⟨ret_bool4 (by first | rfl | simp [he]), rfl⟩
 ·have he := list_ne_of_size h0
  have hr : decide (1 ≤ s.size ∧ s.size ≤ 32) = decide (s.size ≤ 32) := by simp; omega
  rw [hr]
  clear hr
  go_enter Tryz.func71, Tryz.ntmps71
  go_wp2
  go_ret
  exact ⟨ret_bool4 (by first | rfl | (simp; omega)), rfl⟩
theorem blocksOf_any (n : Int) (w : World) (h0 : 0 ≤ n) (h1 : n ≤ 9223372036854775807) : Calls Tryz.prog 62 #[.int .i64 n] w fun e w' => e = .returned (.int .i64 (Pl.takesB n)) ∧ w' = w := by
 unfold Pl.takesB
 by_cases h : 0 < n % 256
 ·rw [if_pos h]
  go_enter Tryz.func62, Tryz.ntmps62
  go_wp2
  go_ret
  exact ⟨ret_int (by rfl), rfl⟩
 ·rw [if_neg h, Int.add_zero]
  go_enter Tryz.func62, Tryz.ntmps62
  go_wp2
  go_ret
  exact ⟨ret_int (by rfl), rfl⟩
namespace Pl
open Classical in
noncomputable def mayB (N : Int) (r : RootP) : Bool := decide (May N r)
theorem mayB_yes {N : Int} {r : RootP} (h : May N r) : mayB N r = true := by unfold mayB; simp [h]
theorem mayB_no {N : Int} {r : RootP} (h : ¬ May N r) : mayB N r = false := by unfold mayB; simp [h]
structure MayTo (N : Int) (fs : List FileP) (i : Nat) : Prop where
 head : ∀ j (h : j < fs.length), j < i → headOk fs j h
 blk : ∀ j (h : j < fs.length), j < i → ∀ k (hk : k < fs[j].blocks.length), blkOk N (flatB (fs.take j) ++ fs[j].blocks.take k) fs[j].blocks[k]
theorem MayTo.zero (N : Int) (fs : List FileP) : MayTo N fs 0 := ⟨fun _ _ h => absurd h (Nat.not_lt_zero _), fun _ _ h => absurd h (Nat.not_lt_zero _)⟩
theorem MayTo.succ {N : Int} {fs : List FileP} {i : Nat} (h : MayTo N fs i) (hi : i < fs.length) (h1 : headOk fs i hi) (h2 : ∀ k (hk : k < fs[i].blocks.length), blkOk N (flatB (fs.take i) ++ fs[i].blocks.take k) fs[i].blocks[k]) : MayTo N fs (i + 1) := by
 refine ⟨fun j hj hji => ?_, fun j hj hji => ?_⟩
 ·rcases Nat.lt_succ_iff_lt_or_eq.1 hji with h3 | rfl
  ·exact h.head j hj h3
  ·exact h1
 ·rcases Nat.lt_succ_iff_lt_or_eq.1 hji with h3 | rfl
  ·exact h.blk j hj h3
  ·exact h2
theorem seen_more {N : Int} {seen bl : List Int} (h : Seen N seen) : ∀ (j : Nat), j ≤ bl.length → (∀ t (ht : t < bl.length), t < j → blkOk N (seen ++ bl.take t) bl[t]) → Seen N (seen ++ bl.take j)
 | 0, _, _ => by simpa using h
 | j + 1, hj, hb => by
  have hlt : j < bl.length := by omega
  rw [List.take_succ_eq_append_getElem hlt, ← List.append_assoc]
  exact (seen_more h j (by omega) (fun t ht htj => hb t ht (by omega))).snoc (hb j hlt (by omega))
theorem MayTo.seen {N : Int} {fs : List FileP} {i : Nat} (h : MayTo N fs i) : ∀ k, k ≤ i → k ≤ fs.length → Seen N (flatB (fs.take k))
 | 0, _, _ => by simpa [flatB] using Seen.nil N
 | k + 1, hk, hl => by
  have hlt : k < fs.length := by omega
  rw [flatB_take hlt]
  have h0 := seen_more (h.seen k (by omega) (by omega)) fs[k].blocks.length (Nat.le_refl _) (fun t ht _ => h.blk k hlt (by omega) t ht)
  rwa [List.take_of_length_le (Nat.le_refl _)] at h0
end Pl
set_option maxHeartbeats 3200000 in
theorem may_any (r : Pl.RootP) (u : Value) (N0 : Int) (w : World) (hf : r.fine) (hu : FilesAt w u r.files) (hN1 : -9223372036854775808 ≤ N0) (hN2 : N0 ≤ 9223372036854775807) :
  Calls Tryz.prog 110 #[.agg #[.int .u64 (r.gen : Int), u], .int .i64 N0] w fun e w' => e = .returned (.bool (Pl.mayB (min N0 16384) r)) ∧ Below w.heap.size w w' := by
 obtain ⟨gen, fs⟩ := r
 obtain ⟨ao, cap, rfl, l1, l2, hrow⟩ := hu
 have hfine := Lib.hid hf.files
 have hgen := hf.gen
 simp only at hrow l1 l2 hgen hfine ⊢
 clear hf
 obtain ⟨res, hres⟩ : ∃ res, res = Pl.mayB (min N0 16384) ⟨gen, fs⟩ := ⟨_, rfl⟩
 rw [← hres]
 have hno : Hid (¬ Pl.May (min N0 16384) ⟨gen, fs⟩ → res = false) := Lib.hid (fun h => hres.trans (Pl.mayB_no h))
 have hyes : Hid (Pl.May (min N0 16384) ⟨gen, fs⟩ → res = true) := Lib.hid (fun h => hres.trans (Pl.mayB_yes h))
 clear hres
 obtain ⟨W0, hW0⟩ : ∃ W0, w.alloc (.cells #[.int .u64 (gen : Int), .slice ao fs.length cap] 71) = W0 := ⟨_, rfl⟩
 have hb0 : Below w.heap.size w W0 := by rw [← hW0]; exact (Below.refl _ _).alloc (Nat.le_refl _) _
 have hR0 : W0.heap[w.heap.size]? = some (.cells #[.int .u64 (gen : Int), .slice ao fs.length cap] 71 (0, 0)) := by rw [← hW0]; exact World.alloc_heap_new _ _
 have r0 : W0.cell? ⟨w.heap.size, 0, none⟩ = some (.int .u64 (gen : Int)) := by simp [World.cell?, hR0]
 have r1 : W0.cell? ⟨w.heap.size, 1, none⟩ = some (.slice ao fs.length cap) := by simp [World.cell?, hR0]
 have hRlt : w.heap.size < W0.heap.size := (Array.getElem?_eq_some_iff.1 hR0).1
 replace hR0 := Lib.hid hR0
 have hmm := @run_makeMap Tryz.prog
 by_cases h1 : gen < 1
 ·have hr : res = false := hno.out (fun h => by have := h.g1; simp at this; omega)
  subst hr
  go_enter Tryz.func110, Tryz.ntmps110
  go_wp2
  go_ret
  exact ⟨rfl, hb0⟩
 by_cases h2 : 4611686018427387904 < gen
 ·have hr : res = false := hno.out (fun h => by have := h.g2; simp at this; omega)
  subst hr
  go_enter Tryz.func110, Tryz.ntmps110
  go_wp2
  go_ret
  exact ⟨rfl, hb0⟩
 by_cases h3 : 64 < fs.length
 ·have hr : res = false := hno.out (fun h => by have := h.many; simp at this; omega)
  subst hr
  go_enter Tryz.func110, Tryz.ntmps110
  go_wp2
  go_ret
  exact ⟨rfl, hb0⟩
 obtain ⟨N, hN⟩ : ∃ N, N = min N0 16384 := ⟨_, rfl⟩
 have hNb : N ≤ 16384 ∧ -9223372036854775808 ≤ N := by omega
 rw [← hN] at hno hyes
 obtain ⟨hNb1, hNb2⟩ := hNb
 have hgr := Lib.hid (show 1 ≤ gen ∧ gen ≤ 4611686018427387904 ∧ fs.length ≤ 64 by omega)
 go_enter Tryz.func110, Tryz.ntmps110
 go_upto_region 3 with (fail)
 go_cut [1] (fun v wx => v = .int .i64 N ∧ wx = W0)
 case first =>
  have hN' := Lib.hid hN
  clear hN
  go_wp2_with fail
  all_goals
   go_meet
   exact ⟨congrArg (Value.int .i64) (by have := hN'.out; omega), rfl⟩
 case rest =>
 obtain ⟨rfl, rfl⟩ := hcut
 clear hN h1 h2
 go_wp2
 obtain ⟨W1, hW1⟩ : ∃ W1, W1 = wc.alloc (.map #[] 0) := ⟨_, rfl⟩
 have hS1 : SetAt W1 wc.heap.size [] := by rw [hW1]; exact SetAt.new wc
 have hb1 : Below wc.heap.size wc W1 := by rw [hW1]; exact (Below.refl _ _).alloc (Nat.le_refl _) _
 rw [← hW1]
 clear hW1 hW0
 generalize wc.heap.size = m at hS1 hb1 hRlt ⊢
 have hbw1 : Below w.heap.size w W1 := hb0.trans (hb1.mono (by omega))
 have hR1 : W1.heap[w.heap.size]? = some (.cells #[.int .u64 (gen : Int), .slice ao fs.length cap] 71 (0, 0)) := (hb1.block w.heap.size hRlt).trans hR0.out
 replace hR1 := Lib.hid hR1
 have hz1 : w.heap.size < W1.heap.size := (Array.getElem?_eq_some_iff.1 hR1.out).1
 have hz2 : m < W1.heap.size := hS1.lt
 clear r0 r1
 go_loopw [30] (fun i W' => ∃ k : Nat, k ≤ fs.length ∧ i = .int .i64 (k : Int) ∧ Keep (fun q => q ≠ m) W1 W' ∧ SetAt W' m (Pl.flatB (fs.take k)) ∧ Pl.MayTo N fs k) (fun i _ => fs.length - (intOf i).toNat)
 case atStart => exact ⟨0, by omega, rfl, Keep.refl _ _, by simpa [Pl.flatB] using hS1, Pl.MayTo.zero _ _⟩
 case round =>
  obtain ⟨i, hi, rfl, hkr, hSr, hto⟩ := hrel
  have hbr : Below w.heap.size w wr := hkr.below hbw1 (Nat.le_refl _) (fun q hq => by omega)
  by_cases hil : i < fs.length
  case neg =>
   obtain rfl : i = fs.length := by omega
   have hr : res = true := hyes.out ⟨hgr.out.1, hgr.out.2.1, hgr.out.2.2, fun j hj => hto.head j hj hj, fun j hj => hto.blk j hj hj⟩
   subst hr
   go_wp2
   go_ret
   exact ⟨rfl, hbr⟩
  have hRr : wr.heap[w.heap.size]? = some (.cells #[.int .u64 (gen : Int), .slice ao fs.length cap] 71 (0, 0)) := (hkr.block w.heap.size (show w.heap.size ≠ m by omega) hz1).trans hR1.out
  have r1 : wr.cell? ⟨w.heap.size, 1, none⟩ = some (.slice ao fs.length cap) := by simp [World.cell?, hRr]
  have hRlr : w.heap.size < wr.heap.size := (Array.getElem?_eq_some_iff.1 hRr).1
  obtain ⟨b, off, rfl, hbl, hcf⟩ := hrow (by omega)
  obtain ⟨x0, x1, u, x2, hints⟩ := hcf i hil
  replace x0 := (hbr.cell (p := ⟨b, off + i * 3, none⟩) hbl).trans x0
  replace x1 := (hbr.cell (p := ⟨b, off + i * 3 + 1, none⟩) hbl).trans x1
  replace x2 := (hbr.cell (p := ⟨b, off + i * 3 + 2, none⟩) hbl).trans x2
  have hfx := hfine.out _ (List.getElem_mem hil)
  obtain ⟨ai, capi, rfl, i1, i2, hib⟩ := hints
  obtain ⟨pn, hprev, hpn⟩ : ∃ pn : ByteArray, (0 < i → wr.cell? ⟨b, off + (i - 1) * 3, none⟩ = some (.string pn)) ∧ ((∀ h0 : 0 < i, Op.bytesLess (fs[i - 1]'(by omega)).name.toList fs[i].name.toList = true) ↔ (0 < i → Op.bytesLess pn.toList fs[i].name.toList = true)) := by
   by_cases h0 : 0 < i
   ·exact ⟨(fs[i - 1]'(by omega)).name, fun _ => ((hcf (i - 1) (by omega)).below hbl hbr).1, Iff.rfl⟩
   ·exact ⟨.empty, fun h => absurd h h0, ⟨fun _ h => absurd h h0, fun _ h => absurd h h0⟩⟩
  have hord : Hid (Pl.headOk fs i hil ↔ (1 ≤ fs[i].name.size ∧ fs[i].name.size ≤ 32) ∧ (0 < i → Op.bytesLess pn.toList fs[i].name.toList = true) ∧ 0 ≤ fs[i].size ∧ (fs[i].blocks.length : Int) = Pl.takesB fs[i].size) := Lib.hid (by rw [← hpn]; exact Iff.rfl)
  replace hprev := Lib.hid hprev
  clear hpn
  have hbad : Hid (¬ Pl.headOk fs i hil → res = false) := Lib.hid (fun h => hno.out (fun hm => h (hm.head i hil)))
  have hbadb : Hid (∀ k (hk : k < fs[i].blocks.length), ¬ Pl.blkOk N (Pl.flatB (fs.take i) ++ fs[i].blocks.take k) fs[i].blocks[k] → res = false) := Lib.hid (fun k hk h => hno.out (fun hm => h (hm.blk i hil k hk)))
  have hsucc : Hid (Pl.headOk fs i hil → (∀ k (hk : k < fs[i].blocks.length), Pl.blkOk N (Pl.flatB (fs.take i) ++ fs[i].blocks.take k) fs[i].blocks[k]) → Pl.MayTo N fs (i + 1)) := Lib.hid (fun h1 h2 => hto.succ hil h1 h2)
  have hflat : Hid (Pl.flatB (fs.take (i + 1)) = Pl.flatB (fs.take i) ++ fs[i].blocks) := Lib.hid (Pl.flatB_take hil)
  have hseen := Lib.hid (hto.seen i (Nat.le_refl _) hi)
  generalize Pl.headOk fs i hil = HO at hord hbad hsucc
  generalize fs[i] = x at *
  generalize Pl.flatB (fs.take i) = seen at *
  obtain ⟨nm, sz, bl⟩ := x
  simp only at x0 x1 x2 i1 i2 hib hord hbadb hsucc hflat hfx
  obtain ⟨⟨hs1, hs2⟩, hbf⟩ := hfx
  simp only at hs1 hs2 hbf
  replace hbf := Lib.hid hbf
  clear hcf hto hrow
  have hkr0 := Lib.hid (fun W (hb : Below wr.heap.size wr W) => Keep.trans (fp' := fun q => q < wr.heap.size) hkr (Keep.of_below hb (fun _ h _ => h)) (fun q _ hq => Nat.lt_of_lt_of_le hq hkr.size))
  clear hkr
  have PN := Lib.hid (fun W => named_any nm W)
  obtain ⟨W2, hW2⟩ : ∃ W2, wr.alloc (.cells #[.string nm, .int .i64 sz, .slice ai bl.length capi] 76) = W2 := ⟨_, rfl⟩
  have hb2 : Below wr.heap.size wr W2 := by rw [← hW2]; exact (Below.refl _ _).alloc (Nat.le_refl _) _
  have hF2 : W2.heap[wr.heap.size]? = some (.cells #[.string nm, .int .i64 sz, .slice ai bl.length capi] 76 (0, 0)) := by rw [← hW2]; exact World.alloc_heap_new _ _
  have hF2' := Lib.hid hF2
  have y0 : W2.cell? ⟨wr.heap.size, 0, none⟩ = some (.string nm) := by simp [World.cell?, hF2]
  have y1 : W2.cell? ⟨wr.heap.size, 1, none⟩ = some (.int .i64 sz) := by simp [World.cell?, hF2]
  have y2 : W2.cell? ⟨wr.heap.size, 2, none⟩ = some (.slice ai bl.length capi) := by simp [World.cell?, hF2]
  have q1 : W2.cell? ⟨w.heap.size, 1, none⟩ = some (.slice (some ⟨b, off, none⟩) fs.length cap) := (hb2.cell (p := ⟨w.heap.size, 1, none⟩) hRlr).trans r1
  have hprev2 := Lib.hid (fun h0 : 0 < i => (hb2.cell (p := ⟨b, off + (i - 1) * 3, none⟩) (Nat.lt_of_lt_of_le hbl hbr.size)).trans (hprev.out h0))
  have hS2 := hSr.below hb2
  have hbw2 := hbr.trans (hb2.mono hbr.size)
  have hkr2 := Lib.hid (fun W (hb : Below W2.heap.size W2 W) => hkr0.out W (hb2.trans (hb.mono hb2.size)))
  clear hkr0
  have hz3 : m < wr.heap.size := hSr.lt
  clear hF2 hprev
  go_wp2
  clear hW2 r1 x0 x1 x2
  have hwf := hbr.size
  have hfb2 : wr.heap.size < W2.heap.size := (Array.getElem?_eq_some_iff.1 hF2'.out).1
  generalize wr.heap.size = fb at *
  go_cut [68] (fun v wx => ∃ bad : Bool, v = .bool bad ∧ (bad = false ↔ HO) ∧ Below W2.heap.size W2 wx)
  case first =>
   by_cases hn : 1 ≤ nm.size ∧ nm.size ≤ 32
   case neg =>
    rw [decide_eq_false hn] at PN
    go_quiet (((go_at_call 71; exact Calls.quiet_of_same (PN.out _))))
    go_wp2
    go_meet
    exact ⟨true, rfl, ⟨fun h => (by cases h), fun h => absurd (hord.out.1 h).1 hn⟩, below_drewN (Below.refl _ _) _⟩
   rw [decide_eq_true hn] at PN
   have hio : ¬ 0 < i ∨ (∃ j, i = j + 1 ∧ Op.bytesLess pn.toList nm.toList = false) ∨ ∃ j, i = j + 1 ∧ Op.bytesLess pn.toList nm.toList = true := by
    rcases Nat.eq_zero_or_pos i with h | h
    ·exact .inl (by omega)
    ·cases hb : Op.bytesLess pn.toList nm.toList
     ·exact .inr (.inl ⟨i - 1, by omega, rfl⟩)
     ·exact .inr (.inr ⟨i - 1, by omega, rfl⟩)
   have PB := Lib.hid (fun W (h : 0 ≤ sz) => blocksOf_any sz W h hs2)
   have hHO : Hid (HO ↔ (0 < i → Op.bytesLess pn.toList nm.toList = true) ∧ 0 ≤ sz ∧ (bl.length : Int) = Pl.takesB sz) := Lib.hid (by rw [hord.out]; exact ⟨fun h => h.2, fun h => ⟨hn, h⟩⟩)
   clear hord hn
   generalize Pl.takesB sz = tk at PB hHO
   rcases hio with hi0 | ⟨j, rfl, hlt⟩ | ⟨j, rfl, hlt⟩
   ·have hHO2 : Hid (HO ↔ 0 ≤ sz ∧ (bl.length : Int) = tk) := Lib.hid (by rw [hHO.out]; exact ⟨fun h => h.2, fun h => ⟨fun h0 => absurd h0 hi0, h⟩⟩)
    have hg1 : ¬ (0 : Int) < (i : Int) := by omega
    have hg2 : decide (0 < i) = false := decide_eq_false hi0
    clear hHO hprev2
    by_cases h4 : sz < 0
    ·have h4' : decide (sz < 0) = true := decide_eq_true h4
     go_quiet ((first | (go_at_call 71; exact Calls.quiet_of_same (PN.out _))))
     go_wp2
     go_meet
     exact ⟨_, rfl, ⟨fun h => (by first | cases h | simp_all), fun h => absurd (hHO2.out.1 h).1 (by omega)⟩, below_drewN (Below.refl _ _) _⟩
    ·have h4' : decide (sz < 0) = false := decide_eq_false h4
     have PB2 := Lib.hid (fun W => PB.out W (by omega))
     by_cases h5 : (bl.length : Int) = tk
     ·have h5' : ((bl.length : Int) == tk) = true := by simpa using h5
      have h5'' : ((bl.length : Int) != tk) = false := by simpa using h5
      replace h5 := Lib.hid h5
      go_quiet ((first | (go_at_call 71; exact Calls.quiet_of_same (PN.out _)) | (go_at_call 62; exact Calls.quiet_of_same (PB2.out _))))
      go_wp2
      go_meet
      exact ⟨_, rfl, ⟨fun _ => hHO2.out.2 ⟨by omega, h5.out⟩, fun _ => by first | rfl | simp_all⟩, below_drewN (Below.refl _ _) _⟩
     ·have h5' : ((bl.length : Int) == tk) = false := by simpa using h5
      have h5'' : ((bl.length : Int) != tk) = true := by simpa using h5
      go_quiet ((first | (go_at_call 71; exact Calls.quiet_of_same (PN.out _)) | (go_at_call 62; exact Calls.quiet_of_same (PB2.out _))))
      go_wp2
      go_meet
      exact ⟨_, rfl, ⟨fun h => (by first | cases h | simp_all), fun h => absurd (hHO2.out.1 h).2 h5⟩, below_drewN (Below.refl _ _) _⟩
   ·have hHO2 : Hid (¬ HO) := Lib.hid (by rw [hHO.out]; exact fun h => by have := h.1 (by omega); rw [hlt] at this; cases this)
    have hc := hprev2.out (by omega)
    rw [Nat.add_sub_cancel] at hc
    have hw1 : IntKind.i64.wrap ((j : Int) + 1 - 1) = (j : Int) := by rw [Int.add_sub_cancel]; exact IntWalk.i64_in _ (by omega)
    have hw2 : IntKind.i64.wrap (j : Int) = (j : Int) := IntWalk.i64_in _ (by omega)
    have hg1 : (0 : Int) ≤ (j : Int) := by omega
    have hg2 : (j : Int) < (fs.length : Int) := by omega
    have hg4 : (0 : Int) < (j : Int) + 1 := by omega
    have hg5 : decide ((0 : Int) < (j : Int) + 1) = true := decide_eq_true hg4
    have hblr : b < fb := Nat.lt_of_lt_of_le hbl hwf
    have hle := not_less hlt
    clear hHO hprev2 hlt
    rcases hle with ⟨hl1, hl2⟩ | ⟨hl1, hl2⟩
    all_goals
     go_quiet ((first | (go_at_call 71; exact Calls.quiet_of_same (PN.out _))))
     go_wp2
     go_meet
     exact ⟨_, rfl, ⟨fun h => (by first | cases h | simp_all), fun h => absurd h hHO2.out⟩, below_drewN (Below.refl _ _) _⟩
   ·have hHO2 : Hid (HO ↔ 0 ≤ sz ∧ (bl.length : Int) = tk) := Lib.hid (by rw [hHO.out]; exact ⟨fun h => h.2, fun h => ⟨fun _ => hlt, h⟩⟩)
    have hc := hprev2.out (by omega)
    rw [Nat.add_sub_cancel] at hc
    have hw1 : IntKind.i64.wrap ((j : Int) + 1 - 1) = (j : Int) := by rw [Int.add_sub_cancel]; exact IntWalk.i64_in _ (by omega)
    have hw2 : IntKind.i64.wrap (j : Int) = (j : Int) := IntWalk.i64_in _ (by omega)
    have hg1 : (0 : Int) ≤ (j : Int) := by omega
    have hg2 : (j : Int) < (fs.length : Int) := by omega
    have hg4 : (0 : Int) < (j : Int) + 1 := by omega
    have hg5 : decide ((0 : Int) < (j : Int) + 1) = true := decide_eq_true hg4
    have hblr : b < fb := Nat.lt_of_lt_of_le hbl hwf
    obtain ⟨hl1, hl2⟩ := is_less hlt
    clear hHO hprev2 hlt
    by_cases h4 : sz < 0
    ·have h4' : decide (sz < 0) = true := decide_eq_true h4
     go_quiet ((first | (go_at_call 71; exact Calls.quiet_of_same (PN.out _))))
     go_wp2
     go_meet
     exact ⟨_, rfl, ⟨fun h => (by first | cases h | simp_all), fun h => absurd (hHO2.out.1 h).1 (by omega)⟩, below_drewN (Below.refl _ _) _⟩
    ·have h4' : decide (sz < 0) = false := decide_eq_false h4
     have PB2 := Lib.hid (fun W => PB.out W (by omega))
     by_cases h5 : (bl.length : Int) = tk
     ·have h5' : ((bl.length : Int) == tk) = true := by simpa using h5
      have h5'' : ((bl.length : Int) != tk) = false := by simpa using h5
      replace h5 := Lib.hid h5
      go_quiet ((first | (go_at_call 71; exact Calls.quiet_of_same (PN.out _)) | (go_at_call 62; exact Calls.quiet_of_same (PB2.out _))))
      go_wp2
      go_meet
      exact ⟨_, rfl, ⟨fun _ => hHO2.out.2 ⟨by omega, h5.out⟩, fun _ => by first | rfl | simp_all⟩, below_drewN (Below.refl _ _) _⟩
     ·have h5' : ((bl.length : Int) == tk) = false := by simpa using h5
      have h5'' : ((bl.length : Int) != tk) = true := by simpa using h5
      go_quiet ((first | (go_at_call 71; exact Calls.quiet_of_same (PN.out _)) | (go_at_call 62; exact Calls.quiet_of_same (PB2.out _))))
      go_wp2
      go_meet
      exact ⟨_, rfl, ⟨fun h => (by first | cases h | simp_all), fun h => absurd (hHO2.out.1 h).2 h5⟩, below_drewN (Below.refl _ _) _⟩
  case rest =>
  obtain ⟨bad, rfl, hbad2, hbc⟩ := hcut
  have hbwc := hbw2.trans (hbc.mono hbw2.size)
  clear q1 y0 y1 hprev2 PN hord
  cases bad
  case true =>
   have hr : res = false := hbad.out (fun h => by have := hbad2.2 h; cases this)
   subst hr
   go_wp2
   go_ret
   exact ⟨rfl, hbwc⟩
  have hHO : HO := hbad2.1 rfl
  have y2c := (hbc.cell (p := ⟨fb, 2, none⟩) hfb2).trans y2
  have hSc := hS2.below hbc
  clear hbad2 hbad y2 hS2
  have hmc : m < wc.heap.size := hSc.lt
  go_wp2
  go_loopw [72] (fun k W' => ∃ j : Nat, j ≤ bl.length ∧ k = .int .i64 (j : Int) ∧ Keep (fun q => q ≠ m) wc W' ∧ SetAt W' m (seen ++ bl.take j) ∧ ∀ t (ht : t < bl.length), t < j → Pl.blkOk N (seen ++ bl.take t) bl[t]) (fun k _ => bl.length - (intOf k).toNat)
  case atStart => exact ⟨0, by omega, rfl, Keep.refl _ _, by simpa using hSc, fun t _ h => absurd h (Nat.not_lt_zero _)⟩
  case round =>
   obtain ⟨j, hj, rfl, hkj, hSj, htoj⟩ := hrel
   have hbwj : Below w.heap.size w wr := hkj.below hbwc (Nat.le_refl _) (fun q hq => by omega)
   have hkW := Lib.hid ((hkr2.out wc hbc).trans hkj (fun q hq _ => hq))
   by_cases hjl : j < bl.length
   case neg =>
    obtain rfl : j = bl.length := by omega
    rw [List.take_of_length_le (Nat.le_refl _), ← hflat.out] at hSj
    have hto2 := hsucc.out hHO (fun k hk => htoj k hk hk)
    clear hkj htoj
    go_wp2
    go_roundw
    case rel => exact ⟨i + 1, by omega, by go_num, hkW.out, hSj, hto2⟩
    case measure => simp [intOf]; omega
   obtain ⟨b2, off2, rfl, hb2l, hcb⟩ := hib (by omega)
   have hcx := hkj.cell (b := b2) (show b2 ≠ m by omega) ((hbwc.cell (p := ⟨b2, off2 + j, none⟩) hb2l).trans (hcb j hjl))
   have hxf := hbf.out _ (List.getElem_mem hjl)
   have hlook := hSj.look bl[j] hxf.1 hxf.2
   have hbb : Hid (¬ Pl.blkOk N (seen ++ bl.take j) bl[j] → res = false) := Lib.hid (hbadb.out j hjl)
   have htj : Hid (Pl.blkOk N (seen ++ bl.take j) bl[j] → ∀ t (ht : t < bl.length), t < j + 1 → Pl.blkOk N (seen ++ bl.take t) bl[t]) := Lib.hid (fun h t ht htl => by
    rcases Nat.lt_succ_iff_lt_or_eq.1 htl with h3 | rfl
    ·exact htoj t ht h3
    ·exact h)
   have hsn : Hid (seen ++ bl.take (j + 1) = seen ++ bl.take j ++ [bl[j]]) := Lib.hid (by rw [List.take_succ_eq_append_getElem hjl, List.append_assoc])
   have hlen2 : (seen ++ bl.take j).length < maxLen := by
    have := (Pl.seen_more hseen.out j hj htoj).length hNb1
    unfold maxLen; omega
   have hkjj := Lib.hid hkj
   clear hcb htoj hib hkj
   generalize bl[j] = x at *
   obtain ⟨hx1, hx2⟩ := hxf
   by_cases h4 : x < 32
   ·have hr : res = false := hbb.out (fun h => by have := h.1; omega)
    subst hr
    go_wp2
    go_ret
    exact ⟨rfl, hbwj⟩
   by_cases h5 : N ≤ x
   ·have hr : res = false := hbb.out (fun h => by have := h.2.1; omega)
    subst hr
    go_wp2
    go_ret
    exact ⟨rfl, hbwj⟩
   by_cases h6 : x ∈ seen ++ bl.take j
   ·have hr : res = false := hbb.out (fun h => h.2.2 h6)
    subst hr
    rw [decide_eq_true h6] at hlook
    clear h6
    go_wp2
    go_ret
    exact ⟨rfl, hbwj⟩
   rw [decide_eq_false h6] at hlook
   have hok := Lib.hid (htj.out ⟨by omega, by omega, h6⟩)
   have hkey : keyOf Tryz.prog 3 (.int .i64 x) = some (.int .i64 x) := Maps.keyOf_int_mk Tryz.underlying3 (by simp [Lit.wf, IntKind.min, IntKind.max, IntKind.signed, IntKind.bits]; omega)
   have hval : plainElem (H := Unit) Tryz.prog 4 (.bool true) = some (.lit (.bool true), []) := plainElem_bool Tryz.underlying4 true
   clear h6 htj hbb
   go_wp2_with (at_mapUpdate; go_must (refine wpList_mapUpdate_in _ rfl _ _ _ 147 rfl 3 4 (Maps.int_keyed Tryz.underlying3) Tryz.underlying147 _ m (seen ++ bl.take j).length _ rfl hSj hlen2 _ _ _ rfl rfl hkey _ [] hval ?_; intro Wm hm ht; have hkm : Keep (fun q => q ≠ m) wr Wm := Keep.of_grownBy ht.grown (fun k e _ hn => hn (by injection e with e; exact e.symm))))
   go_roundw
   case rel =>
    refine ⟨j + 1, by omega, by go_num, ?_, ?_, hok.out⟩
    ·exact (hkjj.out).trans hkm (fun q h _ => h)
    ·rw [hsn.out]; exact SetAt.snoc hm
   case measure => simp [intOf]; omega
end
section
open Go.RowKit Go.Shelf
attribute [local go_sem] Oper.semAt_some
def encR (x : Int × Nat) : Array Value := #[.int .i64 x.1, .int .i64 (x.2 : Int)]
theorem runs_in (n : Nat) (ao : Option Addr) (len cap : Nat) (w : World) :
  CallsIn Fence.wide n Tryz.prog 114 #[.slice ao len cap] w fun e w' => e = .returned (.func (.func 130) #[] #[.pointer (some ⟨w.heap.size, 0, none⟩)]) ∧ w' = w.alloc (.cells #[.slice ao len cap] 74) := by
 refine callsIn_of_wp Tryz.func114 rfl trivial ?_ rfl
 simp only [Tryz.ntmps114, List.size_toArray, List.length_cons, List.length_nil, Nat.reduceAdd, Nat.reduceSub, Array.replicate_succ, Array.replicate_zero, List.push_toArray, List.append_toArray, List.nil_append, List.cons_append]
 gi_wp2
 go_ret
 exact ⟨rfl, rfl⟩
structure Rest (W : World) (b rb off len i : Nat) (ao : Option Addr) (cap : Nat) : Prop where
 box : Boxed W b 74 (.slice ao (len - i) cap)
 le : len - i ≤ cap
 cap : cap ≤ 9223372036854775807
 at' : i < len → ao = some ⟨rb, off + i, none⟩
def lenAt (b : Nat) (W : World) : Nat := match W.cell? ⟨b, 0, none⟩ with | some (.slice _ n _) => n | _ => 0
set_option maxHeartbeats 2000000 in
theorem runs1_seq (n b rb off : Nat) (ao : Option Addr) (cap : Nat) (l : List Int) (w : World) (hl : l.length ≤ 16384) (hlo : ∀ x ∈ l, 0 ≤ x ∧ x ≤ 16384)
  (hR : Rest w b rb off l.length 0 ao cap) (hrb : rb ≠ b) (hrow : ∀ i (hi : i < l.length), w.cell? ⟨rb, off + i, none⟩ = some (.int .i64 l[i])) :
  SeqG Fence.wide n Tryz.prog 130 #[.pointer (some ⟨b, 0, none⟩)] encR (fun k => k = b ∨ (0 < l.length ∧ k = rb)) (fun k => 0 < l.length ∧ k = rb) (fun ys => ys = Pl.runsOf l) (fun ys => ys <+: Pl.runsOf l) w := by
 intro lp J Jx W fp hkm hd hlt hJ hJx hY h0
 have hB0 := hkm.boxed (.inl rfl) hR.box
 have hrow1 := Lib.hid (fun i (hi : i < l.length) => hkm.cell (b := rb) (o := off + i) (.inr ⟨by omega, rfl⟩) (hrow i hi))
 have hbl := hB0.lt
 have hrbl : Hid (0 < l.length → rb < W.heap.size) := Lib.hid (fun h => by
  have := hrow1.out 0 h
  obtain ⟨o, ho, _⟩ := not_walk_of_cell this
  exact (Array.getElem?_eq_some_iff.1 ho).1)
 refine callsIn_of_wp Tryz.func130 rfl trivial (wpIn_wide.2 ?_) rfl
 simp only [Tryz.ntmps130, List.size_toArray, List.length_cons, List.length_nil, Nat.reduceAdd, Nat.reduceSub, Array.replicate_succ, Array.replicate_zero, List.push_toArray, List.append_toArray, List.nil_append, List.cons_append]
 go_wp2
 go_loopw [3] (fun _ W' => ∃ (i : Nat) (pre : List (Int × Nat)) (ao' : Option Addr) (cap' : Nat), i ≤ l.length ∧ Pl.runsOf l = pre ++ Pl.runsOf (l.drop i) ∧ Rest W' b rb off l.length i ao' cap' ∧ Keep (fun k => 0 < l.length ∧ k = rb) W W' ∧ ∃ fp', (∀ z, fp' z → fp z ∨ W.heap.size ≤ z) ∧ (∀ z, fp' z → z < W'.heap.size) ∧ J pre fp' W')
  (fun _ W' => lenAt b W')
 case atStart => exact ⟨0, [], ao, cap, by omega, by simp, ⟨hB0, hR.le, hR.cap, hR.at'⟩, Keep.refl _ _, fp, fun _ h => .inl h, hlt, h0⟩
 case round =>
  obtain ⟨i, pre, ao', cap', hi, hpre, hRr, hkp, fp', hn', hlt', hJ'⟩ := hrel
  have cB := hRr.box.cell
  have hlA : lenAt b wr = l.length - i := by unfold lenAt; rw [cB]
  by_cases hil : i < l.length
  case neg =>
   obtain rfl : i = l.length := by omega
   have e0 : l.length - l.length = 0 := by omega
   rw [e0] at cB
   rw [List.drop_length, Pl.runsOf_nil, List.append_nil] at hpre
   clear hlA
   go_wp2
   go_end0
   exact SeqEnd.all hkp hn' hlt' pre hpre.symm hJ'
  have e1 := hRr.at' hil
  subst e1
  have r1 := hRr.le
  have r2 := hRr.cap
  have hd1 := Pl.runsOf_drop hil
  have hup1 := Pl.upR_drop_pos hil
  have hup2 := Pl.upR_le l[i] (l.drop i)
  rw [List.length_drop] at hup2
  have hfr := hRr.box.frozen
  have hrw := Lib.hid (fun k (hk : i + k < l.length) => hkp.cell (b := rb) (o := off + (i + k)) ⟨by omega, rfl⟩ (hrow1.out (i + k) hk))
  have hab := hlo l[i] (List.getElem_mem hil)
  have hbd := Lib.hid (fun k (hk : i + k < l.length) => hlo l[i + k] (List.getElem_mem hk))
  have hgo : Hid (∀ k (hk : i + k < l.length), k ≤ Pl.upR l[i] (l.drop i) → (l[i + k] = l[i] + (k : Int) ↔ k < Pl.upR l[i] (l.drop i))) := Lib.hid (fun k hk hle => by
   have h1 : k < (l.drop i).length := by rw [List.length_drop]; omega
   have := Pl.upR_lt (a := l[i]) (l := l.drop i) (j := k) h1 hle
   rwa [List.getElem_drop] at this)
  have ha0 := hrw.out 0 (by omega)
  simp only [Nat.add_zero] at ha0
  have hnl : l.length - i = (l.drop i).length := by rw [List.length_drop]
  generalize hU : Pl.upR l[i] (l.drop i) = U at *
  replace hU := Lib.hid hU
  replace hpre := Lib.hid hpre
  replace hd1 := Lib.hid hd1
  replace hlA := Lib.hid hlA
  clear hnl
  have hlo' := Lib.hid hlo
  clear hlo
  generalize hm : l.length - i = m at *
  replace hm := Lib.hid hm
  generalize l[i] = a at *
  have hm0 : 0 < m := by have := hm.out; omega
  have hm1 : m ≤ 16384 := by have := hm.out; omega
  obtain ⟨wo, rfl⟩ : ∃ wo : World, wo = wr := ⟨_, rfl⟩
  have hbo : b < wo.heap.size := hRr.box.lt
  have hbox := Lib.hid hRr.box
  have hro : rb < wo.heap.size := Nat.lt_of_lt_of_le (hrbl.out (by omega)) hkp.size
  have hnf : ∀ z, z < W.heap.size → ¬ fp z → ¬ fp' z := fun z h1 h2 h3 => by
   rcases hn' z h3 with h | h
   ·exact h2 h
   ·omega
  have hbf : ¬ fp' b := hnf b hbl (fun h => hd b h (.inl rfl))
  have hrf : ¬ fp' rb := hnf rb (hrbl.out (by omega)) (fun h => hd rb h (.inr ⟨by omega, rfl⟩))
  clear hRr
  go_wp2
  go_loopw [3] (fun s W' => ∃ k : Nat, 1 ≤ k ∧ k ≤ U ∧ s = .int .i64 (k : Int) ∧ Below wo.heap.size wo W') (fun s _ => U - (intOf s).toNat)
  case atStart => exact ⟨1, Nat.le_refl _, hup1, rfl, Below.refl _ _⟩
  case round =>
   obtain ⟨k, hk1, hk2, rfl, hbk⟩ := hrel
   have cBk := (hbk.cell (p := ⟨b, 0, none⟩) hbo).trans cB
   have cak := (hbk.cell (p := ⟨rb, off + i, none⟩) hro).trans ha0
   have hgi1 : (0 : Int) ≤ (k : Int) := by omega
   by_cases hkU : k < U
   ·have hkm : i + k < l.length := by have := hm.out; omega
    have hy := (hgo.out k hkm hk2).2 hkU
    have cy0 : wo.cell? ⟨rb, off + i + k, none⟩ = some (.int .i64 l[i + k]) := by rw [Nat.add_assoc]; exact hrw.out k hkm
    have cy := (hbk.cell (p := ⟨rb, off + i + k, none⟩) hro).trans cy0
    clear cy0
    generalize l[i + k] = y at *
    have hw1 : IntKind.i64.wrap (a + (k : Int)) = a + (k : Int) := IntWalk.i64_in _ (by omega)
    have hy1 : (y == a + (k : Int)) = true := by simpa using hy
    have hkm1 : (k : Int) < (m : Int) := by omega
    have hkm2 : decide ((k : Int) < (m : Int)) = true := decide_eq_true hkm1
    have hkm3 : decide (k < m) = true := decide_eq_true (by omega)
    have hkm4 : k < m := by omega
    replace hy := Lib.hid hy
    go_wp2
    go_quiet (fail)
    go_wp2
    go_roundw
    case rel => exact ⟨k + 1, by omega, by omega, by go_num, below_drewN hbk nq⟩
    case measure => simp [intOf]; omega
   obtain rfl : k = U := by omega
   have hUU := hU
   go_wp2
   go_cut [22] (fun v wx => v = .bool false ∧ Below wo.heap.size wo wx)
   case first =>
    by_cases hkm : k < m
    ·have hkl : i + k < l.length := by have := hm.out; omega
     have hy : ¬ l[i + k] = a + (k : Int) := fun e => absurd ((hgo.out k hkl (Nat.le_refl _)).1 e) (Nat.lt_irrefl _)
     have cy0 : wo.cell? ⟨rb, off + i + k, none⟩ = some (.int .i64 l[i + k]) := by rw [Nat.add_assoc]; exact hrw.out k hkl
     have cy := (hbk.cell (p := ⟨rb, off + i + k, none⟩) hro).trans cy0
     clear cy0
     generalize l[i + k] = y at *
     have hw1 : IntKind.i64.wrap (a + (k : Int)) = a + (k : Int) := IntWalk.i64_in _ (by omega)
     have hy1 : (y == a + (k : Int)) = false := by simpa using hy
     have hkm1 : (k : Int) < (m : Int) := by omega
     have hkm2 : decide ((k : Int) < (m : Int)) = true := decide_eq_true hkm1
     have hkm3 : decide (k < m) = true := decide_eq_true (by omega)
     go_quiet (fail)
     go_wp2
     go_meet
     exact ⟨by first | rfl | simp, below_drewN hbk nq⟩
    ·have hkm1 : ¬ (k : Int) < (m : Int) := by omega
     have hkm2 : decide ((k : Int) < (m : Int)) = false := decide_eq_false hkm1
     have hkm3 : decide (k < m) = false := decide_eq_false hkm
     go_quiet (fail)
     go_wp2
     go_meet
     exact ⟨by first | rfl | simp, below_drewN hbk nq⟩
   case rest =>
   obtain ⟨rfl, hbc⟩ := hcut
   clear cBk cak hbk
   have cBc := (hbc.cell (p := ⟨b, 0, none⟩) hbo).trans cB
   have cac := (hbc.cell (p := ⟨rb, off + i, none⟩) hro).trans ha0
   have hkc := fun f : Nat → Prop => Keep.of_below (fp := fun z => f z ∧ z < wo.heap.size) hbc (fun _ h _ => h.2)
   have hJc := hJ _ _ _ _ hJ' (Keep.of_below (fp := fp') hbc (fun z hz _ => hlt' z hz))
   have hltc : ∀ z, fp' z → z < wc.heap.size := fun z hz => Nat.lt_of_lt_of_le (hlt' z hz) hbc.size
   have hpre2 : pre ++ [(a, k)] <+: Pl.runsOf l := by
    rw [hpre.out, hd1.out]
    exact ⟨Pl.runsOf (l.drop (i + k)), by simp⟩
   have hpre3 := Lib.hid (show Pl.runsOf l = (pre ++ [(a, k)]) ++ Pl.runsOf (l.drop (i + k)) by rw [hpre.out, hd1.out]; simp)
   obtain ⟨fn, tmps, assign, body, hy, hRd⟩ := hY pre (a, k) fp' _ hJc hltc hpre2
   unfold encR at hy
   clear hY
   go_upto_region 4 with (fail)
   refine (wpIn_wide (n := n)).1 ?_
   gi_wp2
   refine ⟨fun h => (by cases h), hRd.mono ?_⟩
   have hkR : Keep (fun z => 0 < l.length ∧ z = rb) W wc := hkp.trans (hkc (fun z => z = rb)) (fun z h _ => ⟨h.2, by rw [h.2]; exact hro⟩)
   rintro e W3 (⟨rfl, fp3, hJ3, st3⟩ | ⟨rfl, fp3, hJ3, st3⟩)
   all_goals
    clear hy
    have hk3 : Keep (fun z => 0 < l.length ∧ z = rb) W W3 := hkR.trans st3.keep (fun z h _ => h.2 ▸ hrf)
    have hn3 : ∀ z, fp3 z → fp z ∨ W.heap.size ≤ z := fun z h => by
     rcases st3.new z h with h | h
     ·exact hn' z h
     ·have := hkR.size; right; omega
   ·have hbox3 : Boxed W3 b 74 (.slice (some ⟨rb, off + i, none⟩) m cap') := st3.keep.boxed hbf ((Keep.of_below (fp := fun z => z = b) hbc (fun z h _ => by rw [h]; exact hbo)).boxed rfl (by rw [← hm.out]; exact hbox.out))
    have cB3 := hbox3.cell
    have fB3 := hbox3.frozen
    have lB3 := hbox3.lt
    have hf3 : ¬ fp3 b := st3.other hbf (Nat.lt_of_lt_of_le hbo hbc.size)
    have hq1 : (0 : Int) ≤ (k : Int) := by omega
    have hq2 : (k : Int) ≤ (m : Int) := by omega
    have hmk : ((m : Int) - (k : Int)).toNat = m - k := by omega
    by_cases hcU : cap' = k
    ·have hkm : k = m := by omega
     subst hkm
     subst hcU
     gi_wp2
     go_wp2
     generalize hW4 : W3.setCell ⟨b, 0, none⟩ _ = W4
     have hb4 := hbox3.set (.slice (some ⟨rb, off + i, none⟩) 0 0)
     rw [hW4] at hb4
     have hkp4 : ∀ f : Nat → Prop, ¬ f b → Keep f W3 W4 := fun f hf => by rw [← hW4]; exact (Keep.refl f W3).setCell _ _ _ (fun h _ => hf h)
     have hz4 : W4.heap.size = W3.heap.size := by rw [← hW4]; simp [World.setCell]
     refine ⟨⟨i + cap', pre ++ [(a, cap')], _, _, by have := hm.out; omega, hpre3.out, ⟨by rw [show l.length - (i + cap') = 0 by have := hm.out; omega]; exact hb4, by have := hm.out; omega, by omega, fun h => (by have := hm.out; omega)⟩, hk3.trans (hkp4 (fun z => 0 < l.length ∧ z = rb) (fun h => hrb h.2.symm)) (fun z h _ => h), fp3, hn3, fun z hz => by rw [hz4]; exact st3.lt z hz, hJ _ _ _ _ hJ3 (hkp4 fp3 hf3)⟩, ?_⟩
     have e4 : lenAt b W4 = 0 := by unfold lenAt; rw [hb4.cell]
     rw [e4, hlA.out]
     have := hm.out
     omega
    ·gi_wp2
     go_wp2
     generalize hW4 : W3.setCell ⟨b, 0, none⟩ _ = W4
     have hb4 := hbox3.set (.slice (some ⟨rb, off + i + k, none⟩) (m - k) (cap' - k))
     rw [hW4] at hb4
     have hkp4 : ∀ f : Nat → Prop, ¬ f b → Keep f W3 W4 := fun f hf => by rw [← hW4]; exact (Keep.refl f W3).setCell _ _ _ (fun h _ => hf h)
     have hz4 : W4.heap.size = W3.heap.size := by rw [← hW4]; simp [World.setCell]
     refine ⟨⟨i + k, pre ++ [(a, k)], _, _, by have := hm.out; omega, hpre3.out, ⟨by rw [show l.length - (i + k) = (m - k) by have := hm.out; omega]; exact hb4, by have := hm.out; omega, by omega, fun h => (by rw [Nat.add_assoc])⟩, hk3.trans (hkp4 (fun z => 0 < l.length ∧ z = rb) (fun h => hrb h.2.symm)) (fun z h _ => h), fp3, hn3, fun z hz => by rw [hz4]; exact st3.lt z hz, hJ _ _ _ _ hJ3 (hkp4 fp3 hf3)⟩, ?_⟩
     have e4 : lenAt b W4 = (m - k) := by unfold lenAt; rw [hb4.cell]
     rw [e4, hlA.out]
     have := hm.out
     omega
   ·gi_wp2
    go_wp2
    refine bodyPost_ret (results_none rfl _ _ _) rfl ?_
    exact SeqEnd.part hk3 hn3 st3.lt _ hpre2 hJ3
end
end Go.Proofs.YtogblcdefbnbeaaGreat
