
/- Walk: the document's: may a root be? Condition: none. -/
import Derived.Test.YtogblcdefbnbeaaGreatQPn
import Derived.Test.YtogblcdefbnbeaaGreatQGu
set_option maxRecDepth 100000
namespace Go.Proofs.YtogblcdefbnbeaaGreat
section
open Go.RowKit
theorem info_bool4 : (Tryz.prog.info? 4).map (fun i => (i.zero, i.size, i.bytes)) = some (some (.bool false), 1, 1) := by kernel_rfl
def tcells4 (l : List Bool) : List Value := l.map Value.bool
theorem make_bools4 (n : Nat) (hn : n ≤ 281474976710656) (w : World) :
  (Instr.makeSlice 34 (.int .i64 (n : Int)) (.int .i64 (n : Int))).run Tryz.prog w = .ok (.slice (some ⟨w.heap.size, 0, none⟩) n n) (w.alloc (.cells (tcells4 (List.replicate n false)).toArray 4)) := by
 obtain ⟨i, hi, hz0, hz1, hz2⟩ := info_parts info_bool4
 have h := run_make (P := Tryz.prog) w 34 4 i (.bool false) Tryz.underlying34 hi hz0 .i64 .i64 (n : Int) (n : Int) (by omega) (by omega) (by rw [hz2]; omega) (by omega)
 have e : madeCells (Value.bool false).cells (n * i.size) = (tcells4 (List.replicate n false)).toArray := by
  rw [hz1]
  apply Array.ext
  ·rw [size_madeCells]; simp [tcells4]
  ·intro j h1 h2
   have hj : j < n := by simpa [tcells4] using h2
   simp [madeCells, tcells4, Value.cells, Nat.mod_one]
 simp only [Int.toNat_natCast] at h
 rw [e] at h
 exact h
def takL (n : Nat) (l : List Int) : List Bool := (List.range n).map fun (b : Nat) => decide ((b : Int) ∈ l)
def TakAt (W : World) (m n : Nat) (l : List Int) : Prop := W.heap[m]? = some (.cells (tcells4 (takL n l)).toArray 4 (0, 0))
theorem TakAt.new (w : World) (n : Nat) : TakAt (w.alloc (.cells (tcells4 (List.replicate n false)).toArray 4)) w.heap.size n [] := by
 have e : List.replicate n false = takL n [] := by
  unfold takL
  apply List.ext_getElem
  ·simp
  ·intro i h1 h2; simp
 rw [e]
 exact World.alloc_heap_new _ _
theorem TakAt.lt {W : World} {m n : Nat} {l : List Int} (h : TakAt W m n l) : m < W.heap.size := (Array.getElem?_eq_some_iff.1 h).1
theorem TakAt.below {W W' : World} {m n : Nat} {l : List Int} (h : TakAt W m n l) (hb : Below W.heap.size W W') : TakAt W' m n l := (hb.block m h.lt).trans h
theorem TakAt.look {W : World} {m n : Nat} {l : List Int} (h : TakAt W m n l) {b : Nat} (hb : b < n) : W.cell? ⟨m, b, none⟩ = some (.bool (decide ((b : Int) ∈ l))) := by
 simp [World.cell?, show W.heap[m]? = _ from h, tcells4, takL, hb]
theorem TakAt.frozen {W : World} {m n : Nat} {l : List Int} (h : TakAt W m n l) (b : Nat) : W.frozen? ⟨m, b, none⟩ = false := by
 simp [World.frozen?, show W.heap[m]? = _ from h]
theorem TakAt.set {W : World} {m n : Nat} {l : List Int} (h : TakAt W m n l) (b : Nat) : TakAt (W.setCell ⟨m, b, none⟩ (.bool true)) m n (l ++ [(b : Int)]) := by
 have e : (tcells4 (takL n l)).toArray.setIfInBounds b (.bool true) = (tcells4 (takL n (l ++ [(b : Int)]))).toArray := by
  rw [List.setIfInBounds_toArray]
  congr 1
  apply List.ext_getElem
  ·simp [tcells4, takL]
  ·intro i h1 h2
   rw [List.getElem_set]
   by_cases hi : b = i
   ·subst hi; simp [tcells4, takL]
   ·have hi' : ¬ i = b := fun e => hi e.symm
    simp [tcells4, takL, hi, hi']
    intro e; omega
 rw [TakAt, ← e]
 obtain ⟨hlt, hk⟩ := Array.getElem?_eq_some_iff.1 h
 show (W.heap.modify m _)[m]? = _
 rw [Array.getElem?_eq_getElem (by rw [Array.size_modify]; exact hlt), Array.getElem_modify_self, hk]
 simp
theorem refName_any (s : ByteArray) (w : World) : Calls Tryz.prog 72 #[.string s] w fun e w' => e = .returned (.bool (decide (1 ≤ s.size ∧ s.size ≤ 32))) ∧ w' = w := by
 go_enter Tryz.func72, Tryz.ntmps72
 go_wp2
 all_goals
  go_ret
  exact ⟨ret_bool4 (by rw [Bool.eq_iff_iff]; simp; omega), rfl⟩
theorem refTakes_any (n : Int) (w : World) (h0 : 0 ≤ n) (h1 : n ≤ 9223372036854775807) : Calls Tryz.prog 128 #[.int .i64 n] w fun e w' => e = .returned (.int .i64 (Pl.takesB n)) ∧ w' = w := by
 unfold Pl.takesB
 by_cases h : 0 < n % 256
 ·rw [if_pos h]
  go_enter Tryz.func128, Tryz.ntmps128
  go_wp2
  go_ret
  exact ⟨ret_int (by rfl), rfl⟩
 ·rw [if_neg h, Int.add_zero]
  go_enter Tryz.func128, Tryz.ntmps128
  go_wp2
  go_ret
  exact ⟨ret_int (by rfl), rfl⟩
set_option maxHeartbeats 3200000 in
theorem refMay4_any (r : Pl.RootP) (u : Value) (N : Int) (w : World) (hf : r.fine) (hu : FilesAt w u r.files) (hNb2 : -9223372036854775808 ≤ N) (hNb1 : N ≤ 16384) :
  Calls Tryz.prog 99 #[.agg #[.int .u64 (r.gen : Int), u], .int .i64 N] w fun e w' => e = .returned (.bool (Pl.mayB N r)) ∧ Below w.heap.size w w' := by
 obtain ⟨gen, fs⟩ := r
 obtain ⟨ao, cap, rfl, l1, l2, hrow⟩ := hu
 have hfine := Lib.hid hf.files
 have hgen := hf.gen
 simp only at hrow l1 l2 hgen hfine ⊢
 clear hf
 obtain ⟨res, hres⟩ : ∃ res, res = Pl.mayB N ⟨gen, fs⟩ := ⟨_, rfl⟩
 rw [← hres]
 have hno : Hid (¬ Pl.May N ⟨gen, fs⟩ → res = false) := Lib.hid (fun h => hres.trans (Pl.mayB_no h))
 have hyes : Hid (Pl.May N ⟨gen, fs⟩ → res = true) := Lib.hid (fun h => hres.trans (Pl.mayB_yes h))
 clear hres
 obtain ⟨W0, hW0⟩ : ∃ W0, w.alloc (.cells #[.int .u64 (gen : Int), .slice ao fs.length cap] 71) = W0 := ⟨_, rfl⟩
 have hb0 : Below w.heap.size w W0 := by rw [← hW0]; exact (Below.refl _ _).alloc (Nat.le_refl _) _
 have hR0 : W0.heap[w.heap.size]? = some (.cells #[.int .u64 (gen : Int), .slice ao fs.length cap] 71 (0, 0)) := by rw [← hW0]; exact World.alloc_heap_new _ _
 have r0 : W0.cell? ⟨w.heap.size, 0, none⟩ = some (.int .u64 (gen : Int)) := by simp [World.cell?, hR0]
 have r1 : W0.cell? ⟨w.heap.size, 1, none⟩ = some (.slice ao fs.length cap) := by simp [World.cell?, hR0]
 have hRlt : w.heap.size < W0.heap.size := (Array.getElem?_eq_some_iff.1 hR0).1
 replace hR0 := Lib.hid hR0
 by_cases h1 : gen < 1
 ·have hr : res = false := hno.out (fun h => by have := h.g1; simp at this; omega)
  subst hr
  go_enter Tryz.func99, Tryz.ntmps99
  go_wp2
  go_ret
  exact ⟨rfl, hb0⟩
 by_cases h2 : 4611686018427387904 < gen
 ·have hr : res = false := hno.out (fun h => by have := h.g2; simp at this; omega)
  subst hr
  go_enter Tryz.func99, Tryz.ntmps99
  go_wp2
  go_ret
  exact ⟨rfl, hb0⟩
 by_cases h3 : 64 < fs.length
 ·have hr : res = false := hno.out (fun h => by have := h.many; simp at this; omega)
  subst hr
  go_enter Tryz.func99, Tryz.ntmps99
  go_wp2
  go_ret
  exact ⟨rfl, hb0⟩
 have hgr := Lib.hid (show 1 ≤ gen ∧ gen ≤ 4611686018427387904 ∧ fs.length ≤ 64 by omega)
 obtain ⟨n, hn0⟩ : ∃ n : Nat, n = N.toNat := ⟨_, rfl⟩
 obtain ⟨W1, hW1⟩ : ∃ W1, W1 = W0.alloc (.cells (tcells4 (List.replicate n false)).toArray 4) := ⟨_, rfl⟩
 go_enter Tryz.func99, Tryz.ntmps99
 go_upto_region 3 with (fail)
 go_cut [5] (fun v wx => v = .slice (some ⟨W0.heap.size, 0, none⟩) n n ∧ wx = W1)
 case first =>
  have hW1' := Lib.hid hW1
  have hn0' := Lib.hid hn0
  clear hW1 hn0
  rcases (by omega : N ≤ 0 ∨ 0 < N) with hle | hle
  ·have hmk := make_bools4 0 (by omega)
   have en : n = 0 := by have := hn0'.out; omega
   have hW1'' : W1 = W0.alloc (.cells (tcells4 (List.replicate 0 false)).toArray 4) := by rw [hW1'.out, en]
   replace hW1'' := Lib.hid hW1''
   replace en := Lib.hid en
   clear hn0' hW1'
   simp only [Int.natCast_zero, Int.ofNat_zero] at hmk
   by_cases hN0 : N = 0
   ·subst hN0
    go_wp2_with fail
    go_meet
    exact ⟨by rw [en.out], hW1''.out.symm⟩
   ·have hlt : N < 0 := by omega
    go_wp2_with fail
    go_meet
    exact ⟨by rw [en.out], hW1''.out.symm⟩
  ·obtain ⟨k, rfl⟩ := Int.eq_ofNat_of_zero_le (Int.le_of_lt hle)
   have hmk := make_bools4 k (by omega)
   have en : n = k := by have := hn0'.out; omega
   have hW1'' : W1 = W0.alloc (.cells (tcells4 (List.replicate k false)).toArray 4) := by rw [hW1'.out, en]
   replace hW1'' := Lib.hid hW1''
   replace en := Lib.hid en
   clear hn0' hW1'
   have hk0 : 0 < k := by omega
   go_wp2_with fail
   go_meet
   exact ⟨by rw [en.out], hW1''.out.symm⟩
 case rest =>
 obtain ⟨rfl, rfl⟩ := hcut
 clear h1 h2
 go_wp2
 have hS1 : TakAt wc W0.heap.size n [] := by rw [hW1]; exact TakAt.new W0 n
 have hb1 : Below W0.heap.size W0 wc := by rw [hW1]; exact (Below.refl _ _).alloc (Nat.le_refl _) _
 clear hW1 hW0
 generalize W0.heap.size = m at hS1 hb1 hRlt ⊢
 obtain ⟨W1, rfl⟩ : ∃ W1 : World, W1 = wc := ⟨_, rfl⟩
 have hbw1 : Below w.heap.size w W1 := hb0.trans (hb1.mono (by omega))
 have hR1 : W1.heap[w.heap.size]? = some (.cells #[.int .u64 (gen : Int), .slice ao fs.length cap] 71 (0, 0)) := (hb1.block w.heap.size hRlt).trans hR0.out
 replace hR1 := Lib.hid hR1
 have hz1 : w.heap.size < W1.heap.size := (Array.getElem?_eq_some_iff.1 hR1.out).1
 have hz2 : m < W1.heap.size := hS1.lt
 have hnN : Hid (∀ x : Int, x < N → 0 ≤ x → x < (n : Int)) := Lib.hid (fun x h1 h2 => by omega)
 clear hn0
 clear r0 r1
 go_loopw [6] (fun i W' => ∃ k : Nat, k ≤ fs.length ∧ i = .int .i64 (k : Int) ∧ Keep (fun q => q ≠ m) W1 W' ∧ TakAt W' m n (Pl.flatB (fs.take k)) ∧ Pl.MayTo N fs k) (fun i _ => fs.length - (intOf i).toNat)
 case atStart => exact ⟨0, by omega, rfl, Keep.refl _ _, by simpa [Pl.flatB] using hS1, Pl.MayTo.zero _ _⟩
 case round =>
  obtain ⟨i, hi, rfl, hkr, hSr, hto⟩ := hrel
  have hbr : Below w.heap.size w wr := hkr.below hbw1 (Nat.le_refl _) (fun q hq => by omega)
  have hRr : wr.heap[w.heap.size]? = some (.cells #[.int .u64 (gen : Int), .slice ao fs.length cap] 71 (0, 0)) := (hkr.block w.heap.size (show w.heap.size ≠ m by omega) hz1).trans hR1.out
  have r1 : wr.cell? ⟨w.heap.size, 1, none⟩ = some (.slice ao fs.length cap) := by simp [World.cell?, hRr]
  by_cases hil : i < fs.length
  case neg =>
   obtain rfl : i = fs.length := by omega
   have hr : res = true := hyes.out ⟨hgr.out.1, hgr.out.2.1, hgr.out.2.2, fun j hj => hto.head j hj hj, fun j hj => hto.blk j hj hj⟩
   subst hr
   go_wp2
   go_ret
   exact ⟨rfl, hbr⟩
  have hRlr : w.heap.size < wr.heap.size := (Array.getElem?_eq_some_iff.1 hRr).1
  obtain ⟨b, off, rfl, hbl, hcf⟩ := hrow (by omega)
  obtain ⟨x0, x1, u, x2, hints⟩ := hcf i hil
  replace x0 := (hbr.cell (p := ⟨b, off + i * 3, none⟩) hbl).trans x0
  replace x1 := (hbr.cell (p := ⟨b, off + i * 3 + 1, none⟩) hbl).trans x1
  replace x2 := (hbr.cell (p := ⟨b, off + i * 3 + 2, none⟩) hbl).trans x2
  have hfx := hfine.out _ (List.getElem_mem hil)
  obtain ⟨ai, capi, rfl, i1, i2, hib⟩ := hints
  obtain ⟨pn, hprev, hpn⟩ : ∃ pn : ByteArray, (0 < i → wr.cell? ⟨b, off + (i - 1) * 3, none⟩ = some (.string pn)) ∧ ((∀ h0 : 0 < i, Op.bytesLess (fs[i - 1]'(by omega)).name.toList fs[i].name.toList = true) ↔ (0 < i → Op.bytesLess pn.toList fs[i].name.toList = true)) := by
   by_cases h0 : 0 < i
   ·exact ⟨(fs[i - 1]'(by omega)).name, fun _ => ((hcf (i - 1) (by omega)).below hbl hbr).1, Iff.rfl⟩
   ·exact ⟨.empty, fun h => absurd h h0, ⟨fun _ h => absurd h h0, fun _ h => absurd h h0⟩⟩
  have hord : Hid (Pl.headOk fs i hil ↔ (1 ≤ fs[i].name.size ∧ fs[i].name.size ≤ 32) ∧ (0 < i → Op.bytesLess pn.toList fs[i].name.toList = true) ∧ 0 ≤ fs[i].size ∧ (fs[i].blocks.length : Int) = Pl.takesB fs[i].size) := Lib.hid (by rw [← hpn]; exact Iff.rfl)
  replace hprev := Lib.hid hprev
  clear hpn
  have hbad : Hid (¬ Pl.headOk fs i hil → res = false) := Lib.hid (fun h => hno.out (fun hm => h (hm.head i hil)))
  have hbadb : Hid (∀ k (hk : k < fs[i].blocks.length), ¬ Pl.blkOk N (Pl.flatB (fs.take i) ++ fs[i].blocks.take k) fs[i].blocks[k] → res = false) := Lib.hid (fun k hk h => hno.out (fun hm => h (hm.blk i hil k hk)))
  have hsucc : Hid (Pl.headOk fs i hil → (∀ k (hk : k < fs[i].blocks.length), Pl.blkOk N (Pl.flatB (fs.take i) ++ fs[i].blocks.take k) fs[i].blocks[k]) → Pl.MayTo N fs (i + 1)) := Lib.hid (fun h1 h2 => hto.succ hil h1 h2)
  have hflat : Hid (Pl.flatB (fs.take (i + 1)) = Pl.flatB (fs.take i) ++ fs[i].blocks) := Lib.hid (Pl.flatB_take hil)
  have hseen := Lib.hid (hto.seen i (Nat.le_refl _) hi)
  generalize Pl.headOk fs i hil = HO at hord hbad hsucc
  generalize fs[i] = x at *
  generalize Pl.flatB (fs.take i) = seen at *
  obtain ⟨nm, sz, bl⟩ := x
  simp only at x0 x1 x2 i1 i2 hib hord hbadb hsucc hflat hfx
  obtain ⟨⟨hs1, hs2⟩, hbf⟩ := hfx
  simp only at hs1 hs2 hbf
  replace hbf := Lib.hid hbf
  clear hcf hto hrow
  have hkr0 := Lib.hid (fun W (hb : Below wr.heap.size wr W) => Keep.trans (fp' := fun q => q < wr.heap.size) hkr (Keep.of_below hb (fun _ h _ => h)) (fun q _ hq => Nat.lt_of_lt_of_le hq hkr.size))
  clear hkr
  obtain ⟨nb, hnb⟩ : ∃ nb, nb = decide (1 ≤ nm.size ∧ nm.size ≤ 32) := ⟨_, rfl⟩
  have PN := Lib.hid (fun W => refName_any nm W)
  rw [← hnb] at PN
  replace hnb := Lib.hid hnb
  obtain ⟨W2, hW2⟩ : ∃ W2, wr.alloc (.cells #[.string nm, .int .i64 sz, .slice ai bl.length capi] 76) = W2 := ⟨_, rfl⟩
  have hb2 : Below wr.heap.size wr W2 := by rw [← hW2]; exact (Below.refl _ _).alloc (Nat.le_refl _) _
  have hF2 : W2.heap[wr.heap.size]? = some (.cells #[.string nm, .int .i64 sz, .slice ai bl.length capi] 76 (0, 0)) := by rw [← hW2]; exact World.alloc_heap_new _ _
  have hF2' := Lib.hid hF2
  have y0 : W2.cell? ⟨wr.heap.size, 0, none⟩ = some (.string nm) := by simp [World.cell?, hF2]
  have y1 : W2.cell? ⟨wr.heap.size, 1, none⟩ = some (.int .i64 sz) := by simp [World.cell?, hF2]
  have y2 : W2.cell? ⟨wr.heap.size, 2, none⟩ = some (.slice ai bl.length capi) := by simp [World.cell?, hF2]
  have q1 : W2.cell? ⟨w.heap.size, 1, none⟩ = some (.slice (some ⟨b, off, none⟩) fs.length cap) := (hb2.cell (p := ⟨w.heap.size, 1, none⟩) hRlr).trans r1
  have hprev2 := Lib.hid (fun h0 : 0 < i => (hb2.cell (p := ⟨b, off + (i - 1) * 3, none⟩) (Nat.lt_of_lt_of_le hbl hbr.size)).trans (hprev.out h0))
  have hS2 := hSr.below hb2
  have hbw2 := hbr.trans (hb2.mono hbr.size)
  have hkr2 := Lib.hid (fun W (hb : Below W2.heap.size W2 W) => hkr0.out W (hb2.trans (hb.mono hb2.size)))
  clear hkr0
  have hz3 : m < wr.heap.size := hSr.lt
  clear hF2 hprev
  go_wp2_with (go_at_call 72; refine (PN.out _).mono ?_; rintro e w' ⟨rfl, he⟩; obtain rfl : W2 = w' := he.symm)
  clear hW2 r1 x0 x1 x2 PN
  have hwf := hbr.size
  have hfb2 : wr.heap.size < W2.heap.size := (Array.getElem?_eq_some_iff.1 hF2'.out).1
  generalize wr.heap.size = fb at *
  go_cut [74] (fun v wx => ∃ bad : Bool, v = .bool bad ∧ (bad = false ↔ HO) ∧ Below W2.heap.size W2 wx)
  case first =>
   by_cases hn : 1 ≤ nm.size ∧ nm.size ≤ 32
   case neg =>
    obtain rfl : nb = false := by rw [hnb.out, decide_eq_false hn]
    clear hnb
    go_quiet (fail)
    go_wp2
    go_meet
    exact ⟨true, rfl, ⟨fun h => (by cases h), fun h => absurd (hord.out.1 h).1 hn⟩, below_drewN (Below.refl _ _) _⟩
   obtain rfl : nb = true := by rw [hnb.out, decide_eq_true hn]
   clear hnb
   have hio : ¬ 0 < i ∨ (∃ j, i = j + 1 ∧ Op.bytesLess pn.toList nm.toList = false) ∨ ∃ j, i = j + 1 ∧ Op.bytesLess pn.toList nm.toList = true := by
    rcases Nat.eq_zero_or_pos i with h | h
    ·exact .inl (by omega)
    ·cases hb : Op.bytesLess pn.toList nm.toList
     ·exact .inr (.inl ⟨i - 1, by omega, rfl⟩)
     ·exact .inr (.inr ⟨i - 1, by omega, rfl⟩)
   have PB := Lib.hid (fun W (h : 0 ≤ sz) => refTakes_any sz W h hs2)
   have hHO : Hid (HO ↔ (0 < i → Op.bytesLess pn.toList nm.toList = true) ∧ 0 ≤ sz ∧ (bl.length : Int) = Pl.takesB sz) := Lib.hid (by rw [hord.out]; exact ⟨fun h => h.2, fun h => ⟨hn, h⟩⟩)
   clear hord hn
   generalize Pl.takesB sz = tk at PB hHO
   rcases hio with hi0 | ⟨j, rfl, hlt⟩ | ⟨j, rfl, hlt⟩
   ·have hHO2 : Hid (HO ↔ 0 ≤ sz ∧ (bl.length : Int) = tk) := Lib.hid (by rw [hHO.out]; exact ⟨fun h => h.2, fun h => ⟨fun h0 => absurd h0 hi0, h⟩⟩)
    have hg1 : ¬ (0 : Int) < (i : Int) := by omega
    have hg2 : decide (0 < i) = false := decide_eq_false hi0
    clear hHO hprev2
    by_cases h4 : sz < 0
    ·have h4' : decide (sz < 0) = true := decide_eq_true h4
     go_quiet (fail)
     go_wp2
     go_meet
     exact ⟨_, rfl, ⟨fun h => (by first | cases h | simp_all), fun h => absurd (hHO2.out.1 h).1 (by omega)⟩, below_drewN (Below.refl _ _) _⟩
    ·have h4' : decide (sz < 0) = false := decide_eq_false h4
     have PB2 := Lib.hid (fun W => PB.out W (by omega))
     by_cases h5 : (bl.length : Int) = tk
     ·have h5' : ((bl.length : Int) == tk) = true := by simpa using h5
      have h5'' : ((bl.length : Int) != tk) = false := by simpa using h5
      replace h5 := Lib.hid h5
      go_quiet (((go_at_call 128; exact Calls.quiet_of_same (PB2.out _))))
      go_wp2
      go_meet
      exact ⟨_, rfl, ⟨fun _ => hHO2.out.2 ⟨by omega, h5.out⟩, fun _ => by first | rfl | simp_all⟩, below_drewN (Below.refl _ _) _⟩
     ·have h5' : ((bl.length : Int) == tk) = false := by simpa using h5
      have h5'' : ((bl.length : Int) != tk) = true := by simpa using h5
      go_quiet (((go_at_call 128; exact Calls.quiet_of_same (PB2.out _))))
      go_wp2
      go_meet
      exact ⟨_, rfl, ⟨fun h => (by first | cases h | simp_all), fun h => absurd (hHO2.out.1 h).2 h5⟩, below_drewN (Below.refl _ _) _⟩
   ·have hHO2 : Hid (¬ HO) := Lib.hid (by rw [hHO.out]; exact fun h => by have := h.1 (by omega); rw [hlt] at this; cases this)
    have hc := hprev2.out (by omega)
    rw [Nat.add_sub_cancel] at hc
    have hw1 : IntKind.i64.wrap ((j : Int) + 1 - 1) = (j : Int) := by rw [Int.add_sub_cancel]; exact IntWalk.i64_in _ (by omega)
    have hw2 : IntKind.i64.wrap (j : Int) = (j : Int) := IntWalk.i64_in _ (by omega)
    have hg1 : (0 : Int) ≤ (j : Int) := by omega
    have hg2 : (j : Int) < (fs.length : Int) := by omega
    have hg4 : (0 : Int) < (j : Int) + 1 := by omega
    have hg5 : decide ((0 : Int) < (j : Int) + 1) = true := decide_eq_true hg4
    have hblr : b < fb := Nat.lt_of_lt_of_le hbl hwf
    have hle := not_less hlt
    clear hHO hprev2 hlt
    rcases hle with ⟨hl1, hl2⟩ | ⟨hl1, hl2⟩
    all_goals
     go_quiet (fail)
     go_wp2
     go_meet
     exact ⟨_, rfl, ⟨fun h => (by first | cases h | simp_all), fun h => absurd h hHO2.out⟩, below_drewN (Below.refl _ _) _⟩
   ·have hHO2 : Hid (HO ↔ 0 ≤ sz ∧ (bl.length : Int) = tk) := Lib.hid (by rw [hHO.out]; exact ⟨fun h => h.2, fun h => ⟨fun _ => hlt, h⟩⟩)
    have hc := hprev2.out (by omega)
    rw [Nat.add_sub_cancel] at hc
    have hw1 : IntKind.i64.wrap ((j : Int) + 1 - 1) = (j : Int) := by rw [Int.add_sub_cancel]; exact IntWalk.i64_in _ (by omega)
    have hw2 : IntKind.i64.wrap (j : Int) = (j : Int) := IntWalk.i64_in _ (by omega)
    have hg1 : (0 : Int) ≤ (j : Int) := by omega
    have hg2 : (j : Int) < (fs.length : Int) := by omega
    have hg4 : (0 : Int) < (j : Int) + 1 := by omega
    have hg5 : decide ((0 : Int) < (j : Int) + 1) = true := decide_eq_true hg4
    have hblr : b < fb := Nat.lt_of_lt_of_le hbl hwf
    obtain ⟨hl1, hl2⟩ := is_less hlt
    clear hHO hprev2 hlt
    by_cases h4 : sz < 0
    ·have h4' : decide (sz < 0) = true := decide_eq_true h4
     go_quiet (fail)
     go_wp2
     go_meet
     exact ⟨_, rfl, ⟨fun h => (by first | cases h | simp_all), fun h => absurd (hHO2.out.1 h).1 (by omega)⟩, below_drewN (Below.refl _ _) _⟩
    ·have h4' : decide (sz < 0) = false := decide_eq_false h4
     have PB2 := Lib.hid (fun W => PB.out W (by omega))
     by_cases h5 : (bl.length : Int) = tk
     ·have h5' : ((bl.length : Int) == tk) = true := by simpa using h5
      have h5'' : ((bl.length : Int) != tk) = false := by simpa using h5
      replace h5 := Lib.hid h5
      go_quiet (((go_at_call 128; exact Calls.quiet_of_same (PB2.out _))))
      go_wp2
      go_meet
      exact ⟨_, rfl, ⟨fun _ => hHO2.out.2 ⟨by omega, h5.out⟩, fun _ => by first | rfl | simp_all⟩, below_drewN (Below.refl _ _) _⟩
     ·have h5' : ((bl.length : Int) == tk) = false := by simpa using h5
      have h5'' : ((bl.length : Int) != tk) = true := by simpa using h5
      go_quiet (((go_at_call 128; exact Calls.quiet_of_same (PB2.out _))))
      go_wp2
      go_meet
      exact ⟨_, rfl, ⟨fun h => (by first | cases h | simp_all), fun h => absurd (hHO2.out.1 h).2 h5⟩, below_drewN (Below.refl _ _) _⟩
  case rest =>
  obtain ⟨bad, rfl, hbad2, hbc⟩ := hcut
  have hbwc := hbw2.trans (hbc.mono hbw2.size)
  clear q1 y0 y1 hprev2 hord hnb
  cases bad
  case true =>
   have hr : res = false := hbad.out (fun h => by have := hbad2.2 h; cases this)
   subst hr
   go_wp2
   go_ret
   exact ⟨rfl, hbwc⟩
  have hHO : HO := hbad2.1 rfl
  have y2c := (hbc.cell (p := ⟨fb, 2, none⟩) hfb2).trans y2
  have hSc := hS2.below hbc
  clear hbad2 hbad y2 hS2
  have hmc : m < wc.heap.size := hSc.lt
  go_wp2
  go_loopw [9] (fun k W' => ∃ j : Nat, j ≤ bl.length ∧ k = .int .i64 (j : Int) ∧ Keep (fun q => q ≠ m) wc W' ∧ TakAt W' m n (seen ++ bl.take j) ∧ ∀ t (ht : t < bl.length), t < j → Pl.blkOk N (seen ++ bl.take t) bl[t]) (fun k _ => bl.length - (intOf k).toNat)
  case atStart => exact ⟨0, by omega, rfl, Keep.refl _ _, by simpa using hSc, fun t _ h => absurd h (Nat.not_lt_zero _)⟩
  case round =>
   obtain ⟨j, hj, rfl, hkj, hSj, htoj⟩ := hrel
   have hbwj : Below w.heap.size w wr := hkj.below hbwc (Nat.le_refl _) (fun q hq => by omega)
   have y2j := hkj.cell (b := fb) (show fb ≠ m by omega) y2c
   have hkW := Lib.hid ((hkr2.out wc hbc).trans hkj (fun q hq _ => hq))
   by_cases hjl : j < bl.length
   case neg =>
    obtain rfl : j = bl.length := by omega
    rw [List.take_of_length_le (Nat.le_refl _), ← hflat.out] at hSj
    have hto2 := hsucc.out hHO (fun k hk => htoj k hk hk)
    clear hkj htoj
    go_wp2
    go_roundw
    case rel => exact ⟨i + 1, by omega, by go_num, hkW.out, hSj, hto2⟩
    case measure => simp [intOf]; omega
   obtain ⟨b2, off2, rfl, hb2l, hcb⟩ := hib (by omega)
   have hcx := hkj.cell (b := b2) (show b2 ≠ m by omega) ((hbwc.cell (p := ⟨b2, off2 + j, none⟩) hb2l).trans (hcb j hjl))
   have hxf := hbf.out _ (List.getElem_mem hjl)
   have hbb : Hid (¬ Pl.blkOk N (seen ++ bl.take j) bl[j] → res = false) := Lib.hid (hbadb.out j hjl)
   have htj : Hid (Pl.blkOk N (seen ++ bl.take j) bl[j] → ∀ t (ht : t < bl.length), t < j + 1 → Pl.blkOk N (seen ++ bl.take t) bl[t]) := Lib.hid (fun h t ht htl => by
    rcases Nat.lt_succ_iff_lt_or_eq.1 htl with h3 | rfl
    ·exact htoj t ht h3
    ·exact h)
   have hsn : Hid (seen ++ bl.take (j + 1) = seen ++ bl.take j ++ [bl[j]]) := Lib.hid (by rw [List.take_succ_eq_append_getElem hjl, List.append_assoc])
   have hkjj := Lib.hid hkj
   clear hcb htoj hib hkj
   generalize bl[j] = x at *
   obtain ⟨hx1, hx2⟩ := hxf
   by_cases h4 : x < 32
   ·have hr : res = false := hbb.out (fun h => by have := h.1; omega)
    subst hr
    go_wp2
    go_ret
    exact ⟨rfl, hbwj⟩
   by_cases h5 : N ≤ x
   ·have hr : res = false := hbb.out (fun h => by have := h.2.1; omega)
    subst hr
    go_wp2
    go_ret
    exact ⟨rfl, hbwj⟩
   obtain ⟨xn, rfl⟩ := Int.eq_ofNat_of_zero_le (by omega : 0 ≤ x)
   have hxn := hnN.out (xn : Int) (by omega) (by omega)
   have hxn2 : xn < n := by omega
   have hlook := hSj.look hxn2
   have hfzj := hSj.frozen xn
   have hg0 : (0 : Int) ≤ (xn : Int) := by omega
   by_cases h6 : (xn : Int) ∈ seen ++ bl.take j
   ·have hr : res = false := hbb.out (fun h => h.2.2 h6)
    subst hr
    rw [decide_eq_true h6] at hlook
    clear h6
    go_wp2
    go_ret
    exact ⟨rfl, hbwj⟩
   rw [decide_eq_false h6] at hlook
   have hok := Lib.hid (htj.out ⟨by omega, by omega, h6⟩)
   have hset := Lib.hid (hSj.set xn)
   clear h6 htj hbb
   go_wp2
   go_roundw
   case rel =>
    refine ⟨j + 1, by omega, by go_num, ?_, ?_, hok.out⟩
    ·exact (hkjj.out).setCell _ _ _ (fun h _ => h rfl)
    ·rw [hsn.out]; exact hset.out
   case measure => simp [intOf]; omega
end
end Go.Proofs.YtogblcdefbnbeaaGreat
