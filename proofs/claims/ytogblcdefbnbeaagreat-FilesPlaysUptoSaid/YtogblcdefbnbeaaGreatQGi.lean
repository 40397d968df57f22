
/- Walks: the document's disk in memory: its variables, acts, writes. Condition: lengths that memory lets. -/
import Derived.Test.YtogblcdefbnbeaaGreatQGg
import Derived.Test.YtogblcdefbnbeaaGreatQPi
import Derived.BigQuiet
import Derived.Test.YtogblcdefbnbeaaGreatQGh
import Derived.IntWalk
set_option maxRecDepth 100000
namespace Go.Proofs.YtogblcdefbnbeaaGreat
section
open Go.RowKit
structure RefO (B r : Nat) (sv wv : Value) (s : Pl.Dv) (fp : Nat → Prop) (W : World) : Prop where
 blk : Blk W r #[sv, wv, .bool s.down, .int .i64 (s.armed : Int), .int .i64 (s.acts : Int), .int .i64 (s.epoch : Int)] 46
 safe : W.ownsRow B 9 1 sv s.safe.length (scells s.safe)
 wait : W.ownsRow B 61 2 wv s.wait.length (wcells s.wait)
 fr : fp r
 fsv : ∀ k, sv.ownBlock = some k → fp k
 fwv : ∀ k, wv.ownBlock = some k → fp k
 lt : ∀ k, fp k → k < W.heap.size
 low : ∀ k, fp k → B ≤ k
 wf : s.WF
def RefAt (B r : Nat) (s : Pl.Dv) (fp : Nat → Prop) (W : World) : Prop := ∃ sv wv, RefO B r sv wv s fp W
variable {B r : Nat} {sv wv : Value} {s : Pl.Dv} {fp fp' : Nat → Prop} {W W' : World}
theorem RefAt.of (h : RefO B r sv wv s fp W) : RefAt B r s fp W := ⟨_, _, h⟩
theorem RefO.keep (h : RefO B r sv wv s fp W) (hk : Keep fp W W') : RefO B r sv wv s fp W' :=
 ⟨h.blk.keep hk h.fr, hk.ownsRow h.safe h.fsv, hk.ownsRow h.wait h.fwv, h.fr, h.fsv, h.fwv, fun k hk' => Nat.lt_of_lt_of_le (h.lt k hk') hk.size, h.low, h.wf⟩
theorem RefAt.keep (h : RefAt B r s fp W) (hk : Keep fp W W') : RefAt B r s fp W' := let ⟨_, _, h⟩ := h; ⟨_, _, h.keep hk⟩
theorem RefAt.lt (h : RefAt B r s fp W) : ∀ k, fp k → k < W.heap.size := let ⟨_, _, h⟩ := h; h.lt
theorem RefAt.fpB (h : RefAt B r s fp W) : ∀ k, fp k → B ≤ k := let ⟨_, _, h⟩ := h; h.low
theorem RefAt.beyond (h : RefAt B r s fp W) (hb : Below W.heap.size W W') : RefAt B r s fp W' := h.keep (Keep.of_below hb (fun _ _ h => h))
theorem RefO.alloc (h : RefO B r sv wv s fp W) (o : Obj) : RefO B r sv wv s fp (W.alloc o) := h.keep ((Keep.refl _ W).alloc o)
theorem RefO.drewN (h : RefO B r sv wv s fp W) (n : Nat) : RefO B r sv wv s fp (W.drewN n) := h.keep ((Keep.refl _ W).drewN n)
theorem ref_below_step {w : World} (hb : Below B w W) (hB : B ≤ w.heap.size) (h : RefAt B r s fp W) (st : Step fp fp' W W') : Below B w W' :=
 ⟨st.keep.os.trans hb.os, st.keep.tape.trans hb.tape, st.keep.output.trans hb.output, Nat.le_trans hb.size st.keep.size, fun k hk =>
  (st.keep.block k (fun hf => by have := h.fpB k hf; omega) (by have := hb.size; omega)).trans (hb.block k hk)⟩
theorem RefO.turn (h : RefO B r sv wv s fp W) {s' : Pl.Dv} (hk : Keep (fun k => k ≠ r) W W') (h1 : s'.safe = s.safe) (h2 : s'.wait = s.wait)
  (hb : Blk W' r #[sv, wv, .bool s'.down, .int .i64 (s'.armed : Int), .int .i64 (s'.acts : Int), .int .i64 (s'.epoch : Int)] 46) :
  RefO B r sv wv s' fp W' ∧ Step fp fp W W' := by
 have n1 := h.blk.not_row (by decide) h.safe
 have n2 := h.blk.not_row (by decide) h.wait
 obtain ⟨sf, wt, dn, ar, ac, ep⟩ := s'
 simp only at h1 h2 hb
 subst h1 h2
 exact ⟨⟨hb, hk.ownsRow h.safe (fun k e he => n1 (by rw [e, he])), hk.ownsRow h.wait (fun k e he => n2 (by rw [e, he])), h.fr, h.fsv, h.fwv, fun k hk' => Nat.lt_of_lt_of_le (h.lt k hk') hk.size, h.low, ⟨h.wf.size, h.wf.wait⟩⟩, hk.mono (fun k hn _ e => hn (e ▸ h.fr)), fun _ h => .inl h, fun k hk' => Nat.lt_of_lt_of_le (h.lt k hk') hk.size⟩
theorem RefO.clean (h : RefO B r sv wv s fp W) {s' : Pl.Dv} (hk : Keep (fun k => k ≠ r) W W') (h1 : s'.safe = s.safe) (h2 : s'.wait = [])
  (hb : Blk W' r #[sv, .slice none 0 0, .bool s'.down, .int .i64 (s'.armed : Int), .int .i64 (s'.acts : Int), .int .i64 (s'.epoch : Int)] 46) :
  RefO B r sv (.slice none 0 0) s' fp W' ∧ Step fp fp W W' := by
 have n1 := h.blk.not_row (by decide) h.safe
 obtain ⟨sf, wt, dn, ar, ac, ep⟩ := s'
 simp only at h1 h2 hb
 subst h1 h2
 exact ⟨⟨hb, hk.ownsRow h.safe (fun k e he => n1 (by rw [e, he])), World.ownsRow_nil _ _ _ _, h.fr, h.fsv, (fun k e => by cases e), fun k hk' => Nat.lt_of_lt_of_le (h.lt k hk') hk.size, h.low, ⟨h.wf.size, fun p hp => by cases hp⟩⟩, hk.mono (fun k hn _ e => hn (e ▸ h.fr)), fun _ h => .inl h, fun k hk' => Nat.lt_of_lt_of_le (h.lt k hk') hk.size⟩
theorem refIs_in (i : Int) (h : RefAt B r s fp W) (h0 : 0 ≤ i) (h1 : i < (s.safe.length : Int)) : Calls Tryz.prog 86 #[.pointer (some ⟨r, 0, none⟩), .int .i64 i] W fun e w' => e = .returned (.bool true) ∧ W = w' := by
 obtain ⟨sv, wv, h⟩ := h
 have c0 := h.blk.cell 0
 simp at c0
 rcases h.safe.2 with ⟨rfl, h2⟩ | ⟨g, cap, cur, rfl, _⟩
 ·omega
 go_enter Tryz.func86, Tryz.ntmps86
 go_wp2
 go_ret
 exact ⟨rfl, rfl⟩
theorem refIs_out (i : Int) (h : RefAt B r s fp W) (h0 : i < 0 ∨ (s.safe.length : Int) ≤ i) : Calls Tryz.prog 86 #[.pointer (some ⟨r, 0, none⟩), .int .i64 i] W fun e w' => e = .returned (.bool false) ∧ W = w' := by
 obtain ⟨sv, wv, h⟩ := h
 have c0 := h.blk.cell 0
 simp at c0
 by_cases h1 : i < 0
 ·clear h0
  go_enter Tryz.func86, Tryz.ntmps86
  go_wp2
  go_ret
  exact ⟨rfl, rfl⟩
 ·have h2 : (s.safe.length : Int) ≤ i := by omega
  clear h0
  rcases h.safe.2 with ⟨rfl, h3⟩ | ⟨g, cap, cur, rfl, _⟩
  ·rw [h3] at h2
   go_enter Tryz.func86, Tryz.ntmps86
   go_wp2
   go_ret
   exact ⟨rfl, rfl⟩
  ·go_enter Tryz.func86, Tryz.ntmps86
   go_wp2
   go_ret
   exact ⟨ret_bool (by simp; omega), rfl⟩
theorem keep_r (W : World) (d k : Nat) (v : Value) : Keep (fun i => i ≠ d) W (W.setCell ⟨d, k, none⟩ v) := (Keep.refl _ W).setCell _ _ _ (fun h _ => h rfl)
theorem refAct_any (h : RefAt B r s fp W) (hd : s.down = false) (ha : s.acts < 9223372036854775807) (hr : s.armed ≤ 9223372036854775807) : Calls Tryz.prog 123 #[.pointer (some ⟨r, 0, none⟩)] W fun e w' => e = .returned (.bool s.act.down) ∧ RefAt B r s.act fp w' ∧ Step fp fp W w' := by
 obtain ⟨sv, wv, h⟩ := h
 have c4 := h.blk.cell 4
 have c3 := h.blk.cell 3
 have z4 := h.blk.frozen 4
 simp at c4 c3
 have e5 : ((s.acts + 1 : Nat) : Int) = (s.acts : Int) + 1 := by omega
 have b1 := h.blk.set 4 (.int .i64 ((s.acts : Int) + 1))
 simp at b1
 by_cases h0 : s.armed = 0
 ·have ea : s.act = { s with acts := s.acts + 1 } := by unfold Pl.Dv.act; rw [if_pos h0, h0]
  obtain ⟨h2, st⟩ := h.turn (s' := s.act) (keep_r _ _ 4 (.int .i64 ((s.acts : Int) + 1))) (by rw [ea]) (by rw [ea]) (by rw [ea]; simp only []; rw [e5]; exact b1)
  have ed : s.act.down = false := by rw [ea]; exact hd
  have d3 := b1.cell 3
  simp at d3
  rw [h0] at c3 d3
  clear h0 e5 b1 ea h
  go_enter Tryz.func123, Tryz.ntmps123
  go_wp2
  go_ret
  exact ⟨ret_bool (by rw [ed]), RefAt.of h2, st⟩
 ·obtain ⟨k, hk⟩ : ∃ k, s.armed = k + 1 := ⟨s.armed - 1, by omega⟩
  have b2 := b1.set 3 (.int .i64 (k : Int))
  simp at b2
  have d3 := b1.cell 3
  have y3 := b1.frozen 3
  have d33 := b2.cell 3
  have d2 := b2.cell 2
  have y2 := b2.frozen 2
  simp at d3 d33 d2
  rw [hk] at c3 d3 hr
  have hk0 : 0 < k + 1 := by omega
  have h1 : ((k + 1 : Nat) : Int) - 1 = (k : Int) := by omega
  by_cases h5 : k = 0
  ·subst h5
   have ea : s.act = { s with acts := s.acts + 1, armed := 0, down := true } := by unfold Pl.Dv.act; rw [if_neg h0, hk]; simp
   have b3 := b2.set 2 (.bool true)
   simp at b3
   obtain ⟨h2, st⟩ := h.turn (s' := s.act) (((keep_r _ _ 4 (.int .i64 ((s.acts : Int) + 1))).setCell _ _ _ (fun h _ => h rfl)).setCell _ _ _ (fun h _ => h rfl)) (by rw [ea]) (by rw [ea]) (by rw [ea]; simp only []; rw [e5]; exact b3)
   have ed : s.act.down = true := by rw [ea]
   simp only [Int.ofNat_zero, Nat.zero_add] at *
   clear h0 e5 b1 b2 b3 ea hk h
   go_enter Tryz.func123, Tryz.ntmps123
   go_wp2
   go_ret
   exact ⟨ret_bool (by rw [ed]), RefAt.of h2, st⟩
  ·have ea : s.act = { s with acts := s.acts + 1, armed := k, down := false } := by unfold Pl.Dv.act; rw [if_neg h0, hk]; simp; omega
   obtain ⟨h2, st⟩ := h.turn (s' := s.act) ((keep_r _ _ 4 (.int .i64 ((s.acts : Int) + 1))).setCell _ _ _ (fun h _ => h rfl)) (by rw [ea]) (by rw [ea]) (by rw [ea]; simp only []; rw [e5]; rw [hd] at b2; exact b2)
   have ed : s.act.down = false := by rw [ea]
   clear h0 e5 b1 b2 ea hk h
   go_enter Tryz.func123, Tryz.ntmps123
   go_wp2
   go_ret
   exact ⟨ret_bool (by rw [ed]), RefAt.of h2, st⟩
theorem refArm_any (n : Int) (h : RefAt B r s fp W) : Calls Tryz.prog 9 #[.pointer (some ⟨r, 0, none⟩), .int .i64 n] W fun e w' => (∃ v, e = .returned v) ∧ RefAt B r (s.arm n) fp w' ∧ Step fp fp W w' := by
 obtain ⟨sv, wv, h⟩ := h
 have c3 := h.blk.cell 3
 have z3 := h.blk.frozen 3
 simp at c3
 have b1 := h.blk.set 3 (.int .i64 n)
 simp at b1
 by_cases h0 : 0 ≤ n
 ·have e : ((s.arm n).armed : Int) = n := by show (n.toNat : Int) = n; omega
  obtain ⟨h2, st⟩ := h.turn (s' := s.arm n) (keep_r _ _ 3 (.int .i64 n)) rfl rfl (by rw [e]; exact b1)
  clear e b1 h
  go_enter Tryz.func9, Tryz.ntmps9
  go_wp2
  go_end0
  exact ⟨⟨_, rfl⟩, RefAt.of h2, st⟩
 ·have e : ((s.arm n).armed : Int) = 0 := by show (n.toNat : Int) = 0; omega
  have b2 := b1.set 3 (.int .i64 0)
  simp at b2
  obtain ⟨h2, st⟩ := h.turn (s' := s.arm n) ((keep_r _ _ 3 (.int .i64 n)).setCell _ _ _ (fun h _ => h rfl)) rfl rfl (by rw [e]; exact b2)
  have d3 := b1.cell 3
  have y3 := b1.frozen 3
  simp at d3
  clear e b1 b2 h
  go_enter Tryz.func9, Tryz.ntmps9
  go_wp2
  go_end0
  exact ⟨⟨_, rfl⟩, RefAt.of h2, st⟩
end
section
open Go.RowKit
theorem info_rwrite : (Tryz.prog.info? 61).map (fun i => (i.zero, i.size, i.bytes)) = some (some (.agg #[.int .i64 0, .string .empty]), 2, 24) := by kernel_rfl
variable {B r : Nat} {sv wv : Value} {s : Pl.Dv} {fp fp' : Nat → Prop} {W W' : World}
theorem RefO.safe_form (h : RefO B r sv wv s fp W) (h0 : 0 < s.safe.length) : ∃ gs cs, sv = .slice (some ⟨gs, 0, none⟩) s.safe.length cs := by
 rcases h.safe.2 with ⟨_, h1⟩ | ⟨g, cap, cur, rfl, _⟩
 ·omega
 ·exact ⟨_, _, rfl⟩
theorem RefO.wait_at (h : RefO B r sv wv s fp W) : ∃ ao cap, wv = .slice ao s.wait.length cap ∧ (0 < s.wait.length → ∃ g, ao = some ⟨g, 0, none⟩ ∧ ∀ i (hi : i < s.wait.length), W.cell? ⟨g, i * 2, none⟩ = some (.int .i64 (s.wait[i].1 : Int)) ∧ W.cell? ⟨g, i * 2 + 1, none⟩ = some (.string s.wait[i].2)) := by
 have hw := h.wait
 rcases hw.2 with ⟨rfl, h0⟩ | ⟨g, cap, cur, rfl, _⟩
 ·exact ⟨_, _, by rw [h0], fun h1 => by omega⟩
 ·refine ⟨_, _, rfl, fun _ => ⟨g, rfl, fun i hi => ?_⟩⟩
  obtain ⟨e1, e2⟩ := wcells_get s.wait i hi
  exact ⟨by rw [hw.cellAt (i * 2) (by omega), e1], by rw [hw.cellAt (i * 2 + 1) (by omega), e2]⟩
theorem RefO.setSafe {gs cs n : Nat} (h : RefO B r (.slice (some ⟨gs, 0, none⟩) n cs) wv s fp W) (hn : n = s.safe.length) {i : Nat} {x : ByteArray} (hx : x.size = 256) :
  RefO B r (.slice (some ⟨gs, 0, none⟩) n cs) wv { s with safe := s.safe.set i x } fp (W.setCell ⟨gs, i, none⟩ (.string x)) ∧ Step fp fp W (W.setCell ⟨gs, i, none⟩ (.string x)) := by
 subst hn
 have n1 := h.blk.not_row (by decide) h.safe
 have hne : ∀ k, wv.ownBlock = some k → k ≠ gs := fun k e e2 => rows_apart h.wait h.safe (by decide) e (by rw [e2]; rfl)
 have kp : Keep (fun k => k ≠ gs) W (W.setCell ⟨gs, i, none⟩ (.string x)) := (Keep.refl _ W).setCell _ _ _ (fun h _ => h rfl)
 have s1 := (h.safe.stored i (.string x)).1
 rw [scells_set] at s1
 have hlt : ∀ k, fp k → k < (W.setCell ⟨gs, i, none⟩ (.string x)).heap.size := fun k hk => Nat.lt_of_lt_of_le (h.lt k hk) kp.size
 have e1 : (s.safe.set i x).length = s.safe.length := by simp
 refine ⟨⟨?_, ?_, kp.ownsRow h.wait hne, h.fr, h.fsv, h.fwv, hlt, h.low, ⟨?_, ?_⟩⟩, kp.mono (fun k hn _ e => hn (e ▸ h.fsv gs rfl)), fun _ h => .inl h, hlt⟩
 ·exact h.blk.keep kp (fun e => n1 (by rw [e]; rfl))
 ·simp only [e1]; exact s1
 ·intro y hy
  rcases Pl.mem_set_of hy with h1 | rfl
  ·exact h.wf.size y h1
  ·exact hx
 ·intro p hp
  simp only [e1]
  exact h.wf.wait p hp
theorem RefO.put (h : RefO B r sv wv s fp W) {w1 : World} {tmp : Obj} {i g cap : Nat} {x : ByteArray} (hi : i < s.safe.length) (hx : x.size = 256)
  (hown' : w1.ownsRow B 61 2 (.slice (some ⟨g, 0, none⟩) (s.wait.length + 1) cap) (s.wait.length + 1) (wcells s.wait ++ (#[Value.int .i64 (i : Int), .string x] : Array Value).toList)) (hgrow : (W.alloc tmp).grownBy w1 wv.ownBlock) (hat : wv.ownBlock = some g ∨ W.heap.size ≤ g) (hg : g < w1.heap.size) :
  Blk w1 r #[sv, wv, .bool s.down, .int .i64 (s.armed : Int), .int .i64 (s.acts : Int), .int .i64 (s.epoch : Int)] 46 ∧
  ∀ W2, W2 = w1.setCell ⟨r, 1, none⟩ (.slice (some ⟨g, 0, none⟩) (s.wait.length + 1) cap) →
   RefO B r sv (.slice (some ⟨g, 0, none⟩) (s.wait.length + 1) cap) (s.put i x) (fun k => fp k ∨ k = g) W2 ∧ Step fp (fun k => fp k ∨ k = g) W W2 := by
 have n1 := h.blk.not_row (by decide) h.safe
 have n2 := h.blk.not_row (by decide) h.wait
 have hne : ∀ k, sv.ownBlock = some k → wv.ownBlock ≠ some k := fun k e => rows_apart h.safe h.wait (by decide) e
 have b1 := (h.blk.alloc tmp).kept hgrow n2
 have s1 := (h.safe.alloc tmp).kept hgrow (by
  cases e : sv.ownBlock with
  | none => exact .inl rfl
  | some k => exact .inr (fun e2 => hne k e e2.symm))
 refine ⟨b1, ?_⟩
 rintro W2 rfl
 have hgd : g ≠ r := fun e => b1.not_row (by decide) hown' (by rw [← e]; rfl)
 have b2 := b1.set 1 (.slice (some ⟨g, 0, none⟩) (s.wait.length + 1) cap)
 simp at b2
 have kd := keep_r w1 r 1 (.slice (some ⟨g, 0, none⟩) (s.wait.length + 1) cap)
 have s2 := kd.ownsRow s1 (fun k e e2 => n1 (by rw [← e2, e]))
 have w2 := kd.ownsRow hown' (fun k e => (show g = k by simpa [Value.ownBlock] using e) ▸ hgd)
 have hk : Keep (fun k => ¬ fp k) W (w1.setCell ⟨r, 1, none⟩ (.slice (some ⟨g, 0, none⟩) (s.wait.length + 1) cap)) := (((Keep.refl _ W).alloc tmp).grown hgrow (fun k e h1 _ => h1 (h.fwv k e))).setCell _ _ _ (fun h1 _ => h1 h.fr)
 have hz : (w1.setCell ⟨r, 1, none⟩ (.slice (some ⟨g, 0, none⟩) (s.wait.length + 1) cap)).heap.size = w1.heap.size := by simp [World.setCell]
 have hlt : ∀ k, (fp k ∨ k = g) → k < (w1.setCell ⟨r, 1, none⟩ (.slice (some ⟨g, 0, none⟩) (s.wait.length + 1) cap)).heap.size := by
  rintro k (hk1 | rfl)
  ·exact Nat.lt_of_lt_of_le (h.lt k hk1) hk.size
  ·rw [hz]; exact hg
 refine ⟨⟨b2, s2, ?_, .inl h.fr, fun k e => .inl (h.fsv k e), fun k e => .inr (by simpa [Value.ownBlock] using e.symm), hlt, ?_, h.wf.put hi hx⟩, hk, ?_, hlt⟩
 ·show World.ownsRow _ B _ 2 _ (s.wait ++ [(i, x)]).length (wcells (s.wait ++ [(i, x)]))
  rw [List.length_append, List.length_singleton, wcells_append]
  exact w2
 ·rintro k (hk1 | rfl)
  ·exact h.low k hk1
  ·exact (hown'.lt k rfl).1
 ·rintro k (hk1 | rfl)
  ·exact .inl hk1
  ·exact hat.imp (h.fwv _) id
theorem refWrite_dead (i : Int) (x : ByteArray) (h : RefAt B r s fp W) (hd : s.down = true) : Calls Tryz.prog 91 #[.pointer (some ⟨r, 0, none⟩), .int .i64 i, .string x] W fun e w' => e = .returned (.int .i64 4) ∧ W = w' := by
 have hIs : ∃ b, Calls Tryz.prog 86 #[.pointer (some ⟨r, 0, none⟩), .int .i64 i] W fun e w' => e = .returned (.bool b) ∧ W = w' := by
  by_cases h1 : 0 ≤ i ∧ i < (s.safe.length : Int)
  ·exact ⟨true, refIs_in i h h1.1 h1.2⟩
  ·exact ⟨false, refIs_out i h (by omega)⟩
 obtain ⟨b, hIs⟩ := hIs
 replace hIs := Lib.hid hIs
 obtain ⟨sv, wv, h⟩ := h
 have c2 := h.blk.cell 2
 simp [hd] at c2
 clear h
 go_enter Tryz.func91, Tryz.ntmps91
 go_wp2_with (go_at_call 86; ((with_reducible refine hIs.out.mono ?_); rintro e w' ⟨rfl, rfl⟩))
 go_ret
 exact ⟨rfl, rfl⟩
theorem refWrite_bad (i : Int) (x : ByteArray) (h : RefAt B r s fp W) (hd : s.down = false) (hi : i < 0 ∨ (s.safe.length : Int) ≤ i) : Calls Tryz.prog 91 #[.pointer (some ⟨r, 0, none⟩), .int .i64 i, .string x] W fun e w' => e = .returned (.int .i64 1) ∧ W = w' := by
 have hIs := Lib.hid (refIs_out i h hi)
 obtain ⟨sv, wv, h⟩ := h
 have c2 := h.blk.cell 2
 simp [hd] at c2
 clear h
 go_enter Tryz.func91, Tryz.ntmps91
 go_wp2_with (go_at_call 86; ((with_reducible refine hIs.out.mono ?_); rintro e w' ⟨rfl, rfl⟩))
 go_ret
 exact ⟨rfl, rfl⟩
theorem refWrite_size (i : Int) (x : ByteArray) (h : RefAt B r s fp W) (hd : s.down = false) (hx : x.size ≠ 256) : Calls Tryz.prog 91 #[.pointer (some ⟨r, 0, none⟩), .int .i64 i, .string x] W fun e w' => e = .returned (.int .i64 1) ∧ W = w' := by
 by_cases hi : i < 0 ∨ (s.safe.length : Int) ≤ i
 ·exact refWrite_bad i x h hd hi
 have hIs := Lib.hid (refIs_in i h (by omega) (by omega))
 obtain ⟨sv, wv, h⟩ := h
 have c2 := h.blk.cell 2
 simp [hd] at c2
 have hx' : ((x.size : Int) != 256) = true := by simp; omega
 clear h hi hx
 go_enter Tryz.func91, Tryz.ntmps91
 go_wp2_with (go_at_call 86; ((with_reducible refine hIs.out.mono ?_); rintro e w' ⟨rfl, rfl⟩))
 go_ret
 exact ⟨rfl, rfl⟩
theorem refWrite_ok (i : Nat) (x : ByteArray) (h : RefAt B r s fp W) (hd : s.down = false) (hi : i < s.safe.length) (hx : x.size = 256) (hB : B ≤ W.heap.size) (hw : (s.wait.length + 1) * 24 ≤ 140737488355328) (ha : s.acts < 9223372036854775807) (hr : s.armed ≤ 9223372036854775807) :
  Calls Tryz.prog 91 #[.pointer (some ⟨r, 0, none⟩), .int .i64 (i : Int), .string x] W fun e w' => e = .returned (.int .i64 (s.put i x).act.err) ∧ ∃ fp', RefAt B r (s.put i x).act fp' w' ∧ Step fp fp' W w' := by
 have hIs := Lib.hid (refIs_in i h (by omega) (by omega))
 obtain ⟨sv, wv, h⟩ := h
 have c2 := h.blk.cell 2
 have c1 := h.blk.cell 1
 simp [hd] at c2 c1
 have hx' : ((x.size : Int) != 256) = false := by simp [hx]
 have hPut := Lib.hid (fun w1 tmp g cap => h.put (w1 := w1) (tmp := tmp) (g := g) (cap := cap) hi hx)
 have hwait := h.wait
 clear hx h
 go_enter Tryz.func91, Tryz.ntmps91
 go_wp2_with (first
  | (go_at_call 86; ((with_reducible refine hIs.out.mono ?_); rintro e w' ⟨rfl, rfl⟩))
  | (at_builtin; go_must (refine wpList_app1 (by rfl) _ _ 44 (by rfl) B 61 (.agg #[.int .i64 0, .string .empty]) 2 24 Tryz.underlying44 info_rwrite rfl (by decide) wv s.wait.length (wcells s.wait) W hwait hB (by rfl) #[.int .i64 (i : Int), .string x] 61 (by rfl) rfl (by simp [Value.oneCell']) hw (by decide) ?_; intro g cap w1 hown' hgrow hat hg; have ⟨b1, hW2⟩ := hPut.out w1 _ g cap hown' hgrow hat hg; have q1 := b1.cell 1; have z1 := b1.frozen 1; simp at q1; have ⟨hD, st⟩ := hW2 _ rfl; have hAct := Lib.hid (refAct_any (RefAt.of hD) hd ha hr)))
  | (go_at_call 123; ((with_reducible refine hAct.out.mono ?_); rintro e w' ⟨rfl, hA, sA⟩)))
 all_goals
  rename_i hdn
  clear hPut hW2
  go_ret
  refine ⟨ret_int ?_, _, hA, st.trans sA⟩
  first | exact (Pl.Dv.err_down hdn).symm | exact (Pl.Dv.err_up hdn).symm
theorem refSync_dead (h : RefAt B r s fp W) (hd : s.down = true) : Calls Tryz.prog 92 #[.pointer (some ⟨r, 0, none⟩)] W fun e w' => e = .returned (.int .i64 4) ∧ W = w' := by
 obtain ⟨sv, wv, h⟩ := h
 have c2 := h.blk.cell 2
 simp [hd] at c2
 go_enter Tryz.func92, Tryz.ntmps92
 go_wp2
 go_ret
 exact ⟨rfl, rfl⟩
theorem refSync_gone (h : RefAt B r s fp W) (hd : s.down = false) (ha : s.acts < 9223372036854775807) (hr : s.armed ≤ 9223372036854775807) (hg : s.act.down = true) : Calls Tryz.prog 92 #[.pointer (some ⟨r, 0, none⟩)] W fun e w' => e = .returned (.int .i64 4) ∧ RefAt B r s.act fp w' ∧ Step fp fp W w' := by
 have hAct := refAct_any h hd ha hr
 rw [hg] at hAct
 replace hAct := Lib.hid hAct
 obtain ⟨sv, wv, h⟩ := h
 have c2 := h.blk.cell 2
 simp [hd] at c2
 clear h
 go_enter Tryz.func92, Tryz.ntmps92
 go_wp2_with (go_at_call 123; ((with_reducible refine hAct.out.mono ?_); rintro e w' ⟨rfl, hA, sA⟩))
 go_ret
 exact ⟨rfl, hA, sA⟩
set_option maxHeartbeats 1000000 in
theorem refSync_ok (h : RefAt B r s fp W) (hd : s.down = false) (ha : s.acts < 9223372036854775807) (hr : s.armed ≤ 9223372036854775807) (hg : s.act.down = false) (hw : s.wait.length ≤ 9223372036854775807) : Calls Tryz.prog 92 #[.pointer (some ⟨r, 0, none⟩)] W fun e w' => e = .returned (.int .i64 0) ∧ RefAt B r s.act.flush fp w' ∧ Step fp fp W w' := by
 have hAct := refAct_any h hd ha hr
 rw [hg] at hAct
 replace hAct := Lib.hid hAct
 obtain ⟨sv', wv', h⟩ := h
 have c2 := h.blk.cell 2
 simp [hd] at c2
 clear h
 go_enter Tryz.func92, Tryz.ntmps92
 go_wp2_with (go_at_call 123; ((with_reducible refine hAct.out.mono ?_); rintro e w1 ⟨rfl, ⟨sv, wv, hA⟩, sA⟩))
 have hk1 := hA.wf.wait
 obtain ⟨ao, cap, rfl, _⟩ := hA.wait_at
 go_loopw [4] (fun i wr => ∃ k : Nat, k ≤ s.wait.length ∧ i = .int .i64 k ∧ RefO B r sv (.slice ao s.wait.length cap) (s.act.ws (Pl.setAll s.safe (s.wait.take k))) fp wr ∧ Step fp fp w1 wr) (fun i _ => s.wait.length - (intOf i).toNat)
 case atStart => exact ⟨0, by omega, rfl, hA, Step.refl hA.lt⟩
 case round =>
  obtain ⟨k, hk, rfl, hD, st⟩ := hrel
  have c1 := hD.blk.cell 1
  simp at c1
  clear hA
  by_cases h3 : k < s.wait.length
  ·obtain ⟨ao', cap', e1, hat⟩ := hD.wait_at
   obtain ⟨g, e2, hat2⟩ := hat (by show 0 < s.wait.length; omega)
   cases e1
   subst e2
   have hx : wr.cell? ⟨g, k * 2, none⟩ = some (.int .i64 (s.wait[k].1 : Int)) ∧ wr.cell? ⟨g, k * 2 + 1, none⟩ = some (.string s.wait[k].2) := hat2 k h3
   have hpw := hk1 s.wait[k] (List.getElem_mem h3)
   have hnx := Lib.hid (Pl.setAll_take (l := s.safe) h3)
   have hll := Pl.setAll_length (s.wait.take k) s.safe
   clear hat hat2 hk1
   generalize s.wait[k] = p at hx hpw hnx
   obtain ⟨i, x⟩ := p
   obtain ⟨x0, x1⟩ := hx
   obtain ⟨hi, hxs⟩ := hpw
   replace hi : i < (Pl.setAll s.safe (s.wait.take k)).length := by rw [hll]; exact hi
   generalize Pl.setAll s.safe (s.wait.take k) = l at *
   obtain ⟨gs, cs, hsv⟩ := hD.safe_form (by show 0 < l.length; omega)
   replace hsv : sv = .slice (some ⟨gs, 0, none⟩) l.length cs := hsv
   subst hsv
   have c0 : wr.cell? ⟨r, 0, none⟩ = some (.slice (some ⟨gs, 0, none⟩) l.length cs) := hD.blk.cell 0
   have c1' : wr.cell? ⟨r, 1, none⟩ = some (.slice (some ⟨g, 0, none⟩) s.wait.length cap) := hD.blk.cell 1
   have cS : wr.cell? ⟨gs, i, none⟩ = some (.string (l[i]'hi)) := by
    have := hD.safe.cellAt i (by show i < l.length * 1; omega)
    rw [this]; exact scells_get l i hi
   have zS := hD.safe.frozenAt i
   obtain ⟨hD2, st2⟩ := hD.setSafe (i := i) rfl hxs
   have hD3 := hD2.drewN 1
   have st3 := st2.drewW 1
   clear hD hD2 st2 c1
   go_wp2
   go_region
   go_wp2
   go_roundw
   case rel => exact ⟨k + 1, by omega, by go_num, by rw [hnx.out]; exact hD3, st.trans st3⟩
   case measure => simp [intOf]; omega
  ·obtain rfl : k = s.wait.length := by omega
   rw [List.take_of_length_le (Nat.le_refl _)] at hD
   have z1 := hD.blk.frozen 1
   have b1 := hD.blk.set 1 (.slice none 0 0)
   simp at b1
   obtain ⟨hE, sE⟩ := hD.clean (s' := s.act.flush) (keep_r _ _ 1 (.slice none 0 0)) rfl rfl b1
   clear b1 hD
   go_wp2
   go_ret
   exact ⟨rfl, RefAt.of hE, (sA.trans st).trans sE⟩
end
section
open Go.RowKit
variable {B r : Nat} {sv wv : Value} {s : Pl.Dv} {fp fp' : Nat → Prop} {W W' : World}
theorem refRead_dead (i : Int) (h : RefAt B r s fp W) (hd : s.down = true) : Calls Tryz.prog 56 #[.pointer (some ⟨r, 0, none⟩), .int .i64 i] W fun e w' => e = .returned (.tuple #[.string .empty, .int .i64 4]) ∧ W = w' := by
 have hIs : ∃ b, Calls Tryz.prog 86 #[.pointer (some ⟨r, 0, none⟩), .int .i64 i] W fun e w' => e = .returned (.bool b) ∧ W = w' := by
  by_cases h1 : 0 ≤ i ∧ i < (s.safe.length : Int)
  ·exact ⟨true, refIs_in i h h1.1 h1.2⟩
  ·exact ⟨false, refIs_out i h (by omega)⟩
 obtain ⟨b, hIs⟩ := hIs
 replace hIs := Lib.hid hIs
 obtain ⟨sv, wv, h⟩ := h
 have c2 := h.blk.cell 2
 simp [hd] at c2
 clear h
 go_enter Tryz.func56, Tryz.ntmps56
 go_wp2_with (go_at_call 86; ((with_reducible refine hIs.out.mono ?_); rintro e w' ⟨rfl, rfl⟩))
 go_ret2
 exact ⟨rfl, rfl⟩
theorem refRead_bad (i : Int) (h : RefAt B r s fp W) (hd : s.down = false) (hi : i < 0 ∨ (s.safe.length : Int) ≤ i) : Calls Tryz.prog 56 #[.pointer (some ⟨r, 0, none⟩), .int .i64 i] W fun e w' => e = .returned (.tuple #[.string .empty, .int .i64 1]) ∧ W = w' := by
 have hIs := Lib.hid (refIs_out i h hi)
 obtain ⟨sv, wv, h⟩ := h
 have c2 := h.blk.cell 2
 simp [hd] at c2
 clear h
 go_enter Tryz.func56, Tryz.ntmps56
 go_wp2_with (go_at_call 86; ((with_reducible refine hIs.out.mono ?_); rintro e w' ⟨rfl, rfl⟩))
 go_ret2
 exact ⟨rfl, rfl⟩
set_option maxHeartbeats 1000000 in
theorem refRead_ok (i : Nat) (h : RefAt B r s fp W) (hd : s.down = false) (hi : i < s.safe.length) (hw : s.wait.length ≤ 9223372036854775807) : Calls Tryz.prog 56 #[.pointer (some ⟨r, 0, none⟩), .int .i64 (i : Int)] W fun e w' => e = .returned (.tuple #[.string (s.read i), .int .i64 0]) ∧ W = w' := by
 have hIs := Lib.hid (refIs_in i h (by omega) (by omega))
 obtain ⟨sv, wv, h⟩ := h
 have c2 := h.blk.cell 2
 have c1 := h.blk.cell 1
 have c0 := h.blk.cell 0
 simp [hd] at c2 c1 c0
 obtain ⟨gs, cs, rfl⟩ := h.safe_form (by omega)
 obtain ⟨ao, cap, rfl, hat⟩ := h.wait_at
 have cS : W.cell? ⟨gs, i, none⟩ = some (.string (s.safe[i]'hi)) := by
  rw [h.safe.cellAt i (by omega)]; exact scells_get s.safe i hi
 have hrd : s.read i = (Pl.lastW s.wait i).getD s.safe[i] := by unfold Pl.Dv.read; simp [List.getD_eq_getElem?_getD, hi]
 rw [hrd]
 have hw1 : IntKind.i64.wrap ((s.wait.length : Int) - 1) = (s.wait.length : Int) - 1 := IntWalk.i64_in _ (by omega)
 clear h hrd
 go_enter Tryz.func56, Tryz.ntmps56
 go_wp2_with (go_at_call 86; ((with_reducible refine hIs.out.mono ?_); rintro e w' ⟨rfl, rfl⟩))
 go_loopw [7] (fun v wr => ∃ k : Nat, k ≤ s.wait.length ∧ v = .int .i64 ((k : Int) - 1) ∧ Pl.lastW s.wait i = Pl.lastW (s.wait.take k) i ∧ wr = W) (fun v _ => (intOf v + 1).toNat)
 case atStart => exact ⟨s.wait.length, by omega, rfl, by rw [List.take_of_length_le (Nat.le_refl _)], rfl⟩
 case round =>
  obtain ⟨k, hk, rfl, hL, rfl⟩ := hrel
  cases k with
  | zero =>
   rw [List.take_zero] at hL
   rw [show Pl.lastW [] i = none from rfl] at hL
   replace hL := Lib.hid hL
   have e0 : ((0 : Nat) : Int) - 1 = -1 := rfl
   rw [e0]
   clear hat e0
   go_wp2
   go_ret2
   exact ⟨by rw [hL.out]; rfl, rfl⟩
  | succ j =>
   obtain ⟨g, rfl, hat2⟩ := hat (by omega)
   obtain ⟨x0, x1⟩ := hat2 j (by omega)
   have e0 : ((j + 1 : Nat) : Int) - 1 = (j : Int) := by omega
   rw [List.take_succ_eq_append_getElem (by omega), Pl.lastW_snoc] at hL
   have hj : j < s.wait.length := by omega
   have hw2 : IntKind.i64.wrap ((j : Int) - 1) = (j : Int) - 1 := IntWalk.i64_in _ (by omega)
   rw [e0]
   clear hat hat2
   generalize s.wait[j] = p at x0 x1 hL
   obtain ⟨q, x⟩ := p
   simp only at x0 x1 hL
   by_cases hq : q = i
   ·rw [if_pos hq] at hL
    replace hL := Lib.hid hL
    have hq' : ((q : Int) == (i : Int)) = true := by simp; omega
    clear hq
    go_wp2
    go_ret2
    exact ⟨by rw [hL.out]; rfl, rfl⟩
   ·rw [if_neg hq] at hL
    have hq' : ((q : Int) == (i : Int)) = false := by simp; omega
    replace hL := Lib.hid hL
    clear hq
    go_wp2
    go_roundw
    case rel => exact ⟨j, by omega, rfl, hL.out, trivial⟩
    case measure => simp [intOf]
set_option maxHeartbeats 1000000 in
theorem refCrash_gen (tn : Nat) (hcle : tn ≤ 256) (h : RefAt B r s fp W) (u : Value) (kl : List Bool) (hu : BoolsAt W u kl) (hub : 0 < kl.length → ∀ b, u.ownBlock = some b → ¬ fp b) (torn by' : Int) (hcl : (by' < 0 ∧ (tn : Int) = 0) ∨ (0 ≤ by' ∧ by' ≤ 256 ∧ (tn : Int) = by') ∨ (256 < by' ∧ (tn : Int) = 256)) (hw : s.wait.length ≤ 9223372036854775807) (he : s.epoch < 9223372036854775807) :
  Calls Tryz.prog 11 #[.pointer (some ⟨r, 0, none⟩), u, .int .i64 torn, .int .i64 by'] W fun e w' => (∃ v, e = .returned v) ∧ RefAt B r (s.crash kl torn tn) fp w' ∧ Step fp fp W w' := by
 obtain ⟨sv, wv, h⟩ := h
 obtain ⟨ao, cap, rfl, _⟩ := h.wait_at
 have hk1 := h.wf.wait
 obtain ⟨au, capu, rfl, hu1, hu2, hcu⟩ := hu
 go_enter Tryz.func11, Tryz.ntmps11
 go_upto_region 0 with (fail)
 go_cut [3] from 10 (fun v wx => v = .int .i64 (tn : Int) ∧ W = wx)
 case first =>
  go_wp2
  all_goals go_meet
  all_goals
   refine ⟨?_, rfl⟩
   refine val_i64 ?_
   rcases hcl with ⟨_, h2⟩ | ⟨_, _, h2⟩ | ⟨_, h2⟩
   all_goals first | exact h2.symm | (exfalso; omega) | omega
 case rest =>
  obtain ⟨rfl, rfl⟩ := hcut
  clear hcl
  go_wp2
  go_loopw [8, 9] (fun i _ wr => ∃ k : Nat, k ≤ s.wait.length ∧ i = .int .i64 k ∧ RefO B r sv (.slice ao s.wait.length cap) (s.ws (Pl.crashN kl torn tn s.wait k s.safe)) fp wr ∧ Step fp fp W wr) (fun i _ _ => s.wait.length - (intOf i).toNat)
  case atStart => exact ⟨0, by omega, rfl, h, Step.refl h.lt⟩
  case round =>
   obtain ⟨k, hk, rfl, hD, st⟩ := hrel
   clear h
   have c1 : wr.cell? ⟨r, 1, none⟩ = some (.slice ao s.wait.length cap) := hD.blk.cell 1
   by_cases h3 : k < s.wait.length
   ·obtain ⟨ao', cap', e1, hat⟩ := hD.wait_at
    obtain ⟨g, e2, hat2⟩ := hat (by show 0 < s.wait.length; omega)
    cases e1
    subst e2
    have hx : wr.cell? ⟨g, k * 2, none⟩ = some (.int .i64 (s.wait[k].1 : Int)) ∧ wr.cell? ⟨g, k * 2 + 1, none⟩ = some (.string s.wait[k].2) := hat2 k h3
    have hpw := hk1 s.wait[k] (List.getElem_mem h3)
    have hll := Pl.crashN_length kl torn tn s.wait k s.safe
    have hnx := Pl.crashN_succ (keep := kl) (torn := torn) (n := tn) h3 s.safe
    have hzs : ∀ y ∈ Pl.crashN kl torn tn s.wait k s.safe, y.size = 256 := hD.wf.size
    clear hat hat2 hk1
    generalize s.wait[k] = p at hx hpw hnx
    obtain ⟨i, x⟩ := p
    obtain ⟨x0, x1⟩ := hx
    obtain ⟨hi, hxs⟩ := hpw
    replace hi : i < (Pl.crashN kl torn tn s.wait k s.safe).length := by rw [hll]; exact hi
    generalize Pl.crashN kl torn tn s.wait k s.safe = l at *
    have hli : (l[i]'hi).size = 256 := hzs _ (List.getElem_mem hi)
    obtain ⟨gs, cs, hsv⟩ := hD.safe_form (by show 0 < l.length; omega)
    replace hsv : sv = .slice (some ⟨gs, 0, none⟩) l.length cs := hsv
    subst hsv
    have hD1 := hD.alloc (.cells #[.int .i64 (i : Int), .string x] 61)
    have c0 : World.cell? (wr.alloc (.cells #[.int .i64 (i : Int), .string x] 61)) ⟨r, 0, none⟩ = some (.slice (some ⟨gs, 0, none⟩) l.length cs) := hD1.blk.cell 0
    have cS : World.cell? (wr.alloc (.cells #[.int .i64 (i : Int), .string x] 61)) ⟨gs, i, none⟩ = some (.string (l[i]'hi)) := by
     rw [hD1.safe.cellAt i (by show i < l.length * 1; omega)]; exact scells_get l i hi
    have zS := hD1.safe.frozenAt i
    have stA := Step.lay hD.lt (.cells #[.int .i64 (i : Int), .string x] 61)
    have hnx' := Lib.hid hnx
    clear hll hzs hnx
    by_cases h4 : (k : Int) = torn
    ·have h4' : ((k : Int) == torn) = true := by simpa using h4
     obtain ⟨hD2, st2⟩ := hD1.setSafe (i := i) (x := Pl.tear x (l[i]'hi) tn) rfl (Pl.tear_size hxs hli hcle)
     have hD3 := hD2.drewN 1
     have st3 := (stA.trans st2).drewW 1
     have hN := hnx'.out
     rw [Pl.crash1_torn h4, show l.getD i .empty = l[i]'hi from by simp [List.getD_eq_getElem?_getD, hi]] at hN
     have hte : Pl.tear x (l[i]'hi) tn = x.extract 0 tn ++ (l[i]'hi).extract tn 256 := by unfold Pl.tear; rw [hli]
     rw [hte] at hD3 st3 hN
     replace hN := Lib.hid hN
     clear hD hD1 hD2 st2 h4 hnx' stA hte
     go_wp2
     go_region
     go_wp2
     go_roundw
     case rel => exact ⟨k + 1, by omega, by go_num, by rw [hN.out]; exact hD3, st.trans st3⟩
     case measure => simp [intOf]; omega
    ·have h4' : ((k : Int) == torn) = false := by simpa using h4
     by_cases h5 : k < kl.length
     ·obtain ⟨bu, ou, rfl, hbu, hcu2⟩ := hcu (by omega)
      have hck : World.cell? (wr.alloc (.cells #[.int .i64 (i : Int), .string x] 61)) ⟨bu, ou + k, none⟩ = some (.bool kl[k]) := ((st.keep.alloc _).cell (hub (by omega) bu rfl) (hcu2 k h5))
      have hgd : kl.getD k false = kl[k] := by simp [List.getD_eq_getElem?_getD, h5]
      clear hcu hcu2
      cases hkk : kl[k]
      ·rw [hkk] at hck hgd
       have hN := hnx'.out
       rw [Pl.crash1_lose h4 hgd] at hN
       replace hN := Lib.hid hN
       clear hnx' h4 hgd hkk hD
       go_wp2
       go_roundw
       case rel => exact ⟨k + 1, by omega, by go_num, by rw [hN.out]; exact hD1, st.trans stA⟩
       case measure => simp [intOf]; omega
      ·rw [hkk] at hck hgd
       have hN := hnx'.out
       rw [Pl.crash1_keep h4 hgd] at hN
       replace hN := Lib.hid hN
       obtain ⟨hD2, st2⟩ := hD1.setSafe (i := i) rfl hxs
       have hD3 := hD2.drewN 1
       have st3 := (stA.trans st2).drewW 1
       clear hnx' h4 hgd hkk hD hD1 hD2 st2 stA
       go_wp2
       go_region
       go_wp2
       go_roundw
       case rel => exact ⟨k + 1, by omega, by go_num, by rw [hN.out]; exact hD3, st.trans st3⟩
       case measure => simp [intOf]; omega
     ·have hgd : kl.getD k false = false := by rw [List.getD_eq_getElem?_getD, List.getElem?_eq_none (by omega)]; rfl
      have hN := hnx'.out
      rw [Pl.crash1_lose h4 hgd] at hN
      replace hN := Lib.hid hN
      have h6 : kl.length ≤ k := by omega
      clear hnx' h4 hgd hD hcu h5
      go_wp2
      go_roundw
      case rel => exact ⟨k + 1, by omega, by go_num, by rw [hN.out]; exact hD1, st.trans stA⟩
      case measure => simp [intOf]; omega
   ·obtain rfl : k = s.wait.length := by omega
    have z1 := hD.blk.frozen 1
    have b1 := hD.blk.set 1 (.slice none 0 0)
    simp at b1
    have z2 := b1.frozen 2
    have y2 := b1.cell 2
    have b2 := b1.set 2 (.bool false)
    simp at b2 y2
    have z3 := b2.frozen 3
    have y3 := b2.cell 3
    have b3 := b2.set 3 (.int .i64 0)
    simp at b3 y3
    have z5 := b3.frozen 5
    have y5 := b3.cell 5
    have b5 := b3.set 5 (.int .i64 ((s.epoch : Int) + 1))
    simp at b5 y5
    replace y5 : World.cell? (((wr.setCell ⟨r, 1, none⟩ (.slice none 0 0)).setCell ⟨r, 2, none⟩ (.bool false)).setCell ⟨r, 3, none⟩ (.int .i64 0)) ⟨r, 5, none⟩ = some (.int .i64 (s.epoch : Int)) := y5
    have kp := (keep_r wr r 1 (.slice none 0 0)).trans ((keep_r _ r 2 (.bool false)).trans ((keep_r _ r 3 (.int .i64 0)).trans (keep_r _ r 5 (.int .i64 ((s.epoch : Int) + 1))) (fun _ h _ => h)) (fun _ h _ => h)) (fun _ h _ => h)
    have e5 : ((s.epoch + 1 : Nat) : Int) = (s.epoch : Int) + 1 := by omega
    obtain ⟨hE, sE⟩ := hD.clean (s' := s.crash kl torn tn) kp rfl rfl (by simp only [Pl.Dv.crash]; rw [e5]; exact b5)
    clear b1 b2 b3 b5 kp hD
    go_wp2
    go_end0
    exact ⟨⟨_, rfl⟩, RefAt.of hE, st.trans sE⟩
theorem refCrash_any (h : RefAt B r s fp W) (u : Value) (kl : List Bool) (hu : BoolsAt W u kl) (hub : 0 < kl.length → ∀ b, u.ownBlock = some b → ¬ fp b) (torn by' : Int) (hw : s.wait.length ≤ 9223372036854775807) (he : s.epoch < 9223372036854775807) :
  Calls Tryz.prog 11 #[.pointer (some ⟨r, 0, none⟩), u, .int .i64 torn, .int .i64 by'] W fun e w' => (∃ v, e = .returned v) ∧ RefAt B r (s.crash kl torn (clamp by')) fp w' ∧ Step fp fp W w' :=
 refCrash_gen (clamp by') (clamp_le by') h u kl hu hub torn by' (by unfold clamp; omega) hw he
end
section
open Go.RowKit
variable {B d r : Nat} {sv wv : Value} {s : Pl.Dv} {fp fp' : Nat → Prop} {W W' : World}
theorem blocks_any (h : DevAt B d s fp W) : Calls Tryz.prog 53 #[.pointer (some ⟨d, 0, none⟩)] W fun e w' => e = .returned (.int .i64 (s.safe.length : Int)) ∧ W = w' := by
 obtain ⟨gs, cs, vp, m, h⟩ := h
 have c0 := h.blk.cell 0
 simp at c0
 go_enter Tryz.func53, Tryz.ntmps53
 go_wp2
 go_ret
 exact ⟨rfl, rfl⟩
theorem epoch_any (h : DevAt B d s fp W) : Calls Tryz.prog 49 #[.pointer (some ⟨d, 0, none⟩)] W fun e w' => e = .returned (.int .i64 (s.epoch : Int)) ∧ W = w' := by
 obtain ⟨gs, cs, vp, m, h⟩ := h
 have c6 := h.blk.cell 6
 simp at c6
 go_enter Tryz.func49, Tryz.ntmps49
 go_wp2
 go_ret
 exact ⟨rfl, rfl⟩
theorem new_bad (n : Int) (h : n < 40 ∨ 16384 < n) (w : World) :
  Calls Tryz.prog 5 #[.int .i64 n] w fun e w' => e = .returned (.tuple #[.pointer none, .int .i64 1]) ∧ w = w' := by
 by_cases h1 : n < 40
 ·clear h
  go_enter Tryz.func5, Tryz.ntmps5
  go_wp2
  go_ret2
  exact ⟨rfl, rfl⟩
 ·have h2 : 16384 < n := by omega
  clear h
  go_enter Tryz.func5, Tryz.ntmps5
  go_wp2
  go_ret2
  exact ⟨rfl, rfl⟩
theorem takes_yes (n : Int) (h1 : 40 ≤ n) (h2 : n ≤ 16384) (w : World) : Calls Tryz.prog 4 #[.int .i64 n] w fun e w' => e = .returned (.bool true) ∧ w = w' := by
 go_enter Tryz.func4, Tryz.ntmps4
 go_wp2
 go_ret
 exact ⟨ret_bool (by simp; try omega), rfl⟩
theorem takes_no (n : Int) (h : n < 40 ∨ 16384 < n) (w : World) : Calls Tryz.prog 4 #[.int .i64 n] w fun e w' => e = .returned (.bool false) ∧ w = w' := by
 by_cases h1 : n < 40
 ·clear h
  go_enter Tryz.func4, Tryz.ntmps4
  go_wp2
  go_ret
  exact ⟨ret_bool (by simp; try omega), rfl⟩
 ·have h2 : 16384 < n := by omega
  clear h
  go_enter Tryz.func4, Tryz.ntmps4
  go_wp2
  go_ret
  exact ⟨ret_bool (by simp; try omega), rfl⟩
def Pl.Dv.newK (k : Nat) : Pl.Dv := { safe := List.replicate k (Pl.zeros 256), wait := [], down := false, armed := 0, acts := 0, epoch := 0 }
theorem Pl.Dv.newK_wf (k : Nat) : (Pl.Dv.newK k).WF := ⟨fun x hx => by rw [List.eq_of_mem_replicate hx]; exact Pl.zeros_size 256, fun p hp => by cases hp⟩
theorem RefO.more {k : Nat} (h : RefO B r sv wv (Pl.Dv.newK k) fp W) {w1 : World} {tmp : Obj} {g cap : Nat}
  (hown' : w1.ownsRow B 9 1 (.slice (some ⟨g, 0, none⟩) (k + 1) cap) (k + 1) (scells (List.replicate k (Pl.zeros 256)) ++ (#[Value.string (Pl.zeros 256)] : Array Value).toList)) (hgrow : (W.alloc tmp).grownBy w1 sv.ownBlock) (hat : sv.ownBlock = some g ∨ W.heap.size ≤ g) (hg : g < w1.heap.size) :
  Blk w1 r #[sv, wv, .bool false, .int .i64 0, .int .i64 0, .int .i64 0] 46 ∧
  ∀ W2, W2 = w1.setCell ⟨r, 0, none⟩ (.slice (some ⟨g, 0, none⟩) (k + 1) cap) →
   RefO B r (.slice (some ⟨g, 0, none⟩) (k + 1) cap) wv (Pl.Dv.newK (k + 1)) (fun k => fp k ∨ k = g) W2 ∧ Step fp (fun k => fp k ∨ k = g) W W2 := by
 have n1 := h.blk.not_row (by decide) h.safe
 have n2 := h.blk.not_row (by decide) h.wait
 have hne : ∀ k, wv.ownBlock = some k → sv.ownBlock ≠ some k := fun k e => rows_apart h.wait h.safe (by decide) e
 have b1 := (h.blk.alloc tmp).kept hgrow n1
 have s1 := (h.wait.alloc tmp).kept hgrow (by
  cases e : wv.ownBlock with
  | none => exact .inl rfl
  | some k => exact .inr (fun e2 => hne k e e2.symm))
 refine ⟨b1, ?_⟩
 rintro W2 rfl
 have hgd : g ≠ r := fun e => b1.not_row (by decide) hown' (by rw [← e]; rfl)
 have b2 := b1.set 0 (.slice (some ⟨g, 0, none⟩) (k + 1) cap)
 simp at b2
 have kd := keep_r w1 r 0 (.slice (some ⟨g, 0, none⟩) (k + 1) cap)
 have s2 := kd.ownsRow s1 (fun k e e2 => n2 (by rw [← e2, e]))
 have w2 := kd.ownsRow hown' (fun k e => (show g = k by simpa [Value.ownBlock] using e) ▸ hgd)
 have hk : Keep (fun k => ¬ fp k) W (w1.setCell ⟨r, 0, none⟩ (.slice (some ⟨g, 0, none⟩) (k + 1) cap)) := (((Keep.refl _ W).alloc tmp).grown hgrow (fun k e h1 _ => h1 (h.fsv k e))).setCell _ _ _ (fun h1 _ => h1 h.fr)
 have hz : (w1.setCell ⟨r, 0, none⟩ (.slice (some ⟨g, 0, none⟩) (k + 1) cap)).heap.size = w1.heap.size := by simp [World.setCell]
 have hlt : ∀ i, (fp i ∨ i = g) → i < (w1.setCell ⟨r, 0, none⟩ (.slice (some ⟨g, 0, none⟩) (k + 1) cap)).heap.size := by
  rintro k (hk1 | rfl)
  ·exact Nat.lt_of_lt_of_le (h.lt k hk1) hk.size
  ·rw [hz]; exact hg
 have e1 : (Pl.Dv.newK (k + 1)).safe.length = k + 1 := by simp [Pl.Dv.newK]
 have e2 : scells (Pl.Dv.newK (k + 1)).safe = scells (List.replicate k (Pl.zeros 256)) ++ (#[Value.string (Pl.zeros 256)] : Array Value).toList := by
  show scells (List.replicate (k + 1) (Pl.zeros 256)) = _
  rw [List.replicate_succ']; simp [scells]
 refine ⟨⟨b2, ?_, s2, .inl h.fr, fun k e => .inr (by simpa [Value.ownBlock] using e.symm), fun k e => .inl (h.fwv k e), hlt, ?_, Pl.Dv.newK_wf _⟩, hk, ?_, hlt⟩
 ·rw [e1, e2]; exact w2
 ·rintro k (hk1 | rfl)
  ·exact h.low k hk1
  ·exact (hown'.lt k rfl).1
 ·rintro k (hk1 | rfl)
  ·exact .inl hk1
  ·exact hat.imp (h.fsv _) id
set_option maxHeartbeats 1000000 in
theorem refNew_any (n : Nat) (hn : n ≤ 16384) (w : World) :
  Calls Tryz.prog 6 #[.int .i64 (n : Int)] w fun e w' => ∃ r fp, e = .returned (.pointer (some ⟨r, 0, none⟩)) ∧ RefAt w.heap.size r (Pl.Dv.new n) fp w' ∧ Below w.heap.size w w' := by
 have hB0 := Blk.new w #[.slice none 0 0, .slice none 0 0, .bool false, .int .i64 0, .int .i64 0, .int .i64 0] 46
 obtain ⟨W0, hW0⟩ : ∃ W0, W0 = w.alloc (.cells #[.slice none 0 0, .slice none 0 0, .bool false, .int .i64 0, .int .i64 0, .int .i64 0] 46) := ⟨_, rfl⟩
 have hb0 : Below w.heap.size w W0 := by rw [hW0]; exact (Below.refl _ w).alloc (Nat.le_refl _) _
 rw [← hW0] at hB0
 have hR0 : RefO w.heap.size w.heap.size (.slice none 0 0) (.slice none 0 0) (Pl.Dv.newK 0) (fun k => k = w.heap.size) W0 :=
  ⟨hB0, World.ownsRow_nil _ _ _ _, World.ownsRow_nil _ _ _ _, rfl, (fun k e => by cases e), (fun k e => by cases e), fun k e => e ▸ hB0.lt, fun k e => by omega, Pl.Dv.newK_wf 0⟩
 go_enter Tryz.func6, Tryz.ntmps6
 go_wp2_with (go_at_call 16; ((with_reducible refine (noughts_any _).mono ?_); rintro e w1 ⟨rfl, hb1⟩))
 rw [← hW0] at hb1
 have hR1 : RefO w.heap.size w.heap.size (.slice none 0 0) (.slice none 0 0) (Pl.Dv.newK 0) (fun k => k = w.heap.size) w1 := hR0.keep (Keep.of_below hb1 (fun _ _ h => h))
 have hb2 : Below w.heap.size w w1 := hb0.trans (hb1.mono hb0.size)
 clear hR0 hB0 hb0 hb1 hW0
 go_loopw [5] (fun i wr => ∃ (k : Nat) (sv : Value) (fp : Nat → Prop), k ≤ n ∧ i = .int .i64 k ∧ RefO w.heap.size w.heap.size sv (.slice none 0 0) (Pl.Dv.newK k) fp wr ∧ Below w.heap.size w wr) (fun i _ => n - (intOf i).toNat)
 case atStart => exact ⟨0, _, _, by omega, rfl, hR1, hb2⟩
 case round =>
  obtain ⟨k, sv, fp, hk, rfl, hR, hb⟩ := hrel
  clear hR1 hb2
  by_cases h3 : k < n
  ·have c0 := hR.blk.cell 0
   simp at c0
   have hlk : (Pl.Dv.newK k).safe.length = k := by simp [Pl.Dv.newK]
   have hsafe := hR.safe
   rw [hlk] at hsafe
   replace hsafe : wr.ownsRow w.heap.size 9 1 sv k (scells (List.replicate k (Pl.zeros 256))) := hsafe
   have hMore := Lib.hid (fun w1 tmp g cap => hR.more (w1 := w1) (tmp := tmp) (g := g) (cap := cap))
   have hbs := hb.size
   generalize hz : Pl.zeros 256 = z at *
   replace hz := Lib.hid hz
   generalize hbc : scells (List.replicate k z) = xs at *
   replace hbc := Lib.hid hbc
   go_wp2_with (at_builtin; go_must (refine wpList_app1 (by rfl) _ _ 43 (by rfl) w.heap.size 9 (.string .empty) 1 16 Tryz.underlying43 info_string rfl (by decide) sv k xs wr hsafe hbs (by rfl) #[.string z] 9 (by rfl) rfl (by simp [Value.oneCell']) (by omega) (by decide) ?_; intro g cap w1 hown' hgrow hat hg; have ⟨b1, hW2⟩ := hMore.out w1 _ g cap hown' hgrow hat hg; have q1 := b1.cell 0; have z1 := b1.frozen 0; simp at q1; have ⟨hD, st⟩ := hW2 _ rfl))
   go_roundw
   case rel => exact ⟨k + 1, _, _, by omega, by go_num, hD, ref_below_step hb (Nat.le_refl _) (RefAt.of hR) st⟩
   case measure => simp [intOf]; omega
  ·obtain rfl : n = k := by omega
   go_wp2
   go_ret
   exact ⟨_, fp, rfl, ⟨_, _, hR⟩, hb⟩
set_option maxHeartbeats 1000000 in
theorem refPending_any (h : RefAt B r s fp W) (hw : s.wait.length ≤ 5864062014634) : Calls Tryz.prog 46 #[.pointer (some ⟨r, 0, none⟩)] W fun e w' =>
  ∃ v, e = .returned v ∧ Own W.heap.size 3 1 v s.wait.length (icells (s.wait.map fun p => (p.1 : Int))) W w' := by
 obtain ⟨sv, wv, h⟩ := h
 obtain ⟨ao, cap, rfl, hat⟩ := h.wait_at
 have c1 : W.cell? ⟨r, 1, none⟩ = some (.slice ao s.wait.length cap) := h.blk.cell 1
 have hrW := h.blk.lt
 have hlt := h.lt
 go_enter Tryz.func46, Tryz.ntmps46
 go_wp2
 go_loopw [3, 4] (fun v i wr => ∃ k : Nat, k ≤ s.wait.length ∧ i = .int .i64 k ∧ Own W.heap.size 3 1 v k (icells ((s.wait.take k).map fun p => (p.1 : Int))) W wr) (fun _ i _ => s.wait.length - (intOf i).toNat)
 case atStart => exact ⟨0, by omega, rfl, Own.nil (Below.refl _ _) (Nat.le_refl _)⟩
 case round =>
  obtain ⟨k, hk, rfl, hown⟩ := hrel
  replace c1 := (hown.below.cell (p := ⟨r, 1, none⟩) hrW).trans c1
  by_cases h3 : k < s.wait.length
  ·obtain ⟨g, rfl, hat2⟩ := hat (by omega)
   obtain ⟨x0, x1⟩ := hat2 k h3
   have hgW : g < W.heap.size := hlt g (h.fwv g rfl)
   replace x0 := (hown.below.cell (p := ⟨g, k * 2, none⟩) hgW).trans x0
   replace x1 := (hown.below.cell (p := ⟨g, k * 2 + 1, none⟩) hgW).trans x1
   have hsn : icells ((s.wait.take (k + 1)).map fun p => (p.1 : Int)) = icells ((s.wait.take k).map fun p => (p.1 : Int)) ++ (#[Value.int .i64 (s.wait[k].1 : Int)] : Array Value).toList := by
    rw [List.take_succ_eq_append_getElem h3]; simp only [icells, List.map_append, List.map_cons, List.map_nil]
   replace hsn := Lib.hid hsn
   clear hat hat2 h
   generalize s.wait[k] = p at x0 x1 hsn
   obtain ⟨i, x⟩ := p
   simp only at x0 x1 hsn
   go_wp2_with (at_builtin; go_must (refine wpList_app (by rfl) _ _ 74 (by rfl) W.heap.size 3 (.int .i64 0) 1 8 Tryz.underlying74 info_int rfl (by decide) _ k (icells ((s.wait.take k).map fun p => (p.1 : Int))) W wr hown (by rfl) #[.int .i64 (i : Int)] 1 (by rfl) (by rfl) (by simp [Value.oneCell']) (by omega) (by omega) ?_; intro v1 w1 hown1))
   go_roundw
   case rel => exact ⟨k + 1, by omega, by go_num, by rw [hsn.out]; exact hown1⟩
   case measure => simp [intOf]; omega
  ·obtain rfl : k = s.wait.length := by omega
   rw [List.take_of_length_le (Nat.le_refl _)] at hown
   go_wp2
   go_ret
   exact ⟨_, rfl, hown⟩
theorem sameInts_any (g1 g2 : Nat) (cap : Nat) (l : List Int) (hl : l.length ≤ 9223372036854775807) (h1 : ∀ i (hi : i < l.length), W.cell? ⟨g1, i, none⟩ = some (.int .i64 l[i])) (h2 : ∀ i (hi : i < l.length), W.cell? ⟨g2, i, none⟩ = some (.int .i64 l[i])) :
  Calls Tryz.prog 45 #[.slice (some ⟨g1, 0, none⟩) l.length l.length, .slice (some ⟨g2, 0, none⟩) l.length cap] W fun e w' => e = .returned (.bool true) ∧ Q W w' := by
 go_enter Tryz.func45, Tryz.ntmps45
 go_wp2
 go_loopw [5] (fun i wr => ∃ k n : Nat, k ≤ l.length ∧ i = .int .i64 k ∧ wr = W.drewN n) (fun i _ => l.length - (intOf i).toNat)
 case atStart => exact ⟨0, 0, by omega, rfl, rfl⟩
 case round =>
  obtain ⟨k, n, hk, rfl, rfl⟩ := hrel
  by_cases h3 : k < l.length
  ·have x1 := h1 k h3
   have x2 := h2 k h3
   go_wp2
   go_quiet (fail)
   go_wp2
   go_roundw
   case rel => exact ⟨k + 1, _, by omega, by go_num, rfl⟩
   case measure => simp [intOf]; omega
  ·go_wp2
   go_ret
   exact ⟨rfl, (Q.refl W).drewN n⟩
end
section
open Go.RowKit
namespace Pl
def Dv.wrE (s : Dv) (i : Nat) (x : ByteArray) : Dv × Int := if s.down = true then (s, 4) else ((s.put i x).act, (s.put i x).act.err)
def Dv.syE (s : Dv) : Dv × Int := if s.down = true then (s, 4) else if s.act.down = true then (s.act, 4) else (s.act.flush, 0)
structure Ok (n k : Nat) (s : Dv) : Prop where
 len : s.safe.length = n
 armed : s.armed ≤ 9223372036854775807
 acts : s.acts ≤ k
 wait : s.wait.length ≤ k
theorem Ok.mono {n k k' : Nat} {s : Dv} (h : Ok n k s) (hk : k ≤ k') : Ok n k' s := ⟨h.len, h.armed, Nat.le_trans h.acts hk, Nat.le_trans h.wait hk⟩
theorem Ok.act {n k : Nat} {s : Dv} (h : Ok n k s) : Ok n (k + 1) s.act := ⟨h.len, Nat.le_trans (Nat.sub_le _ _) h.armed, Nat.succ_le_succ h.acts, Nat.le_succ_of_le h.wait⟩
theorem Ok.put {n k : Nat} {s : Dv} (h : Ok n k s) (i : Nat) (x : ByteArray) : Ok n (k + 1) (s.put i x).act :=
 ⟨h.len, Nat.le_trans (Nat.sub_le _ _) h.armed, Nat.succ_le_succ h.acts, by show (s.wait ++ [(i, x)]).length ≤ k + 1; rw [List.length_append]; exact Nat.succ_le_succ h.wait⟩
theorem Ok.wrE {n k : Nat} {s : Dv} (h : Ok n k s) (i : Nat) (x : ByteArray) : Ok n (k + 1) (s.wrE i x).1 := by
 unfold Dv.wrE
 split
 ·exact h.mono (Nat.le_succ k)
 ·exact h.put i x
theorem Ok.syE {n k : Nat} {s : Dv} (h : Ok n k s) : Ok n (k + 1) s.syE.1 := by
 unfold Dv.syE
 split
 ·exact h.mono (Nat.le_succ k)
 ·split
  ·exact h.act
  ·exact ⟨by show (setAll s.safe s.wait).length = n; rw [setAll_length, h.len], h.act.armed, h.act.acts, Nat.zero_le _⟩
theorem Dv.wrE_epoch (s : Dv) (i : Nat) (x : ByteArray) : (s.wrE i x).1.epoch = s.epoch := by unfold Dv.wrE; split <;> rfl
theorem Dv.syE_epoch (s : Dv) : s.syE.1.epoch = s.epoch := by unfold Dv.syE; split; rfl; split <;> rfl
end Pl
variable {B d : Nat} {s : Pl.Dv} {fp : Nat → Prop} {W : World} {n k : Nat}
theorem write_e (i : Nat) (x : ByteArray) (hx : x.size = 256) (h : DevAt B d s fp W) (hO : Pl.Ok n k s) (hk : k ≤ 5864062014634) (hn : n ≤ 16384) (hi : i < n) (hB : B ≤ W.heap.size) :
  Calls Tryz.prog 84 #[.pointer (some ⟨d, 0, none⟩), .int .i64 (i : Int), .string x] W fun e w' => e = .returned (.int .i64 (s.wrE i x).2) ∧ ∃ fp', DevAt B d (s.wrE i x).1 fp' w' ∧ Step fp fp' W w' := by
 have h1 := hO.len
 have h2 := hO.acts
 have h3 := hO.wait
 have h4 := hO.armed
 unfold Pl.Dv.wrE
 cases hd : s.down with
 | true =>
  rw [if_pos rfl]
  refine (write_dead (i : Int) x h hd).mono ?_
  rintro e w' ⟨rfl, rfl⟩
  exact ⟨rfl, fp, h, Step.refl h.lt⟩
 | false =>
  rw [if_neg Bool.false_ne_true]
  exact write_ok i x h hd (by omega) hx hB (by omega) (by omega) (by omega) h4
theorem sync_e (h : DevAt B d s fp W) (hO : Pl.Ok n k s) (hk : k ≤ 5864062014634) :
  Calls Tryz.prog 85 #[.pointer (some ⟨d, 0, none⟩)] W fun e w' => e = .returned (.int .i64 s.syE.2) ∧ DevAt B d s.syE.1 fp w' ∧ Step fp fp W w' := by
 have h2 := hO.acts
 have h3 := hO.wait
 have h4 := hO.armed
 unfold Pl.Dv.syE
 cases hd : s.down with
 | true =>
  rw [if_pos rfl]
  refine (sync_dead h hd).mono ?_
  rintro e w' ⟨rfl, rfl⟩
  exact ⟨rfl, h, Step.refl h.lt⟩
 | false =>
  rw [if_neg Bool.false_ne_true]
  cases hg : s.act.down with
  | true =>
   rw [if_pos rfl]
   exact sync_gone h hd (by omega) h4 hg
  | false =>
   rw [if_neg Bool.false_ne_true]
   exact sync_ok h hd (by omega) h4 hg (by omega)
end
end Go.Proofs.YtogblcdefbnbeaaGreat
