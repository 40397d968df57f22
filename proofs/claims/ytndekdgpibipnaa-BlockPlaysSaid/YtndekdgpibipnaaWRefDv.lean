
/- Walks: the document's disk in memory: its variables, acts, writes. Condition: lengths that memory lets. -/
import Derived.Test.YtndekdgpibipnaaWDevU
namespace Go.Proofs.Ytndekdgpibipnaa
open Go.RowKit

/-- the document's disk in memory, its parts named -/
structure RefO (B r : Nat) (sv wv : Value) (s : Pl.Dv) (fp : Nat → Prop) (W : World) : Prop where
  blk : Blk W r #[sv, wv, .bool s.down, .int .i64 (s.armed : Int), .int .i64 (s.acts : Int), .int .i64 (s.epoch : Int)] 59
  safe : W.ownsRow B 9 1 sv s.safe.length (scells s.safe)
  wait : W.ownsRow B 115 2 wv s.wait.length (wcells s.wait)
  fr : fp r
  fsv : ∀ k, sv.ownBlock = some k → fp k
  fwv : ∀ k, wv.ownBlock = some k → fp k
  lt : ∀ k, fp k → k < W.heap.size
  low : ∀ k, fp k → B ≤ k
  wf : s.WF
def RefAt (B r : Nat) (s : Pl.Dv) (fp : Nat → Prop) (W : World) : Prop := ∃ sv wv, RefO B r sv wv s fp W

variable {B r : Nat} {sv wv : Value} {s : Pl.Dv} {fp fp' : Nat → Prop} {W W' : World}
theorem RefAt.of (h : RefO B r sv wv s fp W) : RefAt B r s fp W := ⟨_, _, h⟩
theorem RefO.keep (h : RefO B r sv wv s fp W) (hk : Keep fp W W') : RefO B r sv wv s fp W' :=
  ⟨h.blk.keep hk h.fr, hk.ownsRow h.safe h.fsv, hk.ownsRow h.wait h.fwv, h.fr, h.fsv, h.fwv, fun k hk' => Nat.lt_of_lt_of_le (h.lt k hk') hk.size, h.low, h.wf⟩
theorem RefAt.keep (h : RefAt B r s fp W) (hk : Keep fp W W') : RefAt B r s fp W' := let ⟨_, _, h⟩ := h; ⟨_, _, h.keep hk⟩
theorem RefAt.lt (h : RefAt B r s fp W) : ∀ k, fp k → k < W.heap.size := let ⟨_, _, h⟩ := h; h.lt
theorem RefAt.fpB (h : RefAt B r s fp W) : ∀ k, fp k → B ≤ k := let ⟨_, _, h⟩ := h; h.low
theorem RefAt.beyond (h : RefAt B r s fp W) (hb : Below W.heap.size W W') : RefAt B r s fp W' := h.keep (Keep.of_below hb (fun _ _ h => h))
theorem RefO.alloc (h : RefO B r sv wv s fp W) (o : Obj) : RefO B r sv wv s fp (W.alloc o) := h.keep ((Keep.refl _ W).alloc o)
theorem RefO.drewN (h : RefO B r sv wv s fp W) (n : Nat) : RefO B r sv wv s fp (W.drewN n) := h.keep ((Keep.refl _ W).drewN n)
theorem ref_below_step {w : World} (hb : Below B w W) (hB : B ≤ w.heap.size) (h : RefAt B r s fp W) (st : Step fp fp' W W') : Below B w W' :=
  ⟨st.keep.os.trans hb.os, st.keep.tape.trans hb.tape, st.keep.output.trans hb.output, Nat.le_trans hb.size st.keep.size, fun k hk =>
    (st.keep.block k (fun hf => by have := h.fpB k hf; omega) (by have := hb.size; omega)).trans (hb.block k hk)⟩
/-- the numbers turned -/
theorem RefO.turn (h : RefO B r sv wv s fp W) {s' : Pl.Dv} (hk : Keep (fun k => k ≠ r) W W') (h1 : s'.safe = s.safe) (h2 : s'.wait = s.wait)
    (hb : Blk W' r #[sv, wv, .bool s'.down, .int .i64 (s'.armed : Int), .int .i64 (s'.acts : Int), .int .i64 (s'.epoch : Int)] 59) :
    RefO B r sv wv s' fp W' ∧ Step fp fp W W' := by
  have n1 := h.blk.not_row (by decide) h.safe
  have n2 := h.blk.not_row (by decide) h.wait
  obtain ⟨sf, wt, dn, ar, ac, ep⟩ := s'
  simp only at h1 h2 hb
  subst h1 h2
  exact ⟨⟨hb, hk.ownsRow h.safe (fun k e he => n1 (by rw [e, he])), hk.ownsRow h.wait (fun k e he => n2 (by rw [e, he])), h.fr, h.fsv, h.fwv, fun k hk' => Nat.lt_of_lt_of_le (h.lt k hk') hk.size, h.low, ⟨h.wf.size, h.wf.wait⟩⟩, hk.mono (fun k hn _ e => hn (e ▸ h.fr)), fun _ h => .inl h, fun k hk' => Nat.lt_of_lt_of_le (h.lt k hk') hk.size⟩
/-- nothing is awaited any more, with numbers turned -/
theorem RefO.clean (h : RefO B r sv wv s fp W) {s' : Pl.Dv} (hk : Keep (fun k => k ≠ r) W W') (h1 : s'.safe = s.safe) (h2 : s'.wait = [])
    (hb : Blk W' r #[sv, .slice none 0 0, .bool s'.down, .int .i64 (s'.armed : Int), .int .i64 (s'.acts : Int), .int .i64 (s'.epoch : Int)] 59) :
    RefO B r sv (.slice none 0 0) s' fp W' ∧ Step fp fp W W' := by
  have n1 := h.blk.not_row (by decide) h.safe
  obtain ⟨sf, wt, dn, ar, ac, ep⟩ := s'
  simp only at h1 h2 hb
  subst h1 h2
  exact ⟨⟨hb, hk.ownsRow h.safe (fun k e he => n1 (by rw [e, he])), World.ownsRow_nil _ _ _ _, h.fr, h.fsv, (fun k e => by cases e), fun k hk' => Nat.lt_of_lt_of_le (h.lt k hk') hk.size, h.low, ⟨h.wf.size, fun p hp => by cases hp⟩⟩, hk.mono (fun k hn _ e => hn (e ▸ h.fr)), fun _ h => .inl h, fun k hk' => Nat.lt_of_lt_of_le (h.lt k hk') hk.size⟩

set_option maxRecDepth 100000 in
theorem refIs_in (i : Int) (h : RefAt B r s fp W) (h0 : 0 ≤ i) (h1 : i < (s.safe.length : Int)) : Calls Try.prog 97 #[.pointer (some ⟨r, 0, none⟩), .int .i64 i] W fun e w' => e = .returned (.bool true) ∧ W = w' := by
  obtain ⟨sv, wv, h⟩ := h
  have c0 := h.blk.cell 0
  simp at c0
  rcases h.safe.2 with ⟨rfl, h2⟩ | ⟨g, cap, cur, rfl, _⟩
  · omega
  go_enter Try.func97, Try.ntmps97
  go_wp2
  go_ret
  exact ⟨rfl, rfl⟩
set_option maxRecDepth 100000 in
theorem refIs_out (i : Int) (h : RefAt B r s fp W) (h0 : i < 0 ∨ (s.safe.length : Int) ≤ i) : Calls Try.prog 97 #[.pointer (some ⟨r, 0, none⟩), .int .i64 i] W fun e w' => e = .returned (.bool false) ∧ W = w' := by
  obtain ⟨sv, wv, h⟩ := h
  have c0 := h.blk.cell 0
  simp at c0
  by_cases h1 : i < 0
  · clear h0
    go_enter Try.func97, Try.ntmps97
    go_wp2
    go_ret
    exact ⟨rfl, rfl⟩
  · have h2 : (s.safe.length : Int) ≤ i := by omega
    clear h0
    rcases h.safe.2 with ⟨rfl, h3⟩ | ⟨g, cap, cur, rfl, _⟩
    · rw [h3] at h2
      go_enter Try.func97, Try.ntmps97
      go_wp2
      go_ret
      exact ⟨rfl, rfl⟩
    · go_enter Try.func97, Try.ntmps97
      go_wp2
      go_ret
      exact ⟨ret_bool (by simp; omega), rfl⟩
theorem keep_r (W : World) (d k : Nat) (v : Value) : Keep (fun i => i ≠ d) W (W.setCell ⟨d, k, none⟩ v) := (Keep.refl _ W).setCell _ _ _ (fun h _ => h rfl)

set_option maxRecDepth 100000 in
theorem refAct_any (h : RefAt B r s fp W) (hd : s.down = false) (ha : s.acts < 9223372036854775807) (hr : s.armed ≤ 9223372036854775807) : Calls Try.prog 98 #[.pointer (some ⟨r, 0, none⟩)] W fun e w' => e = .returned (.bool s.act.down) ∧ RefAt B r s.act fp w' ∧ Step fp fp W w' := by
  obtain ⟨sv, wv, h⟩ := h
  have c4 := h.blk.cell 4
  have c3 := h.blk.cell 3
  have z4 := h.blk.frozen 4
  simp at c4 c3
  have e5 : ((s.acts + 1 : Nat) : Int) = (s.acts : Int) + 1 := by omega
  have b1 := h.blk.set 4 (.int .i64 ((s.acts : Int) + 1))
  simp at b1
  by_cases h0 : s.armed = 0
  · have ea : s.act = { s with acts := s.acts + 1 } := by unfold Pl.Dv.act; rw [if_pos h0, h0]
    obtain ⟨h2, st⟩ := h.turn (s' := s.act) (keep_r _ _ 4 (.int .i64 ((s.acts : Int) + 1))) (by rw [ea]) (by rw [ea]) (by rw [ea]; simp only []; rw [e5]; exact b1)
    have ed : s.act.down = false := by rw [ea]; exact hd
    have d3 := b1.cell 3
    simp at d3
    rw [h0] at c3 d3
    clear h0 e5 b1 ea h
    go_enter Try.func98, Try.ntmps98
    go_wp2
    go_ret
    exact ⟨ret_bool (by rw [ed]), RefAt.of h2, st⟩
  · obtain ⟨k, hk⟩ : ∃ k, s.armed = k + 1 := ⟨s.armed - 1, by omega⟩
    have b2 := b1.set 3 (.int .i64 (k : Int))
    simp at b2
    have d3 := b1.cell 3
    have y3 := b1.frozen 3
    have d33 := b2.cell 3
    have d2 := b2.cell 2
    have y2 := b2.frozen 2
    simp at d3 d33 d2
    rw [hk] at c3 d3 hr
    have hk0 : 0 < k + 1 := by omega
    have h1 : ((k + 1 : Nat) : Int) - 1 = (k : Int) := by omega
    by_cases h5 : k = 0
    · subst h5
      have ea : s.act = { s with acts := s.acts + 1, armed := 0, down := true } := by unfold Pl.Dv.act; rw [if_neg h0, hk]; simp
      have b3 := b2.set 2 (.bool true)
      simp at b3
      obtain ⟨h2, st⟩ := h.turn (s' := s.act) (((keep_r _ _ 4 (.int .i64 ((s.acts : Int) + 1))).setCell _ _ _ (fun h _ => h rfl)).setCell _ _ _ (fun h _ => h rfl)) (by rw [ea]) (by rw [ea]) (by rw [ea]; simp only []; rw [e5]; exact b3)
      have ed : s.act.down = true := by rw [ea]
      simp only [Int.ofNat_zero, Nat.zero_add] at *
      clear h0 e5 b1 b2 b3 ea hk h
      go_enter Try.func98, Try.ntmps98
      go_wp2
      go_ret
      exact ⟨ret_bool (by rw [ed]), RefAt.of h2, st⟩
    · have ea : s.act = { s with acts := s.acts + 1, armed := k, down := false } := by unfold Pl.Dv.act; rw [if_neg h0, hk]; simp; omega
      obtain ⟨h2, st⟩ := h.turn (s' := s.act) ((keep_r _ _ 4 (.int .i64 ((s.acts : Int) + 1))).setCell _ _ _ (fun h _ => h rfl)) (by rw [ea]) (by rw [ea]) (by rw [ea]; simp only []; rw [e5]; rw [hd] at b2; exact b2)
      have ed : s.act.down = false := by rw [ea]
      clear h0 e5 b1 b2 ea hk h
      go_enter Try.func98, Try.ntmps98
      go_wp2
      go_ret
      exact ⟨ret_bool (by rw [ed]), RefAt.of h2, st⟩

set_option maxRecDepth 100000 in
theorem refArm_any (n : Int) (h : RefAt B r s fp W) : Calls Try.prog 69 #[.pointer (some ⟨r, 0, none⟩), .int .i64 n] W fun e w' => (∃ v, e = .returned v) ∧ RefAt B r (s.arm n) fp w' ∧ Step fp fp W w' := by
  obtain ⟨sv, wv, h⟩ := h
  have c3 := h.blk.cell 3
  have z3 := h.blk.frozen 3
  simp at c3
  have b1 := h.blk.set 3 (.int .i64 n)
  simp at b1
  by_cases h0 : 0 ≤ n
  · have e : ((s.arm n).armed : Int) = n := by show (n.toNat : Int) = n; omega
    obtain ⟨h2, st⟩ := h.turn (s' := s.arm n) (keep_r _ _ 3 (.int .i64 n)) rfl rfl (by rw [e]; exact b1)
    clear e b1 h
    go_enter Try.func69, Try.ntmps69
    go_wp2
    go_end0
    exact ⟨⟨_, rfl⟩, RefAt.of h2, st⟩
  · have e : ((s.arm n).armed : Int) = 0 := by show (n.toNat : Int) = 0; omega
    have b2 := b1.set 3 (.int .i64 0)
    simp at b2
    obtain ⟨h2, st⟩ := h.turn (s' := s.arm n) ((keep_r _ _ 3 (.int .i64 n)).setCell _ _ _ (fun h _ => h rfl)) rfl rfl (by rw [e]; exact b2)
    have d3 := b1.cell 3
    have y3 := b1.frozen 3
    simp at d3
    clear e b1 b2 h
    go_enter Try.func69, Try.ntmps69
    go_wp2
    go_end0
    exact ⟨⟨_, rfl⟩, RefAt.of h2, st⟩
end Go.Proofs.Ytndekdgpibipnaa
