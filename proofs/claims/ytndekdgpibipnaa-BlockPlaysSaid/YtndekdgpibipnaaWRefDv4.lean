
/- Walks: the document's disk in memory: New, what is awaited; the disk's size and number. Condition: lengths that memory lets. -/
import Derived.Test.YtndekdgpibipnaaWRefDv3
import Derived.Test.YtndekdgpibipnaaWPend
import Derived.Test.YtndekdgpibipnaaApp1
namespace Go.Proofs.Ytndekdgpibipnaa
open Go.RowKit

variable {B d r : Nat} {sv wv : Value} {s : Pl.Dv} {fp fp' : Nat → Prop} {W W' : World}
set_option maxRecDepth 100000 in
theorem blocks_any (h : DevAt B d s fp W) : Calls Try.prog 24 #[.pointer (some ⟨d, 0, none⟩)] W fun e w' => e = .returned (.int .i64 (s.safe.length : Int)) ∧ W = w' := by
  obtain ⟨gs, cs, vp, m, h⟩ := h
  have c0 := h.blk.cell 0
  simp at c0
  go_enter Try.func24, Try.ntmps24
  go_wp2
  go_ret
  exact ⟨rfl, rfl⟩
set_option maxRecDepth 100000 in
theorem epoch_any (h : DevAt B d s fp W) : Calls Try.prog 25 #[.pointer (some ⟨d, 0, none⟩)] W fun e w' => e = .returned (.int .i64 (s.epoch : Int)) ∧ W = w' := by
  obtain ⟨gs, cs, vp, m, h⟩ := h
  have c6 := h.blk.cell 6
  simp at c6
  go_enter Try.func25, Try.ntmps25
  go_wp2
  go_ret
  exact ⟨rfl, rfl⟩
set_option maxRecDepth 100000 in
theorem new_bad (n : Int) (h : n < 40 ∨ 16384 < n) (w : World) :
    Calls Try.prog 13 #[.int .i64 n] w fun e w' => e = .returned (.tuple #[.pointer none, .int .i64 1]) ∧ w = w' := by
  by_cases h1 : n < 40
  · clear h
    go_enter Try.func13, Try.ntmps13
    go_wp2
    go_ret2
    exact ⟨rfl, rfl⟩
  · have h2 : 16384 < n := by omega
    clear h
    go_enter Try.func13, Try.ntmps13
    go_wp2
    go_ret2
    exact ⟨rfl, rfl⟩
set_option maxRecDepth 100000 in
theorem takes_yes (n : Int) (h1 : 40 ≤ n) (h2 : n ≤ 16384) (w : World) : Calls Try.prog 28 #[.int .i64 n] w fun e w' => e = .returned (.bool true) ∧ w = w' := by
  go_enter Try.func28, Try.ntmps28
  go_wp2
  go_ret
  exact ⟨ret_bool (by simp; try omega), rfl⟩
set_option maxRecDepth 100000 in
theorem takes_no (n : Int) (h : n < 40 ∨ 16384 < n) (w : World) : Calls Try.prog 28 #[.int .i64 n] w fun e w' => e = .returned (.bool false) ∧ w = w' := by
  by_cases h1 : n < 40
  · clear h
    go_enter Try.func28, Try.ntmps28
    go_wp2
    go_ret
    exact ⟨ret_bool (by simp; try omega), rfl⟩
  · have h2 : 16384 < n := by omega
    clear h
    go_enter Try.func28, Try.ntmps28
    go_wp2
    go_ret
    exact ⟨ret_bool (by simp; try omega), rfl⟩

/-- the document's disk with its first k blocks -/
def Pl.Dv.newK (k : Nat) : Pl.Dv := { safe := List.replicate k (Pl.zeros 256), wait := [], down := false, armed := 0, acts := 0, epoch := 0 }
theorem Pl.Dv.newK_wf (k : Nat) : (Pl.Dv.newK k).WF := ⟨fun x hx => by rw [List.eq_of_mem_replicate hx]; exact Pl.zeros_size 256, fun p hp => by cases hp⟩
/-- one more block -/
theorem RefO.more {k : Nat} (h : RefO B r sv wv (Pl.Dv.newK k) fp W) {w1 : World} {tmp : Obj} {g cap : Nat}
    (hown' : w1.ownsRow B 9 1 (.slice (some ⟨g, 0, none⟩) (k + 1) cap) (k + 1) (scells (List.replicate k (Pl.zeros 256)) ++ (#[Value.string (Pl.zeros 256)] : Array Value).toList)) (hgrow : (W.alloc tmp).grownBy w1 sv.ownBlock) (hat : sv.ownBlock = some g ∨ W.heap.size ≤ g) (hg : g < w1.heap.size) :
    Blk w1 r #[sv, wv, .bool false, .int .i64 0, .int .i64 0, .int .i64 0] 59 ∧
    ∀ W2, W2 = w1.setCell ⟨r, 0, none⟩ (.slice (some ⟨g, 0, none⟩) (k + 1) cap) →
      RefO B r (.slice (some ⟨g, 0, none⟩) (k + 1) cap) wv (Pl.Dv.newK (k + 1)) (fun k => fp k ∨ k = g) W2 ∧ Step fp (fun k => fp k ∨ k = g) W W2 := by
  have n1 := h.blk.not_row (by decide) h.safe
  have n2 := h.blk.not_row (by decide) h.wait
  have hne : ∀ k, wv.ownBlock = some k → sv.ownBlock ≠ some k := fun k e => rows_apart h.wait h.safe (by decide) e
  have b1 := (h.blk.alloc tmp).kept hgrow n1
  have s1 := (h.wait.alloc tmp).kept hgrow (by
    cases e : wv.ownBlock with
    | none => exact .inl rfl
    | some k => exact .inr (fun e2 => hne k e e2.symm))
  refine ⟨b1, ?_⟩
  rintro W2 rfl
  have hgd : g ≠ r := fun e => b1.not_row (by decide) hown' (by rw [← e]; rfl)
  have b2 := b1.set 0 (.slice (some ⟨g, 0, none⟩) (k + 1) cap)
  simp at b2
  have kd := keep_r w1 r 0 (.slice (some ⟨g, 0, none⟩) (k + 1) cap)
  have s2 := kd.ownsRow s1 (fun k e e2 => n2 (by rw [← e2, e]))
  have w2 := kd.ownsRow hown' (fun k e => (show g = k by simpa [Value.ownBlock] using e) ▸ hgd)
  have hk : Keep (fun k => ¬ fp k) W (w1.setCell ⟨r, 0, none⟩ (.slice (some ⟨g, 0, none⟩) (k + 1) cap)) := (((Keep.refl _ W).alloc tmp).grown hgrow (fun k e h1 _ => h1 (h.fsv k e))).setCell _ _ _ (fun h1 _ => h1 h.fr)
  have hz : (w1.setCell ⟨r, 0, none⟩ (.slice (some ⟨g, 0, none⟩) (k + 1) cap)).heap.size = w1.heap.size := by simp [World.setCell]
  have hlt : ∀ i, (fp i ∨ i = g) → i < (w1.setCell ⟨r, 0, none⟩ (.slice (some ⟨g, 0, none⟩) (k + 1) cap)).heap.size := by
    rintro k (hk1 | rfl)
    · exact Nat.lt_of_lt_of_le (h.lt k hk1) hk.size
    · rw [hz]; exact hg
  have e1 : (Pl.Dv.newK (k + 1)).safe.length = k + 1 := by simp [Pl.Dv.newK]
  have e2 : scells (Pl.Dv.newK (k + 1)).safe = scells (List.replicate k (Pl.zeros 256)) ++ (#[Value.string (Pl.zeros 256)] : Array Value).toList := by
    show scells (List.replicate (k + 1) (Pl.zeros 256)) = _
    rw [List.replicate_succ']; simp [scells]
  refine ⟨⟨b2, ?_, s2, .inl h.fr, fun k e => .inr (by simpa [Value.ownBlock] using e.symm), fun k e => .inl (h.fwv k e), hlt, ?_, Pl.Dv.newK_wf _⟩, hk, ?_, hlt⟩
  · rw [e1, e2]; exact w2
  · rintro k (hk1 | rfl)
    · exact h.low k hk1
    · exact (hown'.lt k rfl).1
  · rintro k (hk1 | rfl)
    · exact .inl hk1
    · exact hat.imp (h.fsv _) id

set_option maxRecDepth 100000 in
set_option maxHeartbeats 1000000 in
theorem refNew_any (n : Nat) (hn : n ≤ 16384) (w : World) :
    Calls Try.prog 29 #[.int .i64 (n : Int)] w fun e w' => ∃ r fp, e = .returned (.pointer (some ⟨r, 0, none⟩)) ∧ RefAt w.heap.size r (Pl.Dv.new n) fp w' ∧ Below w.heap.size w w' := by
  have hB0 := Blk.new w #[.slice none 0 0, .slice none 0 0, .bool false, .int .i64 0, .int .i64 0, .int .i64 0] 59
  obtain ⟨W0, hW0⟩ : ∃ W0, W0 = w.alloc (.cells #[.slice none 0 0, .slice none 0 0, .bool false, .int .i64 0, .int .i64 0, .int .i64 0] 59) := ⟨_, rfl⟩
  have hb0 : Below w.heap.size w W0 := by rw [hW0]; exact (Below.refl _ w).alloc (Nat.le_refl _) _
  rw [← hW0] at hB0
  have hR0 : RefO w.heap.size w.heap.size (.slice none 0 0) (.slice none 0 0) (Pl.Dv.newK 0) (fun k => k = w.heap.size) W0 :=
    ⟨hB0, World.ownsRow_nil _ _ _ _, World.ownsRow_nil _ _ _ _, rfl, (fun k e => by cases e), (fun k e => by cases e), fun k e => e ▸ hB0.lt, fun k e => by omega, Pl.Dv.newK_wf 0⟩
  go_enter Try.func29, Try.ntmps29
  go_wp2_with (go_at_call 22; ((with_reducible refine (noughts_any _).mono ?_); rintro e w1 ⟨rfl, hb1⟩))
  rw [← hW0] at hb1
  have hR1 : RefO w.heap.size w.heap.size (.slice none 0 0) (.slice none 0 0) (Pl.Dv.newK 0) (fun k => k = w.heap.size) w1 := hR0.keep (Keep.of_below hb1 (fun _ _ h => h))
  have hb2 : Below w.heap.size w w1 := hb0.trans (hb1.mono hb0.size)
  clear hR0 hB0 hb0 hb1 hW0
  go_loopw [5] (fun i wr => ∃ (k : Nat) (sv : Value) (fp : Nat → Prop), k ≤ n ∧ i = .int .i64 k ∧ RefO w.heap.size w.heap.size sv (.slice none 0 0) (Pl.Dv.newK k) fp wr ∧ Below w.heap.size w wr) (fun i _ => n - (intOf i).toNat)
  case atStart => exact ⟨0, _, _, by omega, rfl, hR1, hb2⟩
  case round =>
    obtain ⟨k, sv, fp, hk, rfl, hR, hb⟩ := hrel
    clear hR1 hb2
    by_cases h3 : k < n
    · have c0 := hR.blk.cell 0
      simp at c0
      have hlk : (Pl.Dv.newK k).safe.length = k := by simp [Pl.Dv.newK]
      have hsafe := hR.safe
      rw [hlk] at hsafe
      replace hsafe : wr.ownsRow w.heap.size 9 1 sv k (scells (List.replicate k (Pl.zeros 256))) := hsafe
      have hMore := Lib.hid (fun w1 tmp g cap => hR.more (w1 := w1) (tmp := tmp) (g := g) (cap := cap))
      have hbs := hb.size
      generalize hz : Pl.zeros 256 = z at *
      replace hz := Lib.hid hz
      generalize hbc : scells (List.replicate k z) = xs at *
      replace hbc := Lib.hid hbc
      go_wp2_with (at_builtin; go_must (refine wpList_app1 (by rfl) _ _ 44 (by rfl) w.heap.size 9 (.string .empty) 1 16 Try.underlying44 info_string rfl (by decide) sv k xs wr hsafe hbs (by rfl) #[.string z] 9 (by rfl) rfl (by simp [Value.oneCell']) (by omega) (by decide) ?_; intro g cap w1 hown' hgrow hat hg; have ⟨b1, hW2⟩ := hMore.out w1 _ g cap hown' hgrow hat hg; have q1 := b1.cell 0; have z1 := b1.frozen 0; simp at q1; have ⟨hD, st⟩ := hW2 _ rfl))
      go_roundw
      case rel => exact ⟨k + 1, _, _, by omega, by go_num, hD, ref_below_step hb (Nat.le_refl _) (RefAt.of hR) st⟩
      case measure => simp [intOf]; omega
    · obtain rfl : n = k := by omega
      go_wp2
      go_ret
      exact ⟨_, fp, rfl, ⟨_, _, hR⟩, hb⟩

set_option maxRecDepth 100000 in
set_option maxHeartbeats 1000000 in
theorem refPending_any (h : RefAt B r s fp W) (hw : s.wait.length ≤ 5864062014634) : Calls Try.prog 71 #[.pointer (some ⟨r, 0, none⟩)] W fun e w' =>
    ∃ v, e = .returned v ∧ Own W.heap.size 3 1 v s.wait.length (icells (s.wait.map fun p => (p.1 : Int))) W w' := by
  obtain ⟨sv, wv, h⟩ := h
  obtain ⟨ao, cap, rfl, hat⟩ := h.wait_at
  have c1 : W.cell? ⟨r, 1, none⟩ = some (.slice ao s.wait.length cap) := h.blk.cell 1
  have hrW := h.blk.lt
  have hlt := h.lt
  go_enter Try.func71, Try.ntmps71
  go_wp2
  go_loopw [3, 4] (fun v i wr => ∃ k : Nat, k ≤ s.wait.length ∧ i = .int .i64 k ∧ Own W.heap.size 3 1 v k (icells ((s.wait.take k).map fun p => (p.1 : Int))) W wr) (fun _ i _ => s.wait.length - (intOf i).toNat)
  case atStart => exact ⟨0, by omega, rfl, Own.nil (Below.refl _ _) (Nat.le_refl _)⟩
  case round =>
    obtain ⟨k, hk, rfl, hown⟩ := hrel
    replace c1 := (hown.below.cell (p := ⟨r, 1, none⟩) hrW).trans c1
    by_cases h3 : k < s.wait.length
    · obtain ⟨g, rfl, hat2⟩ := hat (by omega)
      obtain ⟨x0, x1⟩ := hat2 k h3
      have hgW : g < W.heap.size := hlt g (h.fwv g rfl)
      replace x0 := (hown.below.cell (p := ⟨g, k * 2, none⟩) hgW).trans x0
      replace x1 := (hown.below.cell (p := ⟨g, k * 2 + 1, none⟩) hgW).trans x1
      have hsn : icells ((s.wait.take (k + 1)).map fun p => (p.1 : Int)) = icells ((s.wait.take k).map fun p => (p.1 : Int)) ++ (#[Value.int .i64 (s.wait[k].1 : Int)] : Array Value).toList := by
        rw [List.take_succ_eq_append_getElem h3]; simp only [icells, List.map_append, List.map_cons, List.map_nil]
      replace hsn := Lib.hid hsn
      clear hat hat2 h
      generalize s.wait[k] = p at x0 x1 hsn
      obtain ⟨i, x⟩ := p
      simp only at x0 x1 hsn
      go_wp2_with (at_builtin; go_must (refine wpList_app (by rfl) _ _ 41 (by rfl) W.heap.size 3 (.int .i64 0) 1 8 Try.underlying41 info_int rfl (by decide) _ k (icells ((s.wait.take k).map fun p => (p.1 : Int))) W wr hown (by rfl) #[.int .i64 (i : Int)] 1 (by rfl) (by rfl) (by simp [Value.oneCell']) (by omega) (by omega) ?_; intro v1 w1 hown1))
      go_roundw
      case rel => exact ⟨k + 1, by omega, by go_num, by rw [hsn.out]; exact hown1⟩
      case measure => simp [intOf]; omega
    · obtain rfl : k = s.wait.length := by omega
      rw [List.take_of_length_le (Nat.le_refl _)] at hown
      go_wp2
      go_ret
      exact ⟨_, rfl, hown⟩

set_option maxRecDepth 100000 in
theorem sameInts_any (g1 g2 : Nat) (cap : Nat) (l : List Int) (hl : l.length ≤ 9223372036854775807) (h1 : ∀ i (hi : i < l.length), W.cell? ⟨g1, i, none⟩ = some (.int .i64 l[i])) (h2 : ∀ i (hi : i < l.length), W.cell? ⟨g2, i, none⟩ = some (.int .i64 l[i])) :
    Calls Try.prog 70 #[.slice (some ⟨g1, 0, none⟩) l.length l.length, .slice (some ⟨g2, 0, none⟩) l.length cap] W fun e w' => e = .returned (.bool true) ∧ Q W w' := by
  go_enter Try.func70, Try.ntmps70
  go_wp2
  go_loopw [5] (fun i wr => ∃ k n : Nat, k ≤ l.length ∧ i = .int .i64 k ∧ wr = W.drewN n) (fun i _ => l.length - (intOf i).toNat)
  case atStart => exact ⟨0, 0, by omega, rfl, rfl⟩
  case round =>
    obtain ⟨k, n, hk, rfl, rfl⟩ := hrel
    by_cases h3 : k < l.length
    · have x1 := h1 k h3
      have x2 := h2 k h3
      go_wp2
      go_quiet (fail)
      go_wp2
      go_roundw
      case rel => exact ⟨k + 1, _, by omega, by go_num, rfl⟩
      case measure => simp [intOf]; omega
    · go_wp2
      go_ret
      exact ⟨rfl, (Q.refl W).drewN n⟩
end Go.Proofs.Ytndekdgpibipnaa
