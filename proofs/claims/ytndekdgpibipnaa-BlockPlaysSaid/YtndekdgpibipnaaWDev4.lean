
/- Walks: a disk of blocks in memory: New, Sync. Condition: lengths that memory lets. -/
import Derived.Test.YtndekdgpibipnaaWDev3
import Derived.Test.YtndekdgpibipnaaWFilled
import Derived.Deep.DeepCutAuto
namespace Go.Proofs.Ytndekdgpibipnaa
open Go.RowKit

/-- a new disk -/
def Pl.Dv.new (n : Nat) : Pl.Dv := { safe := List.replicate n (Pl.zeros 256), wait := [], down := false, armed := 0, acts := 0, epoch := 0 }
theorem Pl.Dv.new_wf (n : Nat) : (Pl.Dv.new n).WF := ⟨fun x hx => by rw [List.eq_of_mem_replicate hx]; exact Pl.zeros_size 256, fun p hp => by cases hp⟩
theorem info_string : (Try.prog.info? 9).map (fun i => (i.zero, i.size, i.bytes)) = some (some (.string .empty), 1, 16) := by kernel_rfl
/-- 'make([]string, n)' -/
theorem make_strings (n : Nat) (hn : n ≤ 17592186044416) (w : World) :
    (Instr.makeSlice 44 (.int .i64 (n : Int)) (.int .i64 (n : Int))).run Try.prog w = .ok (.slice (some ⟨w.heap.size, 0, none⟩) n n) (w.alloc (.cells (scells (List.replicate n .empty)).toArray 9)) := by
  obtain ⟨i, hi, hz0, hz1, hz2⟩ := info_parts info_string
  have h := run_make (P := Try.prog) w 44 9 i (.string .empty) Try.underlying44 hi hz0 .i64 .i64 (n : Int) (n : Int) (by omega) (by omega) (by rw [hz2]; omega) (by omega)
  have e : madeCells (Value.string .empty).cells (n * i.size) = (scells (List.replicate n .empty)).toArray := by
    rw [hz1]
    apply Array.ext
    · rw [size_madeCells]; simp [scells]
    · intro j h1 h2
      have hj : j < n := by simpa [scells] using h2
      simp [madeCells, scells, Value.cells, Nat.mod_one]
  simp only [Int.toNat_natCast] at h
  rw [e] at h
  exact h
/-- the first k blocks laid -/
def laid (n k : Nat) : List ByteArray := List.replicate k (Pl.zeros 256) ++ List.replicate (n - k) .empty
theorem laid_zero (n : Nat) : laid n 0 = List.replicate n .empty := by simp [laid]
theorem laid_all (n : Nat) : laid n n = List.replicate n (Pl.zeros 256) := by simp [laid]
theorem laid_length {n k : Nat} (h : k ≤ n) : (laid n k).length = n := by simp [laid]; omega
theorem laid_set {n k : Nat} (h : k < n) : (laid n k).set k (Pl.zeros 256) = laid n (k + 1) := by
  obtain ⟨r, hr⟩ : ∃ r, n - k = r + 1 := ⟨n - k - 1, by omega⟩
  have hr' : n - (k + 1) = r := by omega
  unfold laid
  rw [hr, hr', List.set_append, if_neg (by simp), List.replicate_succ' (n := k), List.append_assoc]
  simp [List.replicate_succ]

set_option maxRecDepth 100000 in
theorem new_any (n : Nat) (h1 : 40 ≤ n) (h2 : n ≤ 16384) (w : World) :
    Calls Try.prog 13 #[.int .i64 (n : Int)] w fun e w' => ∃ d fp, e = .returned (.tuple #[.pointer (some ⟨d, 0, none⟩), .int .i64 0]) ∧ DevAt w.heap.size d (Pl.Dv.new n) fp w' ∧ Below w.heap.size w w' := by
  have hmk := make_strings n (by omega)
  have hmb := make_bytes 256 (by omega)
  have e1 : ((256 : Nat) : Int) = 256 := rfl
  rw [e1] at hmb
  clear e1
  obtain ⟨zs, hzs⟩ : ∃ zs : List UInt8, zs = List.replicate 256 0 := ⟨_, rfl⟩
  rw [← hzs] at hmb
  have hlz : zs.length = 256 := by rw [hzs]; simp
  have hZ : (⟨zs.toArray⟩ : ByteArray) = Pl.zeros 256 := by rw [hzs]; rfl
  replace hzs := Lib.hid hzs
  have hmm := @run_makeMap Try.prog
  -- the worlds
  obtain ⟨W1, hW1⟩ : ∃ W1, W1 = w.alloc (.cells (scells (List.replicate n .empty)).toArray 9) := ⟨_, rfl⟩
  obtain ⟨W2, hW2⟩ : ∃ W2, W2 = W1.alloc (.map #[] 0) := ⟨_, rfl⟩
  have z1 : W1.heap.size = w.heap.size + 1 := by rw [hW1, World.size_alloc]
  have z2 : W2.heap.size = w.heap.size + 1 + 1 := by rw [hW2, World.size_alloc, z1]
  obtain ⟨W3, hW3⟩ : ∃ W3, W3 = W2.alloc (.cells #[.slice (some ⟨w.heap.size, 0, none⟩) n n, .slice none 0 0, .map (some (w.heap.size + 1)), .bool false, .int .i64 0, .int .i64 0, .int .i64 0] 92) := ⟨_, rfl⟩
  have z3 : W3.heap.size = w.heap.size + 1 + 1 + 1 := by rw [hW3, World.size_alloc, z2]
  obtain ⟨W4, hW4⟩ : ∃ W4, W4 = W3.alloc (.cells (bcells zs).toArray 5) := ⟨_, rfl⟩
  have hs := (Bytes.new W3 zs).str 256
  rw [hlz, hZ, z3, ← hW4] at hs
  have hS1 : W1.ownsRow w.heap.size 9 1 (.slice (some ⟨w.heap.size, 0, none⟩) n n) n (scells (laid n 0)) := by
    rw [hW1, laid_zero]
    have := World.ownsRow_lit (base := w.heap.size) (size := 1) (e := 9) w (scells (List.replicate n .empty)).toArray n (Nat.le_refl _) (by unfold maxLen; omega) (by simp [scells])
    simpa using this
  have hM2 : W2.ownsMap Try.prog 3 (plainElem (H := Unit) Try.prog 9) (w.heap.size + 1) 0 (mapOf []) := by
    have := World.ownsMap_made (H := Unit) W1 Try.prog 3 (plainElem (H := Unit) Try.prog 9)
    rw [z1, ← hW2] at this
    exact this
  have hB3 : Blk W3 (w.heap.size + 1 + 1) #[.slice (some ⟨w.heap.size, 0, none⟩) n n, .slice none 0 0, .map (some (w.heap.size + 1)), .bool false, .int .i64 0, .int .i64 0, .int .i64 0] 92 := by
    have := Blk.new W2 #[.slice (some ⟨w.heap.size, 0, none⟩) n n, .slice none 0 0, .map (some (w.heap.size + 1)), .bool false, .int .i64 0, .int .i64 0, .int .i64 0] 92
    rw [z2, ← hW3] at this
    exact this
  have hS4 : W4.ownsRow w.heap.size 9 1 (.slice (some ⟨w.heap.size, 0, none⟩) n n) n (scells (laid n 0)) := by
    rw [hW4, hW3, hW2]; exact ((hS1.alloc _).alloc _).alloc _
  have hM4 : W4.ownsMap Try.prog 3 (plainElem (H := Unit) Try.prog 9) (w.heap.size + 1) 0 (mapOf []) := by
    rw [hW4, hW3]; exact (hM2.alloc _).alloc _
  have hB4 : Blk W4 (w.heap.size + 1 + 1) #[.slice (some ⟨w.heap.size, 0, none⟩) n n, .slice none 0 0, .map (some (w.heap.size + 1)), .bool false, .int .i64 0, .int .i64 0, .int .i64 0] 92 := by
    rw [hW4]; exact hB3.alloc _
  have hb4 : Below w.heap.size w W4 := by
    rw [hW4, hW3, hW2, hW1]
    exact ((((Below.refl _ w).alloc (Nat.le_refl _) _).alloc (by simp) _).alloc (by simp; omega) _).alloc (by simp; omega) _
  have c0 := hB4.cell 0
  simp at c0
  clear hS1 hM2 hB3
  rw [hW4, hW3, hW2, hW1] at c0 hs
  go_enter Try.func13, Try.ntmps13
  go_wp2
  rw [← hW1, ← hW2, ← hW3, ← hW4] at *
  clear hs c0 hmb hmk hmm hZ hW1 hW2 hW3 hW4 hlz hzs
  go_loopw [6, 25] (fun _ i wr => ∃ k : Nat, k ≤ n ∧ i = .int .i64 k ∧ wr.ownsRow w.heap.size 9 1 (.slice (some ⟨w.heap.size, 0, none⟩) n n) n (scells (laid n k)) ∧
    wr.ownsMap Try.prog 3 (plainElem (H := Unit) Try.prog 9) (w.heap.size + 1) 0 (mapOf []) ∧
    Blk wr (w.heap.size + 1 + 1) #[.slice (some ⟨w.heap.size, 0, none⟩) n n, .slice none 0 0, .map (some (w.heap.size + 1)), .bool false, .int .i64 0, .int .i64 0, .int .i64 0] 92 ∧ Below w.heap.size w wr) (fun _ i _ => n - (intOf i).toNat)
  case atStart => exact ⟨0, by omega, rfl, hS4, hM4, hB4, hb4⟩
  case round =>
    obtain ⟨k, hk, rfl, hS, hM, hB, hb⟩ := hrel
    clear hS4 hM4 hB4 hb4
    have c0 := hB.cell 0
    simp at c0
    by_cases h3 : k < n
    · have hz := hS.frozenAt k
      have hc : wr.cell? ⟨w.heap.size, k, none⟩ = some (.string ((laid n k)[k]'(by rw [laid_length hk]; exact h3))) := by rw [hS.cellAt k (by omega), scells_get _ _ (by rw [laid_length hk]; exact h3)]
      have hS' := (hS.stored k (.string (Pl.zeros 256))).1
      rw [scells_set, laid_set h3] at hS'
      have kp : Keep (fun i => i ≠ w.heap.size) wr (wr.setCell ⟨w.heap.size, k, none⟩ (.string (Pl.zeros 256))) := (Keep.refl _ _).setCell _ _ _ (fun h _ => h rfl)
      have hM' := ownsMap_keep hM kp (by omega)
      have hB' := hB.keep kp (by omega)
      have hb' : Below w.heap.size w (wr.setCell ⟨w.heap.size, k, none⟩ (.string (Pl.zeros 256))) := hb.setCell (Nat.le_refl _) _
      clear hS hM hB hb kp
      go_wp2
      go_roundw
      case rel => exact ⟨k + 1, by omega, by go_num, hS', hM', hB', hb'⟩
      case measure => simp [intOf]; omega
    · obtain rfl : n = k := by omega
      rw [laid_all] at hS
      go_wp2
      go_ret2
      refine ⟨w.heap.size + 1 + 1, fun k => w.heap.size ≤ k ∧ k < wr.heap.size, rfl, ⟨w.heap.size, n, .slice none 0 0, w.heap.size + 1, ?_⟩, hb⟩
      have hl : (Pl.Dv.new n).safe.length = n := by simp [Pl.Dv.new]
      have q1 := hB.lt
      refine ⟨?_, ?_, World.ownsRow_nil _ _ _ _, hM, ⟨by omega, q1⟩, ⟨by omega, by omega⟩, (fun k e => by cases e), ⟨by omega, by omega⟩, fun k h => h.2, fun k h => h.1, Pl.Dv.new_wf n⟩
      · rw [hl]; exact hB
      · rw [hl]; exact hS

/-- blocks that are not written to, one by one -/
theorem Pl.setAll_take {l : List ByteArray} {w : List (Nat × ByteArray)} {k : Nat} (h : k < w.length) : Pl.setAll l (w.take (k + 1)) = (Pl.setAll l (w.take k)).set w[k].1 w[k].2 := by
  rw [List.take_succ_eq_append_getElem h, Pl.setAll_snoc]

variable {B d gs cs m : Nat} {vp : Value} {s : Pl.Dv} {fp : Nat → Prop} {W W' : World}
theorem DevO.alloc (h : DevO B d gs cs vp m s fp W) (o : Obj) : DevO B d gs cs vp m s fp (W.alloc o) := h.keep ((Keep.refl _ W).alloc o)
theorem DevO.drewN (h : DevO B d gs cs vp m s fp W) (n : Nat) : DevO B d gs cs vp m s fp (W.drewN n) := h.keep ((Keep.refl _ W).drewN n)
/-- what is awaited lies in cells -/
theorem DevO.wait_at (h : DevO B d gs cs vp m s fp W) : ∃ ao cap, vp = .slice ao s.wait.length cap ∧ (0 < s.wait.length → ∃ g, ao = some ⟨g, 0, none⟩ ∧ ∀ i (hi : i < s.wait.length), W.cell? ⟨g, i * 2, none⟩ = some (.int .i64 (s.wait[i].1 : Int)) ∧ W.cell? ⟨g, i * 2 + 1, none⟩ = some (.string s.wait[i].2)) := by
  have hw := h.wait
  rcases hw.2 with ⟨rfl, h0⟩ | ⟨g, cap, cur, rfl, _⟩
  · exact ⟨_, _, by rw [h0], fun h1 => by omega⟩
  · refine ⟨_, _, rfl, fun _ => ⟨g, rfl, fun i hi => ?_⟩⟩
    obtain ⟨e1, e2⟩ := wcells_get s.wait i hi
    exact ⟨by rw [hw.cellAt (i * 2) (by omega), e1], by rw [hw.cellAt (i * 2 + 1) (by omega), e2]⟩

theorem Step.lay {fp : Nat → Prop} {W : World} (h : ∀ k, fp k → k < W.heap.size) (o : Obj) : Step fp fp W (W.alloc o) :=
  ⟨(Keep.refl _ W).alloc o, fun _ h => .inl h, fun k hk => by rw [World.size_alloc]; have := h k hk; omega⟩
theorem Step.drewW {fp fp' : Nat → Prop} {W W' : World} (h : Step fp fp' W W') (n : Nat) : Step fp fp' W (W'.drewN n) := ⟨h.keep.drewN n, h.new, h.lt⟩
/-- the same disk with other safe blocks -/
def Pl.Dv.ws (s : Pl.Dv) (l : List ByteArray) : Pl.Dv := { s with safe := l }
theorem wp_t {α : Type} {P : α → Prop} {x : α} (h : P x) : ∃ y, y = x ∧ P y := ⟨x, rfl, h⟩

set_option maxRecDepth 100000 in
theorem sync_dead (h : DevAt B d s fp W) (hd : s.down = true) : Calls Try.prog 17 #[.pointer (some ⟨d, 0, none⟩)] W fun e w' => e = .returned (.int .i64 4) ∧ W = w' := by
  obtain ⟨gs, cs, vp, m, h⟩ := h
  have c3 := h.blk.cell 3
  simp [hd] at c3
  go_enter Try.func17, Try.ntmps17
  go_wp2
  go_ret
  exact ⟨rfl, rfl⟩

set_option maxRecDepth 100000 in
theorem sync_gone (h : DevAt B d s fp W) (hd : s.down = false) (ha : s.acts < 9223372036854775807) (hr : s.armed ≤ 9223372036854775807) (hg : s.act.down = true) : Calls Try.prog 17 #[.pointer (some ⟨d, 0, none⟩)] W fun e w' => e = .returned (.int .i64 4) ∧ DevAt B d s.act fp w' ∧ Step fp fp W w' := by
  have hAct := Lib.hid (act_any h ha hr)
  obtain ⟨gs, cs, vp, m, h⟩ := h
  have c3 := h.blk.cell 3
  simp [hd] at c3
  clear h
  go_enter Try.func17, Try.ntmps17
  go_wp2_with (go_at_call 51; ((with_reducible refine hAct.out.mono ?_); rintro e w' ⟨rfl, hA, sA⟩))
  go_ret
  exact ⟨rfl, hA, sA⟩

set_option maxRecDepth 100000 in
theorem sync_ok (h : DevAt B d s fp W) (hd : s.down = false) (ha : s.acts < 9223372036854775807) (hr : s.armed ≤ 9223372036854775807) (hg : s.act.down = false) (hw : s.wait.length ≤ 9223372036854775807) : Calls Try.prog 17 #[.pointer (some ⟨d, 0, none⟩)] W fun e w' => e = .returned (.int .i64 0) ∧ DevAt B d s.act.flush fp w' ∧ Step fp fp W w' := by
  have hAct := Lib.hid (act_any h ha hr)
  obtain ⟨gs', cs', vp', m', h⟩ := h
  have c3 := h.blk.cell 3
  simp [hd] at c3
  clear h
  go_enter Try.func17, Try.ntmps17
  go_wp2_with (go_at_call 51; ((with_reducible refine hAct.out.mono ?_); rintro e w1 ⟨rfl, ⟨gs, cs, vp, m, hA⟩, sA⟩; have c1 := hA.blk.cell 1; simp at c1; have ⟨ao, cap, hvp, _⟩ := hA.wait_at; subst hvp))
  have hk1 := hA.wf.wait
  go_loopw [4, 23] (fun _ i wr => ∃ k : Nat, k ≤ s.wait.length ∧ i = .int .i64 k ∧ DevO B d gs cs (.slice ao s.wait.length cap) m (s.act.ws (Pl.setAll s.safe (s.wait.take k))) fp wr ∧ Step fp fp w1 wr) (fun _ i _ => s.wait.length - (intOf i).toNat)
  case atStart => exact ⟨0, by omega, rfl, hA, ⟨Keep.refl _ _, fun _ h => .inl h, hA.lt⟩⟩
  case round =>
    obtain ⟨k, hk, rfl, hD, st⟩ := hrel
    have c0 := hD.blk.cell 0
    simp at c0
    clear hA
    by_cases h3 : k < s.wait.length
    · obtain ⟨ao', cap', e1, hat⟩ := hD.wait_at
      obtain ⟨g, e2, hat2⟩ := hat (by show 0 < s.wait.length; omega)
      cases e1
      subst e2
      have hx : wr.cell? ⟨g, k * 2, none⟩ = some (.int .i64 (s.wait[k].1 : Int)) ∧ wr.cell? ⟨g, k * 2 + 1, none⟩ = some (.string s.wait[k].2) := hat2 k h3
      have hpw := hk1 s.wait[k] (List.getElem_mem h3)
      have hnx := Lib.hid (Pl.setAll_take (l := s.safe) h3)
      have hll := Pl.setAll_length (s.wait.take k) s.safe
      clear hat hat2 hk1
      generalize s.wait[k] = p at hx hpw hnx
      obtain ⟨i, x⟩ := p
      obtain ⟨x0, x1⟩ := hx
      obtain ⟨hi, hxs⟩ := hpw
      replace hi : i < (Pl.setAll s.safe (s.wait.take k)).length := by rw [hll]; exact hi
      generalize Pl.setAll s.safe (s.wait.take k) = l at *
      have hD1 := hD.alloc (.cells #[.int .i64 (i : Int), .string x] 95)
      have c0 : World.cell? (wr.alloc (.cells #[.int .i64 (i : Int), .string x] 95)) ⟨d, 0, none⟩ = some (.slice (some ⟨gs, 0, none⟩) l.length cs) := hD1.blk.cell 0
      have cS := hD1.safe_at i hi
      have zS := hD1.safe.frozenAt i
      obtain ⟨hD2, st2⟩ := hD1.setSafe (i := i) hxs
      have hD3 := hD2.drewN 1
      have st3 := ((Step.lay hD.lt (.cells #[.int .i64 (i : Int), .string x] 95)).trans st2).drewW 1
      clear hD hD1 hD2 st2
      go_wp2
      go_region
      go_wp2
      go_roundw
      case rel => exact ⟨k + 1, by omega, by go_num, by rw [hnx.out]; exact hD3, st.trans st3⟩
      case measure => simp [intOf]; omega
    · obtain rfl : k = s.wait.length := by omega
      have hP := Lib.hid (forget_any (DevAt.of hD))
      rw [List.take_of_length_le (Nat.le_refl _)] at hP
      clear hD
      go_wp2_with (go_at_call 52; ((with_reducible refine hP.out.mono ?_); rintro e w2 ⟨⟨_, rfl⟩, hF, sF⟩))
      go_ret
      exact ⟨rfl, hF, (sA.trans st).trans sF⟩
end Go.Proofs.Ytndekdgpibipnaa
