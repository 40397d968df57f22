
/- Walks: the document's disk in memory: writes, Sync, reads. Condition: lengths that memory lets. -/
import Derived.Test.YtndekdgpibipnaaWRefDv
import Derived.Test.YtndekdgpibipnaaApp1
import Derived.BigQuiet
namespace Go.Proofs.Ytndekdgpibipnaa
open Go.RowKit

theorem info_rwrite : (Try.prog.info? 115).map (fun i => (i.zero, i.size, i.bytes)) = some (some (.agg #[.int .i64 0, .string .empty]), 2, 24) := by kernel_rfl

variable {B r : Nat} {sv wv : Value} {s : Pl.Dv} {fp fp' : Nat → Prop} {W W' : World}
theorem RefO.safe_form (h : RefO B r sv wv s fp W) (h0 : 0 < s.safe.length) : ∃ gs cs, sv = .slice (some ⟨gs, 0, none⟩) s.safe.length cs := by
  rcases h.safe.2 with ⟨_, h1⟩ | ⟨g, cap, cur, rfl, _⟩
  · omega
  · exact ⟨_, _, rfl⟩
theorem RefO.wait_at (h : RefO B r sv wv s fp W) : ∃ ao cap, wv = .slice ao s.wait.length cap ∧ (0 < s.wait.length → ∃ g, ao = some ⟨g, 0, none⟩ ∧ ∀ i (hi : i < s.wait.length), W.cell? ⟨g, i * 2, none⟩ = some (.int .i64 (s.wait[i].1 : Int)) ∧ W.cell? ⟨g, i * 2 + 1, none⟩ = some (.string s.wait[i].2)) := by
  have hw := h.wait
  rcases hw.2 with ⟨rfl, h0⟩ | ⟨g, cap, cur, rfl, _⟩
  · exact ⟨_, _, by rw [h0], fun h1 => by omega⟩
  · refine ⟨_, _, rfl, fun _ => ⟨g, rfl, fun i hi => ?_⟩⟩
    obtain ⟨e1, e2⟩ := wcells_get s.wait i hi
    exact ⟨by rw [hw.cellAt (i * 2) (by omega), e1], by rw [hw.cellAt (i * 2 + 1) (by omega), e2]⟩
theorem RefO.setSafe {gs cs n : Nat} (h : RefO B r (.slice (some ⟨gs, 0, none⟩) n cs) wv s fp W) (hn : n = s.safe.length) {i : Nat} {x : ByteArray} (hx : x.size = 256) :
    RefO B r (.slice (some ⟨gs, 0, none⟩) n cs) wv { s with safe := s.safe.set i x } fp (W.setCell ⟨gs, i, none⟩ (.string x)) ∧ Step fp fp W (W.setCell ⟨gs, i, none⟩ (.string x)) := by
  subst hn
  have n1 := h.blk.not_row (by decide) h.safe
  have hne : ∀ k, wv.ownBlock = some k → k ≠ gs := fun k e e2 => rows_apart h.wait h.safe (by decide) e (by rw [e2]; rfl)
  have kp : Keep (fun k => k ≠ gs) W (W.setCell ⟨gs, i, none⟩ (.string x)) := (Keep.refl _ W).setCell _ _ _ (fun h _ => h rfl)
  have s1 := (h.safe.stored i (.string x)).1
  rw [scells_set] at s1
  have hlt : ∀ k, fp k → k < (W.setCell ⟨gs, i, none⟩ (.string x)).heap.size := fun k hk => Nat.lt_of_lt_of_le (h.lt k hk) kp.size
  have e1 : (s.safe.set i x).length = s.safe.length := by simp
  refine ⟨⟨?_, ?_, kp.ownsRow h.wait hne, h.fr, h.fsv, h.fwv, hlt, h.low, ⟨?_, ?_⟩⟩, kp.mono (fun k hn _ e => hn (e ▸ h.fsv gs rfl)), fun _ h => .inl h, hlt⟩
  · exact h.blk.keep kp (fun e => n1 (by rw [e]; rfl))
  · simp only [e1]; exact s1
  · intro y hy
    rcases Pl.mem_set_of hy with h1 | rfl
    · exact h.wf.size y h1
    · exact hx
  · intro p hp
    simp only [e1]
    exact h.wf.wait p hp
/-- what is awaited, one more -/
theorem RefO.put (h : RefO B r sv wv s fp W) {w1 : World} {tmp : Obj} {i g cap : Nat} {x : ByteArray} (hi : i < s.safe.length) (hx : x.size = 256)
    (hown' : w1.ownsRow B 115 2 (.slice (some ⟨g, 0, none⟩) (s.wait.length + 1) cap) (s.wait.length + 1) (wcells s.wait ++ (#[Value.int .i64 (i : Int), .string x] : Array Value).toList)) (hgrow : (W.alloc tmp).grownBy w1 wv.ownBlock) (hat : wv.ownBlock = some g ∨ W.heap.size ≤ g) (hg : g < w1.heap.size) :
    Blk w1 r #[sv, wv, .bool s.down, .int .i64 (s.armed : Int), .int .i64 (s.acts : Int), .int .i64 (s.epoch : Int)] 59 ∧
    ∀ W2, W2 = w1.setCell ⟨r, 1, none⟩ (.slice (some ⟨g, 0, none⟩) (s.wait.length + 1) cap) →
      RefO B r sv (.slice (some ⟨g, 0, none⟩) (s.wait.length + 1) cap) (s.put i x) (fun k => fp k ∨ k = g) W2 ∧ Step fp (fun k => fp k ∨ k = g) W W2 := by
  have n1 := h.blk.not_row (by decide) h.safe
  have n2 := h.blk.not_row (by decide) h.wait
  have hne : ∀ k, sv.ownBlock = some k → wv.ownBlock ≠ some k := fun k e => rows_apart h.safe h.wait (by decide) e
  have b1 := (h.blk.alloc tmp).kept hgrow n2
  have s1 := (h.safe.alloc tmp).kept hgrow (by
    cases e : sv.ownBlock with
    | none => exact .inl rfl
    | some k => exact .inr (fun e2 => hne k e e2.symm))
  refine ⟨b1, ?_⟩
  rintro W2 rfl
  have hgd : g ≠ r := fun e => b1.not_row (by decide) hown' (by rw [← e]; rfl)
  have b2 := b1.set 1 (.slice (some ⟨g, 0, none⟩) (s.wait.length + 1) cap)
  simp at b2
  have kd := keep_r w1 r 1 (.slice (some ⟨g, 0, none⟩) (s.wait.length + 1) cap)
  have s2 := kd.ownsRow s1 (fun k e e2 => n1 (by rw [← e2, e]))
  have w2 := kd.ownsRow hown' (fun k e => (show g = k by simpa [Value.ownBlock] using e) ▸ hgd)
  have hk : Keep (fun k => ¬ fp k) W (w1.setCell ⟨r, 1, none⟩ (.slice (some ⟨g, 0, none⟩) (s.wait.length + 1) cap)) := (((Keep.refl _ W).alloc tmp).grown hgrow (fun k e h1 _ => h1 (h.fwv k e))).setCell _ _ _ (fun h1 _ => h1 h.fr)
  have hz : (w1.setCell ⟨r, 1, none⟩ (.slice (some ⟨g, 0, none⟩) (s.wait.length + 1) cap)).heap.size = w1.heap.size := by simp [World.setCell]
  have hlt : ∀ k, (fp k ∨ k = g) → k < (w1.setCell ⟨r, 1, none⟩ (.slice (some ⟨g, 0, none⟩) (s.wait.length + 1) cap)).heap.size := by
    rintro k (hk1 | rfl)
    · exact Nat.lt_of_lt_of_le (h.lt k hk1) hk.size
    · rw [hz]; exact hg
  refine ⟨⟨b2, s2, ?_, .inl h.fr, fun k e => .inl (h.fsv k e), fun k e => .inr (by simpa [Value.ownBlock] using e.symm), hlt, ?_, h.wf.put hi hx⟩, hk, ?_, hlt⟩
  · show World.ownsRow _ B _ 2 _ (s.wait ++ [(i, x)]).length (wcells (s.wait ++ [(i, x)]))
    rw [List.length_append, List.length_singleton, wcells_append]
    exact w2
  · rintro k (hk1 | rfl)
    · exact h.low k hk1
    · exact (hown'.lt k rfl).1
  · rintro k (hk1 | rfl)
    · exact .inl hk1
    · exact hat.imp (h.fwv _) id

set_option maxRecDepth 100000 in
theorem refWrite_dead (i : Int) (x : ByteArray) (h : RefAt B r s fp W) (hd : s.down = true) : Calls Try.prog 66 #[.pointer (some ⟨r, 0, none⟩), .int .i64 i, .string x] W fun e w' => e = .returned (.int .i64 4) ∧ W = w' := by
  have hIs : ∃ b, Calls Try.prog 97 #[.pointer (some ⟨r, 0, none⟩), .int .i64 i] W fun e w' => e = .returned (.bool b) ∧ W = w' := by
    by_cases h1 : 0 ≤ i ∧ i < (s.safe.length : Int)
    · exact ⟨true, refIs_in i h h1.1 h1.2⟩
    · exact ⟨false, refIs_out i h (by omega)⟩
  obtain ⟨b, hIs⟩ := hIs
  replace hIs := Lib.hid hIs
  obtain ⟨sv, wv, h⟩ := h
  have c2 := h.blk.cell 2
  simp [hd] at c2
  clear h
  go_enter Try.func66, Try.ntmps66
  go_wp2_with (go_at_call 97; ((with_reducible refine hIs.out.mono ?_); rintro e w' ⟨rfl, rfl⟩))
  go_ret
  exact ⟨rfl, rfl⟩
set_option maxRecDepth 100000 in
theorem refWrite_bad (i : Int) (x : ByteArray) (h : RefAt B r s fp W) (hd : s.down = false) (hi : i < 0 ∨ (s.safe.length : Int) ≤ i) : Calls Try.prog 66 #[.pointer (some ⟨r, 0, none⟩), .int .i64 i, .string x] W fun e w' => e = .returned (.int .i64 1) ∧ W = w' := by
  have hIs := Lib.hid (refIs_out i h hi)
  obtain ⟨sv, wv, h⟩ := h
  have c2 := h.blk.cell 2
  simp [hd] at c2
  clear h
  go_enter Try.func66, Try.ntmps66
  go_wp2_with (go_at_call 97; ((with_reducible refine hIs.out.mono ?_); rintro e w' ⟨rfl, rfl⟩))
  go_ret
  exact ⟨rfl, rfl⟩
set_option maxRecDepth 100000 in
theorem refWrite_size (i : Int) (x : ByteArray) (h : RefAt B r s fp W) (hd : s.down = false) (hx : x.size ≠ 256) : Calls Try.prog 66 #[.pointer (some ⟨r, 0, none⟩), .int .i64 i, .string x] W fun e w' => e = .returned (.int .i64 1) ∧ W = w' := by
  by_cases hi : i < 0 ∨ (s.safe.length : Int) ≤ i
  · exact refWrite_bad i x h hd hi
  have hIs := Lib.hid (refIs_in i h (by omega) (by omega))
  obtain ⟨sv, wv, h⟩ := h
  have c2 := h.blk.cell 2
  simp [hd] at c2
  have hx' : ((x.size : Int) != 256) = true := by simp; omega
  clear h hi hx
  go_enter Try.func66, Try.ntmps66
  go_wp2_with (go_at_call 97; ((with_reducible refine hIs.out.mono ?_); rintro e w' ⟨rfl, rfl⟩))
  go_ret
  exact ⟨rfl, rfl⟩
set_option maxRecDepth 100000 in
theorem refWrite_ok (i : Nat) (x : ByteArray) (h : RefAt B r s fp W) (hd : s.down = false) (hi : i < s.safe.length) (hx : x.size = 256) (hB : B ≤ W.heap.size) (hw : (s.wait.length + 1) * 24 ≤ 140737488355328) (ha : s.acts < 9223372036854775807) (hr : s.armed ≤ 9223372036854775807) :
    Calls Try.prog 66 #[.pointer (some ⟨r, 0, none⟩), .int .i64 (i : Int), .string x] W fun e w' => e = .returned (.int .i64 (s.put i x).act.err) ∧ ∃ fp', RefAt B r (s.put i x).act fp' w' ∧ Step fp fp' W w' := by
  have hIs := Lib.hid (refIs_in i h (by omega) (by omega))
  obtain ⟨sv, wv, h⟩ := h
  have c2 := h.blk.cell 2
  have c1 := h.blk.cell 1
  simp [hd] at c2 c1
  have hx' : ((x.size : Int) != 256) = false := by simp [hx]
  have hPut := Lib.hid (fun w1 tmp g cap => h.put (w1 := w1) (tmp := tmp) (g := g) (cap := cap) hi hx)
  have hwait := h.wait
  clear hx h
  go_enter Try.func66, Try.ntmps66
  go_wp2_with (first
    | (go_at_call 97; ((with_reducible refine hIs.out.mono ?_); rintro e w' ⟨rfl, rfl⟩))
    | (at_builtin; go_must (refine wpList_app1 (by rfl) _ _ 57 (by rfl) B 115 (.agg #[.int .i64 0, .string .empty]) 2 24 Try.underlying57 info_rwrite rfl (by decide) wv s.wait.length (wcells s.wait) W hwait hB (by rfl) #[.int .i64 (i : Int), .string x] 115 (by rfl) rfl (by simp [Value.oneCell']) hw (by decide) ?_; intro g cap w1 hown' hgrow hat hg; have ⟨b1, hW2⟩ := hPut.out w1 _ g cap hown' hgrow hat hg; have q1 := b1.cell 1; have z1 := b1.frozen 1; simp at q1; have ⟨hD, st⟩ := hW2 _ rfl; have hAct := Lib.hid (refAct_any (RefAt.of hD) hd ha hr)))
    | (go_at_call 98; ((with_reducible refine hAct.out.mono ?_); rintro e w' ⟨rfl, hA, sA⟩)))
  all_goals
    rename_i hdn
    clear hPut hW2
    go_ret
    refine ⟨ret_int ?_, _, hA, st.trans sA⟩
    first | exact (Pl.Dv.err_down hdn).symm | exact (Pl.Dv.err_up hdn).symm

set_option maxRecDepth 100000 in
theorem refSync_dead (h : RefAt B r s fp W) (hd : s.down = true) : Calls Try.prog 68 #[.pointer (some ⟨r, 0, none⟩)] W fun e w' => e = .returned (.int .i64 4) ∧ W = w' := by
  obtain ⟨sv, wv, h⟩ := h
  have c2 := h.blk.cell 2
  simp [hd] at c2
  go_enter Try.func68, Try.ntmps68
  go_wp2
  go_ret
  exact ⟨rfl, rfl⟩
set_option maxRecDepth 100000 in
theorem refSync_gone (h : RefAt B r s fp W) (hd : s.down = false) (ha : s.acts < 9223372036854775807) (hr : s.armed ≤ 9223372036854775807) (hg : s.act.down = true) : Calls Try.prog 68 #[.pointer (some ⟨r, 0, none⟩)] W fun e w' => e = .returned (.int .i64 4) ∧ RefAt B r s.act fp w' ∧ Step fp fp W w' := by
  have hAct := refAct_any h hd ha hr
  rw [hg] at hAct
  replace hAct := Lib.hid hAct
  obtain ⟨sv, wv, h⟩ := h
  have c2 := h.blk.cell 2
  simp [hd] at c2
  clear h
  go_enter Try.func68, Try.ntmps68
  go_wp2_with (go_at_call 98; ((with_reducible refine hAct.out.mono ?_); rintro e w' ⟨rfl, hA, sA⟩))
  go_ret
  exact ⟨rfl, hA, sA⟩
set_option maxRecDepth 100000 in
set_option maxHeartbeats 1000000 in
theorem refSync_ok (h : RefAt B r s fp W) (hd : s.down = false) (ha : s.acts < 9223372036854775807) (hr : s.armed ≤ 9223372036854775807) (hg : s.act.down = false) (hw : s.wait.length ≤ 9223372036854775807) : Calls Try.prog 68 #[.pointer (some ⟨r, 0, none⟩)] W fun e w' => e = .returned (.int .i64 0) ∧ RefAt B r s.act.flush fp w' ∧ Step fp fp W w' := by
  have hAct := refAct_any h hd ha hr
  rw [hg] at hAct
  replace hAct := Lib.hid hAct
  obtain ⟨sv', wv', h⟩ := h
  have c2 := h.blk.cell 2
  simp [hd] at c2
  clear h
  go_enter Try.func68, Try.ntmps68
  go_wp2_with (go_at_call 98; ((with_reducible refine hAct.out.mono ?_); rintro e w1 ⟨rfl, ⟨sv, wv, hA⟩, sA⟩))
  have hk1 := hA.wf.wait
  obtain ⟨ao, cap, rfl, _⟩ := hA.wait_at
  go_loopw [4] (fun i wr => ∃ k : Nat, k ≤ s.wait.length ∧ i = .int .i64 k ∧ RefO B r sv (.slice ao s.wait.length cap) (s.act.ws (Pl.setAll s.safe (s.wait.take k))) fp wr ∧ Step fp fp w1 wr) (fun i _ => s.wait.length - (intOf i).toNat)
  case atStart => exact ⟨0, by omega, rfl, hA, Step.refl hA.lt⟩
  case round =>
    obtain ⟨k, hk, rfl, hD, st⟩ := hrel
    have c1 := hD.blk.cell 1
    simp at c1
    clear hA
    by_cases h3 : k < s.wait.length
    · obtain ⟨ao', cap', e1, hat⟩ := hD.wait_at
      obtain ⟨g, e2, hat2⟩ := hat (by show 0 < s.wait.length; omega)
      cases e1
      subst e2
      have hx : wr.cell? ⟨g, k * 2, none⟩ = some (.int .i64 (s.wait[k].1 : Int)) ∧ wr.cell? ⟨g, k * 2 + 1, none⟩ = some (.string s.wait[k].2) := hat2 k h3
      have hpw := hk1 s.wait[k] (List.getElem_mem h3)
      have hnx := Lib.hid (Pl.setAll_take (l := s.safe) h3)
      have hll := Pl.setAll_length (s.wait.take k) s.safe
      clear hat hat2 hk1
      generalize s.wait[k] = p at hx hpw hnx
      obtain ⟨i, x⟩ := p
      obtain ⟨x0, x1⟩ := hx
      obtain ⟨hi, hxs⟩ := hpw
      replace hi : i < (Pl.setAll s.safe (s.wait.take k)).length := by rw [hll]; exact hi
      generalize Pl.setAll s.safe (s.wait.take k) = l at *
      obtain ⟨gs, cs, hsv⟩ := hD.safe_form (by show 0 < l.length; omega)
      replace hsv : sv = .slice (some ⟨gs, 0, none⟩) l.length cs := hsv
      subst hsv
      have c0 : wr.cell? ⟨r, 0, none⟩ = some (.slice (some ⟨gs, 0, none⟩) l.length cs) := hD.blk.cell 0
      have c1' : wr.cell? ⟨r, 1, none⟩ = some (.slice (some ⟨g, 0, none⟩) s.wait.length cap) := hD.blk.cell 1
      have cS : wr.cell? ⟨gs, i, none⟩ = some (.string (l[i]'hi)) := by
        have := hD.safe.cellAt i (by show i < l.length * 1; omega)
        rw [this]; exact scells_get l i hi
      have zS := hD.safe.frozenAt i
      obtain ⟨hD2, st2⟩ := hD.setSafe (i := i) rfl hxs
      have hD3 := hD2.drewN 1
      have st3 := st2.drewW 1
      clear hD hD2 st2 c1
      go_wp2
      go_region
      go_wp2
      go_roundw
      case rel => exact ⟨k + 1, by omega, by go_num, by rw [hnx.out]; exact hD3, st.trans st3⟩
      case measure => simp [intOf]; omega
    · obtain rfl : k = s.wait.length := by omega
      rw [List.take_of_length_le (Nat.le_refl _)] at hD
      have z1 := hD.blk.frozen 1
      have b1 := hD.blk.set 1 (.slice none 0 0)
      simp at b1
      obtain ⟨hE, sE⟩ := hD.clean (s' := s.act.flush) (keep_r _ _ 1 (.slice none 0 0)) rfl rfl b1
      clear b1 hD
      go_wp2
      go_ret
      exact ⟨rfl, RefAt.of hE, (sA.trans st).trans sE⟩
end Go.Proofs.Ytndekdgpibipnaa
