
/- Walks: a disk of blocks in memory: writes. Condition: lengths that memory lets. -/
import Derived.Test.YtndekdgpibipnaaWDev
import Derived.Test.YtndekdgpibipnaaApp1
import Derived.Test.YtndekdgpibipnaaPlainDv2
namespace Go.Proofs.Ytndekdgpibipnaa
open Go.RowKit

theorem info_write : (Try.prog.info? 95).map (fun i => (i.zero, i.size, i.bytes)) = some (some (.agg #[.int .i64 0, .string .empty]), 2, 24) := by kernel_rfl

variable {B d gs cs m : Nat} {vp : Value} {s : Pl.Dv} {fp : Nat → Prop} {W W' : World}

set_option maxRecDepth 100000 in
theorem write_dead (i : Int) (x : ByteArray) (h : DevAt B d s fp W) (hd : s.down = true) : Calls Try.prog 15 #[.pointer (some ⟨d, 0, none⟩), .int .i64 i, .string x] W fun e w' => e = .returned (.int .i64 4) ∧ W = w' := by
  obtain ⟨gs, cs, vp, m, h⟩ := h
  have c3 := h.blk.cell 3
  simp [hd] at c3
  go_enter Try.func15, Try.ntmps15
  go_wp2
  go_ret
  exact ⟨rfl, rfl⟩

set_option maxRecDepth 100000 in
theorem write_bad (i : Int) (x : ByteArray) (h : DevAt B d s fp W) (hd : s.down = false) (hi : i < 0 ∨ (s.safe.length : Int) ≤ i) : Calls Try.prog 15 #[.pointer (some ⟨d, 0, none⟩), .int .i64 i, .string x] W fun e w' => e = .returned (.int .i64 1) ∧ W = w' := by
  obtain ⟨gs, cs, vp, m, h⟩ := h
  have c3 := h.blk.cell 3
  have c0 := h.blk.cell 0
  simp [hd] at c3 c0
  by_cases h0 : i < 0
  · clear hi
    go_enter Try.func15, Try.ntmps15
    go_wp2
    go_ret
    exact ⟨rfl, rfl⟩
  · have h1 : (s.safe.length : Int) ≤ i := by omega
    clear hi
    go_enter Try.func15, Try.ntmps15
    go_wp2
    go_ret
    exact ⟨rfl, rfl⟩

set_option maxRecDepth 100000 in
theorem write_size (i : Int) (x : ByteArray) (h : DevAt B d s fp W) (hd : s.down = false) (hx : x.size ≠ 256) : Calls Try.prog 15 #[.pointer (some ⟨d, 0, none⟩), .int .i64 i, .string x] W fun e w' => e = .returned (.int .i64 1) ∧ W = w' := by
  by_cases hi : i < 0 ∨ (s.safe.length : Int) ≤ i
  · exact write_bad i x h hd hi
  obtain ⟨gs, cs, vp, m, h⟩ := h
  have c3 := h.blk.cell 3
  have c0 := h.blk.cell 0
  simp [hd] at c3 c0
  have h0 : 0 ≤ i := by omega
  have h1 : i < (s.safe.length : Int) := by omega
  have hx' : ((x.size : Int) != 256) = true := by simp; omega
  clear hi hx
  go_enter Try.func15, Try.ntmps15
  go_wp2
  go_ret
  exact ⟨rfl, rfl⟩

/-- what is awaited, one more -/
theorem DevO.put (h : DevO B d gs cs vp m s fp W) {w1 : World} {tmp : Obj} {i g cap : Nat} {x : ByteArray} (hi : i < s.safe.length) (hx : x.size = 256)
    (hown' : w1.ownsRow B 95 2 (.slice (some ⟨g, 0, none⟩) (s.wait.length + 1) cap) (s.wait.length + 1) (wcells s.wait ++ (#[Value.int .i64 (i : Int), .string x] : Array Value).toList)) (hgrow : (W.alloc tmp).grownBy w1 vp.ownBlock) (hat : vp.ownBlock = some g ∨ W.heap.size ≤ g) (hg : g < w1.heap.size) :
    Blk w1 d #[.slice (some ⟨gs, 0, none⟩) s.safe.length cs, vp, .map (some m), .bool s.down, .int .i64 (s.armed : Int), .int .i64 (s.acts : Int), .int .i64 (s.epoch : Int)] 92 ∧
    ∀ W2, W2 = w1.setCell ⟨d, 1, none⟩ (.slice (some ⟨g, 0, none⟩) (s.wait.length + 1) cap) →
      Blk W2 d #[.slice (some ⟨gs, 0, none⟩) s.safe.length cs, .slice (some ⟨g, 0, none⟩) (s.wait.length + 1) cap, .map (some m), .bool s.down, .int .i64 (s.armed : Int), .int .i64 (s.acts : Int), .int .i64 (s.epoch : Int)] 92 ∧
      W2.ownsMap Try.prog 3 (plainElem (H := Unit) Try.prog 9) m s.wait.length (mapOf s.wait) ∧
      ∀ Wm, Wm.ownsMap Try.prog 3 (plainElem (H := Unit) Try.prog 9) m (s.wait.length + 1) ((mapOf s.wait).put (.int .i64 (i : Int)) (.lit (.string x.data.toList))) → W2.mapTurned Wm m →
        DevO B d gs cs (.slice (some ⟨g, 0, none⟩) (s.wait.length + 1) cap) m (s.put i x) (fun k => fp k ∨ k = g) Wm ∧ Step fp (fun k => fp k ∨ k = g) W Wm := by
  have n1 := h.blk.not_row (by decide) h.safe
  have n2 := h.blk.not_row (by decide) h.wait
  have n3 := map_not_blk h.map h.blk
  have n4 := map_not_row h.map h.wait
  have n5 := map_not_row h.map h.safe
  have hne : ∀ k, vp.ownBlock = some k → k ≠ gs := fun k e e2 => rows_apart h.wait h.safe (by decide) e (by rw [e2]; rfl)
  have b1 := (h.blk.alloc tmp).kept hgrow n2
  have s1 := (h.safe.alloc tmp).kept hgrow (.inr (fun e => hne gs e.symm rfl))
  have m1 := (h.map.alloc tmp).kept hgrow n4
  refine ⟨b1, ?_⟩
  rintro W2 rfl
  have hgd : g ≠ d := fun e => b1.not_row (by decide) hown' (by rw [← e]; rfl)
  have hgm : m ≠ g := fun e => map_not_row m1 hown' (by rw [e]; rfl)
  have b2 := b1.set 1 (.slice (some ⟨g, 0, none⟩) (s.wait.length + 1) cap)
  simp at b2
  have kd := keep_d w1 d 1 (.slice (some ⟨g, 0, none⟩) (s.wait.length + 1) cap)
  have s2 := kd.ownsRow s1 (fun k e => (show gs = k by simpa [Value.ownBlock] using e) ▸ (fun e => n1 (by rw [← e]; rfl)))
  have w2 := kd.ownsRow hown' (fun k e => (show g = k by simpa [Value.ownBlock] using e) ▸ hgd)
  have m2 := ownsMap_keep m1 kd n3
  refine ⟨b2, m2, fun Wm hm ht => ?_⟩
  have hG := ht.grown
  have b3 := b2.kept hG (by simpa using n3.symm)
  have s3 := s2.kept hG (.inr (fun e => n5 e.symm))
  have w3 := w2.kept hG (.inr (fun e => hgm (by simpa [Value.ownBlock] using e.symm)))
  have hk : Keep (fun k => ¬ fp k) W Wm := ((((Keep.refl _ W).alloc tmp).grown hgrow (fun k e h1 _ => h1 (h.fvp k e))).setCell _ _ _ (fun h1 _ => h1 h.fd)).trans (Keep.of_grownBy hG (fun k e _ hn => by cases e; exact hn h.fm)) (fun _ h _ => h)
  have hz : w1.heap.size ≤ Wm.heap.size := by have := hG.size; rwa [show (w1.setCell ⟨d, 1, none⟩ (.slice (some ⟨g, 0, none⟩) (s.wait.length + 1) cap)).heap.size = w1.heap.size from by simp [World.setCell]] at this
  have hlt : ∀ k, (fp k ∨ k = g) → k < Wm.heap.size := by
    rintro k (hk1 | rfl)
    · exact Nat.lt_of_lt_of_le (h.lt k hk1) hk.size
    · exact Nat.lt_of_lt_of_le hg hz
  refine ⟨⟨b3, s3, ?_, ?_, .inl h.fd, .inl h.fgs, fun k e => .inr (by simpa [Value.ownBlock] using e.symm), .inl h.fm, hlt, ?_, h.wf.put hi hx⟩, hk, ?_, hlt⟩
  · show Wm.ownsRow B _ 2 _ (s.wait ++ [(i, x)]).length (wcells (s.wait ++ [(i, x)]))
    rw [List.length_append, List.length_singleton, wcells_append]
    exact w3
  · show Wm.ownsMap _ _ _ m (s.wait ++ [(i, x)]).length (mapOf (s.wait ++ [(i, x)]))
    rw [List.length_append, List.length_singleton, mapOf_snoc]
    exact hm
  · rintro k (hk1 | rfl)
    · exact h.low k hk1
    · exact (hown'.lt k rfl).1
  · rintro k (hk1 | rfl)
    · exact .inl hk1
    · exact hat.imp (h.fvp _) id

set_option maxRecDepth 100000 in
theorem write_ok (i : Nat) (x : ByteArray) (h : DevAt B d s fp W) (hd : s.down = false) (hi : i < s.safe.length) (hx : x.size = 256) (hB : B ≤ W.heap.size) (hl : s.safe.length ≤ 9223372036854775807) (hw : (s.wait.length + 1) * 24 ≤ 140737488355328) (ha : s.acts < 9223372036854775807) (hr : s.armed ≤ 9223372036854775807) :
    Calls Try.prog 15 #[.pointer (some ⟨d, 0, none⟩), .int .i64 (i : Int), .string x] W fun e w' => e = .returned (.int .i64 (s.put i x).act.err) ∧ ∃ fp', DevAt B d (s.put i x).act fp' w' ∧ Step fp fp' W w' := by
  obtain ⟨gs, cs, vp, m, h⟩ := h
  have c3 := h.blk.cell 3
  have c0 := h.blk.cell 0
  have c1 := h.blk.cell 1
  simp [hd] at c3 c0 c1
  have hx' : ((x.size : Int) != 256) = false := by simp [hx]
  have hPut := Lib.hid (fun w1 tmp g cap => h.put (w1 := w1) (tmp := tmp) (g := g) (cap := cap) hi hx)
  have hwait := h.wait
  have hkey : keyOf Try.prog 3 (.int .i64 (i : Int)) = some (.int .i64 (i : Int)) := Maps.keyOf_int_mk Try.underlying3 (by simp [Lit.wf, IntKind.min, IntKind.max, IntKind.signed, IntKind.bits]; omega)
  have hval : plainElem (H := Unit) Try.prog 9 (.string x) = some (.lit (.string x.data.toList), []) := plainElem_string Try.underlying9 (by unfold maxLen; omega)
  have hn : s.wait.length < maxLen := by unfold maxLen; omega
  clear hx h
  go_enter Try.func15, Try.ntmps15
  go_wp2_with (first
    | (at_builtin; go_must (refine wpList_app1 (by rfl) _ _ 90 (by rfl) B 95 (.agg #[.int .i64 0, .string .empty]) 2 24 Try.underlying90 info_write rfl (by decide) vp s.wait.length (wcells s.wait) W hwait hB (by rfl) #[.int .i64 (i : Int), .string x] 95 (by rfl) rfl (by simp [Value.oneCell']) hw (by decide) ?_; intro g cap w1 hown' hgrow hat hg; have ⟨b1, hW2⟩ := hPut.out w1 _ g cap hown' hgrow hat hg; have q1 := b1.cell 1; have z1 := b1.frozen 1; simp at q1; have ⟨b2, m2, hW3⟩ := hW2 _ rfl; have q2 := b2.cell 2; simp at q2; replace hW3 := Lib.hid hW3))
    | (at_mapUpdate; go_must (refine wpList_mapUpdate_in _ rfl _ _ _ 89 rfl 3 9 (Maps.int_keyed Try.underlying3) Try.underlying89 _ m s.wait.length _ rfl m2 hn _ _ _ rfl rfl hkey _ [] hval ?_; intro Wm hm ht; have ⟨hD, st⟩ := hW3.out Wm hm ht; have hAct := Lib.hid (act_any (DevAt.of hD) ha hr)))
    | (go_at_call 51; ((with_reducible refine hAct.out.mono ?_); rintro e w' ⟨rfl, hA, sA⟩)))
  all_goals
    rename_i hdn
    clear hPut hW2 hW3
    go_ret
    refine ⟨ret_int ?_, _, hA, st.trans sA⟩
    first | exact (Pl.Dv.err_down hdn).symm | exact (Pl.Dv.err_up hdn).symm
end Go.Proofs.Ytndekdgpibipnaa
