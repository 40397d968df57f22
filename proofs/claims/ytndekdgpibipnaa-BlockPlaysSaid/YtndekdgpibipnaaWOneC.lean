
/- Walks: a loss of power, met by both disks. Condition: lengths that memory lets. -/
import Derived.Test.YtndekdgpibipnaaWOne
import Derived.Test.YtndekdgpibipnaaLBlockSafe
import Derived.Laws.CopyOwn
namespace Go.Proofs.Ytndekdgpibipnaa
open Go.RowKit

set_option linter.unusedVariables false
variable {B d r n k : Nat} {s : Pl.Dv} {fd fr : Nat → Prop} {W : World}
theorem splice_whole {α : Type} (L cs : List α) (h : L.length = cs.length) : splice L 0 cs = cs := by simp [splice, h]
theorem info_bool1 : (Try.prog.info? 4).map (·.size) = some 1 := by kernel_rfl
theorem boolsAt_blk {w : World} {g cap : Nat} {l : List Bool} (h : Blk w g (tcells l).toArray 4) (hc : l.length ≤ cap) (hc2 : cap ≤ 9223372036854775807) : BoolsAt w (.slice (some ⟨g, 0, none⟩) l.length cap) l :=
  ⟨_, cap, rfl, hc, hc2, fun _ => ⟨g, 0, rfl, h.lt, fun i hi => by rw [Nat.zero_add]; exact blk_tcell h hi⟩⟩
theorem tcells_get {l : List Bool} {j : Nat} {v : Value} (h : (tcells l)[j]? = some v) : ∃ hj : j < l.length, v = .bool l[j] := by
  unfold tcells at h
  rw [List.getElem?_map] at h
  cases hj : l[j]? with
  | none => rw [hj] at h; cases h
  | some x =>
    rw [hj] at h
    obtain ⟨h1, h2⟩ := List.getElem?_eq_some_iff.1 hj
    exact ⟨h1, by simp at h; rw [← h, h2]⟩

set_option maxRecDepth 100000 in
set_option maxHeartbeats 2000000 in
theorem one_crash (h : Two B d r s s fd fr W) (hF : Pl.Fine n k s) (hn1 : 40 ≤ n) (hn2 : n ≤ 16384) (hk : k ≤ 5864062014632) (c : AcT) (u : Value) (hB : B ≤ W.heap.size) (hu : BoolsAt W u c.keep) (hub : 0 < c.keep.length → ∀ b, u.ownBlock = some b → b < B) (hkl : c.keep.length ≤ 140737488355328) :
    Calls Try.prog 30 #[.pointer (some ⟨d, 0, none⟩), .pointer (some ⟨r, 0, none⟩), .agg #[.int .i64 4, .int .i64 c.at', .int .i64 c.num, u]] W fun e w' => e = .returned (.bool true) ∧ ∃ s' fd' fr', Two B d r s' s' fd' fr' w' ∧ Pl.Fine n (k + 1) s' ∧ Below B W w' := by
  have hA0 : Below W.heap.size W (W.alloc (.cells #[.int .i64 4, .int .i64 c.at', .int .i64 c.num, u] 30)) := (Below.refl _ W).alloc (Nat.le_refl _) _
  have h0 := h.beyond hA0
  have hP := Blk.new W #[.int .i64 4, .int .i64 c.at', .int .i64 c.num, u] 30
  have nd : ¬ fd W.heap.size := fun e => by have := h.1.lt _ e; omega
  have nr : ¬ fr W.heap.size := fun e => by have := h.2.1.lt _ e; omega
  have hb0 : Below B W (W.alloc (.cells #[.int .i64 4, .int .i64 c.at', .int .i64 c.num, u] 30)) := hA0.mono hB
  have hu0 := hu.below hA0
  have hz0 : (W.alloc (.cells #[.int .i64 4, .int .i64 c.at', .int .i64 c.num, u] 30)).heap.size = W.heap.size + 1 := by simp
  obtain ⟨W0, hW0⟩ : ∃ W0, W0 = (W.alloc (.cells #[.int .i64 4, .int .i64 c.at', .int .i64 c.num, u] 30)) := ⟨_, rfl⟩
  rw [← hW0] at hA0 h0 hP hb0 hu0 hz0
  obtain ⟨au, capu, rfl, e1, e2, hcu⟩ := id hu0
  have hmk := make_bools c.keep.length (by omega)
  have hP1 : Blk (W0.alloc (.cells (tcells (List.replicate c.keep.length false)).toArray 4)) W.heap.size #[.int .i64 4, .int .i64 c.at', .int .i64 c.num, .slice au c.keep.length capu] 30 := hP.alloc _
  have p31 := hP1.cell 3
  simp at p31
  have hG : Blk (W0.alloc (.cells (tcells (List.replicate c.keep.length false)).toArray 4)) (W.heap.size + 1) (tcells (List.replicate c.keep.length false)).toArray 4 := by rw [← hz0]; exact Blk.new W0 _ _
  have hb1 : Below (W.heap.size + 1) W0 (W0.alloc (.cells (tcells (List.replicate c.keep.length false)).toArray 4)) := by rw [← hz0]; exact (Below.refl _ _).alloc (Nat.le_refl _) _
  replace hG : (W0.alloc (.cells (tcells (List.replicate c.keep.length false)).toArray 4)).heap[W.heap.size + 1]? = some (.cells (tcells (List.replicate c.keep.length false)).toArray 4 (0, 0)) := hG
  rw [hW0] at p31 hG hb1
  go_enter Try.func30, Try.ntmps30
  go_wp2_with (with_reducible refine wpList_copy_splice rfl _ _ 28 28 rfl 4 Try.underlying28 info_bool1 (some ⟨W.heap.size + 1, 0, none⟩) au c.keep.length c.keep.length c.keep.length capu rfl rfl (W.heap.size + 1) 0 (tcells (List.replicate c.keep.length false)) 4 hG (tcells c.keep) ?c1 ?c2 ?c3 ?c4 (W.heap.size + 1) _ hb1 (Nat.le_refl _) ?c6)
  case c1 => simp [tcells]
  case c2 =>
    intro h0'
    obtain ⟨b, off, rfl, hlt, hc⟩ := hcu (by simpa [tcells] using h0')
    refine ⟨_, rfl, fun j v hj => ?_⟩
    obtain ⟨hj', rfl⟩ := tcells_get hj
    rw [Go.WideShapes.add_plain]
    exact (hb1.cell (p := ⟨b, off + j, none⟩) (show b < W.heap.size + 1 by omega)).trans (by first | exact hc j hj' | (rw [← hW0]; exact hc j hj'))
  case c3 => simp [tcells]
  case c4 =>
    intro v hv
    obtain ⟨x, _, rfl⟩ := List.mem_map.1 hv
    rfl
  case c6 =>
    intro w1 hg b1
    rw [← hW0] at b1
    have b1 : Below W0.heap.size W0 w1 := by rw [hz0]; exact b1
    have hK : Blk w1 (W.heap.size + 1) (tcells c.keep).toArray 4 := by
      have := hg.out
      rwa [splice_whole _ _ (by simp [tcells])] at this
    have h1 := h0.beyond b1
    have P1 := hP.keep (f := fun _ => True) (Keep.of_below b1 (fun _ _ h => h)) trivial
    have bb1 := hb0.trans (b1.mono (Nat.le_trans hB hb0.size))
    have q11 := P1.cell 1
    have q12 := P1.cell 2
    have q13 := P1.cell 3
    simp at q11 q12 q13
    have kd : ¬ fd (W.heap.size + 1) := fun e => by have := h.1.lt _ e; omega
    have kr : ¬ fr (W.heap.size + 1) := fun e => by have := h.2.1.lt _ e; omega
    have hwl := hF.wait
    have hel := hF.epoch
    have hC1 := Lib.hid (crash_any h1.1 _ c.keep (boolsAt_blk hK (Nat.le_refl _) (by omega)) (fun _ b e => by
      have e' : W.heap.size + 1 = b := by simpa [Value.ownBlock] using e
      exact e' ▸ kd) c.at' c.num (by omega) (by omega))
    clear hg hG hb1 p31 hmk hP1
    go_wp2_with (first
      | (go_at_call 20; ((with_reducible refine hC1.out.mono ?_); rintro e w2 ⟨⟨_, rfl⟩, hD2, st2⟩; have h2 := h1.dev hD2 st2; have P2 := P1.keep st2.keep nd; have K2 := hK.keep st2.keep kd; have bb2 := below_step bb1 hB h1.1 st2; have q21 := P2.cell 1; have q22 := P2.cell 2; have q23 := P2.cell 3; simp at q21 q22 q23; have hu2 : BoolsAt w2 (.slice au c.keep.length capu) c.keep := hu.kept bb2.size (fun h0' b _ e => bb2.block b (hub h0' b e)); have hC2 := Lib.hid (refCrash_any h2.2.1 _ c.keep hu2 (fun h0' b e hf => by have := hub h0' b e; have := h2.2.1.fpB b hf; omega) c.at' c.num (by omega) (by omega))))
      | (go_at_call 31; ((with_reducible refine hC2.out.mono ?_); rintro e w3 ⟨⟨_, rfl⟩, hR3, st3⟩; have h3 := h2.ref hR3 st3; have P3 := P2.keep st3.keep nr; have K3 := K2.keep st3.keep kr; have bb3 := ref_below_step bb2 hB h2.2.1 st3)))
    have hu3 : BoolsAt w3 (.slice au c.keep.length capu) c.keep := hu.kept bb3.size (fun h0' b _ e => bb3.block b (hub h0' b e))
    clear hC1 hC2 hu2 st2 st3 hD2 hR3 h2 P2 K2 bb2 h1 P1 hK bb1 b1 hu0 hcu hA0 h0 hP hb0 hW0
    go_loopw [17] (fun j wr => ∃ i q : Nat, i ≤ c.keep.length ∧ j = .int .i64 i ∧ wr = w3.drewN q) (fun j _ => c.keep.length - (intOf j).toNat)
    case atStart => exact ⟨0, 0, by omega, rfl, rfl⟩
    case round =>
      obtain ⟨i, q, hi, rfl, rfl⟩ := hrel
      by_cases hi1 : i < c.keep.length
      · obtain ⟨_, _, e4, _, _, hc3⟩ := hu3
        cases e4
        obtain ⟨b, off, rfl, hlt, hc⟩ := hc3 (by omega)
        have x1 := hc i hi1
        have x2 := blk_tcell K3 hi1
        have x3 := P3.cell 3
        simp at x3
        clear hc hc3
        go_wp2
        go_quiet (fail)
        go_wp2
        go_roundw
        case rel => exact ⟨i + 1, _, by omega, by go_num, rfl⟩
        case measure => simp [intOf]; omega
      · go_wp2
        go_ret
        exact ⟨rfl, _, _, _, h3.beyond (((Q.refl w3).drewN q).below _), hF.crash _ _ _, bb3.trans (((Q.refl w3).drewN q).below _)⟩
end Go.Proofs.Ytndekdgpibipnaa
