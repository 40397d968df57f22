
/- Walk: a table more in a level. Condition: the level is none below 0, the row is short enough. -/
import Derived.Test.YtekfaodjadinnaaWTb3
import Derived.Laws.AppendOwnNone
namespace Go.Proofs.Ytekfaodjadinnaa
open Go.RowKit

namespace Pl
def before (t y : Tb) : Bool := if t.level = 0 then decide (y.num < t.num) else Op.bytesLess y.least.toList t.least.toList
/-- a table more -/
def put (l : List Tb) (t : Tb) : List Tb := l.takeWhile (before t) ++ [t] ++ l.dropWhile (before t)
theorem take_while_eq {α : Type} {p : α → Bool} : ∀ (l : List α) (k : Nat), k ≤ l.length → (∀ j (h : j < l.length), j < k → p l[j] = true) → (∀ h : k < l.length, p l[k] = false) → l.takeWhile p = l.take k ∧ l.dropWhile p = l.drop k
  | [], k, hk, _, _ => by simp
  | x :: l, 0, _, _, h => by
    have := h (by simp)
    simp only [List.getElem_cons_zero] at this
    simp [List.takeWhile_cons, List.dropWhile_cons, this]
  | x :: l, k + 1, hk, h1, h2 => by
    have h0 := h1 0 (by simp) (by omega)
    simp only [List.getElem_cons_zero] at h0
    have ih := take_while_eq (p := p) l k (by simpa using hk) (fun j hj hjk => h1 (j + 1) (Nat.succ_lt_succ hj) (by omega)) (fun h => h2 (Nat.succ_lt_succ h))
    simp [List.takeWhile_cons, List.dropWhile_cons, h0, ih.1, ih.2]
theorem put_length (l : List Tb) (t : Tb) : (put l t).length = l.length + 1 := by
  unfold put
  have := congrArg List.length (List.takeWhile_append_dropWhile (p := before t) (l := l))
  simp only [List.length_append, List.length_cons, List.length_nil] at *
  omega
theorem mem_put {l : List Tb} {t x : Tb} (h : x ∈ put l t) : x ∈ l ∨ x = t := by
  unfold put at h
  rcases List.mem_append.1 h with h | h
  · rcases List.mem_append.1 h with h | h
    · exact .inl (List.takeWhile_sublist _ |>.subset h)
    · exact .inr (List.mem_singleton.1 h)
  · exact .inl (List.dropWhile_sublist _ |>.subset h)
end Pl

set_option maxRecDepth 100000 in
/-- 'append(v, u...)' of tables -/
theorem wpList_appT {ops : Array Oper} {rest : List Oper} {o : Oper} {a : Act} {Q : Exit → Act → World → Prop} (hgd : o.guard = none) (s x : Operand)
    (ho : o.op = .call { callee := .builtin .append, args := #[s, x], argTypes := #[27, 27] })
    (B : Nat) (v u : Value) (xs ys : List Pl.Tb) (w : World) (hr : TOwn w B v xs) (hB : B ≤ w.heap.size) (hs : a.eval s = v) (hu : TbsAt w u ys) (hx : a.eval x = u) (hlen : (xs.length + ys.length) * 64 ≤ 140737488355328)
    (h : ∀ v' w', TOwn w' B v' (xs ++ ys) → w.grownBy w' v.ownBlock → wpList Try.prog ops Q rest (a.put o.dst v') w') : wpList Try.prog ops Q (o :: rest) a w := by
  obtain ⟨i, hi', hz0, hz1, hz2⟩ := info_parts info_table
  obtain ⟨ao, cap, rfl, h1, h2, hn, hc⟩ := hu
  rcases hn with ⟨rfl, rfl⟩ | ⟨b0, off0, rfl⟩
  · obtain rfl : ys = [] := List.eq_nil_of_length_eq_zero (by omega)
    exact wpList_append_own_none hgd s x 27 ho B 40 i 6 Try.underlying27 hi' v xs.length (tcells xs) hs hr hx (h v w (by rw [List.append_nil]; exact hr) ⟨rfl, rfl, rfl, Nat.le_refl _, fun _ _ _ => rfl⟩)
  · refine wpList_append_own w hgd s x 27 ho B 40 i (.agg #[.int .u64 0, .int .i64 0, .int .i64 0, .int .i64 0, .string .empty, .string .empty]) 6 64 Try.underlying27 hi' hz0 hz1 hz2 rfl (by decide) v xs.length (tcells xs) hs hr ⟨b0, off0, none⟩ ys.length cap (tcells ys) hx (by rw [tcells_length]) ?_ (tcells_one ys) (by unfold maxLen; omega) hlen hB ?_
    · intro j u hj
      have hlt : j < (tcells ys).length := (List.getElem?_eq_some_iff.1 hj).1
      rw [tcells_length] at hlt
      obtain ⟨b, off, e, hbl, hxx⟩ := hc (by omega)
      injection e with e
      injection e with e5 e6
      subst e5 e6
      have hi : j / 6 < ys.length := by omega
      have hj6 : j % 6 < 6 := Nat.mod_lt _ (by decide)
      have hg := tcells_get ys (j / 6) hi (j % 6) hj6
      rw [show j / 6 * 6 + j % 6 = j by omega, hj] at hg
      have := (hxx (j / 6) hi).get (j % 6) u hg.symm
      rw [Addr.add_lit, show off0 + j = off0 + j / 6 * 6 + j % 6 by omega]
      exact this
    · intro v' w' ho' hg _
      refine h v' w' ?_ hg
      unfold TOwn
      rw [tcells_append, List.length_append]
      exact ho'

/-- a table in a box of its own -/
def TBox (W : World) (b : Nat) (t : Pl.Tb) : Prop := W.heap[b]? = some (.cells #[.int .u64 (t.num : Int), .int .i64 t.level, .int .i64 t.size, .int .i64 t.count, .string t.least, .string t.greatest] 40 (0, 0))
theorem TBox.lt {W : World} {b : Nat} {t : Pl.Tb} (h : TBox W b t) : b < W.heap.size := (Array.getElem?_eq_some_iff.1 h).1
theorem TBox.cells {W : World} {b : Nat} {t : Pl.Tb} (h : TBox W b t) : W.cell? ⟨b, 0, none⟩ = some (.int .u64 (t.num : Int)) ∧ W.cell? ⟨b, 1, none⟩ = some (.int .i64 t.level) ∧ W.cell? ⟨b, 2, none⟩ = some (.int .i64 t.size) ∧ W.cell? ⟨b, 3, none⟩ = some (.int .i64 t.count) ∧ W.cell? ⟨b, 4, none⟩ = some (.string t.least) ∧ W.cell? ⟨b, 5, none⟩ = some (.string t.greatest) := by
  unfold TBox at h
  refine ⟨?_, ?_, ?_, ?_, ?_, ?_⟩ <;> simp [World.cell?, h]
theorem TBox.keep {W W' : World} {b : Nat} {t : Pl.Tb} (h : TBox W b t) {fp : Nat → Prop} (hk : Keep fp W W') (hf : fp b) : TBox W' b t := (hk.block b hf h.lt).trans h
theorem TBox.below {W W' : World} {b : Nat} {t : Pl.Tb} (h : TBox W b t) (hb : Below W.heap.size W W') : TBox W' b t := (hb.block b h.lt).trans h
theorem tcells_one_app (l : List Pl.Tb) (t : Pl.Tb) : tcells l ++ (#[Value.int .u64 (t.num : Int), .int .i64 t.level, .int .i64 t.size, .int .i64 t.count, .string t.least, .string t.greatest] : Array Value).toList = tcells (l ++ [t]) := by
  rw [tcells_append]; rfl

set_option maxRecDepth 100000 in
set_option maxHeartbeats 1600000 in
theorem put_any (l : List Pl.Tb) (t : Pl.Tb) (u : Value) (w : World) (hu : TbsAt w u l) (hlv : 0 ≤ t.level) (hlen : l.length ≤ 1073741824) :
    Calls Try.prog 40 #[u, .agg #[.int .u64 (t.num : Int), .int .i64 t.level, .int .i64 t.size, .int .i64 t.count, .string t.least, .string t.greatest]] w fun e w' => ∃ v, e = .returned v ∧ TOwn w' w.heap.size v (Pl.put l t) ∧ Below w.heap.size w w' := by
  have hu0 := hu
  obtain ⟨ao, cap, rfl, h1, h2, hn, hc⟩ := hu
  obtain ⟨W0, hW0⟩ : ∃ W0, w.alloc (.cells #[.int .u64 (t.num : Int), .int .i64 t.level, .int .i64 t.size, .int .i64 t.count, .string t.least, .string t.greatest] 40) = W0 := ⟨_, rfl⟩
  have hb0 : Below w.heap.size w W0 := by rw [← hW0]; exact (Below.refl _ _).alloc (Nat.le_refl _) _
  have hR0 : W0.heap[w.heap.size]? = some (.cells #[.int .u64 (t.num : Int), .int .i64 t.level, .int .i64 t.size, .int .i64 t.count, .string t.least, .string t.greatest] 40 (0, 0)) := by rw [← hW0]; exact World.alloc_heap_new _ _
  have hRlt : w.heap.size < W0.heap.size := (Array.getElem?_eq_some_iff.1 hR0).1
  replace hR0 := Lib.hid hR0
  go_enter Try.func40, Try.ntmps40
  go_wp2
  go_loopw [5] (fun i W' => ∃ k : Nat, k ≤ l.length ∧ i = .int .i64 (k : Int) ∧ Q W0 W' ∧ ∀ j (hj : j < l.length), j < k → Pl.before t l[j] = true) (fun i _ => l.length - (intOf i).toNat)
  case atStart => exact ⟨0, Nat.zero_le _, rfl, Q.refl _, fun j _ h => absurd h (Nat.not_lt_zero _)⟩
  case round =>
    obtain ⟨k, hk, rfl, hq, hall⟩ := hrel
    have hbr : Below W0.heap.size W0 wr := hq.below _
    have hbw : Below w.heap.size w wr := hb0.trans (hbr.mono (by omega))
    have hRr := (hbr.block w.heap.size hRlt).trans hR0.out
    have q0 : wr.cell? ⟨w.heap.size, 0, none⟩ = some (.int .u64 (t.num : Int)) := by simp [World.cell?, hRr]
    have q1 : wr.cell? ⟨w.heap.size, 1, none⟩ = some (.int .i64 t.level) := by simp [World.cell?, hRr]
    have q4 : wr.cell? ⟨w.heap.size, 4, none⟩ = some (.string t.least) := by simp [World.cell?, hRr]
    have hRl : w.heap.size < wr.heap.size := (Array.getElem?_eq_some_iff.1 hRr).1
    replace hRr := Lib.hid hRr
    obtain ⟨bb, hbb⟩ : ∃ bb : Bool, bb = if h : k < l.length then Pl.before t l[k] else false := ⟨_, rfl⟩
    have hnx : Hid (bb = true → k < l.length ∧ ∀ j (hj : j < l.length), j < k + 1 → Pl.before t l[j] = true) := Lib.hid (fun h => by
      by_cases hkl : k < l.length
      · rw [hbb, dif_pos hkl] at h
        refine ⟨hkl, fun j hj hjk => ?_⟩
        rcases Nat.lt_succ_iff_lt_or_eq.1 hjk with h3 | rfl
        · exact hall j hj h3
        · exact h
      · rw [hbb, dif_neg hkl] at h; cases h)
    have hst : Hid (bb = false → Pl.put l t = l.take k ++ [t] ++ l.drop k) := Lib.hid (fun h => by
      obtain ⟨e1, e2⟩ := Pl.take_while_eq (p := Pl.before t) l k hk hall (fun hkl => by rwa [hbb, dif_pos hkl] at h)
      unfold Pl.put; rw [e1, e2])
    clear hall
    obtain ⟨wo, rfl⟩ : ∃ wo : World, wo = wr := ⟨_, rfl⟩
    go_upto_region 2 with (fail)
    go_cut [40] (fun v wx => v = .bool bb ∧ Q W0 wx)
    case first =>
      by_cases hkl : k < l.length
      case neg =>
        rw [dif_neg hkl] at hbb
        subst hbb
        obtain rfl : k = l.length := by omega
        go_quiet (fail)
        go_wp2
        go_meet
        exact ⟨rfl, hq.drewN _⟩
      rw [dif_pos hkl] at hbb
      obtain ⟨b, off, rfl, hbl, hx⟩ := hc (by omega)
      have ht := (hx k hkl).block (hbw.block b hbl)
      clear hx
      generalize l[k] = x at ht hbb
      unfold Pl.before at hbb
      obtain ⟨x0, x1, x2, x3, x4, x5⟩ := ht
      clear x1 x2 x3 x5
      have hblr : b < wo.heap.size := Nat.lt_of_lt_of_le hbl hbw.size
      by_cases hl0 : t.level = 0
      · rw [if_pos hl0] at hbb
        have g0 : (t.level == 0) = true := by simpa using hl0
        have g2 : decide (0 < t.level) = false := decide_eq_false (by omega)
        replace hl0 := Lib.hid hl0
        by_cases hlt : x.num < t.num
        · have g1 : decide ((x.num : Int) < (t.num : Int)) = true := decide_eq_true (by omega)
          rw [decide_eq_true hlt] at hbb
          subst hbb
          go_quiet (fail)
          go_wp2
          go_meet
          exact ⟨rfl, hq.drewN _⟩
        · have g1 : decide ((x.num : Int) < (t.num : Int)) = false := decide_eq_false (by omega)
          rw [decide_eq_false hlt] at hbb
          subst hbb
          go_quiet (fail)
          go_wp2
          go_meet
          exact ⟨rfl, hq.drewN _⟩
      · rw [if_neg hl0] at hbb
        have g1 : (t.level == 0) = false := by simpa using hl0
        have g2 : decide (0 < t.level) = true := decide_eq_true (by omega)
        replace hbb := hbb.symm
        go_quiet (fail)
        go_wp2
        go_meet
        exact ⟨rfl, hq.drewN _⟩
    case rest =>
    obtain ⟨rfl, hqc⟩ := hcut
    have hbc : Below W0.heap.size W0 wc := hqc.below _
    have hbwc : Below w.heap.size w wc := hb0.trans (hbc.mono (by omega))
    have hRc := (hbc.block w.heap.size hRlt).trans hR0.out
    clear q0 q1 q4 hbb
    cases bb
    case true =>
      obtain ⟨hkl, hnx'⟩ := hnx.out rfl
      replace hnx' := Lib.hid hnx'
      go_wp2
      go_roundw
      case rel => exact ⟨k + 1, by omega, by go_num, hqc, hnx'.out⟩
      case measure => simp [intOf]; omega
    have hp := Lib.hid (hst.out rfl)
    have c0 : wc.cell? ⟨w.heap.size, 0, none⟩ = some (.int .u64 (t.num : Int)) := by simp [World.cell?, hRc]
    have c1 : wc.cell? ⟨w.heap.size, 1, none⟩ = some (.int .i64 t.level) := by simp [World.cell?, hRc]
    have c2 : wc.cell? ⟨w.heap.size, 2, none⟩ = some (.int .i64 t.size) := by simp [World.cell?, hRc]
    have c3 : wc.cell? ⟨w.heap.size, 3, none⟩ = some (.int .i64 t.count) := by simp [World.cell?, hRc]
    have c4 : wc.cell? ⟨w.heap.size, 4, none⟩ = some (.string t.least) := by simp [World.cell?, hRc]
    have c5 : wc.cell? ⟨w.heap.size, 5, none⟩ = some (.string t.greatest) := by simp [World.cell?, hRc]
    have hRlc : w.heap.size < wc.heap.size := (Array.getElem?_eq_some_iff.1 hRc).1
    have huc := hu0.below hbwc
    replace hRc := Lib.hid hRc
    clear hc
    have hlt : (l.take k).length = k := by rw [List.length_take]; omega
    have hld : (l.drop k).length = l.length - k := List.length_drop ..
    have hB1 : w.heap.size + 1 ≤ wc.heap.size := hRlc
    have hlt1 := Lib.hid (show (([] : List Pl.Tb).length + (l.take k).length) * 64 ≤ 140737488355328 by rw [hlt]; simp; omega)
    have hlt2 := Lib.hid (show (k + 1) * 64 ≤ 140737488355328 by omega)
    have hlt3 := Lib.hid (show ((l.take k ++ [t]).length + (l.drop k).length) * 64 ≤ 140737488355328 by rw [List.length_append, hlt, hld, List.length_singleton]; omega)
    replace hlt := Lib.hid hlt
    clear hld
    have hbox := Lib.hid (show TBox wc w.heap.size t from hRc.out)
    have F1 := Lib.hid (fun (w1 : World) (v1 : Value) (h0 : TOwn w1 (w.heap.size + 1) v1 ([] ++ l.take k)) (h : wc.grownBy w1 (Value.slice none 0 0).ownBlock) =>
      have hb : Below wc.heap.size wc w1 := (Below.refl _ _).grown h (Nat.le_refl _) (fun k e => by cases e)
      show w1.ownsRow (w.heap.size + 1) 40 6 v1 k (tcells (l.take k)) ∧ Below w.heap.size w w1 ∧ TBox w1 w.heap.size t ∧ w.heap.size + 1 ≤ w1.heap.size from
      ⟨by have h1 := h0; unfold TOwn at h1; rw [List.nil_append, hlt.out] at h1; exact h1, hbwc.trans (hb.mono hbwc.size), hbox.out.below hb, Nat.le_trans hB1 hb.size⟩)
    have F2 := Lib.hid (fun (w1 w2 : World) (v1 : Value) (g cap : Nat) (h0 : w1.ownsRow (w.heap.size + 1) 40 6 v1 k (tcells (l.take k))) (hb : Below w.heap.size w w1) (hz : w.heap.size + 1 ≤ w1.heap.size)
        (h1 : w2.ownsRow (w.heap.size + 1) 40 6 (.slice (some ⟨g, 0, none⟩) (k + 1) cap) (k + 1) (tcells (l.take k) ++ (#[Value.int .u64 (t.num : Int), .int .i64 t.level, .int .i64 t.size, .int .i64 t.count, .string t.least, .string t.greatest] : Array Value).toList))
        (h2 : (w1.alloc (.cells #[.int .u64 (t.num : Int), .int .i64 t.level, .int .i64 t.size, .int .i64 t.count, .string t.least, .string t.greatest] 40)).grownBy w2 v1.ownBlock) =>
      have hb2 : Below w.heap.size w w2 := (hb.alloc (by omega) _).grown h2 (by simp; omega) (fun k e => by have := (h0.lt k e).1; omega)
      show TOwn w2 (w.heap.size + 1) (.slice (some ⟨g, 0, none⟩) (k + 1) cap) (l.take k ++ [t]) ∧ Below w.heap.size w w2 ∧ w.heap.size + 1 ≤ w2.heap.size from
      ⟨by rw [tcells_one_app] at h1; unfold TOwn; rw [List.length_append, List.length_singleton, hlt.out]; exact h1, hb2, by have := h2.size; simp at this; omega⟩)
    have F3 := Lib.hid (fun (w2 w3 : World) (v2 v3 : Value) (h0 : TOwn w2 (w.heap.size + 1) v2 (l.take k ++ [t])) (hb : Below w.heap.size w w2) (hz : w.heap.size + 1 ≤ w2.heap.size) (h1 : TOwn w3 (w.heap.size + 1) v3 (l.take k ++ [t] ++ l.drop k)) (h2 : w2.grownBy w3 v2.ownBlock) =>
      show TOwn w3 w.heap.size v3 (Pl.put l t) ∧ Below w.heap.size w w3 from
      ⟨by rw [hp.out]; unfold TOwn; exact row_base h1 (by omega), hb.grown h2 (by omega) (fun k e => by have := (World.ownsRow.lt h0 k e).1; omega)⟩)
    clear hst hnx
    rcases hn with ⟨rfl, rfl⟩ | ⟨b, off, rfl⟩
    · obtain rfl : l = [] := List.eq_nil_of_length_eq_zero (by omega)
      obtain rfl : k = 0 := by simpa using hk
      have hut : TbsAt wc (.slice none 0 0) (List.take 0 []) := TbsAt.nil _
      have H2 := Lib.hid (fun (W : World) (_ : Below w.heap.size w W) => show TbsAt W (.slice none 0 0) (List.drop 0 []) from TbsAt.nil W)
      go_wp2_with (at_builtin; go_must (first
        | (refine wpList_appT (by rfl) _ _ (by rfl) (w.heap.size + 1) (.slice none 0 0) _ [] _ wc (World.ownsRow_nil _ _ _ _) hB1 (by rfl) hut (by rfl) hlt1.out ?_; intro v1 w1 hown1 hgr1; have ⟨r1, b1, t1, z1⟩ := F1.out w1 v1 hown1 hgr1; have ⟨d0, d1, d2, d3, d4, d5⟩ := t1.cells; clear hown1 hgr1; replace r1 := Lib.hid r1)
        | (refine wpList_app1 (by rfl) _ _ 27 (by rfl) (w.heap.size + 1) 40 (.agg #[.int .u64 0, .int .i64 0, .int .i64 0, .int .i64 0, .string .empty, .string .empty]) 6 64 Try.underlying27 info_table rfl (by decide) v1 0 _ w1 r1.out z1 (by rfl) #[.int .u64 (t.num : Int), .int .i64 t.level, .int .i64 t.size, .int .i64 t.count, .string t.least, .string t.greatest] 40 (by rfl) rfl (by simp [Value.oneCell']) hlt2.out (by decide) ?_; intro g cap2 w2 hown2 hgr2 hat2 hg2; have ⟨r2, b2, z2⟩ := F2.out w1 w2 v1 g cap2 r1.out b1 z1 hown2 hgr2; have u2 := H2.out w2 b2; clear hown2 hgr2; replace r2 := Lib.hid r2)
        | (refine wpList_appT (by rfl) _ _ (by rfl) (w.heap.size + 1) _ _ _ _ w2 r2.out z2 (by rfl) u2 (by rfl) hlt3.out ?_; intro v3 w3 hown3 hgr3; have hfin := Lib.hid (F3.out w2 w3 _ v3 r2.out b2 z2 hown3 hgr3))))
      go_ret
      exact ⟨_, rfl, hfin.out.1, hfin.out.2⟩
    · have hut := huc.take k hk
      by_cases hck : cap = k
      · obtain rfl : k = cap := hck.symm
        have H2 := Lib.hid (fun (W : World) (h : Below w.heap.size w W) => (hu0.below h).dropAll)
        go_wp2_with (at_builtin; go_must (first
          | (refine wpList_appT (by rfl) _ _ (by rfl) (w.heap.size + 1) (.slice none 0 0) _ [] _ wc (World.ownsRow_nil _ _ _ _) hB1 (by rfl) hut (by rfl) hlt1.out ?_; intro v1 w1 hown1 hgr1; have ⟨r1, b1, t1, z1⟩ := F1.out w1 v1 hown1 hgr1; have ⟨d0, d1, d2, d3, d4, d5⟩ := t1.cells; clear hown1 hgr1; replace r1 := Lib.hid r1)
          | (refine wpList_app1 (by rfl) _ _ 27 (by rfl) (w.heap.size + 1) 40 (.agg #[.int .u64 0, .int .i64 0, .int .i64 0, .int .i64 0, .string .empty, .string .empty]) 6 64 Try.underlying27 info_table rfl (by decide) v1 k _ w1 r1.out z1 (by rfl) #[.int .u64 (t.num : Int), .int .i64 t.level, .int .i64 t.size, .int .i64 t.count, .string t.least, .string t.greatest] 40 (by rfl) rfl (by simp [Value.oneCell']) hlt2.out (by decide) ?_; intro g cap2 w2 hown2 hgr2 hat2 hg2; have ⟨r2, b2, z2⟩ := F2.out w1 w2 v1 g cap2 r1.out b1 z1 hown2 hgr2; have u2 := H2.out w2 b2; clear hown2 hgr2; replace r2 := Lib.hid r2)
          | (refine wpList_appT (by rfl) _ _ (by rfl) (w.heap.size + 1) _ _ _ _ w2 r2.out z2 (by rfl) u2 (by rfl) hlt3.out ?_; intro v3 w3 hown3 hgr3; have hfin := Lib.hid (F3.out w2 w3 _ v3 r2.out b2 z2 hown3 hgr3))))
        go_ret
        exact ⟨_, rfl, hfin.out.1, hfin.out.2⟩
      · have H2 := Lib.hid (fun (W : World) (h : Below w.heap.size w W) => (hu0.below h).drop k hk)
        go_wp2_with (at_builtin; go_must (first
          | (refine wpList_appT (by rfl) _ _ (by rfl) (w.heap.size + 1) (.slice none 0 0) _ [] _ wc (World.ownsRow_nil _ _ _ _) hB1 (by rfl) hut (by rfl) hlt1.out ?_; intro v1 w1 hown1 hgr1; have ⟨r1, b1, t1, z1⟩ := F1.out w1 v1 hown1 hgr1; have ⟨d0, d1, d2, d3, d4, d5⟩ := t1.cells; clear hown1 hgr1; replace r1 := Lib.hid r1)
          | (refine wpList_app1 (by rfl) _ _ 27 (by rfl) (w.heap.size + 1) 40 (.agg #[.int .u64 0, .int .i64 0, .int .i64 0, .int .i64 0, .string .empty, .string .empty]) 6 64 Try.underlying27 info_table rfl (by decide) v1 k _ w1 r1.out z1 (by rfl) #[.int .u64 (t.num : Int), .int .i64 t.level, .int .i64 t.size, .int .i64 t.count, .string t.least, .string t.greatest] 40 (by rfl) rfl (by simp [Value.oneCell']) hlt2.out (by decide) ?_; intro g cap2 w2 hown2 hgr2 hat2 hg2; have ⟨r2, b2, z2⟩ := F2.out w1 w2 v1 g cap2 r1.out b1 z1 hown2 hgr2; have u2 := H2.out w2 b2; clear hown2 hgr2; replace r2 := Lib.hid r2)
          | (refine wpList_appT (by rfl) _ _ (by rfl) (w.heap.size + 1) _ _ _ _ w2 r2.out z2 (by rfl) u2 (by rfl) hlt3.out ?_; intro v3 w3 hown3 hgr3; have hfin := Lib.hid (F3.out w2 w3 _ v3 r2.out b2 z2 hown3 hgr3))))
        go_ret
        exact ⟨_, rfl, hfin.out.1, hfin.out.2⟩
end Go.Proofs.Ytekfaodjadinnaa
