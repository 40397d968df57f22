/- Walk: a version put into the document's table behind all others. Condition: rows whose bytes fit. -/
import Derived.Test.YtcfcijgnkbmlaaaWRef6b
import Derived.Test.YtcfcijgnkbmlaaaWMay
import Derived.Deep.RegionHeld3
import Derived.Laws.AppendOwnNone
import Derived.BigQuiet
namespace Go.Proofs.Ytcfcijgnkbmlaaa
open Go.RowKit Go.Shelf

/-- 'v = append(v, part...)' of a part of another slice -/
theorem wpList_appPart {P : Program} {ops : Array Oper} {rest : List Oper} {o : Oper} {a : Act} {Q : Exit → Act → World → Prop} (hgd : o.guard = none) (s x : Operand) (t : TypeId)
    (ho : o.op = .call { callee := .builtin .append, args := #[s, x], argTypes := #[t, t] })
    (B : Nat) (e : TypeId) (z : Value) (size bytes : Nat) (ht : P.underlying t = some (.slice e)) (hi : (P.info? e).map (fun i => (i.zero, i.size, i.bytes)) = some (some z, size, bytes)) (hzs : z.cells.size = size) (hsz : 0 < size)
    (v : Value) (k : Nat) (xs : List Value) (w0 : World) (hr : w0.ownsRow B e size v k xs) (hB : B ≤ w0.heap.size) (hs : a.eval s = v) (ad : Addr) (m c : Nat) (news : List Value)
    (hx : a.eval x = .slice (some ad) m c) (hl : news.length = m * size) (hn : ∀ j u, news[j]? = some u → w0.cell? (ad.add j) = some u) (h1 : ∀ u ∈ news, u.oneCell' = true) (h63 : (k + m) * bytes ≤ 140737488355328) (hb0 : 0 < bytes)
    (h : ∀ v' w', w'.ownsRow B e size v' (k + m) (xs ++ news) → Below B w0 w' → wpList P ops Q rest (a.put o.dst v') w') : wpList P ops Q (o :: rest) a w0 := by
  obtain ⟨i, hi', hz0, hz1, hz2⟩ := info_parts hi
  have hk : k + m ≤ 140737488355328 := Nat.le_trans (Nat.le_mul_of_pos_right (k + m) hb0) h63
  refine wpList_append_own_at w0 hgd s x t ho B e i z size bytes ht hi' hz0 hz1 hz2 hzs hsz v k xs hs hr ad m c news hx hl hn h1 (by unfold maxLen; omega) h63 hB ?_
  intro v' w' hown' hgrow _ _
  exact h v' w' hown' ((Below.refl B w0).grown hgrow hB (fun k e => (hr.lt k e).1))
theorem ownsRow_base {W : World} {b b' n sz : Nat} {e : TypeId} {v : Value} {xs : List Value} (h : W.ownsRow b e sz v n xs) (hb : b' ≤ b) : W.ownsRow b' e sz v n xs := by
  refine ⟨h.1, h.2.imp id ?_⟩
  rintro ⟨g, cap, cur, e1, h1, h2⟩
  exact ⟨g, cap, cur, e1, Nat.le_trans hb h1, h2⟩
theorem vpart0 (xs : List Ver) (k : Nat) (W : World) (ad : Addr) (h : xs.length ≤ k) : (vcells (xs.drop k)).length = (xs.length - k) * 4 ∧ ∀ j u, (vcells (xs.drop k))[j]? = some u → W.cell? (ad.add j) = some u := by
  refine ⟨by rw [vcells_length, List.length_drop], fun j u hj => ?_⟩
  rw [List.drop_eq_nil_of_le h] at hj
  simp [vcells] at hj
theorem hpart0 (hs : List Nat) (k : Nat) (W : World) (ad : Addr) (h : hs.length ≤ k) : (hcells (hs.drop k)).length = (hs.length - k) * 1 ∧ ∀ j u, (hcells (hs.drop k))[j]? = some u → W.cell? (ad.add j) = some u := by
  refine ⟨by rw [hcells_length, List.length_drop, Nat.mul_one], fun j u hj => ?_⟩
  rw [List.drop_eq_nil_of_le h] at hj
  simp [hcells] at hj
theorem own_slice {W : World} {b sz n : Nat} {e : TypeId} {v : Value} {xs : List Value} (h : W.ownsRow b e sz v n xs) : ∃ g cap, v = .slice g n cap := by
  rcases own_at h with ⟨h0, e⟩ | ⟨g', cap', e, _⟩
  · exact ⟨none, 0, by rw [e, h0]⟩
  · exact ⟨_, _, e⟩
theorem vcells_one_cell : ∀ (l : List Ver), ∀ u ∈ vcells l, u.oneCell' = true
  | [], u, h => by cases h
  | x :: l, u, h => by
    simp only [vcells, List.mem_cons] at h
    rcases h with rfl | rfl | rfl | rfl | h
    · rfl
    · rfl
    · rfl
    · rfl
    · exact vcells_one_cell l u h
theorem hcells_one_cell (l : List Nat) : ∀ u ∈ hcells l, u.oneCell' = true := by
  intro u h
  obtain ⟨x, _, rfl⟩ := List.mem_map.1 h
  rfl
theorem vcells_take (xs : List Ver) (k : Nat) : vcells (xs.take k) = (vcells xs).take (k * 4) := by
  induction xs generalizing k with
  | nil => simp [vcells]
  | cons x xs ih =>
    cases k with
    | zero => simp [vcells]
    | succ k =>
      rw [List.take_succ_cons, show (k + 1) * 4 = k * 4 + 1 + 1 + 1 + 1 by omega]
      simp [vcells, ih]
theorem vcells_drop (xs : List Ver) (k : Nat) : vcells (xs.drop k) = (vcells xs).drop (k * 4) := by
  induction xs generalizing k with
  | nil => simp [vcells]
  | cons x xs ih =>
    cases k with
    | zero => simp
    | succ k =>
      rw [List.drop_succ_cons, show (k + 1) * 4 = k * 4 + 1 + 1 + 1 + 1 by omega]
      simp [vcells, ih]

theorem info_int6 : (Try.prog.info? 3).map (fun i => (i.zero, i.size, i.bytes)) = some (some (.int .i64 0), 1, 8) := by kernel_rfl
theorem part_take {W0 W : World} {B n : Nat} {g : Option Addr} {cap bl : Nat} {xs : List Ver} (h : W0.ownsRow B 24 4 (.slice g n cap) xs.length (vcells xs)) (hob : (Value.slice g n cap).ownBlock = some bl) (hb : Below W0.heap.size W0 W) (k : Nat) :
    (k ≤ xs.length → (vcells (xs.take k)).length = k * 4) ∧ ∀ j u, (vcells (xs.take k))[j]? = some u → W.cell? ((⟨bl, 0, none⟩ : Addr).add j) = some u := by
  rcases own_at h with ⟨h0, e⟩ | ⟨g', cap', e, h1, h2, h3, h4, hc⟩
  · rw [e] at hob; cases hob
  · rw [e] at hob
    have e2 : g' = bl := by simpa [Value.ownBlock] using hob
    subst e2
    refine ⟨fun hk => by rw [vcells_length, List.length_take, Nat.min_eq_left hk], fun j u hj => ?_⟩
    rw [Addr.add_lit, Nat.zero_add]
    have hjl : j < k * 4 := by
      have := (List.getElem?_eq_some_iff.1 hj).1
      rw [vcells_length, List.length_take] at this
      omega
    rw [vcells_take, List.getElem?_take_of_lt hjl] at hj
    have hjn : j < xs.length * 4 := by have := (List.getElem?_eq_some_iff.1 hj).1; rwa [vcells_length] at this
    exact (hb.cell (p := ⟨g', j, none⟩) h2).trans ((hc j hjn).trans hj)
theorem part_drop {W0 W : World} {B n : Nat} {g : Option Addr} {cap bl : Nat} {xs : List Ver} (h : W0.ownsRow B 24 4 (.slice g n cap) xs.length (vcells xs)) (hob : (Value.slice g n cap).ownBlock = some bl) (hb : Below W0.heap.size W0 W) (k : Nat) :
    (vcells (xs.drop k)).length = (xs.length - k) * 4 ∧ ∀ j u, (vcells (xs.drop k))[j]? = some u → W.cell? ((⟨bl, k * 4, none⟩ : Addr).add j) = some u := by
  rcases own_at h with ⟨h0, e⟩ | ⟨g', cap', e, h1, h2, h3, h4, hc⟩
  · rw [e] at hob; cases hob
  · rw [e] at hob
    have e2 : g' = bl := by simpa [Value.ownBlock] using hob
    subst e2
    refine ⟨by rw [vcells_length, List.length_drop], fun j u hj => ?_⟩
    rw [Addr.add_lit]
    rw [vcells_drop, List.getElem?_drop] at hj
    have hjn : k * 4 + j < xs.length * 4 := by have := (List.getElem?_eq_some_iff.1 hj).1; rwa [vcells_length] at this
    exact (hb.cell (p := ⟨g', k * 4 + j, none⟩) h2).trans ((hc _ hjn).trans hj)
theorem ipart_take {W0 W : World} {B n : Nat} {g : Option Addr} {cap bl : Nat} {hs : List Nat} (h : W0.ownsRow B 3 1 (.slice g n cap) hs.length (hcells hs)) (hob : (Value.slice g n cap).ownBlock = some bl) (hb : Below W0.heap.size W0 W) (k : Nat) :
    (k ≤ hs.length → (hcells (hs.take k)).length = k * 1) ∧ ∀ j u, (hcells (hs.take k))[j]? = some u → W.cell? ((⟨bl, 0, none⟩ : Addr).add j) = some u := by
  rcases own_at h with ⟨h0, e⟩ | ⟨g', cap', e, h1, h2, h3, h4, hc⟩
  · rw [e] at hob; cases hob
  · rw [e] at hob
    have e2 : g' = bl := by simpa [Value.ownBlock] using hob
    subst e2
    refine ⟨fun hk => by rw [hcells_length, List.length_take, Nat.min_eq_left hk, Nat.mul_one], fun j u hj => ?_⟩
    rw [Addr.add_lit, Nat.zero_add]
    have hjl : j < k := by
      have := (List.getElem?_eq_some_iff.1 hj).1
      rw [hcells_length, List.length_take] at this
      omega
    have e3 : hcells (hs.take k) = (hcells hs).take k := by unfold hcells; rw [List.map_take]
    rw [e3, List.getElem?_take_of_lt hjl] at hj
    have hjn : j < hs.length * 1 := by have := (List.getElem?_eq_some_iff.1 hj).1; rw [hcells_length] at this; omega
    exact (hb.cell (p := ⟨g', j, none⟩) h2).trans ((hc j hjn).trans hj)
theorem ipart_drop {W0 W : World} {B n : Nat} {g : Option Addr} {cap bl : Nat} {hs : List Nat} (h : W0.ownsRow B 3 1 (.slice g n cap) hs.length (hcells hs)) (hob : (Value.slice g n cap).ownBlock = some bl) (hb : Below W0.heap.size W0 W) (k : Nat) :
    (hcells (hs.drop k)).length = (hs.length - k) * 1 ∧ ∀ j u, (hcells (hs.drop k))[j]? = some u → W.cell? ((⟨bl, k, none⟩ : Addr).add j) = some u := by
  rcases own_at h with ⟨h0, e⟩ | ⟨g', cap', e, h1, h2, h3, h4, hc⟩
  · rw [e] at hob; cases hob
  · rw [e] at hob
    have e2 : g' = bl := by simpa [Value.ownBlock] using hob
    subst e2
    refine ⟨by rw [hcells_length, List.length_drop, Nat.mul_one], fun j u hj => ?_⟩
    rw [Addr.add_lit]
    have e3 : hcells (hs.drop k) = (hcells hs).drop k := by unfold hcells; rw [List.map_drop]
    rw [e3, List.getElem?_drop] at hj
    have hjn : k + j < hs.length * 1 := by have := (List.getElem?_eq_some_iff.1 hj).1; rw [hcells_length] at this; omega
    exact (hb.cell (p := ⟨g', k + j, none⟩) h2).trans ((hc _ hjn).trans hj)

theorem wpList_appNone {P : Program} {ops : Array Oper} {rest : List Oper} {o : Oper} {a : Act} {Q : Exit → Act → World → Prop} (hgd : o.guard = none) (s x : Operand) (t : TypeId)
    (ho : o.op = .call { callee := .builtin .append, args := #[s, x], argTypes := #[t, t] })
    (B : Nat) (e : TypeId) (z : Value) (size bytes : Nat) (ht : P.underlying t = some (.slice e)) (hi : (P.info? e).map (fun i => (i.zero, i.size, i.bytes)) = some (some z, size, bytes))
    (v : Value) (k : Nat) (xs : List Value) (w0 : World) (hr : w0.ownsRow B e size v k xs) (hs : a.eval s = v) (hx : a.eval x = .slice none 0 0)
    (h : wpList P ops Q rest (a.put o.dst v) w0) : wpList P ops Q (o :: rest) a w0 := by
  obtain ⟨i, hi', hz0, hz1, hz2⟩ := info_parts hi
  exact wpList_append_own_none hgd s x t ho B e i size ht hi' v k xs hs hr hx h
theorem lst1 {n : Nat} (h : n ≤ 2932031007316) : (0 + n) * 48 ≤ 140737488355328 := by omega
theorem lst2 {n : Nat} (h : n ≤ 2932031007316) : (0 + n + 1) * 48 ≤ 140737488355328 := by omega
theorem lst3 {n : Nat} (h : n ≤ 2932031007316) : (n + 1 + 0) * 48 ≤ 140737488355328 := by omega
theorem lst4 {n : Nat} (h : n ≤ 2932031007316) : (0 + n) * 8 ≤ 140737488355328 := by omega
theorem lst5 {n : Nat} (h : n ≤ 2932031007316) : (0 + n + 1) * 8 ≤ 140737488355328 := by omega
theorem lst6 {n : Nat} (h : n ≤ 2932031007316) : (n + 1 + 0) * 8 ≤ 140737488355328 := by omega
set_option maxRecDepth 100000 in
set_option maxHeartbeats 3200000 in
theorem refAdd_last (R : Nat) (xs : List Ver) (hs : List Nat) (v : Ver) (h : Int) (w : World) (hR : RtAt w R xs hs) (hhl : hs.length = xs.length) (hx : xs.length ≤ 2932031007316) (hxe : xs ≠ []) (hm : Pl.mayM v.key v.seq v.del v.val = true) (hh1 : ¬ h < 1) (hh2 : ¬ 8 < h)
    (hA : ∀ j (hj : j < xs.length), lessV xs[j].key xs[j].seq v.key v.seq = true) :
    Calls Try.prog 48 #[.pointer (some ⟨R, 0, none⟩), .agg #[.string v.key, .int .u64 (v.seq : Int), .bool v.del, .string v.val], .int .i64 h] w fun e w' =>
      e = .returned (.int .i64 0) ∧ RtAt w' R (Pl.ins xs xs.length v) (Pl.ins hs xs.length h.toNat) ∧ Keep (fun q => q ≠ R) w w' := by
  obtain ⟨W0, hW0⟩ : ∃ W0, w.alloc (.cells #[.string v.key, .int .u64 (v.seq : Int), .bool v.del, .string v.val] 24) = W0 := ⟨_, rfl⟩
  have hb0 : Below w.heap.size w W0 := by rw [← hW0]; exact (Below.refl _ _).alloc (Nat.le_refl _) _
  have hV0 : VrAt w.heap.size v.key (v.seq : Int) v.del v.val W0 := by rw [← hW0]; exact VrAt.new _ _ _ _ _ _
  have ⟨f0, f1, f2, f3, fB⟩ := hV0
  have PM := Lib.hid (fun W => refMayM_any v.key v.seq v.del v.val W)
  rw [hm] at PM
  replace hA := Lib.hid hA
  obtain ⟨L, H, hblk, hrl, hrh, hnil⟩ := id hR
  obtain ⟨gl, capl, rfl, l1, l2, hcl⟩ := own_vers2 hrl
  obtain ⟨gh, caph, rfl, k1, k2, hch⟩ := own_ints hrh
  have hRw := (Array.getElem?_eq_some_iff.1 hblk).1
  have cL : w.cell? ⟨R, 0, none⟩ = some (.slice gl xs.length capl) := (cell_of hblk).trans rfl
  have cH : w.cell? ⟨R, 1, none⟩ = some (.slice gh xs.length caph) := by rw [← hhl]; exact (cell_of hblk).trans rfl
  have hlb := fun q e => hrl.lt (k := q) e
  have hcl' := Lib.hid hcl
  have hWw : Hid (∀ {w' : World}, Below W0.heap.size W0 w' → Below w.heap.size w w') := Lib.hid (fun hb => hb0.trans (hb.mono hb0.size))
  have hz0 : w.heap.size < W0.heap.size := fB
  have hblkR := Lib.hid hblk
  have hj0 : 0 < xs.length := by
    have : xs.length ≠ 0 := fun e => hxe (List.length_eq_zero_iff.1 e)
    omega
  obtain ⟨bl, hgl, hob⟩ : ∃ bl, gl = some ⟨bl, 0, none⟩ ∧ (Value.slice gl xs.length capl).ownBlock = some bl := by
    rcases own_at hrl with ⟨h0, _⟩ | ⟨g', cap', e', _⟩
    · omega
    · injection e' with e1 e2 e3
      subst e1
      exact ⟨g', rfl, rfl⟩
  subst hgl
  obtain ⟨bh, hgh, hobh⟩ : ∃ bh, gh = some ⟨bh, 0, none⟩ ∧ (Value.slice gh hs.length caph).ownBlock = some bh := by
    rcases own_at hrh with ⟨h0, _⟩ | ⟨g', cap', e', _⟩
    · omega
    · injection e' with e1 e2 e3
      subst e1
      exact ⟨g', rfl, rfl⟩
  subst hgh
  rw [hhl] at k1
  replace hhl := Lib.hid hhl
  clear hcl hch hblk hnil
  rcases Nat.lt_or_eq_of_le l1 with hc1 | rfl <;> rcases Nat.lt_or_eq_of_le k1 with hc2 | rfl
  · go_enter Try.func48, Try.ntmps48
    go_wp2_with fail
    clear hW0
    refine (PM.out _).mono ?_
    rintro e wm ⟨rfl, bm⟩
    clear f0 f1 f2 f3 PM
    have cLm := ((hWw.out bm).cell (p := ⟨R, 0, none⟩) hRw).trans cL
    go_wp2
    go_loopw [8] (fun i W' => ∃ j : Nat, j ≤ xs.length ∧ i = .int .i64 (j : Int) ∧ Below W0.heap.size W0 W') (fun i _ => xs.length - (intOf i).toNat)
    case atStart => exact ⟨0, by omega, rfl, bm⟩
    case round =>
      obtain ⟨j, hj, rfl, hbr⟩ := hrel
      have cLr := ((hWw.out hbr).cell (p := ⟨R, 0, none⟩) hRw).trans cL
      have ⟨y0, y1, y2, y3, yB⟩ := hV0.kept hbr
      by_cases hjn : j < xs.length
      · obtain ⟨bl', hbl', hob', hver⟩ := hcl'.out j hjn
        obtain rfl : bl = bl' := by injection hbl' with e; injection e
        have hbl0 := (hlb bl hob).2
        obtain ⟨x0, x1, x2, x3⟩ := hver.kept ((hWw.out hbr).block bl hbl0)
        have hblr : bl < wr.heap.size := Nat.lt_of_lt_of_le hbl0 (hWw.out hbr).size
        have hRr : R < wr.heap.size := Nat.lt_of_lt_of_le hRw (hWw.out hbr).size
        have P := Lib.hid (fun W => refLess_any xs[j] v W)
        rw [hA.out j hjn] at P
        have hkp0 : Hid (∀ w1 : World, Below wr.heap.size wr w1 → w1.cell? ⟨R, 0, none⟩ = some (.slice (some ⟨bl, 0, none⟩) xs.length capl) ∧ w1.cell? ⟨bl, j * 4, none⟩ = some (.string xs[j].key) ∧ w1.cell? ⟨bl, j * 4 + 1, none⟩ = some (.int .u64 (xs[j].seq : Int)) ∧ w1.cell? ⟨bl, j * 4 + 2, none⟩ = some (.bool xs[j].del) ∧ w1.cell? ⟨bl, j * 4 + 3, none⟩ = some (.string xs[j].val) ∧ w1.cell? ⟨w.heap.size, 0, none⟩ = some (.string v.key) ∧ w1.cell? ⟨w.heap.size, 1, none⟩ = some (.int .u64 (v.seq : Int)) ∧ w1.cell? ⟨w.heap.size, 2, none⟩ = some (.bool v.del) ∧ w1.cell? ⟨w.heap.size, 3, none⟩ = some (.string v.val)) := Lib.hid (fun w1 hbl => ⟨(hbl.cell (p := ⟨R, 0, none⟩) hRr).trans cLr, (hbl.cell (p := ⟨bl, j * 4, none⟩) hblr).trans x0, (hbl.cell (p := ⟨bl, j * 4 + 1, none⟩) hblr).trans x1, (hbl.cell (p := ⟨bl, j * 4 + 2, none⟩) hblr).trans x2, (hbl.cell (p := ⟨bl, j * 4 + 3, none⟩) hblr).trans x3, (hbl.cell (p := ⟨w.heap.size, 0, none⟩) yB).trans y0, (hbl.cell (p := ⟨w.heap.size, 1, none⟩) yB).trans y1, (hbl.cell (p := ⟨w.heap.size, 2, none⟩) yB).trans y2, (hbl.cell (p := ⟨w.heap.size, 3, none⟩) yB).trans y3⟩)
        go_wp2
        go_region_held3 (fun w' => w'.cell? ⟨R, 0, none⟩ = some (.slice (some ⟨bl, 0, none⟩) xs.length capl) ∧ w'.cell? ⟨bl, j * 4, none⟩ = some (.string xs[j].key) ∧ w'.cell? ⟨bl, j * 4 + 1, none⟩ = some (.int .u64 (xs[j].seq : Int)) ∧ w'.cell? ⟨bl, j * 4 + 2, none⟩ = some (.bool xs[j].del) ∧ w'.cell? ⟨bl, j * 4 + 3, none⟩ = some (.string xs[j].val) ∧ w'.cell? ⟨w.heap.size, 0, none⟩ = some (.string v.key) ∧ w'.cell? ⟨w.heap.size, 1, none⟩ = some (.int .u64 (v.seq : Int)) ∧ w'.cell? ⟨w.heap.size, 2, none⟩ = some (.bool v.del) ∧ w'.cell? ⟨w.heap.size, 3, none⟩ = some (.string v.val)) (first | exact ⟨cLr, x0, x1, x2, x3, y0, y1, y2, y3⟩ | exact hkp | go_keep)
          (first | (go_at_call 15; (with_reducible refine (P.out _).mono ?_); rintro e w1 ⟨rfl, hbl⟩; have hbq := below_seq ((Below.refl _ wr).drew) hbl; have hkp := hkp0.out w1 hbq))
        all_goals
          go_wp2
          go_roundw
          case rel => exact ⟨j + 1, by omega, by go_num, hbr.trans (hbq.mono hbr.size)⟩
          case measure => simp [intOf]; omega
      · obtain rfl : j = xs.length := by omega
        go_wp2
        go_quiet (fail)
        generalize hw2 : wr.drewN nq = w2
        replace hbr : Below W0.heap.size W0 w2 := hw2 ▸ below_drewN hbr nq
        clear hw2 cLr y0 y1 y2 y3 yB
        have cLp := ((hWw.out hbr).cell (p := ⟨R, 0, none⟩) hRw).trans cL
        have ⟨y0, y1, y2, y3, yB⟩ := hV0.kept hbr
        have cHp := ((hWw.out hbr).cell (p := ⟨R, 1, none⟩) hRw).trans cH
        have hn0 := World.ownsRow_nil w2 w2.heap.size 24 4
        have hA1 := Lib.hid (part_take (W := w2) (W0 := w) hrl hob (hWw.out hbr) xs.length)
        have hA4 := Lib.hid (fun (W : World) (hb : Below w2.heap.size w2 W) => ipart_take (W := W) (W0 := w) hrh hobh ((hWw.out hbr).trans (hb.mono (hWw.out hbr).size)) xs.length)
        have hs1 : (0 + xs.length) * 48 ≤ 140737488355328 := lst1 hx
        have hRp : R < w2.heap.size := Nat.lt_of_lt_of_le hRw (hWw.out hbr).size
        have hzp : w.heap.size < w2.heap.size := Nat.lt_of_lt_of_le hz0 hbr.size
        have hs2 : (0 + xs.length + 1) * 48 ≤ 140737488355328 := lst2 hx
        have hs3 : (xs.length + 1 + 0) * 48 ≤ 140737488355328 := lst3 hx
        have hs4 : (0 + xs.length) * 8 ≤ 140737488355328 := lst4 hx
        have hs5 : (0 + xs.length + 1) * 8 ≤ 140737488355328 := lst5 hx
        have hs6 : (xs.length + 1 + 0) * 8 ≤ 140737488355328 := lst6 hx
        have hblk2 := ((hWw.out hbr).block R hRw).trans hblkR.out
        have hjh2 : xs.length ≤ caph := by omega
        go_wp2_with (at_builtin; first
          | (refine wpList_appPart (by rfl) _ _ 62 (by rfl) w5.heap.size 3 (.int .i64 0) 1 8 Try.underlying62 info_int6 rfl (by decide) (.slice (some ⟨g7, 0, none⟩) (xs.length + 1) cap7) (xs.length + 1) _ w7 ho7 hb7.size (by rfl) ⟨bh, _, none⟩ 0 _ [] (by rfl) rfl (fun _ _ h => by simp at h) (fun _ h => by cases h) hs6 (by decide) ?_; intro v8 w8 ho8 hb8; obtain ⟨g8, cap8, rfl⟩ := own_slice ho8; have hc8 := hc7.trans (hb8.mono hc5.size); have hd8 := hb7.trans hb8; have hblk8 := (hc8.block R hRp).trans hblk2; have cL8 := (hc8.cell (p := ⟨R, 0, none⟩) hRp).trans cLp; have cH8 := (hc8.cell (p := ⟨R, 1, none⟩) hRp).trans cHp; have fL8 := frozen_of hblk8 (o := 0); have fH8 := frozen_of hblk8 (o := 1))
          | (refine wpList_app1 (by rfl) _ _ 62 (by rfl) w5.heap.size 3 (.int .i64 0) 1 8 Try.underlying62 info_int6 rfl (by decide) v6 (0 + xs.length) ([] ++ hcells (hs.take xs.length)) w6 ho6 hb6.size (by rfl) #[.int .i64 h] 3 (by rfl) rfl (by simp [Value.oneCell']) hs5 (by decide) ?_; intro g7 cap7 w7 ho7 hgrow7 _ _; have hb7 := hb6.trans (((Below.refl w5.heap.size w6).alloc hb6.size _).grown hgrow7 (by simp; omega) (fun k e => (ho6.lt k e).1)); have hc7 := hc5.trans (hb7.mono hc5.size); rw [Nat.zero_add] at ho7; have cH7 := (hc7.cell (p := ⟨R, 1, none⟩) hRp).trans cHp)
          | (refine wpList_appPart (by rfl) _ _ 62 (by rfl) w5.heap.size 3 (.int .i64 0) 1 8 Try.underlying62 info_int6 rfl (by decide) (.slice none 0 0) 0 [] w5 hn5 (Nat.le_refl _) (by rfl) ⟨bh, 0, none⟩ xs.length caph (hcells (hs.take xs.length)) (by rfl) ((hA4.out w5 hc5).1 (by rw [hhl.out]; exact Nat.le_refl _)) (hA4.out w5 hc5).2 (hcells_one_cell _) hs4 (by decide) ?_; intro v6 w6 ho6 hb6; have hz6 := hb6.size)
          | (refine wpList_appPart (by rfl) _ _ 45 (by rfl) w2.heap.size 24 (.agg #[.string .empty, .int .u64 0, .bool false, .string .empty]) 4 48 Try.underlying45 info_version rfl (by decide) (.slice (some ⟨g4, 0, none⟩) (xs.length + 1) cap4) (xs.length + 1) _ w4 ho4 hb4.size (by rfl) ⟨bl, _, none⟩ 0 _ [] (by rfl) rfl (fun _ _ h => by simp at h) (fun _ h => by cases h) hs3 (by decide) ?_; intro v5 w5 ho5 hb5; obtain ⟨g5, cap5, rfl⟩ := own_slice ho5; have hc5 := hb4.trans hb5; have hn5 := World.ownsRow_nil w5 w5.heap.size 3 1; have cH5 := (hc5.cell (p := ⟨R, 1, none⟩) hRp).trans cHp)
          | (refine wpList_app1 (by rfl) _ _ 45 (by rfl) w2.heap.size 24 (.agg #[.string .empty, .int .u64 0, .bool false, .string .empty]) 4 48 Try.underlying45 info_version rfl (by decide) v1 (0 + xs.length) ([] ++ vcells (xs.take xs.length)) w3 ho1 hb3.size (by rfl) #[.string v.key, .int .u64 (v.seq : Int), .bool v.del, .string v.val] 24 (by rfl) rfl (by simp [Value.oneCell']) hs2 (by decide) ?_; intro g4 cap4 w4 ho4 hgrow4 _ _; have hb4 := hb3.trans (((Below.refl w2.heap.size w3).alloc hb3.size _).grown hgrow4 (by simp; omega) (fun k e => (ho1.lt k e).1)); rw [Nat.zero_add] at ho4; have cL4 := (hb4.cell (p := ⟨R, 0, none⟩) hRp).trans cLp)
          | (refine wpList_appPart (by rfl) _ _ 45 (by rfl) w2.heap.size 24 (.agg #[.string .empty, .int .u64 0, .bool false, .string .empty]) 4 48 Try.underlying45 info_version rfl (by decide) (.slice none 0 0) 0 [] w2 hn0 (Nat.le_refl _) (by rfl) ⟨bl, 0, none⟩ xs.length capl (vcells (xs.take xs.length)) (by rfl) (hA1.out.1 (by omega)) hA1.out.2 (vcells_one_cell _) hs1 (by decide) ?_; intro v1 w3 ho1 hb3; have hz3 := hb3.size; have cL3 := (hb3.cell (p := ⟨R, 0, none⟩) hRp).trans cLp; have y03 := (hb3.cell (p := ⟨w.heap.size, 0, none⟩) hzp).trans y0; have y13 := (hb3.cell (p := ⟨w.heap.size, 1, none⟩) hzp).trans y1; have y23 := (hb3.cell (p := ⟨w.heap.size, 2, none⟩) hzp).trans y2; have y33 := (hb3.cell (p := ⟨w.heap.size, 3, none⟩) hzp).trans y3))
        all_goals
          have hb28 : Below w2.heap.size w2 w8 := hc8
          go_wp2
          have hkR : ∀ W, Keep (fun q => q ≠ R) W ((W.setCell ⟨R, 0, none⟩ (.slice g5 (xs.length + 1 + 0) cap5)).setCell ⟨R, 1, none⟩ (.slice g8 (xs.length + 1 + 0) cap8)) := fun W => ((Keep.refl _ W).setCell _ _ _ (fun h _ => h rfl)).setCell _ _ _ (fun h _ => h rfl)
          have hblk9 := heap_set4m (heap_set4m hblk8 0 (.slice g5 (xs.length + 1 + 0) cap5)) 1 (.slice g8 (xs.length + 1 + 0) cap8)
          have ho5' := (Keep.of_below (fp := fun q => q < w5.heap.size) hd8 (fun _ h _ => h)).ownsRow ho5 (fun q e => (ho5.lt q e).2)
          have hr5 := (hkR w8).ownsRow ho5' (fun q e => by have := (ho5'.lt q e).1; omega)
          have hr8 := (hkR w8).ownsRow ho8 (fun q e => by have := (ho8.lt q e).1; have := hc5.size; omega)
          have hk28 : Keep (fun q => q ≠ R) w ((w8.setCell ⟨R, 0, none⟩ (.slice g5 (xs.length + 1 + 0) cap5)).setCell ⟨R, 1, none⟩ (.slice g8 (xs.length + 1 + 0) cap8)) := (Keep.of_below (fp := fun q => q ≠ R) ((hWw.out hbr).trans (hb28.mono (hWw.out hbr).size)) (fun _ _ h => h)).trans (hkR w8) (fun _ h _ => h)
          go_ret
          refine ⟨ret_int rfl, ?_, hk28⟩
          skip
          have ev : [] ++ vcells (xs.take xs.length) ++ (#[.string v.key, .int .u64 (v.seq : Int), .bool v.del, .string v.val] : Array Value).toList ++ [] = vcells (Pl.ins xs xs.length v) := by
            unfold Pl.ins
            rw [vcells_append]
            simp [vcells]
          have eh : [] ++ hcells (hs.take xs.length) ++ (#[.int .i64 h] : Array Value).toList ++ [] = hcells (Pl.ins hs xs.length h.toNat) := by
            unfold Pl.ins
            rw [hcells_append]
            have e1 : h = (h.toNat : Int) := by omega
            rw [← hhl.out]
            simp [hcells]
            omega
          refine ⟨(.slice g5 (xs.length + 1 + 0) cap5), (.slice g8 (xs.length + 1 + 0) cap8), hblk9, ?_, ?_, fun e => ?_⟩
          · show World.ownsRow _ (R + 1) _ 4 (.slice g5 (xs.length + 1 + 0) cap5) (Pl.ins xs xs.length v).length (vcells (Pl.ins xs xs.length v))
            rw [← ev, Pl.ins_length, show xs.length + 1 = xs.length + 1 + 0 by omega]
            exact ownsRow_base hr5 (by omega)
          · show World.ownsRow _ (R + 1) _ 1 (.slice g8 (xs.length + 1 + 0) cap8) (Pl.ins hs xs.length h.toNat).length (hcells (Pl.ins hs xs.length h.toNat))
            rw [← eh, Pl.ins_length, show hs.length + 1 = xs.length + 1 + 0 by rw [hhl.out]]
            exact ownsRow_base hr8 (by have := hc5.size; omega)
          · have e2 : Pl.ins xs xs.length v = [] := e
            have := congrArg List.length e2
            rw [Pl.ins_length] at this
            simp at this
  · go_enter Try.func48, Try.ntmps48
    go_wp2_with fail
    clear hW0
    refine (PM.out _).mono ?_
    rintro e wm ⟨rfl, bm⟩
    clear f0 f1 f2 f3 PM
    have cLm := ((hWw.out bm).cell (p := ⟨R, 0, none⟩) hRw).trans cL
    go_wp2
    go_loopw [8] (fun i W' => ∃ j : Nat, j ≤ xs.length ∧ i = .int .i64 (j : Int) ∧ Below W0.heap.size W0 W') (fun i _ => xs.length - (intOf i).toNat)
    case atStart => exact ⟨0, by omega, rfl, bm⟩
    case round =>
      obtain ⟨j, hj, rfl, hbr⟩ := hrel
      have cLr := ((hWw.out hbr).cell (p := ⟨R, 0, none⟩) hRw).trans cL
      have ⟨y0, y1, y2, y3, yB⟩ := hV0.kept hbr
      by_cases hjn : j < xs.length
      · obtain ⟨bl', hbl', hob', hver⟩ := hcl'.out j hjn
        obtain rfl : bl = bl' := by injection hbl' with e; injection e
        have hbl0 := (hlb bl hob).2
        obtain ⟨x0, x1, x2, x3⟩ := hver.kept ((hWw.out hbr).block bl hbl0)
        have hblr : bl < wr.heap.size := Nat.lt_of_lt_of_le hbl0 (hWw.out hbr).size
        have hRr : R < wr.heap.size := Nat.lt_of_lt_of_le hRw (hWw.out hbr).size
        have P := Lib.hid (fun W => refLess_any xs[j] v W)
        rw [hA.out j hjn] at P
        have hkp0 : Hid (∀ w1 : World, Below wr.heap.size wr w1 → w1.cell? ⟨R, 0, none⟩ = some (.slice (some ⟨bl, 0, none⟩) xs.length capl) ∧ w1.cell? ⟨bl, j * 4, none⟩ = some (.string xs[j].key) ∧ w1.cell? ⟨bl, j * 4 + 1, none⟩ = some (.int .u64 (xs[j].seq : Int)) ∧ w1.cell? ⟨bl, j * 4 + 2, none⟩ = some (.bool xs[j].del) ∧ w1.cell? ⟨bl, j * 4 + 3, none⟩ = some (.string xs[j].val) ∧ w1.cell? ⟨w.heap.size, 0, none⟩ = some (.string v.key) ∧ w1.cell? ⟨w.heap.size, 1, none⟩ = some (.int .u64 (v.seq : Int)) ∧ w1.cell? ⟨w.heap.size, 2, none⟩ = some (.bool v.del) ∧ w1.cell? ⟨w.heap.size, 3, none⟩ = some (.string v.val)) := Lib.hid (fun w1 hbl => ⟨(hbl.cell (p := ⟨R, 0, none⟩) hRr).trans cLr, (hbl.cell (p := ⟨bl, j * 4, none⟩) hblr).trans x0, (hbl.cell (p := ⟨bl, j * 4 + 1, none⟩) hblr).trans x1, (hbl.cell (p := ⟨bl, j * 4 + 2, none⟩) hblr).trans x2, (hbl.cell (p := ⟨bl, j * 4 + 3, none⟩) hblr).trans x3, (hbl.cell (p := ⟨w.heap.size, 0, none⟩) yB).trans y0, (hbl.cell (p := ⟨w.heap.size, 1, none⟩) yB).trans y1, (hbl.cell (p := ⟨w.heap.size, 2, none⟩) yB).trans y2, (hbl.cell (p := ⟨w.heap.size, 3, none⟩) yB).trans y3⟩)
        go_wp2
        go_region_held3 (fun w' => w'.cell? ⟨R, 0, none⟩ = some (.slice (some ⟨bl, 0, none⟩) xs.length capl) ∧ w'.cell? ⟨bl, j * 4, none⟩ = some (.string xs[j].key) ∧ w'.cell? ⟨bl, j * 4 + 1, none⟩ = some (.int .u64 (xs[j].seq : Int)) ∧ w'.cell? ⟨bl, j * 4 + 2, none⟩ = some (.bool xs[j].del) ∧ w'.cell? ⟨bl, j * 4 + 3, none⟩ = some (.string xs[j].val) ∧ w'.cell? ⟨w.heap.size, 0, none⟩ = some (.string v.key) ∧ w'.cell? ⟨w.heap.size, 1, none⟩ = some (.int .u64 (v.seq : Int)) ∧ w'.cell? ⟨w.heap.size, 2, none⟩ = some (.bool v.del) ∧ w'.cell? ⟨w.heap.size, 3, none⟩ = some (.string v.val)) (first | exact ⟨cLr, x0, x1, x2, x3, y0, y1, y2, y3⟩ | exact hkp | go_keep)
          (first | (go_at_call 15; (with_reducible refine (P.out _).mono ?_); rintro e w1 ⟨rfl, hbl⟩; have hbq := below_seq ((Below.refl _ wr).drew) hbl; have hkp := hkp0.out w1 hbq))
        all_goals
          go_wp2
          go_roundw
          case rel => exact ⟨j + 1, by omega, by go_num, hbr.trans (hbq.mono hbr.size)⟩
          case measure => simp [intOf]; omega
      · obtain rfl : j = xs.length := by omega
        go_wp2
        go_quiet (fail)
        generalize hw2 : wr.drewN nq = w2
        replace hbr : Below W0.heap.size W0 w2 := hw2 ▸ below_drewN hbr nq
        clear hw2 cLr y0 y1 y2 y3 yB
        have cLp := ((hWw.out hbr).cell (p := ⟨R, 0, none⟩) hRw).trans cL
        have ⟨y0, y1, y2, y3, yB⟩ := hV0.kept hbr
        have cHp := ((hWw.out hbr).cell (p := ⟨R, 1, none⟩) hRw).trans cH
        have hn0 := World.ownsRow_nil w2 w2.heap.size 24 4
        have hA1 := Lib.hid (part_take (W := w2) (W0 := w) hrl hob (hWw.out hbr) xs.length)
        have hA4 := Lib.hid (fun (W : World) (hb : Below w2.heap.size w2 W) => ipart_take (W := W) (W0 := w) hrh hobh ((hWw.out hbr).trans (hb.mono (hWw.out hbr).size)) xs.length)
        have hs1 : (0 + xs.length) * 48 ≤ 140737488355328 := lst1 hx
        have hRp : R < w2.heap.size := Nat.lt_of_lt_of_le hRw (hWw.out hbr).size
        have hzp : w.heap.size < w2.heap.size := Nat.lt_of_lt_of_le hz0 hbr.size
        have hs2 : (0 + xs.length + 1) * 48 ≤ 140737488355328 := lst2 hx
        have hs3 : (xs.length + 1 + 0) * 48 ≤ 140737488355328 := lst3 hx
        have hs4 : (0 + xs.length) * 8 ≤ 140737488355328 := lst4 hx
        have hs5 : (0 + xs.length + 1) * 8 ≤ 140737488355328 := lst5 hx
        have hs6 : (xs.length + 1 + 0) * 8 ≤ 140737488355328 := lst6 hx
        have hblk2 := ((hWw.out hbr).block R hRw).trans hblkR.out
        go_wp2_with (at_builtin; first
          | (refine wpList_appPart (by rfl) _ _ 62 (by rfl) w5.heap.size 3 (.int .i64 0) 1 8 Try.underlying62 info_int6 rfl (by decide) (.slice (some ⟨g7, 0, none⟩) (xs.length + 1) cap7) (xs.length + 1) _ w7 ho7 hb7.size (by rfl) ⟨bh, _, none⟩ 0 _ [] (by rfl) rfl (fun _ _ h => by simp at h) (fun _ h => by cases h) hs6 (by decide) ?_; intro v8 w8 ho8 hb8; obtain ⟨g8, cap8, rfl⟩ := own_slice ho8; have hc8 := hc7.trans (hb8.mono hc5.size); have hd8 := hb7.trans hb8; have hblk8 := (hc8.block R hRp).trans hblk2; have cL8 := (hc8.cell (p := ⟨R, 0, none⟩) hRp).trans cLp; have cH8 := (hc8.cell (p := ⟨R, 1, none⟩) hRp).trans cHp; have fL8 := frozen_of hblk8 (o := 0); have fH8 := frozen_of hblk8 (o := 1))
          | (refine wpList_app1 (by rfl) _ _ 62 (by rfl) w5.heap.size 3 (.int .i64 0) 1 8 Try.underlying62 info_int6 rfl (by decide) v6 (0 + xs.length) ([] ++ hcells (hs.take xs.length)) w6 ho6 hb6.size (by rfl) #[.int .i64 h] 3 (by rfl) rfl (by simp [Value.oneCell']) hs5 (by decide) ?_; intro g7 cap7 w7 ho7 hgrow7 _ _; have hb7 := hb6.trans (((Below.refl w5.heap.size w6).alloc hb6.size _).grown hgrow7 (by simp; omega) (fun k e => (ho6.lt k e).1)); have hc7 := hc5.trans (hb7.mono hc5.size); rw [Nat.zero_add] at ho7; have cH7 := (hc7.cell (p := ⟨R, 1, none⟩) hRp).trans cHp)
          | (refine wpList_appPart (by rfl) _ _ 62 (by rfl) w5.heap.size 3 (.int .i64 0) 1 8 Try.underlying62 info_int6 rfl (by decide) (.slice none 0 0) 0 [] w5 hn5 (Nat.le_refl _) (by rfl) ⟨bh, 0, none⟩ xs.length xs.length (hcells (hs.take xs.length)) (by rfl) ((hA4.out w5 hc5).1 (by rw [hhl.out]; exact Nat.le_refl _)) (hA4.out w5 hc5).2 (hcells_one_cell _) hs4 (by decide) ?_; intro v6 w6 ho6 hb6; have hz6 := hb6.size)
          | (refine wpList_appPart (by rfl) _ _ 45 (by rfl) w2.heap.size 24 (.agg #[.string .empty, .int .u64 0, .bool false, .string .empty]) 4 48 Try.underlying45 info_version rfl (by decide) (.slice (some ⟨g4, 0, none⟩) (xs.length + 1) cap4) (xs.length + 1) _ w4 ho4 hb4.size (by rfl) ⟨bl, _, none⟩ 0 _ [] (by rfl) rfl (fun _ _ h => by simp at h) (fun _ h => by cases h) hs3 (by decide) ?_; intro v5 w5 ho5 hb5; obtain ⟨g5, cap5, rfl⟩ := own_slice ho5; have hc5 := hb4.trans hb5; have hn5 := World.ownsRow_nil w5 w5.heap.size 3 1; have cH5 := (hc5.cell (p := ⟨R, 1, none⟩) hRp).trans cHp)
          | (refine wpList_app1 (by rfl) _ _ 45 (by rfl) w2.heap.size 24 (.agg #[.string .empty, .int .u64 0, .bool false, .string .empty]) 4 48 Try.underlying45 info_version rfl (by decide) v1 (0 + xs.length) ([] ++ vcells (xs.take xs.length)) w3 ho1 hb3.size (by rfl) #[.string v.key, .int .u64 (v.seq : Int), .bool v.del, .string v.val] 24 (by rfl) rfl (by simp [Value.oneCell']) hs2 (by decide) ?_; intro g4 cap4 w4 ho4 hgrow4 _ _; have hb4 := hb3.trans (((Below.refl w2.heap.size w3).alloc hb3.size _).grown hgrow4 (by simp; omega) (fun k e => (ho1.lt k e).1)); rw [Nat.zero_add] at ho4; have cL4 := (hb4.cell (p := ⟨R, 0, none⟩) hRp).trans cLp)
          | (refine wpList_appPart (by rfl) _ _ 45 (by rfl) w2.heap.size 24 (.agg #[.string .empty, .int .u64 0, .bool false, .string .empty]) 4 48 Try.underlying45 info_version rfl (by decide) (.slice none 0 0) 0 [] w2 hn0 (Nat.le_refl _) (by rfl) ⟨bl, 0, none⟩ xs.length capl (vcells (xs.take xs.length)) (by rfl) (hA1.out.1 (by omega)) hA1.out.2 (vcells_one_cell _) hs1 (by decide) ?_; intro v1 w3 ho1 hb3; have hz3 := hb3.size; have cL3 := (hb3.cell (p := ⟨R, 0, none⟩) hRp).trans cLp; have y03 := (hb3.cell (p := ⟨w.heap.size, 0, none⟩) hzp).trans y0; have y13 := (hb3.cell (p := ⟨w.heap.size, 1, none⟩) hzp).trans y1; have y23 := (hb3.cell (p := ⟨w.heap.size, 2, none⟩) hzp).trans y2; have y33 := (hb3.cell (p := ⟨w.heap.size, 3, none⟩) hzp).trans y3))
        all_goals
          have hb28 : Below w2.heap.size w2 w8 := hc8
          go_wp2
          have hkR : ∀ W, Keep (fun q => q ≠ R) W ((W.setCell ⟨R, 0, none⟩ (.slice g5 (xs.length + 1 + 0) cap5)).setCell ⟨R, 1, none⟩ (.slice g8 (xs.length + 1 + 0) cap8)) := fun W => ((Keep.refl _ W).setCell _ _ _ (fun h _ => h rfl)).setCell _ _ _ (fun h _ => h rfl)
          have hblk9 := heap_set4m (heap_set4m hblk8 0 (.slice g5 (xs.length + 1 + 0) cap5)) 1 (.slice g8 (xs.length + 1 + 0) cap8)
          have ho5' := (Keep.of_below (fp := fun q => q < w5.heap.size) hd8 (fun _ h _ => h)).ownsRow ho5 (fun q e => (ho5.lt q e).2)
          have hr5 := (hkR w8).ownsRow ho5' (fun q e => by have := (ho5'.lt q e).1; omega)
          have hr8 := (hkR w8).ownsRow ho8 (fun q e => by have := (ho8.lt q e).1; have := hc5.size; omega)
          have hk28 : Keep (fun q => q ≠ R) w ((w8.setCell ⟨R, 0, none⟩ (.slice g5 (xs.length + 1 + 0) cap5)).setCell ⟨R, 1, none⟩ (.slice g8 (xs.length + 1 + 0) cap8)) := (Keep.of_below (fp := fun q => q ≠ R) ((hWw.out hbr).trans (hb28.mono (hWw.out hbr).size)) (fun _ _ h => h)).trans (hkR w8) (fun _ h _ => h)
          go_ret
          refine ⟨ret_int rfl, ?_, hk28⟩
          skip
          have ev : [] ++ vcells (xs.take xs.length) ++ (#[.string v.key, .int .u64 (v.seq : Int), .bool v.del, .string v.val] : Array Value).toList ++ [] = vcells (Pl.ins xs xs.length v) := by
            unfold Pl.ins
            rw [vcells_append]
            simp [vcells]
          have eh : [] ++ hcells (hs.take xs.length) ++ (#[.int .i64 h] : Array Value).toList ++ [] = hcells (Pl.ins hs xs.length h.toNat) := by
            unfold Pl.ins
            rw [hcells_append]
            have e1 : h = (h.toNat : Int) := by omega
            rw [← hhl.out]
            simp [hcells]
            omega
          refine ⟨(.slice g5 (xs.length + 1 + 0) cap5), (.slice g8 (xs.length + 1 + 0) cap8), hblk9, ?_, ?_, fun e => ?_⟩
          · show World.ownsRow _ (R + 1) _ 4 (.slice g5 (xs.length + 1 + 0) cap5) (Pl.ins xs xs.length v).length (vcells (Pl.ins xs xs.length v))
            rw [← ev, Pl.ins_length, show xs.length + 1 = xs.length + 1 + 0 by omega]
            exact ownsRow_base hr5 (by omega)
          · show World.ownsRow _ (R + 1) _ 1 (.slice g8 (xs.length + 1 + 0) cap8) (Pl.ins hs xs.length h.toNat).length (hcells (Pl.ins hs xs.length h.toNat))
            rw [← eh, Pl.ins_length, show hs.length + 1 = xs.length + 1 + 0 by rw [hhl.out]]
            exact ownsRow_base hr8 (by have := hc5.size; omega)
          · have e2 : Pl.ins xs xs.length v = [] := e
            have := congrArg List.length e2
            rw [Pl.ins_length] at this
            simp at this
  · go_enter Try.func48, Try.ntmps48
    go_wp2_with fail
    clear hW0
    refine (PM.out _).mono ?_
    rintro e wm ⟨rfl, bm⟩
    clear f0 f1 f2 f3 PM
    have cLm := ((hWw.out bm).cell (p := ⟨R, 0, none⟩) hRw).trans cL
    go_wp2
    go_loopw [8] (fun i W' => ∃ j : Nat, j ≤ xs.length ∧ i = .int .i64 (j : Int) ∧ Below W0.heap.size W0 W') (fun i _ => xs.length - (intOf i).toNat)
    case atStart => exact ⟨0, by omega, rfl, bm⟩
    case round =>
      obtain ⟨j, hj, rfl, hbr⟩ := hrel
      have cLr := ((hWw.out hbr).cell (p := ⟨R, 0, none⟩) hRw).trans cL
      have ⟨y0, y1, y2, y3, yB⟩ := hV0.kept hbr
      by_cases hjn : j < xs.length
      · obtain ⟨bl', hbl', hob', hver⟩ := hcl'.out j hjn
        obtain rfl : bl = bl' := by injection hbl' with e; injection e
        have hbl0 := (hlb bl hob).2
        obtain ⟨x0, x1, x2, x3⟩ := hver.kept ((hWw.out hbr).block bl hbl0)
        have hblr : bl < wr.heap.size := Nat.lt_of_lt_of_le hbl0 (hWw.out hbr).size
        have hRr : R < wr.heap.size := Nat.lt_of_lt_of_le hRw (hWw.out hbr).size
        have P := Lib.hid (fun W => refLess_any xs[j] v W)
        rw [hA.out j hjn] at P
        have hkp0 : Hid (∀ w1 : World, Below wr.heap.size wr w1 → w1.cell? ⟨R, 0, none⟩ = some (.slice (some ⟨bl, 0, none⟩) xs.length xs.length) ∧ w1.cell? ⟨bl, j * 4, none⟩ = some (.string xs[j].key) ∧ w1.cell? ⟨bl, j * 4 + 1, none⟩ = some (.int .u64 (xs[j].seq : Int)) ∧ w1.cell? ⟨bl, j * 4 + 2, none⟩ = some (.bool xs[j].del) ∧ w1.cell? ⟨bl, j * 4 + 3, none⟩ = some (.string xs[j].val) ∧ w1.cell? ⟨w.heap.size, 0, none⟩ = some (.string v.key) ∧ w1.cell? ⟨w.heap.size, 1, none⟩ = some (.int .u64 (v.seq : Int)) ∧ w1.cell? ⟨w.heap.size, 2, none⟩ = some (.bool v.del) ∧ w1.cell? ⟨w.heap.size, 3, none⟩ = some (.string v.val)) := Lib.hid (fun w1 hbl => ⟨(hbl.cell (p := ⟨R, 0, none⟩) hRr).trans cLr, (hbl.cell (p := ⟨bl, j * 4, none⟩) hblr).trans x0, (hbl.cell (p := ⟨bl, j * 4 + 1, none⟩) hblr).trans x1, (hbl.cell (p := ⟨bl, j * 4 + 2, none⟩) hblr).trans x2, (hbl.cell (p := ⟨bl, j * 4 + 3, none⟩) hblr).trans x3, (hbl.cell (p := ⟨w.heap.size, 0, none⟩) yB).trans y0, (hbl.cell (p := ⟨w.heap.size, 1, none⟩) yB).trans y1, (hbl.cell (p := ⟨w.heap.size, 2, none⟩) yB).trans y2, (hbl.cell (p := ⟨w.heap.size, 3, none⟩) yB).trans y3⟩)
        go_wp2
        go_region_held3 (fun w' => w'.cell? ⟨R, 0, none⟩ = some (.slice (some ⟨bl, 0, none⟩) xs.length xs.length) ∧ w'.cell? ⟨bl, j * 4, none⟩ = some (.string xs[j].key) ∧ w'.cell? ⟨bl, j * 4 + 1, none⟩ = some (.int .u64 (xs[j].seq : Int)) ∧ w'.cell? ⟨bl, j * 4 + 2, none⟩ = some (.bool xs[j].del) ∧ w'.cell? ⟨bl, j * 4 + 3, none⟩ = some (.string xs[j].val) ∧ w'.cell? ⟨w.heap.size, 0, none⟩ = some (.string v.key) ∧ w'.cell? ⟨w.heap.size, 1, none⟩ = some (.int .u64 (v.seq : Int)) ∧ w'.cell? ⟨w.heap.size, 2, none⟩ = some (.bool v.del) ∧ w'.cell? ⟨w.heap.size, 3, none⟩ = some (.string v.val)) (first | exact ⟨cLr, x0, x1, x2, x3, y0, y1, y2, y3⟩ | exact hkp | go_keep)
          (first | (go_at_call 15; (with_reducible refine (P.out _).mono ?_); rintro e w1 ⟨rfl, hbl⟩; have hbq := below_seq ((Below.refl _ wr).drew) hbl; have hkp := hkp0.out w1 hbq))
        all_goals
          go_wp2
          go_roundw
          case rel => exact ⟨j + 1, by omega, by go_num, hbr.trans (hbq.mono hbr.size)⟩
          case measure => simp [intOf]; omega
      · obtain rfl : j = xs.length := by omega
        go_wp2
        go_quiet (fail)
        generalize hw2 : wr.drewN nq = w2
        replace hbr : Below W0.heap.size W0 w2 := hw2 ▸ below_drewN hbr nq
        clear hw2 cLr y0 y1 y2 y3 yB
        have cLp := ((hWw.out hbr).cell (p := ⟨R, 0, none⟩) hRw).trans cL
        have ⟨y0, y1, y2, y3, yB⟩ := hV0.kept hbr
        have cHp := ((hWw.out hbr).cell (p := ⟨R, 1, none⟩) hRw).trans cH
        have hn0 := World.ownsRow_nil w2 w2.heap.size 24 4
        have hA1 := Lib.hid (part_take (W := w2) (W0 := w) hrl hob (hWw.out hbr) xs.length)
        have hA4 := Lib.hid (fun (W : World) (hb : Below w2.heap.size w2 W) => ipart_take (W := W) (W0 := w) hrh hobh ((hWw.out hbr).trans (hb.mono (hWw.out hbr).size)) xs.length)
        have hs1 : (0 + xs.length) * 48 ≤ 140737488355328 := lst1 hx
        have hRp : R < w2.heap.size := Nat.lt_of_lt_of_le hRw (hWw.out hbr).size
        have hzp : w.heap.size < w2.heap.size := Nat.lt_of_lt_of_le hz0 hbr.size
        have hs2 : (0 + xs.length + 1) * 48 ≤ 140737488355328 := lst2 hx
        have hs3 : (xs.length + 1 + 0) * 48 ≤ 140737488355328 := lst3 hx
        have hs4 : (0 + xs.length) * 8 ≤ 140737488355328 := lst4 hx
        have hs5 : (0 + xs.length + 1) * 8 ≤ 140737488355328 := lst5 hx
        have hs6 : (xs.length + 1 + 0) * 8 ≤ 140737488355328 := lst6 hx
        have hblk2 := ((hWw.out hbr).block R hRw).trans hblkR.out
        have hjh2 : xs.length ≤ caph := by omega
        go_wp2_with (at_builtin; first
          | (refine wpList_appPart (by rfl) _ _ 62 (by rfl) w5.heap.size 3 (.int .i64 0) 1 8 Try.underlying62 info_int6 rfl (by decide) (.slice (some ⟨g7, 0, none⟩) (xs.length + 1) cap7) (xs.length + 1) _ w7 ho7 hb7.size (by rfl) ⟨bh, _, none⟩ 0 _ [] (by rfl) rfl (fun _ _ h => by simp at h) (fun _ h => by cases h) hs6 (by decide) ?_; intro v8 w8 ho8 hb8; obtain ⟨g8, cap8, rfl⟩ := own_slice ho8; have hc8 := hc7.trans (hb8.mono hc5.size); have hd8 := hb7.trans hb8; have hblk8 := (hc8.block R hRp).trans hblk2; have cL8 := (hc8.cell (p := ⟨R, 0, none⟩) hRp).trans cLp; have cH8 := (hc8.cell (p := ⟨R, 1, none⟩) hRp).trans cHp; have fL8 := frozen_of hblk8 (o := 0); have fH8 := frozen_of hblk8 (o := 1))
          | (refine wpList_app1 (by rfl) _ _ 62 (by rfl) w5.heap.size 3 (.int .i64 0) 1 8 Try.underlying62 info_int6 rfl (by decide) v6 (0 + xs.length) ([] ++ hcells (hs.take xs.length)) w6 ho6 hb6.size (by rfl) #[.int .i64 h] 3 (by rfl) rfl (by simp [Value.oneCell']) hs5 (by decide) ?_; intro g7 cap7 w7 ho7 hgrow7 _ _; have hb7 := hb6.trans (((Below.refl w5.heap.size w6).alloc hb6.size _).grown hgrow7 (by simp; omega) (fun k e => (ho6.lt k e).1)); have hc7 := hc5.trans (hb7.mono hc5.size); rw [Nat.zero_add] at ho7; have cH7 := (hc7.cell (p := ⟨R, 1, none⟩) hRp).trans cHp)
          | (refine wpList_appPart (by rfl) _ _ 62 (by rfl) w5.heap.size 3 (.int .i64 0) 1 8 Try.underlying62 info_int6 rfl (by decide) (.slice none 0 0) 0 [] w5 hn5 (Nat.le_refl _) (by rfl) ⟨bh, 0, none⟩ xs.length caph (hcells (hs.take xs.length)) (by rfl) ((hA4.out w5 hc5).1 (by rw [hhl.out]; exact Nat.le_refl _)) (hA4.out w5 hc5).2 (hcells_one_cell _) hs4 (by decide) ?_; intro v6 w6 ho6 hb6; have hz6 := hb6.size)
          | (refine wpList_appPart (by rfl) _ _ 45 (by rfl) w2.heap.size 24 (.agg #[.string .empty, .int .u64 0, .bool false, .string .empty]) 4 48 Try.underlying45 info_version rfl (by decide) (.slice (some ⟨g4, 0, none⟩) (xs.length + 1) cap4) (xs.length + 1) _ w4 ho4 hb4.size (by rfl) ⟨bl, _, none⟩ 0 _ [] (by rfl) rfl (fun _ _ h => by simp at h) (fun _ h => by cases h) hs3 (by decide) ?_; intro v5 w5 ho5 hb5; obtain ⟨g5, cap5, rfl⟩ := own_slice ho5; have hc5 := hb4.trans hb5; have hn5 := World.ownsRow_nil w5 w5.heap.size 3 1; have cH5 := (hc5.cell (p := ⟨R, 1, none⟩) hRp).trans cHp)
          | (refine wpList_app1 (by rfl) _ _ 45 (by rfl) w2.heap.size 24 (.agg #[.string .empty, .int .u64 0, .bool false, .string .empty]) 4 48 Try.underlying45 info_version rfl (by decide) v1 (0 + xs.length) ([] ++ vcells (xs.take xs.length)) w3 ho1 hb3.size (by rfl) #[.string v.key, .int .u64 (v.seq : Int), .bool v.del, .string v.val] 24 (by rfl) rfl (by simp [Value.oneCell']) hs2 (by decide) ?_; intro g4 cap4 w4 ho4 hgrow4 _ _; have hb4 := hb3.trans (((Below.refl w2.heap.size w3).alloc hb3.size _).grown hgrow4 (by simp; omega) (fun k e => (ho1.lt k e).1)); rw [Nat.zero_add] at ho4; have cL4 := (hb4.cell (p := ⟨R, 0, none⟩) hRp).trans cLp)
          | (refine wpList_appPart (by rfl) _ _ 45 (by rfl) w2.heap.size 24 (.agg #[.string .empty, .int .u64 0, .bool false, .string .empty]) 4 48 Try.underlying45 info_version rfl (by decide) (.slice none 0 0) 0 [] w2 hn0 (Nat.le_refl _) (by rfl) ⟨bl, 0, none⟩ xs.length xs.length (vcells (xs.take xs.length)) (by rfl) (hA1.out.1 (by omega)) hA1.out.2 (vcells_one_cell _) hs1 (by decide) ?_; intro v1 w3 ho1 hb3; have hz3 := hb3.size; have cL3 := (hb3.cell (p := ⟨R, 0, none⟩) hRp).trans cLp; have y03 := (hb3.cell (p := ⟨w.heap.size, 0, none⟩) hzp).trans y0; have y13 := (hb3.cell (p := ⟨w.heap.size, 1, none⟩) hzp).trans y1; have y23 := (hb3.cell (p := ⟨w.heap.size, 2, none⟩) hzp).trans y2; have y33 := (hb3.cell (p := ⟨w.heap.size, 3, none⟩) hzp).trans y3))
        all_goals
          have hb28 : Below w2.heap.size w2 w8 := hc8
          go_wp2
          have hkR : ∀ W, Keep (fun q => q ≠ R) W ((W.setCell ⟨R, 0, none⟩ (.slice g5 (xs.length + 1 + 0) cap5)).setCell ⟨R, 1, none⟩ (.slice g8 (xs.length + 1 + 0) cap8)) := fun W => ((Keep.refl _ W).setCell _ _ _ (fun h _ => h rfl)).setCell _ _ _ (fun h _ => h rfl)
          have hblk9 := heap_set4m (heap_set4m hblk8 0 (.slice g5 (xs.length + 1 + 0) cap5)) 1 (.slice g8 (xs.length + 1 + 0) cap8)
          have ho5' := (Keep.of_below (fp := fun q => q < w5.heap.size) hd8 (fun _ h _ => h)).ownsRow ho5 (fun q e => (ho5.lt q e).2)
          have hr5 := (hkR w8).ownsRow ho5' (fun q e => by have := (ho5'.lt q e).1; omega)
          have hr8 := (hkR w8).ownsRow ho8 (fun q e => by have := (ho8.lt q e).1; have := hc5.size; omega)
          have hk28 : Keep (fun q => q ≠ R) w ((w8.setCell ⟨R, 0, none⟩ (.slice g5 (xs.length + 1 + 0) cap5)).setCell ⟨R, 1, none⟩ (.slice g8 (xs.length + 1 + 0) cap8)) := (Keep.of_below (fp := fun q => q ≠ R) ((hWw.out hbr).trans (hb28.mono (hWw.out hbr).size)) (fun _ _ h => h)).trans (hkR w8) (fun _ h _ => h)
          go_ret
          refine ⟨ret_int rfl, ?_, hk28⟩
          skip
          have ev : [] ++ vcells (xs.take xs.length) ++ (#[.string v.key, .int .u64 (v.seq : Int), .bool v.del, .string v.val] : Array Value).toList ++ [] = vcells (Pl.ins xs xs.length v) := by
            unfold Pl.ins
            rw [vcells_append]
            simp [vcells]
          have eh : [] ++ hcells (hs.take xs.length) ++ (#[.int .i64 h] : Array Value).toList ++ [] = hcells (Pl.ins hs xs.length h.toNat) := by
            unfold Pl.ins
            rw [hcells_append]
            have e1 : h = (h.toNat : Int) := by omega
            rw [← hhl.out]
            simp [hcells]
            omega
          refine ⟨(.slice g5 (xs.length + 1 + 0) cap5), (.slice g8 (xs.length + 1 + 0) cap8), hblk9, ?_, ?_, fun e => ?_⟩
          · show World.ownsRow _ (R + 1) _ 4 (.slice g5 (xs.length + 1 + 0) cap5) (Pl.ins xs xs.length v).length (vcells (Pl.ins xs xs.length v))
            rw [← ev, Pl.ins_length, show xs.length + 1 = xs.length + 1 + 0 by omega]
            exact ownsRow_base hr5 (by omega)
          · show World.ownsRow _ (R + 1) _ 1 (.slice g8 (xs.length + 1 + 0) cap8) (Pl.ins hs xs.length h.toNat).length (hcells (Pl.ins hs xs.length h.toNat))
            rw [← eh, Pl.ins_length, show hs.length + 1 = xs.length + 1 + 0 by rw [hhl.out]]
            exact ownsRow_base hr8 (by have := hc5.size; omega)
          · have e2 : Pl.ins xs xs.length v = [] := e
            have := congrArg List.length e2
            rw [Pl.ins_length] at this
            simp at this
  · go_enter Try.func48, Try.ntmps48
    go_wp2_with fail
    clear hW0
    refine (PM.out _).mono ?_
    rintro e wm ⟨rfl, bm⟩
    clear f0 f1 f2 f3 PM
    have cLm := ((hWw.out bm).cell (p := ⟨R, 0, none⟩) hRw).trans cL
    go_wp2
    go_loopw [8] (fun i W' => ∃ j : Nat, j ≤ xs.length ∧ i = .int .i64 (j : Int) ∧ Below W0.heap.size W0 W') (fun i _ => xs.length - (intOf i).toNat)
    case atStart => exact ⟨0, by omega, rfl, bm⟩
    case round =>
      obtain ⟨j, hj, rfl, hbr⟩ := hrel
      have cLr := ((hWw.out hbr).cell (p := ⟨R, 0, none⟩) hRw).trans cL
      have ⟨y0, y1, y2, y3, yB⟩ := hV0.kept hbr
      by_cases hjn : j < xs.length
      · obtain ⟨bl', hbl', hob', hver⟩ := hcl'.out j hjn
        obtain rfl : bl = bl' := by injection hbl' with e; injection e
        have hbl0 := (hlb bl hob).2
        obtain ⟨x0, x1, x2, x3⟩ := hver.kept ((hWw.out hbr).block bl hbl0)
        have hblr : bl < wr.heap.size := Nat.lt_of_lt_of_le hbl0 (hWw.out hbr).size
        have hRr : R < wr.heap.size := Nat.lt_of_lt_of_le hRw (hWw.out hbr).size
        have P := Lib.hid (fun W => refLess_any xs[j] v W)
        rw [hA.out j hjn] at P
        have hkp0 : Hid (∀ w1 : World, Below wr.heap.size wr w1 → w1.cell? ⟨R, 0, none⟩ = some (.slice (some ⟨bl, 0, none⟩) xs.length xs.length) ∧ w1.cell? ⟨bl, j * 4, none⟩ = some (.string xs[j].key) ∧ w1.cell? ⟨bl, j * 4 + 1, none⟩ = some (.int .u64 (xs[j].seq : Int)) ∧ w1.cell? ⟨bl, j * 4 + 2, none⟩ = some (.bool xs[j].del) ∧ w1.cell? ⟨bl, j * 4 + 3, none⟩ = some (.string xs[j].val) ∧ w1.cell? ⟨w.heap.size, 0, none⟩ = some (.string v.key) ∧ w1.cell? ⟨w.heap.size, 1, none⟩ = some (.int .u64 (v.seq : Int)) ∧ w1.cell? ⟨w.heap.size, 2, none⟩ = some (.bool v.del) ∧ w1.cell? ⟨w.heap.size, 3, none⟩ = some (.string v.val)) := Lib.hid (fun w1 hbl => ⟨(hbl.cell (p := ⟨R, 0, none⟩) hRr).trans cLr, (hbl.cell (p := ⟨bl, j * 4, none⟩) hblr).trans x0, (hbl.cell (p := ⟨bl, j * 4 + 1, none⟩) hblr).trans x1, (hbl.cell (p := ⟨bl, j * 4 + 2, none⟩) hblr).trans x2, (hbl.cell (p := ⟨bl, j * 4 + 3, none⟩) hblr).trans x3, (hbl.cell (p := ⟨w.heap.size, 0, none⟩) yB).trans y0, (hbl.cell (p := ⟨w.heap.size, 1, none⟩) yB).trans y1, (hbl.cell (p := ⟨w.heap.size, 2, none⟩) yB).trans y2, (hbl.cell (p := ⟨w.heap.size, 3, none⟩) yB).trans y3⟩)
        go_wp2
        go_region_held3 (fun w' => w'.cell? ⟨R, 0, none⟩ = some (.slice (some ⟨bl, 0, none⟩) xs.length xs.length) ∧ w'.cell? ⟨bl, j * 4, none⟩ = some (.string xs[j].key) ∧ w'.cell? ⟨bl, j * 4 + 1, none⟩ = some (.int .u64 (xs[j].seq : Int)) ∧ w'.cell? ⟨bl, j * 4 + 2, none⟩ = some (.bool xs[j].del) ∧ w'.cell? ⟨bl, j * 4 + 3, none⟩ = some (.string xs[j].val) ∧ w'.cell? ⟨w.heap.size, 0, none⟩ = some (.string v.key) ∧ w'.cell? ⟨w.heap.size, 1, none⟩ = some (.int .u64 (v.seq : Int)) ∧ w'.cell? ⟨w.heap.size, 2, none⟩ = some (.bool v.del) ∧ w'.cell? ⟨w.heap.size, 3, none⟩ = some (.string v.val)) (first | exact ⟨cLr, x0, x1, x2, x3, y0, y1, y2, y3⟩ | exact hkp | go_keep)
          (first | (go_at_call 15; (with_reducible refine (P.out _).mono ?_); rintro e w1 ⟨rfl, hbl⟩; have hbq := below_seq ((Below.refl _ wr).drew) hbl; have hkp := hkp0.out w1 hbq))
        all_goals
          go_wp2
          go_roundw
          case rel => exact ⟨j + 1, by omega, by go_num, hbr.trans (hbq.mono hbr.size)⟩
          case measure => simp [intOf]; omega
      · obtain rfl : j = xs.length := by omega
        go_wp2
        go_quiet (fail)
        generalize hw2 : wr.drewN nq = w2
        replace hbr : Below W0.heap.size W0 w2 := hw2 ▸ below_drewN hbr nq
        clear hw2 cLr y0 y1 y2 y3 yB
        have cLp := ((hWw.out hbr).cell (p := ⟨R, 0, none⟩) hRw).trans cL
        have ⟨y0, y1, y2, y3, yB⟩ := hV0.kept hbr
        have cHp := ((hWw.out hbr).cell (p := ⟨R, 1, none⟩) hRw).trans cH
        have hn0 := World.ownsRow_nil w2 w2.heap.size 24 4
        have hA1 := Lib.hid (part_take (W := w2) (W0 := w) hrl hob (hWw.out hbr) xs.length)
        have hA4 := Lib.hid (fun (W : World) (hb : Below w2.heap.size w2 W) => ipart_take (W := W) (W0 := w) hrh hobh ((hWw.out hbr).trans (hb.mono (hWw.out hbr).size)) xs.length)
        have hs1 : (0 + xs.length) * 48 ≤ 140737488355328 := lst1 hx
        have hRp : R < w2.heap.size := Nat.lt_of_lt_of_le hRw (hWw.out hbr).size
        have hzp : w.heap.size < w2.heap.size := Nat.lt_of_lt_of_le hz0 hbr.size
        have hs2 : (0 + xs.length + 1) * 48 ≤ 140737488355328 := lst2 hx
        have hs3 : (xs.length + 1 + 0) * 48 ≤ 140737488355328 := lst3 hx
        have hs4 : (0 + xs.length) * 8 ≤ 140737488355328 := lst4 hx
        have hs5 : (0 + xs.length + 1) * 8 ≤ 140737488355328 := lst5 hx
        have hs6 : (xs.length + 1 + 0) * 8 ≤ 140737488355328 := lst6 hx
        have hblk2 := ((hWw.out hbr).block R hRw).trans hblkR.out
        go_wp2_with (at_builtin; first
          | (refine wpList_appPart (by rfl) _ _ 62 (by rfl) w5.heap.size 3 (.int .i64 0) 1 8 Try.underlying62 info_int6 rfl (by decide) (.slice (some ⟨g7, 0, none⟩) (xs.length + 1) cap7) (xs.length + 1) _ w7 ho7 hb7.size (by rfl) ⟨bh, _, none⟩ 0 _ [] (by rfl) rfl (fun _ _ h => by simp at h) (fun _ h => by cases h) hs6 (by decide) ?_; intro v8 w8 ho8 hb8; obtain ⟨g8, cap8, rfl⟩ := own_slice ho8; have hc8 := hc7.trans (hb8.mono hc5.size); have hd8 := hb7.trans hb8; have hblk8 := (hc8.block R hRp).trans hblk2; have cL8 := (hc8.cell (p := ⟨R, 0, none⟩) hRp).trans cLp; have cH8 := (hc8.cell (p := ⟨R, 1, none⟩) hRp).trans cHp; have fL8 := frozen_of hblk8 (o := 0); have fH8 := frozen_of hblk8 (o := 1))
          | (refine wpList_app1 (by rfl) _ _ 62 (by rfl) w5.heap.size 3 (.int .i64 0) 1 8 Try.underlying62 info_int6 rfl (by decide) v6 (0 + xs.length) ([] ++ hcells (hs.take xs.length)) w6 ho6 hb6.size (by rfl) #[.int .i64 h] 3 (by rfl) rfl (by simp [Value.oneCell']) hs5 (by decide) ?_; intro g7 cap7 w7 ho7 hgrow7 _ _; have hb7 := hb6.trans (((Below.refl w5.heap.size w6).alloc hb6.size _).grown hgrow7 (by simp; omega) (fun k e => (ho6.lt k e).1)); have hc7 := hc5.trans (hb7.mono hc5.size); rw [Nat.zero_add] at ho7; have cH7 := (hc7.cell (p := ⟨R, 1, none⟩) hRp).trans cHp)
          | (refine wpList_appPart (by rfl) _ _ 62 (by rfl) w5.heap.size 3 (.int .i64 0) 1 8 Try.underlying62 info_int6 rfl (by decide) (.slice none 0 0) 0 [] w5 hn5 (Nat.le_refl _) (by rfl) ⟨bh, 0, none⟩ xs.length xs.length (hcells (hs.take xs.length)) (by rfl) ((hA4.out w5 hc5).1 (by rw [hhl.out]; exact Nat.le_refl _)) (hA4.out w5 hc5).2 (hcells_one_cell _) hs4 (by decide) ?_; intro v6 w6 ho6 hb6; have hz6 := hb6.size)
          | (refine wpList_appPart (by rfl) _ _ 45 (by rfl) w2.heap.size 24 (.agg #[.string .empty, .int .u64 0, .bool false, .string .empty]) 4 48 Try.underlying45 info_version rfl (by decide) (.slice (some ⟨g4, 0, none⟩) (xs.length + 1) cap4) (xs.length + 1) _ w4 ho4 hb4.size (by rfl) ⟨bl, _, none⟩ 0 _ [] (by rfl) rfl (fun _ _ h => by simp at h) (fun _ h => by cases h) hs3 (by decide) ?_; intro v5 w5 ho5 hb5; obtain ⟨g5, cap5, rfl⟩ := own_slice ho5; have hc5 := hb4.trans hb5; have hn5 := World.ownsRow_nil w5 w5.heap.size 3 1; have cH5 := (hc5.cell (p := ⟨R, 1, none⟩) hRp).trans cHp)
          | (refine wpList_app1 (by rfl) _ _ 45 (by rfl) w2.heap.size 24 (.agg #[.string .empty, .int .u64 0, .bool false, .string .empty]) 4 48 Try.underlying45 info_version rfl (by decide) v1 (0 + xs.length) ([] ++ vcells (xs.take xs.length)) w3 ho1 hb3.size (by rfl) #[.string v.key, .int .u64 (v.seq : Int), .bool v.del, .string v.val] 24 (by rfl) rfl (by simp [Value.oneCell']) hs2 (by decide) ?_; intro g4 cap4 w4 ho4 hgrow4 _ _; have hb4 := hb3.trans (((Below.refl w2.heap.size w3).alloc hb3.size _).grown hgrow4 (by simp; omega) (fun k e => (ho1.lt k e).1)); rw [Nat.zero_add] at ho4; have cL4 := (hb4.cell (p := ⟨R, 0, none⟩) hRp).trans cLp)
          | (refine wpList_appPart (by rfl) _ _ 45 (by rfl) w2.heap.size 24 (.agg #[.string .empty, .int .u64 0, .bool false, .string .empty]) 4 48 Try.underlying45 info_version rfl (by decide) (.slice none 0 0) 0 [] w2 hn0 (Nat.le_refl _) (by rfl) ⟨bl, 0, none⟩ xs.length xs.length (vcells (xs.take xs.length)) (by rfl) (hA1.out.1 (by omega)) hA1.out.2 (vcells_one_cell _) hs1 (by decide) ?_; intro v1 w3 ho1 hb3; have hz3 := hb3.size; have cL3 := (hb3.cell (p := ⟨R, 0, none⟩) hRp).trans cLp; have y03 := (hb3.cell (p := ⟨w.heap.size, 0, none⟩) hzp).trans y0; have y13 := (hb3.cell (p := ⟨w.heap.size, 1, none⟩) hzp).trans y1; have y23 := (hb3.cell (p := ⟨w.heap.size, 2, none⟩) hzp).trans y2; have y33 := (hb3.cell (p := ⟨w.heap.size, 3, none⟩) hzp).trans y3))
        all_goals
          have hb28 : Below w2.heap.size w2 w8 := hc8
          go_wp2
          have hkR : ∀ W, Keep (fun q => q ≠ R) W ((W.setCell ⟨R, 0, none⟩ (.slice g5 (xs.length + 1 + 0) cap5)).setCell ⟨R, 1, none⟩ (.slice g8 (xs.length + 1 + 0) cap8)) := fun W => ((Keep.refl _ W).setCell _ _ _ (fun h _ => h rfl)).setCell _ _ _ (fun h _ => h rfl)
          have hblk9 := heap_set4m (heap_set4m hblk8 0 (.slice g5 (xs.length + 1 + 0) cap5)) 1 (.slice g8 (xs.length + 1 + 0) cap8)
          have ho5' := (Keep.of_below (fp := fun q => q < w5.heap.size) hd8 (fun _ h _ => h)).ownsRow ho5 (fun q e => (ho5.lt q e).2)
          have hr5 := (hkR w8).ownsRow ho5' (fun q e => by have := (ho5'.lt q e).1; omega)
          have hr8 := (hkR w8).ownsRow ho8 (fun q e => by have := (ho8.lt q e).1; have := hc5.size; omega)
          have hk28 : Keep (fun q => q ≠ R) w ((w8.setCell ⟨R, 0, none⟩ (.slice g5 (xs.length + 1 + 0) cap5)).setCell ⟨R, 1, none⟩ (.slice g8 (xs.length + 1 + 0) cap8)) := (Keep.of_below (fp := fun q => q ≠ R) ((hWw.out hbr).trans (hb28.mono (hWw.out hbr).size)) (fun _ _ h => h)).trans (hkR w8) (fun _ h _ => h)
          go_ret
          refine ⟨ret_int rfl, ?_, hk28⟩
          skip
          have ev : [] ++ vcells (xs.take xs.length) ++ (#[.string v.key, .int .u64 (v.seq : Int), .bool v.del, .string v.val] : Array Value).toList ++ [] = vcells (Pl.ins xs xs.length v) := by
            unfold Pl.ins
            rw [vcells_append]
            simp [vcells]
          have eh : [] ++ hcells (hs.take xs.length) ++ (#[.int .i64 h] : Array Value).toList ++ [] = hcells (Pl.ins hs xs.length h.toNat) := by
            unfold Pl.ins
            rw [hcells_append]
            have e1 : h = (h.toNat : Int) := by omega
            rw [← hhl.out]
            simp [hcells]
            omega
          refine ⟨(.slice g5 (xs.length + 1 + 0) cap5), (.slice g8 (xs.length + 1 + 0) cap8), hblk9, ?_, ?_, fun e => ?_⟩
          · show World.ownsRow _ (R + 1) _ 4 (.slice g5 (xs.length + 1 + 0) cap5) (Pl.ins xs xs.length v).length (vcells (Pl.ins xs xs.length v))
            rw [← ev, Pl.ins_length, show xs.length + 1 = xs.length + 1 + 0 by omega]
            exact ownsRow_base hr5 (by omega)
          · show World.ownsRow _ (R + 1) _ 1 (.slice g8 (xs.length + 1 + 0) cap8) (Pl.ins hs xs.length h.toNat).length (hcells (Pl.ins hs xs.length h.toNat))
            rw [← eh, Pl.ins_length, show hs.length + 1 = xs.length + 1 + 0 by rw [hhl.out]]
            exact ownsRow_base hr8 (by have := hc5.size; omega)
          · have e2 : Pl.ins xs xs.length v = [] := e
            have := congrArg List.length e2
            rw [Pl.ins_length] at this
            simp at this

set_option maxRecDepth 100000 in
set_option maxHeartbeats 1600000 in
theorem refAdd_first (R : Nat) (v : Ver) (h : Int) (w : World) (hR : RtAt w R [] []) (hm : Pl.mayM v.key v.seq v.del v.val = true) (hh1 : ¬ h < 1) (hh2 : ¬ 8 < h) :
    Calls Try.prog 48 #[.pointer (some ⟨R, 0, none⟩), .agg #[.string v.key, .int .u64 (v.seq : Int), .bool v.del, .string v.val], .int .i64 h] w fun e w' =>
      e = .returned (.int .i64 0) ∧ RtAt w' R [v] [h.toNat] ∧ Keep (fun q => q ≠ R) w w' := by
  obtain ⟨W0, hW0⟩ : ∃ W0, w.alloc (.cells #[.string v.key, .int .u64 (v.seq : Int), .bool v.del, .string v.val] 24) = W0 := ⟨_, rfl⟩
  have hb0 : Below w.heap.size w W0 := by rw [← hW0]; exact (Below.refl _ _).alloc (Nat.le_refl _) _
  have hV0 : VrAt w.heap.size v.key (v.seq : Int) v.del v.val W0 := by rw [← hW0]; exact VrAt.new _ _ _ _ _ _
  have ⟨f0, f1, f2, f3, fB⟩ := hV0
  have PM := Lib.hid (fun W => refMayM_any v.key v.seq v.del v.val W)
  rw [hm] at PM
  obtain ⟨L, H, hblk, hrl, hrh, hnil⟩ := id hR
  obtain ⟨rfl, rfl⟩ := hnil rfl
  have hRw := (Array.getElem?_eq_some_iff.1 hblk).1
  have cL : w.cell? ⟨R, 0, none⟩ = some (.slice none 0 0) := (cell_of hblk).trans rfl
  have cH : w.cell? ⟨R, 1, none⟩ = some (.slice none 0 0) := (cell_of hblk).trans rfl
  have hWw : Hid (∀ {w' : World}, Below W0.heap.size W0 w' → Below w.heap.size w w') := Lib.hid (fun hb => hb0.trans (hb.mono hb0.size))
  have hz0 : w.heap.size < W0.heap.size := fB
  have hblkR := Lib.hid hblk
  clear hblk hnil hrl hrh
  go_enter Try.func48, Try.ntmps48
  go_wp2_with fail
  clear hW0
  refine (PM.out _).mono ?_
  rintro e wm ⟨rfl, bm⟩
  clear f0 f1 f2 f3 PM
  have cLm := ((hWw.out bm).cell (p := ⟨R, 0, none⟩) hRw).trans cL
  go_wp2
  go_loopw [8] (fun i W' => i = .int .i64 0 ∧ Below W0.heap.size W0 W') (fun i _ => 0)
  case atStart => exact ⟨rfl, bm⟩
  case round =>
    obtain ⟨rfl, hbr⟩ := hrel
    have cLr := ((hWw.out hbr).cell (p := ⟨R, 0, none⟩) hRw).trans cL
    go_wp2
    go_quiet (fail)
    generalize hw2 : wr.drewN nq = w2
    replace hbr : Below W0.heap.size W0 w2 := hw2 ▸ below_drewN hbr nq
    clear hw2 cLr
    have cLp := ((hWw.out hbr).cell (p := ⟨R, 0, none⟩) hRw).trans cL
    have ⟨y0, y1, y2, y3, yB⟩ := hV0.kept hbr
    have cHp := ((hWw.out hbr).cell (p := ⟨R, 1, none⟩) hRw).trans cH
    have hn0 := World.ownsRow_nil w2 w2.heap.size 24 4
    have hRp : R < w2.heap.size := Nat.lt_of_lt_of_le hRw (hWw.out hbr).size
    have hblk2 := ((hWw.out hbr).block R hRw).trans hblkR.out
    go_wp2_with (at_builtin; first
      | (refine wpList_appNone (by rfl) _ _ 62 (by rfl) w4.heap.size 3 (.int .i64 0) 1 8 Try.underlying62 info_int6 (.slice (some ⟨g7, 0, none⟩) (0 + 1) cap7) (0 + 1) _ w7 ho7 (by rfl) (by rfl) ?_; have hx8 := hb7.size)
      | (refine wpList_app1 (by rfl) _ _ 62 (by rfl) w4.heap.size 3 (.int .i64 0) 1 8 Try.underlying62 info_int6 rfl (by decide) (.slice none 0 0) 0 [] w4 hn5 (Nat.le_refl _) (by rfl) #[.int .i64 h] 3 (by rfl) rfl (by simp [Value.oneCell']) (by decide) (by decide) ?_; intro g7 cap7 w7 ho7 hgrow7 _ _; have hb7 := ((Below.refl w4.heap.size w4).alloc (Nat.le_refl _) (.cells #[.int .i64 h] 3)).grown hgrow7 (by simp) (fun k e => (hn5.lt k e).1); have hc7 := hb4.trans (hb7.mono hb4.size); have cH7 := (hc7.cell (p := ⟨R, 1, none⟩) hRp).trans cHp; have hblk8 := (hc7.block R hRp).trans hblk2; have cL8 := (hc7.cell (p := ⟨R, 0, none⟩) hRp).trans cLp; have fL8 := frozen_of hblk8 (o := 0); have fH8 := frozen_of hblk8 (o := 1))
      | (refine wpList_appNone (by rfl) _ _ 62 (by rfl) w4.heap.size 3 (.int .i64 0) 1 8 Try.underlying62 info_int6 (.slice none 0 0) 0 [] w4 hn5 (by rfl) (by rfl) ?_; have hx6 := hb4.size)
      | (refine wpList_appNone (by rfl) _ _ 45 (by rfl) w2.heap.size 24 (.agg #[.string .empty, .int .u64 0, .bool false, .string .empty]) 4 48 Try.underlying45 info_version (.slice (some ⟨g4, 0, none⟩) (0 + 1) cap4) (0 + 1) _ w4 ho4 (by rfl) (by rfl) ?_; have hn5 := World.ownsRow_nil w4 w4.heap.size 3 1; have cH4 := (hb4.cell (p := ⟨R, 1, none⟩) hRp).trans cHp)
      | (refine wpList_app1 (by rfl) _ _ 45 (by rfl) w2.heap.size 24 (.agg #[.string .empty, .int .u64 0, .bool false, .string .empty]) 4 48 Try.underlying45 info_version rfl (by decide) (.slice none 0 0) 0 [] w2 hn0 (Nat.le_refl _) (by rfl) #[.string v.key, .int .u64 (v.seq : Int), .bool v.del, .string v.val] 24 (by rfl) rfl (by simp [Value.oneCell']) (by decide) (by decide) ?_; intro g4 cap4 w4 ho4 hgrow4 _ _; have hb4 := ((Below.refl w2.heap.size w2).alloc (Nat.le_refl _) (.cells #[.string v.key, .int .u64 (v.seq : Int), .bool v.del, .string v.val] 24)).grown hgrow4 (by simp) (fun k e => (hn0.lt k e).1); have cL4 := (hb4.cell (p := ⟨R, 0, none⟩) hRp).trans cLp)
      | (refine wpList_appNone (by rfl) _ _ 45 (by rfl) w2.heap.size 24 (.agg #[.string .empty, .int .u64 0, .bool false, .string .empty]) 4 48 Try.underlying45 info_version (.slice none 0 0) 0 [] w2 hn0 (by rfl) (by rfl) ?_; have hx3 := hRp))
    have hb28 : Below w2.heap.size w2 w7 := hc7
    have hkR : ∀ W, Keep (fun q => q ≠ R) W ((W.setCell ⟨R, 0, none⟩ (.slice (some ⟨g4, 0, none⟩) (0 + 1) cap4)).setCell ⟨R, 1, none⟩ (.slice (some ⟨g7, 0, none⟩) (0 + 1) cap7)) := fun W => ((Keep.refl _ W).setCell _ _ _ (fun h _ => h rfl)).setCell _ _ _ (fun h _ => h rfl)
    have hblk9 := heap_set4m (heap_set4m hblk8 0 (.slice (some ⟨g4, 0, none⟩) (0 + 1) cap4)) 1 (.slice (some ⟨g7, 0, none⟩) (0 + 1) cap7)
    have ho5' := (Keep.of_below (fp := fun q => q < w4.heap.size) hb7 (fun _ h _ => h)).ownsRow ho4 (fun q e => (ho4.lt q e).2)
    have hr5 := (hkR w7).ownsRow ho5' (fun q e => by have := (ho5'.lt q e).1; omega)
    have hr8 := (hkR w7).ownsRow ho7 (fun q e => by have := (ho7.lt q e).1; have := hb4.size; omega)
    have hk28 : Keep (fun q => q ≠ R) w ((w7.setCell ⟨R, 0, none⟩ (.slice (some ⟨g4, 0, none⟩) (0 + 1) cap4)).setCell ⟨R, 1, none⟩ (.slice (some ⟨g7, 0, none⟩) (0 + 1) cap7)) := (Keep.of_below (fp := fun q => q ≠ R) ((hWw.out hbr).trans (hb28.mono (hWw.out hbr).size)) (fun _ _ h => h)).trans (hkR w7) (fun _ h _ => h)
    go_ret
    refine ⟨ret_int rfl, ?_, hk28⟩
    have ev : [] ++ (#[.string v.key, .int .u64 (v.seq : Int), .bool v.del, .string v.val] : Array Value).toList = vcells [v] := by
      simp [vcells]
    have eh : [] ++ (#[.int .i64 h] : Array Value).toList = hcells [h.toNat] := by
      simp [hcells]
      omega
    refine ⟨(.slice (some ⟨g4, 0, none⟩) (0 + 1) cap4), (.slice (some ⟨g7, 0, none⟩) (0 + 1) cap7), hblk9, ?_, ?_, fun e => by cases e⟩
    · show World.ownsRow _ (R + 1) _ 4 (.slice (some ⟨g4, 0, none⟩) (0 + 1) cap4) (0 + 1) (vcells [v])
      rw [← ev]
      exact ownsRow_base hr5 (by omega)
    · show World.ownsRow _ (R + 1) _ 1 (.slice (some ⟨g7, 0, none⟩) (0 + 1) cap7) (0 + 1) (hcells [h.toNat])
      rw [← eh]
      exact ownsRow_base hr8 (by have := hb4.size; omega)
end Go.Proofs.Ytcfcijgnkbmlaaa
