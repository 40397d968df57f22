
/- Walks: a disk of blocks in memory: its variables. Condition: none. -/
import Derived.Test.YtndekdgpibipnaaPlainDv
import Derived.Test.YtndekdgpibipnaaFp
import Derived.Test.YtndekdgpibipnaaOwn
import Derived.Maps.OwnSet
import Derived.Maps.StringElems
namespace Go.Proofs.Ytndekdgpibipnaa
open Go.RowKit

/-- a block of cells, whole -/
def Blk (W : World) (b : Nat) (cs : Array Value) (t : TypeId) : Prop := W.heap[b]? = some (.cells cs t (0, 0))
theorem Blk.lt {W : World} {b : Nat} {cs : Array Value} {t : TypeId} (h : Blk W b cs t) : b < W.heap.size := (Array.getElem?_eq_some_iff.1 h).1
theorem Blk.cell {W : World} {b : Nat} {cs : Array Value} {t : TypeId} (h : Blk W b cs t) (k : Nat) : W.cell? ⟨b, k, none⟩ = cs[k]? := by simp [World.cell?, show W.heap[b]? = _ from h]
theorem Blk.frozen {W : World} {b : Nat} {cs : Array Value} {t : TypeId} (h : Blk W b cs t) (k : Nat) : W.frozen? ⟨b, k, none⟩ = false := by simp [World.frozen?, show W.heap[b]? = _ from h]
theorem Blk.new (W : World) (cs : Array Value) (t : TypeId) : Blk (W.alloc (.cells cs t)) W.heap.size cs t := World.alloc_heap_new W _
theorem Blk.keep {W W' : World} {b : Nat} {cs : Array Value} {t : TypeId} {f : Nat → Prop} (h : Blk W b cs t) (hk : Keep f W W') (hf : f b) : Blk W' b cs t := (hk.block b hf h.lt).trans h
theorem Blk.kept {W W' : World} {row : Option Nat} {b : Nat} {cs : Array Value} {t : TypeId} (h : Blk W b cs t) (hg : W.grownBy W' row) (hne : some b ≠ row) : Blk W' b cs t := (hg.block b h.lt hne).trans h
theorem Blk.alloc {W : World} {b : Nat} {cs : Array Value} {t : TypeId} (h : Blk W b cs t) (o : Obj) : Blk (W.alloc o) b cs t := h.kept (World.grownBy_alloc W o none) (by simp)
theorem Blk.set {W : World} {b : Nat} {cs : Array Value} {t : TypeId} (h : Blk W b cs t) (k : Nat) (v : Value) : Blk (W.setCell ⟨b, k, none⟩ v) b (cs.setIfInBounds k v) t := by
  obtain ⟨hlt, hk⟩ := Array.getElem?_eq_some_iff.1 h
  show (W.heap.modify b _)[b]? = _
  rw [Array.getElem?_eq_getElem (by rw [Array.size_modify]; exact hlt), Array.getElem_modify_self, hk]
  simp
theorem Blk.not_row {W : World} {b : Nat} {cs : Array Value} {t e : TypeId} (h : Blk W b cs t) (hte : t ≠ e) {base size k : Nat} {v : Value} {xs : List Value} (hr : W.ownsRow base e size v k xs) : some b ≠ v.ownBlock := by
  rcases hr.2 with ⟨rfl, _⟩ | ⟨g, cap, cur, rfl, _, hg, _⟩
  · simp [Value.ownBlock]
  · intro e'
    have : b = g := by simpa [Value.ownBlock] using e'
    subst this
    rw [show W.heap[b]? = _ from h] at hg
    cases hg
    exact hte rfl
theorem map_not_row {P : Program} {H : Type} {W : World} {k e : TypeId} {R : Value → Option (DataW H × List MemPlace)} {m n : Nat} {D : DataW H} (h : W.ownsMap P k R m n D) {base size j : Nat} {v : Value} {xs : List Value} (hr : W.ownsRow base e size v j xs) : some m ≠ v.ownBlock := by
  obtain ⟨es, clock, hm, _⟩ := h
  rcases hr.2 with ⟨rfl, _⟩ | ⟨g, cap, cur, rfl, _, hg, _⟩
  · simp [Value.ownBlock]
  · intro e'
    have : m = g := by simpa [Value.ownBlock] using e'
    subst this
    rw [hm] at hg
    cases hg
theorem map_not_blk {P : Program} {H : Type} {W : World} {k : TypeId} {R : Value → Option (DataW H × List MemPlace)} {m n b : Nat} {D : DataW H} (h : W.ownsMap P k R m n D) {cs : Array Value} {t : TypeId} (hb : Blk W b cs t) : m ≠ b := by
  obtain ⟨es, clock, hm, _⟩ := h
  rintro rfl
  rw [show W.heap[m]? = _ from hb] at hm
  cases hm
theorem ownsMap_keep {P : Program} {H : Type} {W W' : World} {k : TypeId} {R : Value → Option (DataW H × List MemPlace)} {m n : Nat} {D : DataW H} {f : Nat → Prop} (h : W.ownsMap P k R m n D) (hk : Keep f W W') (hf : f m) : W'.ownsMap P k R m n D := by
  have hlt := h.lt
  obtain ⟨es, clock, hb, rest⟩ := h
  exact ⟨es, clock, (hk.block m hf hlt).trans hb, rest⟩
theorem rows_apart {W : World} {B B' : Nat} {e e' : TypeId} {sz sz' n n' : Nat} {v v' : Value} {xs xs' : List Value} (h : W.ownsRow B e sz v n xs) (h' : W.ownsRow B' e' sz' v' n' xs') (hne : e ≠ e') {k : Nat} (hk : v.ownBlock = some k) : ¬ v'.ownBlock = some k := by
  intro hk'
  rcases h.2 with ⟨rfl, _⟩ | ⟨g, cap, cur, rfl, _, hg, _⟩
  · cases hk
  rcases h'.2 with ⟨rfl, _⟩ | ⟨g', cap', cur', rfl, _, hg', _⟩
  · cases hk'
  have e1 : g = k := by simpa [Value.ownBlock] using hk
  have e2 : g' = k := by simpa [Value.ownBlock] using hk'
  subst e1 e2
  rw [hg] at hg'
  cases hg'
  exact hne rfl

/-- the cells of texts -/
def scells (l : List ByteArray) : List Value := l.map Value.string
theorem scells_length (l : List ByteArray) : (scells l).length = l.length := by simp [scells]
theorem scells_get (l : List ByteArray) (i : Nat) (h : i < l.length) : (scells l)[i]? = some (.string l[i]) := by simp [scells, h]
theorem scells_set (l : List ByteArray) (i : Nat) (x : ByteArray) : (scells l).set i (.string x) = scells (l.set i x) := by simp [scells, List.map_set]
/-- the cells of writes -/
def wcells : List (Nat × ByteArray) → List Value
  | [] => []
  | x :: l => .int .i64 (x.1 : Int) :: .string x.2 :: wcells l
theorem wcells_append : ∀ l r : List (Nat × ByteArray), wcells (l ++ r) = wcells l ++ wcells r
  | [], _ => rfl
  | x :: l, r => by simp [wcells, wcells_append l r]
theorem wcells_length : ∀ l : List (Nat × ByteArray), (wcells l).length = l.length * 2
  | [] => rfl
  | x :: l => by simp only [wcells, List.length_cons, wcells_length l]; omega
theorem wcells_get : ∀ (l : List (Nat × ByteArray)) (i : Nat) (h : i < l.length), (wcells l)[i * 2]? = some (.int .i64 (l[i].1 : Int)) ∧ (wcells l)[i * 2 + 1]? = some (.string l[i].2)
  | x :: l, 0, _ => ⟨rfl, rfl⟩
  | x :: l, i + 1, h => by
    have := wcells_get l i (by simpa using h)
    rw [show (i + 1) * 2 = i * 2 + 1 + 1 from by omega]
    simpa [wcells] using this
/-- what the map holds: of each block the last write -/
def mapOf (w : List (Nat × ByteArray)) : DataW Unit := w.foldl (fun D p => D.put (.int .i64 (p.1 : Int)) (.lit (.string p.2.data.toList))) (.map [])
theorem mapOf_snoc (w : List (Nat × ByteArray)) (p : Nat × ByteArray) : mapOf (w ++ [p]) = (mapOf w).put (.int .i64 (p.1 : Int)) (.lit (.string p.2.data.toList)) := by simp [mapOf, List.foldl_append]

/-- a disk in memory, its parts named -/
structure DevO (B d gs cs : Nat) (vp : Value) (m : Nat) (s : Pl.Dv) (fp : Nat → Prop) (W : World) : Prop where
  blk : Blk W d #[.slice (some ⟨gs, 0, none⟩) s.safe.length cs, vp, .map (some m), .bool s.down, .int .i64 (s.armed : Int), .int .i64 (s.acts : Int), .int .i64 (s.epoch : Int)] 92
  safe : W.ownsRow B 9 1 (.slice (some ⟨gs, 0, none⟩) s.safe.length cs) s.safe.length (scells s.safe)
  wait : W.ownsRow B 95 2 vp s.wait.length (wcells s.wait)
  map : W.ownsMap Try.prog 3 (plainElem Try.prog 9) m s.wait.length (mapOf s.wait)
  fd : fp d
  fgs : fp gs
  fvp : ∀ k, vp.ownBlock = some k → fp k
  fm : fp m
  lt : ∀ k, fp k → k < W.heap.size
  low : ∀ k, fp k → B ≤ k
  wf : s.WF
def DevAt (B d : Nat) (s : Pl.Dv) (fp : Nat → Prop) (W : World) : Prop := ∃ gs cs vp m, DevO B d gs cs vp m s fp W

variable {B d gs cs m : Nat} {vp : Value} {s : Pl.Dv} {fp : Nat → Prop} {W W' : World}
theorem DevO.keep (h : DevO B d gs cs vp m s fp W) (hk : Keep fp W W') : DevO B d gs cs vp m s fp W' :=
  ⟨h.blk.keep hk h.fd, hk.ownsRow h.safe (fun k e => (show gs = k by simpa [Value.ownBlock] using e) ▸ h.fgs), hk.ownsRow h.wait h.fvp, ownsMap_keep h.map hk h.fm, h.fd, h.fgs, h.fvp, h.fm, fun k hk' => Nat.lt_of_lt_of_le (h.lt k hk') hk.size, h.low, h.wf⟩
theorem DevAt.of (h : DevO B d gs cs vp m s fp W) : DevAt B d s fp W := ⟨_, _, _, _, h⟩
theorem DevAt.keep (h : DevAt B d s fp W) (hk : Keep fp W W') : DevAt B d s fp W' := let ⟨gs, cs, vp, m, h⟩ := h; ⟨gs, cs, vp, m, h.keep hk⟩
theorem DevAt.lt (h : DevAt B d s fp W) : ∀ k, fp k → k < W.heap.size := let ⟨_, _, _, _, h⟩ := h; h.lt
/-- the numbers of a disk turned -/
theorem DevO.turn (h : DevO B d gs cs vp m s fp W) {s' : Pl.Dv} (hk : Keep (fun k => k ≠ d) W W') (h1 : s'.safe = s.safe) (h2 : s'.wait = s.wait)
    (hb : Blk W' d #[.slice (some ⟨gs, 0, none⟩) s.safe.length cs, vp, .map (some m), .bool s'.down, .int .i64 (s'.armed : Int), .int .i64 (s'.acts : Int), .int .i64 (s'.epoch : Int)] 92) :
    DevO B d gs cs vp m s' fp W' ∧ Step fp fp W W' := by
  have n1 := h.blk.not_row (by decide) h.safe
  have n2 := h.blk.not_row (by decide) h.wait
  have n3 := map_not_blk h.map h.blk
  obtain ⟨sf, wt, dn, ar, ac, ep⟩ := s'
  simp only at h1 h2 hb
  subst h1 h2
  exact ⟨⟨hb, hk.ownsRow h.safe (fun k e he => n1 (by rw [e, he])), hk.ownsRow h.wait (fun k e he => n2 (by rw [e, he])), ownsMap_keep h.map hk n3, h.fd, h.fgs, h.fvp, h.fm, fun k hk' => Nat.lt_of_lt_of_le (h.lt k hk') hk.size, h.low, ⟨h.wf.size, h.wf.wait⟩⟩, hk.mono (fun k hn _ e => hn (e ▸ h.fd)), fun _ h => .inl h, fun k hk' => Nat.lt_of_lt_of_le (h.lt k hk') hk.size⟩
theorem keep_d (W : World) (d k : Nat) (v : Value) : Keep (fun i => i ≠ d) W (W.setCell ⟨d, k, none⟩ v) := (Keep.refl _ W).setCell _ _ _ (fun h _ => h rfl)

theorem up_any (h : DevAt B d s fp W) : Calls Try.prog 19 #[.pointer (some ⟨d, 0, none⟩)] W fun e w' => e = .returned (.bool (!s.down)) ∧ W = w' := by
  obtain ⟨gs, cs, vp, m, h⟩ := h
  have c3 := h.blk.cell 3
  simp at c3
  go_enter Try.func19, Try.ntmps19
  go_wp2
  go_ret
  exact ⟨rfl, rfl⟩
theorem acts_any (h : DevAt B d s fp W) : Calls Try.prog 18 #[.pointer (some ⟨d, 0, none⟩)] W fun e w' => e = .returned (.int .i64 (s.acts : Int)) ∧ W = w' := by
  obtain ⟨gs, cs, vp, m, h⟩ := h
  have c5 := h.blk.cell 5
  simp at c5
  go_enter Try.func18, Try.ntmps18
  go_wp2
  go_ret
  exact ⟨rfl, rfl⟩
theorem arm_any (n : Int) (h : DevAt B d s fp W) : Calls Try.prog 14 #[.pointer (some ⟨d, 0, none⟩), .int .i64 n] W fun e w' => (∃ v, e = .returned v) ∧ DevAt B d (s.arm n) fp w' ∧ Step fp fp W w' := by
  obtain ⟨gs, cs, vp, m, h⟩ := h
  have c4 := h.blk.cell 4
  have z4 := h.blk.frozen 4
  simp at c4
  have hb := h.blk.set 4 (.int .i64 ((s.arm n).armed : Int))
  obtain ⟨h2, st⟩ := h.turn (s' := s.arm n) (keep_d _ _ 4 (.int .i64 ((s.arm n).armed : Int))) rfl rfl (by simpa [Pl.Dv.arm] using hb)
  by_cases h0 : 0 ≤ n
  · have e : ((s.arm n).armed : Int) = n := by show (n.toNat : Int) = n; omega
    rw [e] at h2 st
    clear e hb
    go_enter Try.func14, Try.ntmps14
    go_wp2
    go_end0
    exact ⟨⟨_, rfl⟩, ⟨_, _, _, _, h2⟩, st⟩
  · have e : ((s.arm n).armed : Int) = 0 := by show (n.toNat : Int) = 0; omega
    rw [e] at h2 st
    clear e hb
    go_enter Try.func14, Try.ntmps14
    go_wp2
    go_end0
    exact ⟨⟨_, rfl⟩, ⟨_, _, _, _, h2⟩, st⟩
theorem act_any (h : DevAt B d s fp W) (ha : s.acts < 9223372036854775807) (hr : s.armed ≤ 9223372036854775807) : Calls Try.prog 51 #[.pointer (some ⟨d, 0, none⟩)] W fun e w' => e = .returned (.bool (!s.act.down)) ∧ DevAt B d s.act fp w' ∧ Step fp fp W w' := by
  obtain ⟨gs, cs, vp, m, h⟩ := h
  have c5 := h.blk.cell 5
  have c4 := h.blk.cell 4
  have c3 := h.blk.cell 3
  have z5 := h.blk.frozen 5
  simp at c5 c4 c3
  have e5 : ((s.acts + 1 : Nat) : Int) = (s.acts : Int) + 1 := by omega
  have b1 := h.blk.set 5 (.int .i64 ((s.acts : Int) + 1))
  simp at b1
  by_cases h0 : s.armed = 0
  · have ea : s.act = { s with acts := s.acts + 1 } := by unfold Pl.Dv.act; rw [if_pos h0, h0]
    obtain ⟨h2, st⟩ := h.turn (s' := s.act) (keep_d _ _ 5 (.int .i64 ((s.acts : Int) + 1))) (by rw [ea]) (by rw [ea]) (by rw [ea]; simp only []; rw [e5]; exact b1)
    have ed : s.act.down = s.down := by rw [ea]
    rw [h0] at c4
    clear h0 e5 b1 ea
    go_enter Try.func51, Try.ntmps51
    go_wp2
    go_ret
    exact ⟨ret_bool (by rw [ed]), ⟨_, _, _, _, h2⟩, st⟩
  · obtain ⟨k, hk⟩ : ∃ k, s.armed = k + 1 := ⟨s.armed - 1, by omega⟩
    have ea : s.act = { s with acts := s.acts + 1, armed := k, down := decide (k = 0) } := by
      unfold Pl.Dv.act; rw [if_neg h0, hk]; simp
    have b2 := b1.set 4 (.int .i64 (k : Int))
    simp at b2
    have b3 := b2.set 3 (.bool (decide (k = 0)))
    simp at b3
    obtain ⟨h2, st⟩ := h.turn (s' := s.act) (((keep_d _ _ 5 (.int .i64 ((s.acts : Int) + 1))).setCell _ _ _ (fun h _ => h rfl)).setCell _ _ _ (fun h _ => h rfl)) (by rw [ea]) (by rw [ea]) (by rw [ea]; simp only []; rw [e5]; exact b3)
    have d4 := b1.cell 4
    have y4 := b1.frozen 4
    have d44 := b2.cell 4
    have d3 := b2.cell 3
    have y3 := b2.frozen 3
    have f3 := b3.cell 3
    have ed : s.act.down = decide (k = 0) := by rw [ea]
    simp at d4 d44 d3 f3
    rw [hk] at c4 d4 hr
    have hk0 : 0 < k + 1 := by omega
    have h1 : ((k + 1 : Nat) : Int) - 1 = (k : Int) := by omega
    have eb : ((k : Int) == 0) = decide (k = 0) := by rw [Bool.eq_iff_iff]; simp
    replace eb := Lib.hid eb
    clear h0 e5 b1 b2 b3 ea hk
    go_enter Try.func51, Try.ntmps51
    go_wp2
    rw [← eb.out] at h2 st ed
    go_ret
    exact ⟨ret_bool (by rw [ed]), ⟨_, _, _, _, h2⟩, st⟩
open Go.ChangeMaps Go.MapKept in
theorem run_clear {P : Program} {H : Type} {k e t : TypeId} {R : Value → Option (DataW H × List MemPlace)} {m n : Nat} {D : DataW H} {W : World} (h : W.ownsMap P k R m n D) (ht : P.underlying t = some (.map k e)) :
    ∃ w', (∀ ty, (Builtin.clear_ #[t] ty #[.map (some m)]).run P W = .ok (.tuple #[]) w') ∧ w'.ownsMap P k R m 0 (.map []) ∧ W.grownBy w' (some m) := by
  obtain ⟨es, clock, hb, F, hs, rfl⟩ := h
  refine ⟨setBlock W m (.map #[] clock), fun ty => ?_, ⟨#[], clock, heap_setBlock_same hb _, ⟨by simp, stamped_empty _, by simp⟩, Nat.le_refl _, rfl⟩, ⟨rfl, rfl, rfl, by simp [setBlock], fun i _ hi => heap_setBlock_other hb _ (fun e => hi (by rw [e]))⟩⟩
  simp [Builtin.clear_, run_underlying ht, MapKept.run_getObj_map hb, MapKept.run_setObj_map _ hb, Result.andThen, setBlock]
/-- nothing is awaited any more -/
def Pl.Dv.clean (s : Pl.Dv) : Pl.Dv := { s with wait := [] }
theorem forget_any (h : DevAt B d s fp W) : Calls Try.prog 52 #[.pointer (some ⟨d, 0, none⟩)] W fun e w' => (∃ v, e = .returned v) ∧ DevAt B d s.clean fp w' ∧ Step fp fp W w' := by
  obtain ⟨gs, cs, vp, m, h⟩ := h
  have c1 := h.blk.cell 1
  have z1 := h.blk.frozen 1
  simp at c1
  have b1 := h.blk.set 1 (.slice none 0 0)
  simp at b1
  have n1 := h.blk.not_row (by decide) h.safe
  have n3 := map_not_blk h.map h.blk
  have n4 := map_not_row h.map h.safe
  have k1 := keep_d W d 1 (.slice none 0 0)
  have m1 := ownsMap_keep h.map k1 n3
  have s1 := k1.ownsRow h.safe (fun k e he => n1 (by rw [e, he]))
  obtain ⟨w', hcl, m2, hg⟩ := run_clear m1 Try.underlying89
  have c2 := b1.cell 2
  simp at c2
  have b2 := b1.kept hg (by simpa using n3.symm)
  have s2 := s1.kept hg (.inr n4.symm)
  have hk2 : Keep (fun k => ¬ fp k) W w' := (k1.mono (fun k hn _ e => hn (e ▸ h.fd))).trans (Keep.of_grownBy hg (fun k e _ hn => by cases e; exact hn h.fm)) (fun _ h _ => h)
  have hlt : ∀ k, fp k → k < w'.heap.size := fun k hk => Nat.lt_of_lt_of_le (h.lt k hk) hk2.size
  have hd : DevO B d gs cs (.slice none 0 0) m s.clean fp w' := ⟨b2, s2, World.ownsRow_nil _ _ _ _, m2, h.fd, h.fgs, fun k e => (by cases e), h.fm, hlt, h.low, ⟨h.wf.size, fun p hp => (by cases hp)⟩⟩
  have st : Step fp fp W w' := ⟨hk2, fun _ h => .inl h, hlt⟩
  clear b1 k1 m1 s1 m2 hg b2 s2 hk2 hlt
  go_enter Try.func52, Try.ntmps52
  go_wp2
  go_end0
  exact ⟨⟨_, rfl⟩, ⟨_, _, _, _, hd⟩, st⟩
end Go.Proofs.Ytndekdgpibipnaa
