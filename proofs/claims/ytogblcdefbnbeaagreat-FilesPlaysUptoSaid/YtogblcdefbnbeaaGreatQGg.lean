
/- Walks: a disk of blocks in memory: its variables. Condition: none. -/
import Derived.Test.YtogblcdefbnbeaaGreatQGc
import Derived.Test.YtogblcdefbnbeaaGreatQGu
import Derived.Maps.OwnSet
import Derived.Maps.StringElems
import Derived.Test.YtogblcdefbnbeaaGreatQPi
import Derived.IntWalk
import Derived.Deep.DeepCutAuto
set_option maxRecDepth 100000
namespace Go.Proofs.YtogblcdefbnbeaaGreat
section
open Go.RowKit
def Blk (W : World) (b : Nat) (cs : Array Value) (t : TypeId) : Prop := W.heap[b]? = some (.cells cs t (0, 0))
theorem Blk.lt {W : World} {b : Nat} {cs : Array Value} {t : TypeId} (h : Blk W b cs t) : b < W.heap.size := (Array.getElem?_eq_some_iff.1 h).1
theorem Blk.cell {W : World} {b : Nat} {cs : Array Value} {t : TypeId} (h : Blk W b cs t) (k : Nat) : W.cell? ⟨b, k, none⟩ = cs[k]? := by simp [World.cell?, show W.heap[b]? = _ from h]
theorem Blk.frozen {W : World} {b : Nat} {cs : Array Value} {t : TypeId} (h : Blk W b cs t) (k : Nat) : W.frozen? ⟨b, k, none⟩ = false := by simp [World.frozen?, show W.heap[b]? = _ from h]
theorem Blk.new (W : World) (cs : Array Value) (t : TypeId) : Blk (W.alloc (.cells cs t)) W.heap.size cs t := World.alloc_heap_new W _
theorem Blk.keep {W W' : World} {b : Nat} {cs : Array Value} {t : TypeId} {f : Nat → Prop} (h : Blk W b cs t) (hk : Keep f W W') (hf : f b) : Blk W' b cs t := (hk.block b hf h.lt).trans h
theorem Blk.kept {W W' : World} {row : Option Nat} {b : Nat} {cs : Array Value} {t : TypeId} (h : Blk W b cs t) (hg : W.grownBy W' row) (hne : some b ≠ row) : Blk W' b cs t := (hg.block b h.lt hne).trans h
theorem Blk.alloc {W : World} {b : Nat} {cs : Array Value} {t : TypeId} (h : Blk W b cs t) (o : Obj) : Blk (W.alloc o) b cs t := h.kept (World.grownBy_alloc W o none) (by simp)
theorem Blk.set {W : World} {b : Nat} {cs : Array Value} {t : TypeId} (h : Blk W b cs t) (k : Nat) (v : Value) : Blk (W.setCell ⟨b, k, none⟩ v) b (cs.setIfInBounds k v) t := by
 obtain ⟨hlt, hk⟩ := Array.getElem?_eq_some_iff.1 h
 show (W.heap.modify b _)[b]? = _
 rw [Array.getElem?_eq_getElem (by rw [Array.size_modify]; exact hlt), Array.getElem_modify_self, hk]
 simp
theorem Blk.not_row {W : World} {b : Nat} {cs : Array Value} {t e : TypeId} (h : Blk W b cs t) (hte : t ≠ e) {base size k : Nat} {v : Value} {xs : List Value} (hr : W.ownsRow base e size v k xs) : some b ≠ v.ownBlock := by
 rcases hr.2 with ⟨rfl, _⟩ | ⟨g, cap, cur, rfl, _, hg, _⟩
 ·simp [Value.ownBlock]
 ·intro e'
  have : b = g := by simpa [Value.ownBlock] using e'
  subst this
  rw [show W.heap[b]? = _ from h] at hg
  cases hg
  exact hte rfl
theorem map_not_row {P : Program} {H : Type} {W : World} {k e : TypeId} {R : Value → Option (DataW H × List MemPlace)} {m n : Nat} {D : DataW H} (h : W.ownsMap P k R m n D) {base size j : Nat} {v : Value} {xs : List Value} (hr : W.ownsRow base e size v j xs) : some m ≠ v.ownBlock := by
 obtain ⟨es, clock, hm, _⟩ := h
 rcases hr.2 with ⟨rfl, _⟩ | ⟨g, cap, cur, rfl, _, hg, _⟩
 ·simp [Value.ownBlock]
 ·intro e'
  have : m = g := by simpa [Value.ownBlock] using e'
  subst this
  rw [hm] at hg
  cases hg
theorem map_not_blk {P : Program} {H : Type} {W : World} {k : TypeId} {R : Value → Option (DataW H × List MemPlace)} {m n b : Nat} {D : DataW H} (h : W.ownsMap P k R m n D) {cs : Array Value} {t : TypeId} (hb : Blk W b cs t) : m ≠ b := by
 obtain ⟨es, clock, hm, _⟩ := h
 rintro rfl
 rw [show W.heap[m]? = _ from hb] at hm
 cases hm
theorem ownsMap_keep {P : Program} {H : Type} {W W' : World} {k : TypeId} {R : Value → Option (DataW H × List MemPlace)} {m n : Nat} {D : DataW H} {f : Nat → Prop} (h : W.ownsMap P k R m n D) (hk : Keep f W W') (hf : f m) : W'.ownsMap P k R m n D := by
 have hlt := h.lt
 obtain ⟨es, clock, hb, rest⟩ := h
 exact ⟨es, clock, (hk.block m hf hlt).trans hb, rest⟩
theorem rows_apart {W : World} {B B' : Nat} {e e' : TypeId} {sz sz' n n' : Nat} {v v' : Value} {xs xs' : List Value} (h : W.ownsRow B e sz v n xs) (h' : W.ownsRow B' e' sz' v' n' xs') (hne : e ≠ e') {k : Nat} (hk : v.ownBlock = some k) : ¬ v'.ownBlock = some k := by
 intro hk'
 rcases h.2 with ⟨rfl, _⟩ | ⟨g, cap, cur, rfl, _, hg, _⟩
 ·cases hk
 rcases h'.2 with ⟨rfl, _⟩ | ⟨g', cap', cur', rfl, _, hg', _⟩
 ·cases hk'
 have e1 : g = k := by simpa [Value.ownBlock] using hk
 have e2 : g' = k := by simpa [Value.ownBlock] using hk'
 subst e1 e2
 rw [hg] at hg'
 cases hg'
 exact hne rfl
def scells (l : List ByteArray) : List Value := l.map Value.string
theorem scells_get (l : List ByteArray) (i : Nat) (h : i < l.length) : (scells l)[i]? = some (.string l[i]) := by simp [scells, h]
theorem scells_set (l : List ByteArray) (i : Nat) (x : ByteArray) : (scells l).set i (.string x) = scells (l.set i x) := by simp [scells, List.map_set]
def wcells : List (Nat × ByteArray) → List Value
 | [] => []
 | x :: l => .int .i64 (x.1 : Int) :: .string x.2 :: wcells l
theorem wcells_append : ∀ l r : List (Nat × ByteArray), wcells (l ++ r) = wcells l ++ wcells r
 | [], _ => rfl
 | x :: l, r => by simp [wcells, wcells_append l r]
theorem wcells_get : ∀ (l : List (Nat × ByteArray)) (i : Nat) (h : i < l.length), (wcells l)[i * 2]? = some (.int .i64 (l[i].1 : Int)) ∧ (wcells l)[i * 2 + 1]? = some (.string l[i].2)
 | x :: l, 0, _ => ⟨rfl, rfl⟩
 | x :: l, i + 1, h => by
  have := wcells_get l i (by simpa using h)
  rw [show (i + 1) * 2 = i * 2 + 1 + 1 from by omega]
  simpa [wcells] using this
def mapOf (w : List (Nat × ByteArray)) : DataW Unit := w.foldl (fun D p => D.put (.int .i64 (p.1 : Int)) (.lit (.string p.2.data.toList))) (.map [])
theorem mapOf_snoc (w : List (Nat × ByteArray)) (p : Nat × ByteArray) : mapOf (w ++ [p]) = (mapOf w).put (.int .i64 (p.1 : Int)) (.lit (.string p.2.data.toList)) := by simp [mapOf, List.foldl_append]
structure DevO (B d gs cs : Nat) (vp : Value) (m : Nat) (s : Pl.Dv) (fp : Nat → Prop) (W : World) : Prop where
 blk : Blk W d #[.slice (some ⟨gs, 0, none⟩) s.safe.length cs, vp, .map (some m), .bool s.down, .int .i64 (s.armed : Int), .int .i64 (s.acts : Int), .int .i64 (s.epoch : Int)] 51
 safe : W.ownsRow B 9 1 (.slice (some ⟨gs, 0, none⟩) s.safe.length cs) s.safe.length (scells s.safe)
 wait : W.ownsRow B 59 2 vp s.wait.length (wcells s.wait)
 map : W.ownsMap Tryz.prog 3 (plainElem Tryz.prog 9) m s.wait.length (mapOf s.wait)
 fd : fp d
 fgs : fp gs
 fvp : ∀ k, vp.ownBlock = some k → fp k
 fm : fp m
 lt : ∀ k, fp k → k < W.heap.size
 low : ∀ k, fp k → B ≤ k
 wf : s.WF
def DevAt (B d : Nat) (s : Pl.Dv) (fp : Nat → Prop) (W : World) : Prop := ∃ gs cs vp m, DevO B d gs cs vp m s fp W
variable {B d gs cs m : Nat} {vp : Value} {s : Pl.Dv} {fp : Nat → Prop} {W W' : World}
theorem DevO.keep (h : DevO B d gs cs vp m s fp W) (hk : Keep fp W W') : DevO B d gs cs vp m s fp W' :=
 ⟨h.blk.keep hk h.fd, hk.ownsRow h.safe (fun k e => (show gs = k by simpa [Value.ownBlock] using e) ▸ h.fgs), hk.ownsRow h.wait h.fvp, ownsMap_keep h.map hk h.fm, h.fd, h.fgs, h.fvp, h.fm, fun k hk' => Nat.lt_of_lt_of_le (h.lt k hk') hk.size, h.low, h.wf⟩
theorem DevAt.of (h : DevO B d gs cs vp m s fp W) : DevAt B d s fp W := ⟨_, _, _, _, h⟩
theorem DevAt.keep (h : DevAt B d s fp W) (hk : Keep fp W W') : DevAt B d s fp W' := let ⟨gs, cs, vp, m, h⟩ := h; ⟨gs, cs, vp, m, h.keep hk⟩
theorem DevAt.lt (h : DevAt B d s fp W) : ∀ k, fp k → k < W.heap.size := let ⟨_, _, _, _, h⟩ := h; h.lt
theorem DevO.turn (h : DevO B d gs cs vp m s fp W) {s' : Pl.Dv} (hk : Keep (fun k => k ≠ d) W W') (h1 : s'.safe = s.safe) (h2 : s'.wait = s.wait)
  (hb : Blk W' d #[.slice (some ⟨gs, 0, none⟩) s.safe.length cs, vp, .map (some m), .bool s'.down, .int .i64 (s'.armed : Int), .int .i64 (s'.acts : Int), .int .i64 (s'.epoch : Int)] 51) :
  DevO B d gs cs vp m s' fp W' ∧ Step fp fp W W' := by
 have n1 := h.blk.not_row (by decide) h.safe
 have n2 := h.blk.not_row (by decide) h.wait
 have n3 := map_not_blk h.map h.blk
 obtain ⟨sf, wt, dn, ar, ac, ep⟩ := s'
 simp only at h1 h2 hb
 subst h1 h2
 exact ⟨⟨hb, hk.ownsRow h.safe (fun k e he => n1 (by rw [e, he])), hk.ownsRow h.wait (fun k e he => n2 (by rw [e, he])), ownsMap_keep h.map hk n3, h.fd, h.fgs, h.fvp, h.fm, fun k hk' => Nat.lt_of_lt_of_le (h.lt k hk') hk.size, h.low, ⟨h.wf.size, h.wf.wait⟩⟩, hk.mono (fun k hn _ e => hn (e ▸ h.fd)), fun _ h => .inl h, fun k hk' => Nat.lt_of_lt_of_le (h.lt k hk') hk.size⟩
theorem keep_d (W : World) (d k : Nat) (v : Value) : Keep (fun i => i ≠ d) W (W.setCell ⟨d, k, none⟩ v) := (Keep.refl _ W).setCell _ _ _ (fun h _ => h rfl)
theorem up_any (h : DevAt B d s fp W) : Calls Tryz.prog 47 #[.pointer (some ⟨d, 0, none⟩)] W fun e w' => e = .returned (.bool (!s.down)) ∧ W = w' := by
 obtain ⟨gs, cs, vp, m, h⟩ := h
 have c3 := h.blk.cell 3
 simp at c3
 go_enter Tryz.func47, Tryz.ntmps47
 go_wp2
 go_ret
 exact ⟨rfl, rfl⟩
theorem acts_any (h : DevAt B d s fp W) : Calls Tryz.prog 48 #[.pointer (some ⟨d, 0, none⟩)] W fun e w' => e = .returned (.int .i64 (s.acts : Int)) ∧ W = w' := by
 obtain ⟨gs, cs, vp, m, h⟩ := h
 have c5 := h.blk.cell 5
 simp at c5
 go_enter Tryz.func48, Tryz.ntmps48
 go_wp2
 go_ret
 exact ⟨rfl, rfl⟩
theorem arm_any (n : Int) (h : DevAt B d s fp W) : Calls Tryz.prog 8 #[.pointer (some ⟨d, 0, none⟩), .int .i64 n] W fun e w' => (∃ v, e = .returned v) ∧ DevAt B d (s.arm n) fp w' ∧ Step fp fp W w' := by
 obtain ⟨gs, cs, vp, m, h⟩ := h
 have c4 := h.blk.cell 4
 have z4 := h.blk.frozen 4
 simp at c4
 have hb := h.blk.set 4 (.int .i64 ((s.arm n).armed : Int))
 obtain ⟨h2, st⟩ := h.turn (s' := s.arm n) (keep_d _ _ 4 (.int .i64 ((s.arm n).armed : Int))) rfl rfl (by simpa [Pl.Dv.arm] using hb)
 by_cases h0 : 0 ≤ n
 ·have e : ((s.arm n).armed : Int) = n := by show (n.toNat : Int) = n; omega
  rw [e] at h2 st
  clear e hb
  go_enter Tryz.func8, Tryz.ntmps8
  go_wp2
  go_end0
  exact ⟨⟨_, rfl⟩, ⟨_, _, _, _, h2⟩, st⟩
 ·have e : ((s.arm n).armed : Int) = 0 := by show (n.toNat : Int) = 0; omega
  rw [e] at h2 st
  clear e hb
  go_enter Tryz.func8, Tryz.ntmps8
  go_wp2
  go_end0
  exact ⟨⟨_, rfl⟩, ⟨_, _, _, _, h2⟩, st⟩
theorem act_any (h : DevAt B d s fp W) (ha : s.acts < 9223372036854775807) (hr : s.armed ≤ 9223372036854775807) : Calls Tryz.prog 118 #[.pointer (some ⟨d, 0, none⟩)] W fun e w' => e = .returned (.bool (!s.act.down)) ∧ DevAt B d s.act fp w' ∧ Step fp fp W w' := by
 obtain ⟨gs, cs, vp, m, h⟩ := h
 have c5 := h.blk.cell 5
 have c4 := h.blk.cell 4
 have c3 := h.blk.cell 3
 have z5 := h.blk.frozen 5
 simp at c5 c4 c3
 have e5 : ((s.acts + 1 : Nat) : Int) = (s.acts : Int) + 1 := by omega
 have b1 := h.blk.set 5 (.int .i64 ((s.acts : Int) + 1))
 simp at b1
 by_cases h0 : s.armed = 0
 ·have ea : s.act = { s with acts := s.acts + 1 } := by unfold Pl.Dv.act; rw [if_pos h0, h0]
  obtain ⟨h2, st⟩ := h.turn (s' := s.act) (keep_d _ _ 5 (.int .i64 ((s.acts : Int) + 1))) (by rw [ea]) (by rw [ea]) (by rw [ea]; simp only []; rw [e5]; exact b1)
  have ed : s.act.down = s.down := by rw [ea]
  rw [h0] at c4
  clear h0 e5 b1 ea
  go_enter Tryz.func118, Tryz.ntmps118
  go_wp2
  go_ret
  exact ⟨ret_bool (by rw [ed]), ⟨_, _, _, _, h2⟩, st⟩
 ·obtain ⟨k, hk⟩ : ∃ k, s.armed = k + 1 := ⟨s.armed - 1, by omega⟩
  have ea : s.act = { s with acts := s.acts + 1, armed := k, down := decide (k = 0) } := by
   unfold Pl.Dv.act; rw [if_neg h0, hk]; simp
  have b2 := b1.set 4 (.int .i64 (k : Int))
  simp at b2
  have b3 := b2.set 3 (.bool (decide (k = 0)))
  simp at b3
  obtain ⟨h2, st⟩ := h.turn (s' := s.act) (((keep_d _ _ 5 (.int .i64 ((s.acts : Int) + 1))).setCell _ _ _ (fun h _ => h rfl)).setCell _ _ _ (fun h _ => h rfl)) (by rw [ea]) (by rw [ea]) (by rw [ea]; simp only []; rw [e5]; exact b3)
  have d4 := b1.cell 4
  have y4 := b1.frozen 4
  have d44 := b2.cell 4
  have d3 := b2.cell 3
  have y3 := b2.frozen 3
  have f3 := b3.cell 3
  have ed : s.act.down = decide (k = 0) := by rw [ea]
  simp at d4 d44 d3 f3
  rw [hk] at c4 d4 hr
  have hk0 : 0 < k + 1 := by omega
  have h1 : ((k + 1 : Nat) : Int) - 1 = (k : Int) := by omega
  have eb : ((k : Int) == 0) = decide (k = 0) := by rw [Bool.eq_iff_iff]; simp
  replace eb := Lib.hid eb
  clear h0 e5 b1 b2 b3 ea hk
  go_enter Tryz.func118, Tryz.ntmps118
  go_wp2
  rw [← eb.out] at h2 st ed
  go_ret
  exact ⟨ret_bool (by rw [ed]), ⟨_, _, _, _, h2⟩, st⟩
open Go.ChangeMaps Go.MapKept in
theorem run_clear {P : Program} {H : Type} {k e t : TypeId} {R : Value → Option (DataW H × List MemPlace)} {m n : Nat} {D : DataW H} {W : World} (h : W.ownsMap P k R m n D) (ht : P.underlying t = some (.map k e)) :
  ∃ w', (∀ ty, (Builtin.clear_ #[t] ty #[.map (some m)]).run P W = .ok (.tuple #[]) w') ∧ w'.ownsMap P k R m 0 (.map []) ∧ W.grownBy w' (some m) := by
 obtain ⟨es, clock, hb, F, hs, rfl⟩ := h
 refine ⟨setBlock W m (.map #[] clock), fun ty => ?_, ⟨#[], clock, heap_setBlock_same hb _, ⟨by simp, stamped_empty _, by simp⟩, Nat.le_refl _, rfl⟩, ⟨rfl, rfl, rfl, by simp [setBlock], fun i _ hi => heap_setBlock_other hb _ (fun e => hi (by rw [e]))⟩⟩
 simp [Builtin.clear_, run_underlying ht, MapKept.run_getObj_map hb, MapKept.run_setObj_map _ hb, Result.andThen, setBlock]
def Pl.Dv.clean (s : Pl.Dv) : Pl.Dv := { s with wait := [] }
theorem forget_any (h : DevAt B d s fp W) : Calls Tryz.prog 19 #[.pointer (some ⟨d, 0, none⟩)] W fun e w' => (∃ v, e = .returned v) ∧ DevAt B d s.clean fp w' ∧ Step fp fp W w' := by
 obtain ⟨gs, cs, vp, m, h⟩ := h
 have c1 := h.blk.cell 1
 have z1 := h.blk.frozen 1
 simp at c1
 have b1 := h.blk.set 1 (.slice none 0 0)
 simp at b1
 have n1 := h.blk.not_row (by decide) h.safe
 have n3 := map_not_blk h.map h.blk
 have n4 := map_not_row h.map h.safe
 have k1 := keep_d W d 1 (.slice none 0 0)
 have m1 := ownsMap_keep h.map k1 n3
 have s1 := k1.ownsRow h.safe (fun k e he => n1 (by rw [e, he]))
 obtain ⟨w', hcl, m2, hg⟩ := run_clear m1 Tryz.underlying48
 have c2 := b1.cell 2
 simp at c2
 have b2 := b1.kept hg (by simpa using n3.symm)
 have s2 := s1.kept hg (.inr n4.symm)
 have hk2 : Keep (fun k => ¬ fp k) W w' := (k1.mono (fun k hn _ e => hn (e ▸ h.fd))).trans (Keep.of_grownBy hg (fun k e _ hn => by cases e; exact hn h.fm)) (fun _ h _ => h)
 have hlt : ∀ k, fp k → k < w'.heap.size := fun k hk => Nat.lt_of_lt_of_le (h.lt k hk) hk2.size
 have hd : DevO B d gs cs (.slice none 0 0) m s.clean fp w' := ⟨b2, s2, World.ownsRow_nil _ _ _ _, m2, h.fd, h.fgs, fun k e => (by cases e), h.fm, hlt, h.low, ⟨h.wf.size, fun p hp => (by cases hp)⟩⟩
 have st : Step fp fp W w' := ⟨hk2, fun _ h => .inl h, hlt⟩
 clear b1 k1 m1 s1 m2 hg b2 s2 hk2 hlt
 go_enter Tryz.func19, Tryz.ntmps19
 go_wp2
 go_end0
 exact ⟨⟨_, rfl⟩, ⟨_, _, _, _, hd⟩, st⟩
end
section
open Go.RowKit
theorem info_write : (Tryz.prog.info? 59).map (fun i => (i.zero, i.size, i.bytes)) = some (some (.agg #[.int .i64 0, .string .empty]), 2, 24) := by kernel_rfl
variable {B d gs cs m : Nat} {vp : Value} {s : Pl.Dv} {fp : Nat → Prop} {W W' : World}
theorem write_dead (i : Int) (x : ByteArray) (h : DevAt B d s fp W) (hd : s.down = true) : Calls Tryz.prog 84 #[.pointer (some ⟨d, 0, none⟩), .int .i64 i, .string x] W fun e w' => e = .returned (.int .i64 4) ∧ W = w' := by
 obtain ⟨gs, cs, vp, m, h⟩ := h
 have c3 := h.blk.cell 3
 simp [hd] at c3
 go_enter Tryz.func84, Tryz.ntmps84
 go_wp2
 go_ret
 exact ⟨rfl, rfl⟩
theorem write_bad (i : Int) (x : ByteArray) (h : DevAt B d s fp W) (hd : s.down = false) (hi : i < 0 ∨ (s.safe.length : Int) ≤ i) : Calls Tryz.prog 84 #[.pointer (some ⟨d, 0, none⟩), .int .i64 i, .string x] W fun e w' => e = .returned (.int .i64 1) ∧ W = w' := by
 obtain ⟨gs, cs, vp, m, h⟩ := h
 have c3 := h.blk.cell 3
 have c0 := h.blk.cell 0
 simp [hd] at c3 c0
 by_cases h0 : i < 0
 ·clear hi
  go_enter Tryz.func84, Tryz.ntmps84
  go_wp2
  go_ret
  exact ⟨rfl, rfl⟩
 ·have h1 : (s.safe.length : Int) ≤ i := by omega
  clear hi
  go_enter Tryz.func84, Tryz.ntmps84
  go_wp2
  go_ret
  exact ⟨rfl, rfl⟩
theorem DevO.put (h : DevO B d gs cs vp m s fp W) {w1 : World} {tmp : Obj} {i g cap : Nat} {x : ByteArray} (hi : i < s.safe.length) (hx : x.size = 256)
  (hown' : w1.ownsRow B 59 2 (.slice (some ⟨g, 0, none⟩) (s.wait.length + 1) cap) (s.wait.length + 1) (wcells s.wait ++ (#[Value.int .i64 (i : Int), .string x] : Array Value).toList)) (hgrow : (W.alloc tmp).grownBy w1 vp.ownBlock) (hat : vp.ownBlock = some g ∨ W.heap.size ≤ g) (hg : g < w1.heap.size) :
  Blk w1 d #[.slice (some ⟨gs, 0, none⟩) s.safe.length cs, vp, .map (some m), .bool s.down, .int .i64 (s.armed : Int), .int .i64 (s.acts : Int), .int .i64 (s.epoch : Int)] 51 ∧
  ∀ W2, W2 = w1.setCell ⟨d, 1, none⟩ (.slice (some ⟨g, 0, none⟩) (s.wait.length + 1) cap) →
   Blk W2 d #[.slice (some ⟨gs, 0, none⟩) s.safe.length cs, .slice (some ⟨g, 0, none⟩) (s.wait.length + 1) cap, .map (some m), .bool s.down, .int .i64 (s.armed : Int), .int .i64 (s.acts : Int), .int .i64 (s.epoch : Int)] 51 ∧
   W2.ownsMap Tryz.prog 3 (plainElem (H := Unit) Tryz.prog 9) m s.wait.length (mapOf s.wait) ∧
   ∀ Wm, Wm.ownsMap Tryz.prog 3 (plainElem (H := Unit) Tryz.prog 9) m (s.wait.length + 1) ((mapOf s.wait).put (.int .i64 (i : Int)) (.lit (.string x.data.toList))) → W2.mapTurned Wm m →
    DevO B d gs cs (.slice (some ⟨g, 0, none⟩) (s.wait.length + 1) cap) m (s.put i x) (fun k => fp k ∨ k = g) Wm ∧ Step fp (fun k => fp k ∨ k = g) W Wm := by
 have n1 := h.blk.not_row (by decide) h.safe
 have n2 := h.blk.not_row (by decide) h.wait
 have n3 := map_not_blk h.map h.blk
 have n4 := map_not_row h.map h.wait
 have n5 := map_not_row h.map h.safe
 have hne : ∀ k, vp.ownBlock = some k → k ≠ gs := fun k e e2 => rows_apart h.wait h.safe (by decide) e (by rw [e2]; rfl)
 have b1 := (h.blk.alloc tmp).kept hgrow n2
 have s1 := (h.safe.alloc tmp).kept hgrow (.inr (fun e => hne gs e.symm rfl))
 have m1 := (h.map.alloc tmp).kept hgrow n4
 refine ⟨b1, ?_⟩
 rintro W2 rfl
 have hgd : g ≠ d := fun e => b1.not_row (by decide) hown' (by rw [← e]; rfl)
 have hgm : m ≠ g := fun e => map_not_row m1 hown' (by rw [e]; rfl)
 have b2 := b1.set 1 (.slice (some ⟨g, 0, none⟩) (s.wait.length + 1) cap)
 simp at b2
 have kd := keep_d w1 d 1 (.slice (some ⟨g, 0, none⟩) (s.wait.length + 1) cap)
 have s2 := kd.ownsRow s1 (fun k e => (show gs = k by simpa [Value.ownBlock] using e) ▸ (fun e => n1 (by rw [← e]; rfl)))
 have w2 := kd.ownsRow hown' (fun k e => (show g = k by simpa [Value.ownBlock] using e) ▸ hgd)
 have m2 := ownsMap_keep m1 kd n3
 refine ⟨b2, m2, fun Wm hm ht => ?_⟩
 have hG := ht.grown
 have b3 := b2.kept hG (by simpa using n3.symm)
 have s3 := s2.kept hG (.inr (fun e => n5 e.symm))
 have w3 := w2.kept hG (.inr (fun e => hgm (by simpa [Value.ownBlock] using e.symm)))
 have hk : Keep (fun k => ¬ fp k) W Wm := ((((Keep.refl _ W).alloc tmp).grown hgrow (fun k e h1 _ => h1 (h.fvp k e))).setCell _ _ _ (fun h1 _ => h1 h.fd)).trans (Keep.of_grownBy hG (fun k e _ hn => by cases e; exact hn h.fm)) (fun _ h _ => h)
 have hz : w1.heap.size ≤ Wm.heap.size := by have := hG.size; rwa [show (w1.setCell ⟨d, 1, none⟩ (.slice (some ⟨g, 0, none⟩) (s.wait.length + 1) cap)).heap.size = w1.heap.size from by simp [World.setCell]] at this
 have hlt : ∀ k, (fp k ∨ k = g) → k < Wm.heap.size := by
  rintro k (hk1 | rfl)
  ·exact Nat.lt_of_lt_of_le (h.lt k hk1) hk.size
  ·exact Nat.lt_of_lt_of_le hg hz
 refine ⟨⟨b3, s3, ?_, ?_, .inl h.fd, .inl h.fgs, fun k e => .inr (by simpa [Value.ownBlock] using e.symm), .inl h.fm, hlt, ?_, h.wf.put hi hx⟩, hk, ?_, hlt⟩
 ·show Wm.ownsRow B _ 2 _ (s.wait ++ [(i, x)]).length (wcells (s.wait ++ [(i, x)]))
  rw [List.length_append, List.length_singleton, wcells_append]
  exact w3
 ·show Wm.ownsMap _ _ _ m (s.wait ++ [(i, x)]).length (mapOf (s.wait ++ [(i, x)]))
  rw [List.length_append, List.length_singleton, mapOf_snoc]
  exact hm
 ·rintro k (hk1 | rfl)
  ·exact h.low k hk1
  ·exact (hown'.lt k rfl).1
 ·rintro k (hk1 | rfl)
  ·exact .inl hk1
  ·exact hat.imp (h.fvp _) id
theorem write_ok (i : Nat) (x : ByteArray) (h : DevAt B d s fp W) (hd : s.down = false) (hi : i < s.safe.length) (hx : x.size = 256) (hB : B ≤ W.heap.size) (hl : s.safe.length ≤ 9223372036854775807) (hw : (s.wait.length + 1) * 24 ≤ 140737488355328) (ha : s.acts < 9223372036854775807) (hr : s.armed ≤ 9223372036854775807) :
  Calls Tryz.prog 84 #[.pointer (some ⟨d, 0, none⟩), .int .i64 (i : Int), .string x] W fun e w' => e = .returned (.int .i64 (s.put i x).act.err) ∧ ∃ fp', DevAt B d (s.put i x).act fp' w' ∧ Step fp fp' W w' := by
 obtain ⟨gs, cs, vp, m, h⟩ := h
 have c3 := h.blk.cell 3
 have c0 := h.blk.cell 0
 have c1 := h.blk.cell 1
 simp [hd] at c3 c0 c1
 have hx' : ((x.size : Int) != 256) = false := by simp [hx]
 have hPut := Lib.hid (fun w1 tmp g cap => h.put (w1 := w1) (tmp := tmp) (g := g) (cap := cap) hi hx)
 have hwait := h.wait
 have hkey : keyOf Tryz.prog 3 (.int .i64 (i : Int)) = some (.int .i64 (i : Int)) := Maps.keyOf_int_mk Tryz.underlying3 (by simp [Lit.wf, IntKind.min, IntKind.max, IntKind.signed, IntKind.bits]; omega)
 have hval : plainElem (H := Unit) Tryz.prog 9 (.string x) = some (.lit (.string x.data.toList), []) := plainElem_string Tryz.underlying9 (by unfold maxLen; omega)
 have hn : s.wait.length < maxLen := by unfold maxLen; omega
 clear hx h
 go_enter Tryz.func84, Tryz.ntmps84
 go_wp2_with (first
  | (at_builtin; go_must (refine wpList_app1 (by rfl) _ _ 49 (by rfl) B 59 (.agg #[.int .i64 0, .string .empty]) 2 24 Tryz.underlying49 info_write rfl (by decide) vp s.wait.length (wcells s.wait) W hwait hB (by rfl) #[.int .i64 (i : Int), .string x] 59 (by rfl) rfl (by simp [Value.oneCell']) hw (by decide) ?_; intro g cap w1 hown' hgrow hat hg; have ⟨b1, hW2⟩ := hPut.out w1 _ g cap hown' hgrow hat hg; have q1 := b1.cell 1; have z1 := b1.frozen 1; simp at q1; have ⟨b2, m2, hW3⟩ := hW2 _ rfl; have q2 := b2.cell 2; simp at q2; replace hW3 := Lib.hid hW3))
  | (at_mapUpdate; go_must (refine wpList_mapUpdate_in _ rfl _ _ _ 48 rfl 3 9 (Maps.int_keyed Tryz.underlying3) Tryz.underlying48 _ m s.wait.length _ rfl m2 hn _ _ _ rfl rfl hkey _ [] hval ?_; intro Wm hm ht; have ⟨hD, st⟩ := hW3.out Wm hm ht; have hAct := Lib.hid (act_any (DevAt.of hD) ha hr)))
  | (go_at_call 118; ((with_reducible refine hAct.out.mono ?_); rintro e w' ⟨rfl, hA, sA⟩)))
 all_goals
  rename_i hdn
  clear hPut hW2 hW3
  go_ret
  refine ⟨ret_int ?_, _, hA, st.trans sA⟩
  first | exact (Pl.Dv.err_down hdn).symm | exact (Pl.Dv.err_up hdn).symm
end
section
open Go.RowKit
theorem zero_string (w : World) : (zeroValue 9).run Tryz.prog w = .ok (.string .empty) w := by kernel_rfl
theorem mapOf_isMap (w : List (Nat × ByteArray)) : Maps.IsMap (mapOf w) := by
 refine Pl.snoc_ind (P := fun w => Maps.IsMap (mapOf w)) Maps.isMap_empty (fun l x ih => ?_) w
 rw [mapOf_snoc]; exact ih.put _ _
theorem mapOf_at (w : List (Nat × ByteArray)) (i : Nat) (z : DataW Unit) : (mapOf w).atKey (.int .i64 (i : Int)) z = match Pl.lastW w i with | some x => .lit (.string x.data.toList) | none => z := by
 refine Pl.snoc_ind (P := fun w => (mapOf w).atKey (.int .i64 (i : Int)) z = match Pl.lastW w i with | some x => .lit (.string x.data.toList) | none => z) rfl (fun l p ih => ?_) w
 rw [mapOf_snoc, Pl.lastW_snoc]
 by_cases h : p.1 = i
 ·rw [if_pos h, h]; exact Maps.atKey_put_same (mapOf_isMap l) (show WideAt.IsKeyLit (.int .i64 (i : Int)) from trivial) _ _
 ·rw [if_neg h, Maps.atKey_put_other (by intro e; injection e with _ e; omega)]; exact ih
theorem mapOf_has (w : List (Nat × ByteArray)) (i : Nat) : Maps.has (mapOf w) (.int .i64 (i : Int)) = (Pl.lastW w i).isSome := by
 cases h : Pl.lastW w i with
 | none => exact Maps.has_false_of_atKey (fun z => by rw [mapOf_at, h])
 | some x => exact Maps.has_true_of_atKey (y := .lit (.string x.data.toList)) (fun z => by rw [mapOf_at, h])
theorem look_str {w : List (Nat × ByteArray)} {i : Nat} {v : Value} {ps : List MemPlace} (h : plainElem (H := Unit) Tryz.prog 9 v = some ((mapOf w).atKey (.int .i64 (i : Int)) (.lit (.string [])), ps)) : v = .string ((Pl.lastW w i).getD .empty) := by
 obtain ⟨x, rfl, hz, _⟩ := plainElem_string_inv Tryz.underlying9 h
 rw [mapOf_at] at hz
 cases hl : Pl.lastW w i with
 | none =>
  rw [hl] at hz
  have hz' : ((DataW.lit (.string []) : DataW Unit), ps) = (.lit (.string x.data.toList), []) := hz
  injection hz' with h1 _
  injection h1 with h1
  injection h1 with h1
  exact congrArg Value.string (ByteArray.ext (Array.ext' (by rw [← h1]; rfl)))
 | some y =>
  rw [hl] at hz
  have hz' : ((DataW.lit (.string y.data.toList) : DataW Unit), ps) = (.lit (.string x.data.toList), []) := hz
  injection hz' with h1 _
  injection h1 with h1
  injection h1 with h1
  exact congrArg Value.string (ByteArray.ext (Array.ext' h1.symm))
variable {B d gs cs m : Nat} {vp : Value} {s : Pl.Dv} {fp : Nat → Prop} {W W' : World}
theorem DevO.safe_at (h : DevO B d gs cs vp m s fp W) (i : Nat) (hi : i < s.safe.length) : W.cell? ⟨gs, i, none⟩ = some (.string s.safe[i]) := by
 rw [h.safe.cellAt i (by omega), scells_get _ _ hi]
theorem DevO.setSafe (h : DevO B d gs cs vp m s fp W) {i : Nat} {x : ByteArray} (hx : x.size = 256) :
  DevO B d gs cs vp m { s with safe := s.safe.set i x } fp (W.setCell ⟨gs, i, none⟩ (.string x)) ∧ Step fp fp W (W.setCell ⟨gs, i, none⟩ (.string x)) := by
 have n1 := h.blk.not_row (by decide) h.safe
 have n5 := map_not_row h.map h.safe
 have hne : ∀ k, vp.ownBlock = some k → k ≠ gs := fun k e e2 => rows_apart h.wait h.safe (by decide) e (by rw [e2]; rfl)
 have kp : Keep (fun k => k ≠ gs) W (W.setCell ⟨gs, i, none⟩ (.string x)) := (Keep.refl _ W).setCell _ _ _ (fun h _ => h rfl)
 have s1 := (h.safe.stored i (.string x)).1
 rw [scells_set] at s1
 have hlt : ∀ k, fp k → k < (W.setCell ⟨gs, i, none⟩ (.string x)).heap.size := fun k hk => Nat.lt_of_lt_of_le (h.lt k hk) kp.size
 have e1 : (s.safe.set i x).length = s.safe.length := by simp
 refine ⟨⟨?_, ?_, kp.ownsRow h.wait hne, ownsMap_keep h.map kp (fun e => n5 (by rw [e]; rfl)), h.fd, h.fgs, h.fvp, h.fm, hlt, h.low, ⟨?_, ?_⟩⟩, kp.mono (fun k hn _ e => hn (e ▸ h.fgs)), fun _ h => .inl h, hlt⟩
 ·simp only [e1]; exact h.blk.keep kp (fun e => n1 (by rw [e]; rfl))
 ·simp only [e1]; exact s1
 ·intro y hy
  rcases Pl.mem_set_of hy with h1 | rfl
  ·exact h.wf.size y h1
  ·exact hx
 ·intro p hp
  simp only [e1]
  exact h.wf.wait p hp
theorem read_dead (i : Int) (h : DevAt B d s fp W) (hd : s.down = true) : Calls Tryz.prog 15 #[.pointer (some ⟨d, 0, none⟩), .int .i64 i] W fun e w' => e = .returned (.tuple #[.string .empty, .int .i64 4]) ∧ W = w' := by
 obtain ⟨gs, cs, vp, m, h⟩ := h
 have c3 := h.blk.cell 3
 simp [hd] at c3
 go_enter Tryz.func15, Tryz.ntmps15
 go_wp2
 go_ret2
 exact ⟨rfl, rfl⟩
theorem read_bad (i : Int) (h : DevAt B d s fp W) (hd : s.down = false) (hi : i < 0 ∨ (s.safe.length : Int) ≤ i) : Calls Tryz.prog 15 #[.pointer (some ⟨d, 0, none⟩), .int .i64 i] W fun e w' => e = .returned (.tuple #[.string .empty, .int .i64 1]) ∧ W = w' := by
 obtain ⟨gs, cs, vp, m, h⟩ := h
 have c3 := h.blk.cell 3
 have c0 := h.blk.cell 0
 simp [hd] at c3 c0
 by_cases h0 : i < 0
 ·clear hi
  go_enter Tryz.func15, Tryz.ntmps15
  go_wp2
  go_ret2
  exact ⟨rfl, rfl⟩
 ·have h1 : (s.safe.length : Int) ≤ i := by omega
  clear hi
  go_enter Tryz.func15, Tryz.ntmps15
  go_wp2
  go_ret2
  exact ⟨rfl, rfl⟩
theorem read_ok (i : Nat) (h : DevAt B d s fp W) (hd : s.down = false) (hi : i < s.safe.length) (hl : s.safe.length ≤ 9223372036854775807) : Calls Tryz.prog 15 #[.pointer (some ⟨d, 0, none⟩), .int .i64 (i : Int)] W fun e w' => e = .returned (.tuple #[.string (s.read i), .int .i64 0]) ∧ W = w' := by
 obtain ⟨gs, cs, vp, m, h⟩ := h
 have c3 := h.blk.cell 3
 have c0 := h.blk.cell 0
 have c2 := h.blk.cell 2
 simp [hd] at c3 c0 c2
 have hm := h.map
 have hat := h.safe_at i hi
 have hkey : keyOf Tryz.prog 3 (.int .i64 (i : Int)) = some (.int .i64 (i : Int)) := Maps.keyOf_int_mk Tryz.underlying3 (by simp [Lit.wf, IntKind.min, IntKind.max, IntKind.signed, IntKind.bits]; omega)
 have hhas := mapOf_has s.wait i
 have hrd : s.read i = (Pl.lastW s.wait i).getD s.safe[i] := by unfold Pl.Dv.read; simp [List.getD_eq_getElem?_getD, hi]
 rw [hrd]
 clear hrd hd
 cases hlw : Pl.lastW s.wait i with
 | none =>
  rw [hlw] at hhas
  replace hhas : Maps.has (mapOf s.wait) (.int .i64 (i : Int)) = false := hhas
  clear h
  go_enter Tryz.func15, Tryz.ntmps15
  go_wp2_with (at_lookup; go_must (refine wpList_lookup_own_ok _ rfl _ _ 48 rfl 3 9 (Maps.int_keyed Tryz.underlying3) Tryz.underlying48 _ (zero_string _) (.lit (.string [])) [] (plainElem_string Tryz.underlying9 (s := ByteArray.empty) (by decide)) m s.wait.length _ rfl hm _ _ rfl hkey ?_; intro v ps hv; rw [hhas]; obtain rfl := look_str hv))
  go_ret2
  exact ⟨rfl, rfl⟩
 | some x =>
  rw [hlw] at hhas
  replace hhas : Maps.has (mapOf s.wait) (.int .i64 (i : Int)) = true := hhas
  clear h
  go_enter Tryz.func15, Tryz.ntmps15
  go_wp2_with (at_lookup; go_must (refine wpList_lookup_own_ok _ rfl _ _ 48 rfl 3 9 (Maps.int_keyed Tryz.underlying3) Tryz.underlying48 _ (zero_string _) (.lit (.string [])) [] (plainElem_string Tryz.underlying9 (s := ByteArray.empty) (by decide)) m s.wait.length _ rfl hm _ _ rfl hkey ?_; intro v ps hv; rw [hhas]; obtain rfl := look_str hv; rw [hlw]))
  go_ret2
  exact ⟨rfl, rfl⟩
end
section
open Go.RowKit Go.Shelf
def Bytes (W : World) (g : Nat) (l : List UInt8) : Prop := W.heap[g]? = some (.cells (bcells l).toArray 5 (0, 0))
theorem Bytes.lt {W : World} {g : Nat} {l : List UInt8} (h : Bytes W g l) : g < W.heap.size := (Array.getElem?_eq_some_iff.1 h).1
theorem Bytes.cell {W : World} {g : Nat} {l : List UInt8} (h : Bytes W g l) {i : Nat} (hi : i < l.length) : W.cell? ⟨g, i, none⟩ = some (.int .u8 (l[i].toNat : Int)) := by
 simp [World.cell?, show W.heap[g]? = _ from h, bcells, hi]
theorem Bytes.frozen {W : World} {g : Nat} {l : List UInt8} (h : Bytes W g l) (i : Nat) : W.frozen? ⟨g, i, none⟩ = false := by simp [World.frozen?, show W.heap[g]? = _ from h]
theorem Bytes.keep {W W' : World} {g : Nat} {l : List UInt8} {fp : Nat → Prop} (h : Bytes W g l) (hk : Keep fp W W') (hf : fp g) : Bytes W' g l := (hk.block g hf h.lt).trans h
theorem Bytes.below {W W' : World} {g : Nat} {l : List UInt8} {B : Nat} (h : Bytes W g l) (hk : Below B W W') (hf : g < B) : Bytes W' g l := (hk.block g hf).trans h
theorem bcells_set (l : List UInt8) (i : Nat) (c : UInt8) : bcells (l.set i c) = (bcells l).set i (.int .u8 (c.toNat : Int)) := by simp [bcells, List.map_set]
theorem Bytes.set {W : World} {g : Nat} {l : List UInt8} (h : Bytes W g l) (i : Nat) (c : UInt8) : Bytes (W.setCell ⟨g, i, none⟩ (.int .u8 (c.toNat : Int))) g (l.set i c) := by
 obtain ⟨hlt, hk⟩ := Array.getElem?_eq_some_iff.1 h
 show (W.heap.modify g _)[g]? = _
 rw [Array.getElem?_eq_getElem (by rw [Array.size_modify]; exact hlt), Array.getElem_modify_self, hk, bcells_set]
 simp
theorem Bytes.new (W : World) (l : List UInt8) : Bytes (W.alloc (.cells (bcells l).toArray 5)) W.heap.size l := World.alloc_heap_new W _
theorem Bytes.str {W : World} {g : Nat} {l : List UInt8} (h : Bytes W g l) (cap : Nat) : (convert 52 9 (.slice (some ⟨g, 0, none⟩) l.length cap)).run Tryz.prog W = .ok (.string ⟨l.toArray⟩) W :=
 run_convert_bytes_back (P := Tryz.prog) W 52 9 5 ⟨g, 0, none⟩ cap l Tryz.underlying52 Tryz.underlying5 Tryz.underlying9 (fun j hj => by
  rw [show (⟨g, 0, none⟩ : Addr).add j = ⟨g, j, none⟩ by rw [Addr.add_lit]; simp]
  exact h.cell hj)
theorem info_u8 : (Tryz.prog.info? 5).map (fun i => (i.zero, i.size, i.bytes)) = some (some (.int .u8 0), 1, 1) := by kernel_rfl
theorem make_bytes (n : Nat) (hn : n ≤ 281474976710656) (w : World) :
  (Instr.makeSlice 52 (.int .i64 (n : Int)) (.int .i64 (n : Int))).run Tryz.prog w = .ok (.slice (some ⟨w.heap.size, 0, none⟩) n n) (w.alloc (.cells (bcells (List.replicate n 0)).toArray 5)) := by
 obtain ⟨i, hi, hz0, hz1, hz2⟩ := info_parts info_u8
 have h := run_make (P := Tryz.prog) w 52 5 i (.int .u8 0) Tryz.underlying52 hi hz0 .i64 .i64 (n : Int) (n : Int) (by omega) (by omega) (by rw [hz2]; omega) (by omega)
 have e : madeCells (Value.int .u8 0).cells (n * i.size) = (bcells (List.replicate n 0)).toArray := by
  rw [hz1]
  apply Array.ext
  ·rw [size_madeCells]; simp [bcells]
  ·intro j h1 h2
   have hj : j < n := by simpa [bcells] using h2
   simp [madeCells, bcells, Value.cells, Nat.mod_one]
 simp only [Int.toNat_natCast] at h
 rw [e] at h
 exact h
end
section
open Go.RowKit
theorem below_bytes {w W : World} {g i : Nat} {c : UInt8} (h : Below w.heap.size w W) (hg : w.heap.size ≤ g) : Below w.heap.size w (W.setCell ⟨g, i, none⟩ (.int .u8 (c.toNat : Int))) := h.setCell hg _
def Pl.zeros (n : Nat) : ByteArray := ⟨(List.replicate n (0 : UInt8)).toArray⟩
theorem Pl.zeros_size (n : Nat) : (Pl.zeros n).size = n := by
 show (List.replicate n (0 : UInt8)).toArray.size = n
 simp
theorem noughtsN_any (n : Nat) (hn : n ≤ 1099511627776) (w : World) :
  Calls Tryz.prog 16 #[.int .i64 (n : Int)] w fun e w' => e = .returned (.string (Pl.zeros n)) ∧ Below w.heap.size w w' := by
 have hmk := make_bytes n (by omega)
 have hB0 := Bytes.new w (List.replicate n (0 : UInt8))
 have hs := hB0.str n
 have hb0 : Below w.heap.size w (w.alloc (.cells (bcells (List.replicate n 0)).toArray 5)) := (Below.refl _ _).alloc (Nat.le_refl _) _
 rw [List.length_replicate] at hs
 go_enter Tryz.func16, Tryz.ntmps16
 go_wp2
 go_ret
 exact ⟨rfl, hb0⟩
theorem noughts_any (w : World) :
  Calls Tryz.prog 16 #[.int .i64 256] w fun e w' => e = .returned (.string (Pl.zeros 256)) ∧ Below w.heap.size w w' := noughtsN_any 256 (by omega) w
end
section
open Go.RowKit
def Pl.Dv.new (n : Nat) : Pl.Dv := { safe := List.replicate n (Pl.zeros 256), wait := [], down := false, armed := 0, acts := 0, epoch := 0 }
theorem Pl.Dv.new_wf (n : Nat) : (Pl.Dv.new n).WF := ⟨fun x hx => by rw [List.eq_of_mem_replicate hx]; exact Pl.zeros_size 256, fun p hp => by cases hp⟩
theorem info_string : (Tryz.prog.info? 9).map (fun i => (i.zero, i.size, i.bytes)) = some (some (.string .empty), 1, 16) := by kernel_rfl
theorem make_strings (n : Nat) (hn : n ≤ 17592186044416) (w : World) :
  (Instr.makeSlice 43 (.int .i64 (n : Int)) (.int .i64 (n : Int))).run Tryz.prog w = .ok (.slice (some ⟨w.heap.size, 0, none⟩) n n) (w.alloc (.cells (scells (List.replicate n .empty)).toArray 9)) := by
 obtain ⟨i, hi, hz0, hz1, hz2⟩ := info_parts info_string
 have h := run_make (P := Tryz.prog) w 43 9 i (.string .empty) Tryz.underlying43 hi hz0 .i64 .i64 (n : Int) (n : Int) (by omega) (by omega) (by rw [hz2]; omega) (by omega)
 have e : madeCells (Value.string .empty).cells (n * i.size) = (scells (List.replicate n .empty)).toArray := by
  rw [hz1]
  apply Array.ext
  ·rw [size_madeCells]; simp [scells]
  ·intro j h1 h2
   have hj : j < n := by simpa [scells] using h2
   simp [madeCells, scells, Value.cells, Nat.mod_one]
 simp only [Int.toNat_natCast] at h
 rw [e] at h
 exact h
def laid (n k : Nat) : List ByteArray := List.replicate k (Pl.zeros 256) ++ List.replicate (n - k) .empty
theorem laid_zero (n : Nat) : laid n 0 = List.replicate n .empty := by simp [laid]
theorem laid_all (n : Nat) : laid n n = List.replicate n (Pl.zeros 256) := by simp [laid]
theorem laid_length {n k : Nat} (h : k ≤ n) : (laid n k).length = n := by simp [laid]; omega
theorem laid_set {n k : Nat} (h : k < n) : (laid n k).set k (Pl.zeros 256) = laid n (k + 1) := by
 obtain ⟨r, hr⟩ : ∃ r, n - k = r + 1 := ⟨n - k - 1, by omega⟩
 have hr' : n - (k + 1) = r := by omega
 unfold laid
 rw [hr, hr', List.set_append, if_neg (by simp), List.replicate_succ' (n := k), List.append_assoc]
 simp [List.replicate_succ]
theorem new_any (n : Nat) (h1 : 40 ≤ n) (h2 : n ≤ 16384) (w : World) :
  Calls Tryz.prog 5 #[.int .i64 (n : Int)] w fun e w' => ∃ d fp, e = .returned (.tuple #[.pointer (some ⟨d, 0, none⟩), .int .i64 0]) ∧ DevAt w.heap.size d (Pl.Dv.new n) fp w' ∧ Below w.heap.size w w' := by
 have hmk := make_strings n (by omega)
 have hmb := make_bytes 256 (by omega)
 have e1 : ((256 : Nat) : Int) = 256 := rfl
 rw [e1] at hmb
 clear e1
 obtain ⟨zs, hzs⟩ : ∃ zs : List UInt8, zs = List.replicate 256 0 := ⟨_, rfl⟩
 rw [← hzs] at hmb
 have hlz : zs.length = 256 := by rw [hzs]; simp
 have hZ : (⟨zs.toArray⟩ : ByteArray) = Pl.zeros 256 := by rw [hzs]; rfl
 replace hzs := Lib.hid hzs
 have hmm := @run_makeMap Tryz.prog
 -- the worlds
 obtain ⟨W1, hW1⟩ : ∃ W1, W1 = w.alloc (.cells (scells (List.replicate n .empty)).toArray 9) := ⟨_, rfl⟩
 obtain ⟨W2, hW2⟩ : ∃ W2, W2 = W1.alloc (.map #[] 0) := ⟨_, rfl⟩
 have z1 : W1.heap.size = w.heap.size + 1 := by rw [hW1, World.size_alloc]
 have z2 : W2.heap.size = w.heap.size + 1 + 1 := by rw [hW2, World.size_alloc, z1]
 obtain ⟨W3, hW3⟩ : ∃ W3, W3 = W2.alloc (.cells #[.slice (some ⟨w.heap.size, 0, none⟩) n n, .slice none 0 0, .map (some (w.heap.size + 1)), .bool false, .int .i64 0, .int .i64 0, .int .i64 0] 51) := ⟨_, rfl⟩
 have z3 : W3.heap.size = w.heap.size + 1 + 1 + 1 := by rw [hW3, World.size_alloc, z2]
 obtain ⟨W4, hW4⟩ : ∃ W4, W4 = W3.alloc (.cells (bcells zs).toArray 5) := ⟨_, rfl⟩
 have hs := (Bytes.new W3 zs).str 256
 rw [hlz, hZ, z3, ← hW4] at hs
 have hS1 : W1.ownsRow w.heap.size 9 1 (.slice (some ⟨w.heap.size, 0, none⟩) n n) n (scells (laid n 0)) := by
  rw [hW1, laid_zero]
  have := World.ownsRow_lit (base := w.heap.size) (size := 1) (e := 9) w (scells (List.replicate n .empty)).toArray n (Nat.le_refl _) (by unfold maxLen; omega) (by simp [scells])
  simpa using this
 have hM2 : W2.ownsMap Tryz.prog 3 (plainElem (H := Unit) Tryz.prog 9) (w.heap.size + 1) 0 (mapOf []) := by
  have := World.ownsMap_made (H := Unit) W1 Tryz.prog 3 (plainElem (H := Unit) Tryz.prog 9)
  rw [z1, ← hW2] at this
  exact this
 have hB3 : Blk W3 (w.heap.size + 1 + 1) #[.slice (some ⟨w.heap.size, 0, none⟩) n n, .slice none 0 0, .map (some (w.heap.size + 1)), .bool false, .int .i64 0, .int .i64 0, .int .i64 0] 51 := by
  have := Blk.new W2 #[.slice (some ⟨w.heap.size, 0, none⟩) n n, .slice none 0 0, .map (some (w.heap.size + 1)), .bool false, .int .i64 0, .int .i64 0, .int .i64 0] 51
  rw [z2, ← hW3] at this
  exact this
 have hS4 : W4.ownsRow w.heap.size 9 1 (.slice (some ⟨w.heap.size, 0, none⟩) n n) n (scells (laid n 0)) := by
  rw [hW4, hW3, hW2]; exact ((hS1.alloc _).alloc _).alloc _
 have hM4 : W4.ownsMap Tryz.prog 3 (plainElem (H := Unit) Tryz.prog 9) (w.heap.size + 1) 0 (mapOf []) := by
  rw [hW4, hW3]; exact (hM2.alloc _).alloc _
 have hB4 : Blk W4 (w.heap.size + 1 + 1) #[.slice (some ⟨w.heap.size, 0, none⟩) n n, .slice none 0 0, .map (some (w.heap.size + 1)), .bool false, .int .i64 0, .int .i64 0, .int .i64 0] 51 := by
  rw [hW4]; exact hB3.alloc _
 have hb4 : Below w.heap.size w W4 := by
  rw [hW4, hW3, hW2, hW1]
  exact ((((Below.refl _ w).alloc (Nat.le_refl _) _).alloc (by simp) _).alloc (by simp; omega) _).alloc (by simp; omega) _
 have c0 := hB4.cell 0
 simp at c0
 clear hS1 hM2 hB3
 rw [hW4, hW3, hW2, hW1] at c0 hs
 go_enter Tryz.func5, Tryz.ntmps5
 go_wp2
 rw [← hW1, ← hW2, ← hW3, ← hW4] at *
 clear hs c0 hmb hmk hmm hZ hW1 hW2 hW3 hW4 hlz hzs
 go_loopw [6, 25] (fun _ i wr => ∃ k : Nat, k ≤ n ∧ i = .int .i64 k ∧ wr.ownsRow w.heap.size 9 1 (.slice (some ⟨w.heap.size, 0, none⟩) n n) n (scells (laid n k)) ∧
  wr.ownsMap Tryz.prog 3 (plainElem (H := Unit) Tryz.prog 9) (w.heap.size + 1) 0 (mapOf []) ∧
  Blk wr (w.heap.size + 1 + 1) #[.slice (some ⟨w.heap.size, 0, none⟩) n n, .slice none 0 0, .map (some (w.heap.size + 1)), .bool false, .int .i64 0, .int .i64 0, .int .i64 0] 51 ∧ Below w.heap.size w wr) (fun _ i _ => n - (intOf i).toNat)
 case atStart => exact ⟨0, by omega, rfl, hS4, hM4, hB4, hb4⟩
 case round =>
  obtain ⟨k, hk, rfl, hS, hM, hB, hb⟩ := hrel
  clear hS4 hM4 hB4 hb4
  have c0 := hB.cell 0
  simp at c0
  by_cases h3 : k < n
  ·have hz := hS.frozenAt k
   have hc : wr.cell? ⟨w.heap.size, k, none⟩ = some (.string ((laid n k)[k]'(by rw [laid_length hk]; exact h3))) := by rw [hS.cellAt k (by omega), scells_get _ _ (by rw [laid_length hk]; exact h3)]
   have hS' := (hS.stored k (.string (Pl.zeros 256))).1
   rw [scells_set, laid_set h3] at hS'
   have kp : Keep (fun i => i ≠ w.heap.size) wr (wr.setCell ⟨w.heap.size, k, none⟩ (.string (Pl.zeros 256))) := (Keep.refl _ _).setCell _ _ _ (fun h _ => h rfl)
   have hM' := ownsMap_keep hM kp (by omega)
   have hB' := hB.keep kp (by omega)
   have hb' : Below w.heap.size w (wr.setCell ⟨w.heap.size, k, none⟩ (.string (Pl.zeros 256))) := hb.setCell (Nat.le_refl _) _
   clear hS hM hB hb kp
   go_wp2
   go_roundw
   case rel => exact ⟨k + 1, by omega, by go_num, hS', hM', hB', hb'⟩
   case measure => simp [intOf]; omega
  ·obtain rfl : n = k := by omega
   rw [laid_all] at hS
   go_wp2
   go_ret2
   refine ⟨w.heap.size + 1 + 1, fun k => w.heap.size ≤ k ∧ k < wr.heap.size, rfl, ⟨w.heap.size, n, .slice none 0 0, w.heap.size + 1, ?_⟩, hb⟩
   have hl : (Pl.Dv.new n).safe.length = n := by simp [Pl.Dv.new]
   have q1 := hB.lt
   refine ⟨?_, ?_, World.ownsRow_nil _ _ _ _, hM, ⟨by omega, q1⟩, ⟨by omega, by omega⟩, (fun k e => by cases e), ⟨by omega, by omega⟩, fun k h => h.2, fun k h => h.1, Pl.Dv.new_wf n⟩
   ·rw [hl]; exact hB
   ·rw [hl]; exact hS
theorem Pl.setAll_take {l : List ByteArray} {w : List (Nat × ByteArray)} {k : Nat} (h : k < w.length) : Pl.setAll l (w.take (k + 1)) = (Pl.setAll l (w.take k)).set w[k].1 w[k].2 := by
 rw [List.take_succ_eq_append_getElem h, Pl.setAll_snoc]
variable {B d gs cs m : Nat} {vp : Value} {s : Pl.Dv} {fp : Nat → Prop} {W W' : World}
theorem DevO.alloc (h : DevO B d gs cs vp m s fp W) (o : Obj) : DevO B d gs cs vp m s fp (W.alloc o) := h.keep ((Keep.refl _ W).alloc o)
theorem DevO.drewN (h : DevO B d gs cs vp m s fp W) (n : Nat) : DevO B d gs cs vp m s fp (W.drewN n) := h.keep ((Keep.refl _ W).drewN n)
theorem DevO.wait_at (h : DevO B d gs cs vp m s fp W) : ∃ ao cap, vp = .slice ao s.wait.length cap ∧ (0 < s.wait.length → ∃ g, ao = some ⟨g, 0, none⟩ ∧ ∀ i (hi : i < s.wait.length), W.cell? ⟨g, i * 2, none⟩ = some (.int .i64 (s.wait[i].1 : Int)) ∧ W.cell? ⟨g, i * 2 + 1, none⟩ = some (.string s.wait[i].2)) := by
 have hw := h.wait
 rcases hw.2 with ⟨rfl, h0⟩ | ⟨g, cap, cur, rfl, _⟩
 ·exact ⟨_, _, by rw [h0], fun h1 => by omega⟩
 ·refine ⟨_, _, rfl, fun _ => ⟨g, rfl, fun i hi => ?_⟩⟩
  obtain ⟨e1, e2⟩ := wcells_get s.wait i hi
  exact ⟨by rw [hw.cellAt (i * 2) (by omega), e1], by rw [hw.cellAt (i * 2 + 1) (by omega), e2]⟩
theorem Step.lay {fp : Nat → Prop} {W : World} (h : ∀ k, fp k → k < W.heap.size) (o : Obj) : Step fp fp W (W.alloc o) :=
 ⟨(Keep.refl _ W).alloc o, fun _ h => .inl h, fun k hk => by rw [World.size_alloc]; have := h k hk; omega⟩
theorem Step.drewW {fp fp' : Nat → Prop} {W W' : World} (h : Step fp fp' W W') (n : Nat) : Step fp fp' W (W'.drewN n) := ⟨h.keep.drewN n, h.new, h.lt⟩
def Pl.Dv.ws (s : Pl.Dv) (l : List ByteArray) : Pl.Dv := { s with safe := l }
theorem sync_dead (h : DevAt B d s fp W) (hd : s.down = true) : Calls Tryz.prog 85 #[.pointer (some ⟨d, 0, none⟩)] W fun e w' => e = .returned (.int .i64 4) ∧ W = w' := by
 obtain ⟨gs, cs, vp, m, h⟩ := h
 have c3 := h.blk.cell 3
 simp [hd] at c3
 go_enter Tryz.func85, Tryz.ntmps85
 go_wp2
 go_ret
 exact ⟨rfl, rfl⟩
theorem sync_gone (h : DevAt B d s fp W) (hd : s.down = false) (ha : s.acts < 9223372036854775807) (hr : s.armed ≤ 9223372036854775807) (hg : s.act.down = true) : Calls Tryz.prog 85 #[.pointer (some ⟨d, 0, none⟩)] W fun e w' => e = .returned (.int .i64 4) ∧ DevAt B d s.act fp w' ∧ Step fp fp W w' := by
 have hAct := Lib.hid (act_any h ha hr)
 obtain ⟨gs, cs, vp, m, h⟩ := h
 have c3 := h.blk.cell 3
 simp [hd] at c3
 clear h
 go_enter Tryz.func85, Tryz.ntmps85
 go_wp2_with (go_at_call 118; ((with_reducible refine hAct.out.mono ?_); rintro e w' ⟨rfl, hA, sA⟩))
 go_ret
 exact ⟨rfl, hA, sA⟩
theorem sync_ok (h : DevAt B d s fp W) (hd : s.down = false) (ha : s.acts < 9223372036854775807) (hr : s.armed ≤ 9223372036854775807) (hg : s.act.down = false) (hw : s.wait.length ≤ 9223372036854775807) : Calls Tryz.prog 85 #[.pointer (some ⟨d, 0, none⟩)] W fun e w' => e = .returned (.int .i64 0) ∧ DevAt B d s.act.flush fp w' ∧ Step fp fp W w' := by
 have hAct := Lib.hid (act_any h ha hr)
 obtain ⟨gs', cs', vp', m', h⟩ := h
 have c3 := h.blk.cell 3
 simp [hd] at c3
 clear h
 go_enter Tryz.func85, Tryz.ntmps85
 go_wp2_with (go_at_call 118; ((with_reducible refine hAct.out.mono ?_); rintro e w1 ⟨rfl, ⟨gs, cs, vp, m, hA⟩, sA⟩; have c1 := hA.blk.cell 1; simp at c1; have ⟨ao, cap, hvp, _⟩ := hA.wait_at; subst hvp))
 have hk1 := hA.wf.wait
 go_loopw [4, 23] (fun _ i wr => ∃ k : Nat, k ≤ s.wait.length ∧ i = .int .i64 k ∧ DevO B d gs cs (.slice ao s.wait.length cap) m (s.act.ws (Pl.setAll s.safe (s.wait.take k))) fp wr ∧ Step fp fp w1 wr) (fun _ i _ => s.wait.length - (intOf i).toNat)
 case atStart => exact ⟨0, by omega, rfl, hA, ⟨Keep.refl _ _, fun _ h => .inl h, hA.lt⟩⟩
 case round =>
  obtain ⟨k, hk, rfl, hD, st⟩ := hrel
  have c0 := hD.blk.cell 0
  simp at c0
  clear hA
  by_cases h3 : k < s.wait.length
  ·obtain ⟨ao', cap', e1, hat⟩ := hD.wait_at
   obtain ⟨g, e2, hat2⟩ := hat (by show 0 < s.wait.length; omega)
   cases e1
   subst e2
   have hx : wr.cell? ⟨g, k * 2, none⟩ = some (.int .i64 (s.wait[k].1 : Int)) ∧ wr.cell? ⟨g, k * 2 + 1, none⟩ = some (.string s.wait[k].2) := hat2 k h3
   have hpw := hk1 s.wait[k] (List.getElem_mem h3)
   have hnx := Lib.hid (Pl.setAll_take (l := s.safe) h3)
   have hll := Pl.setAll_length (s.wait.take k) s.safe
   clear hat hat2 hk1
   generalize s.wait[k] = p at hx hpw hnx
   obtain ⟨i, x⟩ := p
   obtain ⟨x0, x1⟩ := hx
   obtain ⟨hi, hxs⟩ := hpw
   replace hi : i < (Pl.setAll s.safe (s.wait.take k)).length := by rw [hll]; exact hi
   generalize Pl.setAll s.safe (s.wait.take k) = l at *
   have hD1 := hD.alloc (.cells #[.int .i64 (i : Int), .string x] 59)
   have c0 : World.cell? (wr.alloc (.cells #[.int .i64 (i : Int), .string x] 59)) ⟨d, 0, none⟩ = some (.slice (some ⟨gs, 0, none⟩) l.length cs) := hD1.blk.cell 0
   have cS := hD1.safe_at i hi
   have zS := hD1.safe.frozenAt i
   obtain ⟨hD2, st2⟩ := hD1.setSafe (i := i) hxs
   have hD3 := hD2.drewN 1
   have st3 := ((Step.lay hD.lt (.cells #[.int .i64 (i : Int), .string x] 59)).trans st2).drewW 1
   clear hD hD1 hD2 st2
   go_wp2
   go_region
   go_wp2
   go_roundw
   case rel => exact ⟨k + 1, by omega, by go_num, by rw [hnx.out]; exact hD3, st.trans st3⟩
   case measure => simp [intOf]; omega
  ·obtain rfl : k = s.wait.length := by omega
   have hP := Lib.hid (forget_any (DevAt.of hD))
   rw [List.take_of_length_le (Nat.le_refl _)] at hP
   clear hD
   go_wp2_with (go_at_call 19; ((with_reducible refine hP.out.mono ?_); rintro e w2 ⟨⟨_, rfl⟩, hF, sF⟩))
   go_ret
   exact ⟨rfl, hF, (sA.trans st).trans sF⟩
end
section
open Go.RowKit
variable {B d : Nat} {s : Pl.Dv} {fp fp' : Nat → Prop} {W W' : World}
theorem DevAt.fpB (h : DevAt B d s fp W) : ∀ k, fp k → B ≤ k := let ⟨_, _, _, _, h⟩ := h; h.low
theorem DevAt.wf (h : DevAt B d s fp W) : s.WF := let ⟨_, _, _, _, h⟩ := h; h.wf
theorem below_step {w : World} (hb : Below B w W) (hB : B ≤ w.heap.size) (h : DevAt B d s fp W) (st : Step fp fp' W W') : Below B w W' :=
 ⟨st.keep.os.trans hb.os, st.keep.tape.trans hb.tape, st.keep.output.trans hb.output, Nat.le_trans hb.size st.keep.size, fun k hk =>
  (st.keep.block k (fun hf => by have := h.fpB k hf; omega) (by have := hb.size; omega)).trans (hb.block k hk)⟩
theorem DevAt.beyond (h : DevAt B d s fp W) (hb : Below W.heap.size W W') : DevAt B d s fp W' := h.keep (Keep.of_below hb (fun _ _ h => h))
theorem up_is {b : Bool} (h : DevAt B d s fp W) (hd : s.down = b) : Calls Tryz.prog 47 #[.pointer (some ⟨d, 0, none⟩)] W fun e w' => e = .returned (.bool (!b)) ∧ W = w' := hd ▸ up_any h
end
end Go.Proofs.YtogblcdefbnbeaaGreat
