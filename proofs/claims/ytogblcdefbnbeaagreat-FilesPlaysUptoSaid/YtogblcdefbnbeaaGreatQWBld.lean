
/- Walks: a strings.Builder in a variable of its own. Condition: bytes that fit. -/
import Derived.Test.YtogblcdefbnbeaaGreatQGu
import Derived.Test.YtogblcdefbnbeaaGreatQGd
import Derived.Lib.Builder
import Derived.Lib.AppendStr
import Derived.Lib.UnsafeStr
import Derived.Laws.Externs
set_option maxRecDepth 100000
namespace Go.Proofs.YtogblcdefbnbeaaGreat
section
open Go.RowKit
def BldAt (b : Nat) (p : Value) (l : List UInt8) (w : World) : Prop :=
 ∃ v, w.heap[b]? = some (.cells #[p, v] 89 (0, 0)) ∧ w.ownsRow (b + 1) 5 1 v l.length (bcells l)
def Hd (b : Nat) (p : Value) : Prop := p = .pointer none ∨ p = .pointer (some ⟨b, 0, none⟩)
theorem lt_of_block {w : World} {b : Nat} {o : Obj} (h : w.heap[b]? = some o) : b < w.heap.size := (Array.getElem?_eq_some_iff.1 h).1
theorem BldAt.lt {b : Nat} {p : Value} {l : List UInt8} {w : World} (h : BldAt b p l w) : b < w.heap.size := by
 obtain ⟨v, hb, _⟩ := h
 exact (Array.getElem?_eq_some_iff.1 hb).1
theorem BldAt.ne {b : Nat} {w : World} {v : Value} {n : Nat} {xs : List Value} (h : w.ownsRow (b + 1) 5 1 v n xs) : v.ownBlock ≠ some b := fun e => by have := (h.lt b e).1; omega
theorem BldAt.new (w : World) : BldAt w.heap.size (.pointer none) [] (w.alloc (.cells #[.pointer none, .slice none 0 0] 89)) :=
 ⟨.slice none 0 0, World.alloc_heap_new _ _, World.ownsRow_nil _ _ _ _⟩
theorem own_otherB {b i : Nat} {v q : Value} {n : Nat} {xs : List Value} {w : World} (h : w.ownsRow (b + 1) 5 1 v n xs) : (w.setCell ⟨b, i, none⟩ q).ownsRow (b + 1) 5 1 v n xs :=
 h.kept (row := some b) ⟨rfl, rfl, rfl, by simp [World.setCell], fun k _ hk => Below.heap_setCell _ _ _ _ (fun e => hk (by simp [e]))⟩ (Or.inr (BldAt.ne h))
theorem BldAt.kept {b : Nat} {p : Value} {l : List UInt8} {w w' : World} (h : BldAt b p l w) (hb : Below w.heap.size w w') : BldAt b p l w' := by
 obtain ⟨v, hbk, hown⟩ := h
 exact ⟨v, (hb.block b (lt_of_block hbk)).trans hbk, hown.kept (row := none) ⟨hb.os, hb.tape, hb.output, hb.size, fun k hk _ => hb.block k hk⟩ (by cases v.ownBlock <;> simp)⟩
theorem info_builder : (Tryz.prog.info? 89).map (fun i => i.size) = some 2 := by kernel_rfl
set_option maxHeartbeats 1000000 in
theorem copyCheck_used (b : Nat) (w : World) (h0 : w.cell? ⟨b, 0, none⟩ = some (.pointer (some ⟨b, 0, none⟩))) :
  Calls Tryz.prog 78 #[.pointer (some ⟨b, 0, none⟩)] w fun e w' => e = .returned (.tuple #[]) ∧ w' = w := by
 obtain ⟨j, hj, _⟩ := Option.map_eq_some_iff.1 info_builder
 have hne := fun w => Lib.run_neq_ptr_same (P := Tryz.prog) w ⟨b, 0, none⟩ Tryz.underlying87 hj
 go_enter Tryz.func78, Tryz.ntmps78
 go_wp2
 go_end0
 exact ⟨rfl, rfl⟩
set_option maxHeartbeats 1000000 in
theorem copyCheck_fresh (b : Nat) (w : World) (h0 : w.cell? ⟨b, 0, none⟩ = some (.pointer none)) (hsh : w.shape? b = some (89, 2)) (hfz : w.frozen? ⟨b, 0, none⟩ = false) :
  Calls Tryz.prog 78 #[.pointer (some ⟨b, 0, none⟩)] w fun e w' => e = .returned (.tuple #[]) ∧ w' = w.setCell ⟨b, 0, none⟩ (.pointer (some ⟨b, 0, none⟩)) := by
 obtain ⟨j, hj, hjs⟩ := Option.map_eq_some_iff.1 info_builder
 have hlies : liesAt Tryz.prog Tryz.prog.depth 89 (2 / Tryz.prog.cellsOf 89) 0 89 1 = true := by kernel_rfl
 go_enter Tryz.func78, Tryz.ntmps78
 go_wp2
 rw [Lib.run_to_unsafe w ⟨b, 0, none⟩ Tryz.underlying87 Tryz.underlying152 hj (by rw [hjs]; decide) hsh (by show 0 < 2; decide)]
 simp only [Result.andThen]
 rw [Oper.upon_value]
 go_wp2
 rw [run_callFunc_extern Tryz.func104 (by kernel_rfl) (by kernel_rfl) (by kernel_rfl) (e := Extern.AbiNoEscape.same) (by kernel_rfl)]
 rw [Lib.run_noEscape]
 simp only [Result.andThen]
 rw [Oper.upon_value]
 go_wp2
 rw [Lib.run_from_unsafe w ⟨b, 0, none⟩ Tryz.underlying152 Tryz.underlying87 hj hsh hlies]
 simp only [Result.andThen]
 rw [Oper.upon_value]
 go_wp2
 go_end0
 exact ⟨rfl, rfl⟩
theorem strCellsB (s : ByteArray) : Lib.strCells s = bcells s.data.toList := rfl
theorem info_u8b : (Tryz.prog.info? 5).map (fun i => (i.zero, i.size, i.bytes)) = some (some (.int .u8 0), 1, 1) := by kernel_rfl
theorem run_str_at {P : Program} (w : World) (base : Nat) (t u ty e : TypeId) (i : TypeInfo) (ht : P.underlying t = some (.slice e)) (hu : P.underlying u = some .string) (hi : P.info? e = some i) (hz : i.zero = some (.int .u8 0))
  (hsize : i.size = 1) (hby : i.bytes = 1) (v : Value) (n : Nat) (xs : List Value) (hown : w.ownsRow base e 1 v n xs) (s : ByteArray) (h63 : n + s.size ≤ maxLen) (hbytes : n + s.size ≤ 140737488355328) (hbase : base ≤ w.heap.size) :
  ∃ v' w', (Builtin.append_ #[t, u] ty #[v, .string s]).run P w = .ok v' w' ∧ w'.ownsRow base e 1 v' (n + s.size) (xs ++ Lib.strCells s) ∧ w.grownBy w' v.ownBlock ∧ ∀ k, v'.ownBlock = some k → v.ownBlock = some k ∨ w.heap.size ≤ k := by
 obtain ⟨v', w', hr, ho, hg, hn⟩ := Lib.run_append_own_string (P := P) w base t u ty e i ht hu hi hz hsize hby v n xs hown s h63 hbytes hbase
 refine ⟨v', w', hr, ho, hg, ?_⟩
 rcases id hown.2 with ⟨rfl, rfl⟩ | ⟨g, cap, cur, rfl, hbg, hgk, hnc, hcm, hcs, _⟩
 ·have h0 : w.ownsRow w.heap.size e 1 (.slice none 0 0) 0 xs := ⟨hown.1, .inl ⟨rfl, rfl⟩⟩
  obtain ⟨v2, w2, hr2, ho2, _, _⟩ := Lib.run_append_own_string (P := P) w w.heap.size t u ty e i ht hu hi hz hsize hby (.slice none 0 0) 0 xs h0 s h63 hbytes (Nat.le_refl _)
  rw [hr] at hr2
  injection hr2 with e1 e2
  subst e1 e2
  intro k hk
  exact .inr (ho2.lt k hk).1
 ·by_cases hroom : n + s.size ≤ cap
  ·have hcs' : cur.size = cap := by simpa using hcs
   have hr2 := Lib.run_append_room_string (P := P) w t u ty e i ht hu hi hsize g n cap cur hgk s hroom (by omega)
   rw [hr] at hr2
   injection hr2 with e1 e2
   subst e1
   intro k hk
   exact .inl hk
  ·have hxl : xs.length = n := by simpa using hown.1
   have hr2 := Lib.run_append_grow_string (P := P) w t u ty e i (.int .u8 0) ht hu hi hz ⟨g, 0, none⟩ n cap xs (by rw [hsize]; simpa using hxl) (hown.cells (g := g) rfl) s (by omega) (by unfold maxLen at h63; omega) (by rw [hby]; exact growslice_fits (by omega) (by omega))
   rw [hr] at hr2
   injection hr2 with e1 e2
   subst e1
   intro k hk
   have e3 : w.heap.size = k := by simpa [Value.ownBlock] using hk
   right; omega
theorem wpList_str_at {P : Program} (w : World) {ops : Array Oper} {rest : List Oper} {o : Oper} {a : Act} {Q : Exit → Act → World → Prop} (hgd : o.guard = none) (sl x : Operand) (t u : TypeId)
  (ho : o.op = .call { callee := .builtin .append, args := #[sl, x], argTypes := #[t, u] })
  (base : Nat) (e : TypeId) (i : TypeInfo) (ht : P.underlying t = some (.slice e)) (hu : P.underlying u = some .string) (hi : P.info? e = some i) (hz : i.zero = some (.int .u8 0)) (hsize : i.size = 1) (hby : i.bytes = 1)
  (v : Value) (n : Nat) (xs : List Value) (hs : a.eval sl = v) (hown : w.ownsRow base e 1 v n xs) (s : ByteArray) (hx : a.eval x = .string s)
  (h63 : n + s.size ≤ maxLen) (hbytes : n + s.size ≤ 140737488355328) (hbase : base ≤ w.heap.size)
  (h : ∀ v' w', w'.ownsRow base e 1 v' (n + s.size) (xs ++ Lib.strCells s) → w.grownBy w' v.ownBlock → (∀ k, v'.ownBlock = some k → v.ownBlock = some k ∨ w.heap.size ≤ k) → wpList P ops Q rest (a.put o.dst v') w') : wpList P ops Q (o :: rest) a w := by
 obtain ⟨v', w', hr, h2, h3, h4⟩ := run_str_at (P := P) w base t u o.type e i ht hu hi hz hsize hby v n xs hown s h63 hbytes hbase
 refine wpList_plain hgd fun K hK => ?_
 unfold Oper.wp execOp
 simp only [ho, resolve, invoke, builtin, Sem.run_bind, Sem.run_pure, Result.andThen_ok, List.map_toArray, List.map_cons, List.map_nil, hs, hx, hr]
 exact hK _ _ (h v' w' h2 h3 h4)
def BldF (b : Nat) (p : Value) (l : List UInt8) (fp : Nat → Prop) (w : World) : Prop :=
 ∃ v, w.heap[b]? = some (.cells #[p, v] 89 (0, 0)) ∧ w.ownsRow (b + 1) 5 1 v l.length (bcells l) ∧ fp b ∧ ∀ k, v.ownBlock = some k → fp k
theorem BldF.at {b : Nat} {p : Value} {l : List UInt8} {fp : Nat → Prop} {w : World} (h : BldF b p l fp w) : BldAt b p l w := let ⟨v, h1, h2, _⟩ := h; ⟨v, h1, h2⟩
theorem BldF.keep {b : Nat} {p : Value} {l : List UInt8} {fp : Nat → Prop} {w w' : World} (h : BldF b p l fp w) (hk : Keep fp w w') : BldF b p l fp w' := by
 obtain ⟨v, h1, h2, h3, h4⟩ := h
 exact ⟨v, (hk.block b h3 (lt_of_block h1)).trans h1, hk.ownsRow h2 h4, h3, h4⟩
theorem BldF.more {b : Nat} {p : Value} {l : List UInt8} {fp fp' : Nat → Prop} {w : World} (h : BldF b p l fp w) (hf : ∀ k, fp k → fp' k) : BldF b p l fp' w := by
 obtain ⟨v, h1, h2, h3, h4⟩ := h
 exact ⟨v, h1, h2, hf _ h3, fun k e => hf k (h4 k e)⟩
theorem BldF.new (w : World) (fp : Nat → Prop) (hf : fp w.heap.size) : BldF w.heap.size (.pointer none) [] fp (w.alloc (.cells #[.pointer none, .slice none 0 0] 89)) :=
 ⟨.slice none 0 0, World.alloc_heap_new _ _, World.ownsRow_nil _ _ _ _, hf, fun _ e => by cases e⟩
theorem copyCheckF (b : Nat) (p : Value) (l : List UInt8) (fp : Nat → Prop) (w : World) (h : BldF b p l fp w) (hp : Hd b p) :
  Calls Tryz.prog 78 #[.pointer (some ⟨b, 0, none⟩)] w fun e w' => e = .returned (.tuple #[]) ∧ BldF b (.pointer (some ⟨b, 0, none⟩)) l fp w' ∧ Below b w w' ∧ Keep (fun k => ¬ fp k) w w' := by
 obtain ⟨v, hb, h2, h3, h4⟩ := id h
 rcases hp with rfl | rfl
 ·refine (copyCheck_fresh b w (by rw [Lib.cell_of_heap hb]; rfl) (by simp [World.shape?, hb]) (Lib.frozen_of_heap hb 0)).mono ?_
  rintro e w' ⟨rfl, rfl⟩
  refine ⟨rfl, ⟨v, by simp [World.setCell, Array.getElem?_modify, hb], own_otherB h2, h3, h4⟩, (Below.refl b w).setCell (p := ⟨b, 0, none⟩) (Nat.le_refl _) _, (Keep.refl _ w).setCell _ _ _ (fun h _ => h h3)⟩
 ·refine (copyCheck_used b w (by rw [Lib.cell_of_heap hb]; rfl)).mono ?_
  rintro e w' ⟨rfl, rfl⟩
  exact ⟨rfl, h, Below.refl _ _, Keep.refl _ _⟩
set_option maxHeartbeats 800000 in
theorem writeStringF (b : Nat) (p : Value) (l : List UInt8) (s : ByteArray) (fp : Nat → Prop) (w : World) (h : BldF b p l fp w) (hlt : ∀ k, fp k → k < w.heap.size) (hp : Hd b p) (hlen : l.length + s.size ≤ 140737488355328) :
  Calls Tryz.prog 50 #[.pointer (some ⟨b, 0, none⟩), .string s] w fun e w' => e = .returned (.tuple #[.int .i64 s.size, .nilIface]) ∧ (∃ fp', BldF b (.pointer (some ⟨b, 0, none⟩)) (l ++ s.data.toList) fp' w' ∧ Step fp fp' w w' ∧ ∀ k, fp k → fp' k) ∧ Below b w w' := by
 obtain ⟨i0, hi, hz0, hz1, hz2⟩ := info_parts info_u8b
 have hfb : fp b := let ⟨_, _, _, h3, _⟩ := h; h3
 have P1 := Lib.hid (copyCheckF b p l fp w h hp)
 go_enter Tryz.func50, Tryz.ntmps50
 go_wp2_with (go_at_call 78; refine P1.out.mono ?_)
 rintro e w1 ⟨rfl, h1, hb1, hk1⟩
 obtain ⟨v, hbk, hown, _, hfv⟩ := h1
 have c0 : w1.cell? ⟨b, 0, none⟩ = some (.pointer (some ⟨b, 0, none⟩)) := by rw [Lib.cell_of_heap hbk]; rfl
 have c1 : w1.cell? ⟨b, 1, none⟩ = some v := by rw [Lib.cell_of_heap hbk]; rfl
 have hb' := lt_of_block hbk
 go_wp2_with (at_builtin; refine wpList_str_at _ rfl _ _ 52 9 rfl (b + 1) 5 i0 Tryz.underlying52 Tryz.underlying9 hi hz0 hz1 hz2 _ _ _ rfl hown s rfl ?c3 ?c4 ?c5 ?_)
 case c3 => unfold maxLen; omega
 case c4 => omega
 case c5 => omega
 intro v' w2 hown' hgrow hlies
 have hb2 : w2.heap[b]? = some (.cells #[.pointer (some ⟨b, 0, none⟩), v] 89 (0, 0)) := by
  rw [hgrow.block b hb' (fun e => BldAt.ne hown e.symm)]
  exact hbk
 have d0 : w2.cell? ⟨b, 0, none⟩ = some (.pointer (some ⟨b, 0, none⟩)) := by rw [Lib.cell_of_heap hb2]; rfl
 have d1 : w2.cell? ⟨b, 1, none⟩ = some v := by rw [Lib.cell_of_heap hb2]; rfl
 have f1 : w2.frozen? ⟨b, 1, none⟩ = false := Lib.frozen_of_heap hb2 1
 obtain ⟨ao, n', cap, rfl⟩ : ∃ ao n' cap, v' = .slice ao n' cap := by
  rcases hown'.2 with ⟨hv, _⟩ | ⟨g, cap, cur, hv, _⟩
  ·exact ⟨_, _, _, hv⟩
  ·exact ⟨_, _, _, hv⟩
 have hkg : Keep (fun k => ¬ fp k) w1 w2 := Keep.of_grownBy hgrow (fun k e _ hn => hn (hfv k e))
 go_wp2
 go_ret2
 have hk3 : Keep (fun k => ¬ fp k) w2 (w2.setCell ⟨b, 1, none⟩ (.slice ao n' cap)) := (Keep.refl _ w2).setCell _ _ _ (fun h _ => h hfb)
 have hsz := hk1.size
 refine ⟨rfl, ⟨fun k => fp k ∨ (Value.slice ao n' cap).ownBlock = some k, ⟨.slice ao n' cap, ?_, ?_, .inl hfb, fun k e => .inr e⟩, ⟨(hk1.trans hkg (fun _ h _ => h)).trans hk3 (fun _ h _ => h), ?_, ?_⟩, fun k h => .inl h⟩, ?_⟩
 ·simp [World.setCell, Array.getElem?_modify, hb2]
 ·have := own_otherB (b := b) (i := 1) (q := .slice ao n' cap) hown'
  rw [strCellsB, ← bcells_append] at this
  simpa using this
 ·rintro k (h | h)
  ·exact .inl h
  ·rcases hlies k h with h1 | h1
   ·exact .inl (hfv k h1)
   ·right; omega
 ·rintro k (h | h)
  ·have := hlt k h; have := hkg.size; have := hk3.size; omega
  ·have := (hown'.lt k h).2
   have := hk3.size
   omega
 ·exact (hb1.grown hgrow (by have := hb1.size; omega) (fun k hk => by have := (hown.lt k hk).1; omega)).setCell (p := ⟨b, 1, none⟩) (Nat.le_refl _) _
theorem keep_freeze {f : Nat → Prop} {A w : World} (h : Keep f A w) {p : Addr} (hp : ¬ f p.block) (n : Nat) : Keep f A (w.freeze p n) := by
 have hk : Keep f w (w.freeze p n) := by
  unfold World.freeze
  split
  ·exact Keep.refl f w
  ·exact ⟨rfl, rfl, rfl, by simp, fun k hk _ => by
    simp only [Array.getElem?_modify]
    rw [if_neg (fun e : p.block = k => hp (by rw [e]; exact hk))]⟩
 exact h.trans hk (fun _ h _ => h)
theorem cells_u8 : Tryz.prog.cellsOf 5 = 1 := by kernel_rfl
set_option maxHeartbeats 800000 in
theorem textS (b : Nat) (p : Value) (l : List UInt8) (w : World) (g cap : Nat) (cur : Array Value) (h0 : l ≠ [])
  (hb : w.heap[b]? = some (.cells #[p, .slice (some ⟨g, 0, none⟩) l.length cap] 89 (0, 0))) (hown : w.ownsRow (b + 1) 5 1 (.slice (some ⟨g, 0, none⟩) l.length cap) l.length (bcells l))
  (hbg : b + 1 ≤ g) (hg : w.heap[g]? = some (.cells cur 5 (0, 0))) (hnc : l.length ≤ cap) (hcm : cap ≤ maxLen) (hcs : cur.size = cap * 1) :
  Calls Tryz.prog 52 #[.pointer (some ⟨b, 0, none⟩)] w fun e w' => e = .returned (.string ⟨l.toArray⟩) ∧ Below b w w' ∧ ∀ f : Nat → Prop, ¬ f g → Keep f w w' := by
 have hl0 : l.length ≠ 0 := by simpa using h0
 have c1 : w.drew.cell? ⟨b, 1, none⟩ = some (.slice (some ⟨g, 0, none⟩) l.length cap) := by
  have : w.drew.heap[b]? = some (.cells #[p, .slice (some ⟨g, 0, none⟩) l.length cap] 89 (0, 0)) := hb
  rw [Lib.cell_of_heap this]; rfl
 have hSD : (Builtin.unsafeSliceData_ #[52] 137 #[.slice (some ⟨g, 0, none⟩) l.length cap]).run Tryz.prog w.drew = .ok (.pointer (some ⟨g, 0, none⟩)) w.drew :=
  Lib.run_unsafeSliceData_row _ _ _ _ _ _ (by omega)
 have hUS : (Builtin.unsafeString_ #[137, 3] 9 #[.pointer (some ⟨g, 0, none⟩), .int .i64 l.length]).run Tryz.prog w.drew = .ok (.string ⟨l.toArray⟩) (w.drew.freeze ⟨g, 0, none⟩ l.length) := by
  refine Lib.run_unsafeString_row w.drew 137 3 9 5 Tryz.underlying137 cells_u8 g cur.size (by have hg' : w.drew.heap[g]? = some (.cells cur 5 (0, 0)) := hg; simp [World.shape?, hg']) l h0 (by omega) (by unfold maxLen at hcm; omega) ?_
  intro j x hx
  have := hown.cells (g := g) rfl j (.int .u8 x.toNat) (by simp [bcells, hx])
  exact this
 clear hown hb hnc hcm hcs
 go_enter Tryz.func52, Tryz.ntmps52
 go_wp2
 go_region
 all_goals (go_wp2; go_ret; exact ⟨rfl, Lib.below_freeze (Below.drew (Below.refl b w)) (p := ⟨g, 0, none⟩) (by show b ≤ g; omega) _, fun f hf => keep_freeze ((Keep.refl f w).drew) (p := ⟨g, 0, none⟩) hf _⟩)
set_option maxHeartbeats 800000 in
theorem textNil (b : Nat) (p : Value) (w : World)
  (hb : w.heap[b]? = some (.cells #[p, .slice none 0 0] 89 (0, 0))) :
  Calls Tryz.prog 52 #[.pointer (some ⟨b, 0, none⟩)] w fun e w' => e = .returned (.string ⟨#[]⟩) ∧ Below b w w' ∧ ∀ f : Nat → Prop, Keep f w w' := by
 have hUS : ∀ (W : World) (q : Option Addr), (Builtin.unsafeString_ #[137, 3] 9 #[.pointer q, .int .i64 0]).run Tryz.prog W = .ok (.string .empty) W := fun W q => Lib.run_unsafeString_none W _ _ _ q
 have c1 : w.drew.cell? ⟨b, 1, none⟩ = some (.slice none 0 0) := by
  have : w.drew.heap[b]? = some (.cells #[p, .slice none 0 0] 89 (0, 0)) := hb
  rw [Lib.cell_of_heap this]; rfl
 have hSD : (Builtin.unsafeSliceData_ #[52] 137 #[.slice none 0 0]).run Tryz.prog w.drew = .ok (.pointer none) w.drew := rfl
 clear hb
 go_enter Tryz.func52, Tryz.ntmps52
 go_wp2
 go_region
 all_goals (go_wp2; go_ret; exact ⟨rfl, Below.drew (Below.refl b w), fun f => (Keep.refl f w).drew⟩)
set_option maxHeartbeats 800000 in
theorem textNoroom (b g : Nat) (p : Value) (cur : Array Value) (w : World)
  (hb : w.heap[b]? = some (.cells #[p, .slice (some ⟨g, 0, none⟩) 0 0] 89 (0, 0))) (hg : w.heap[g]? = some (.cells cur 5 (0, 0))) :
  Calls Tryz.prog 52 #[.pointer (some ⟨b, 0, none⟩)] w fun e w' => e = .returned (.string ⟨#[]⟩) ∧ Below b w w' ∧ ∀ f : Nat → Prop, Keep f w w' := by
 have hUS : ∀ (W : World) (q : Option Addr), (Builtin.unsafeString_ #[137, 3] 9 #[.pointer q, .int .i64 0]).run Tryz.prog W = .ok (.string .empty) W := fun W q => Lib.run_unsafeString_none W _ _ _ q
 have hlt : b < w.heap.size := lt_of_block hb
 have c1 : w.drew.cell? ⟨b, 1, none⟩ = some (.slice (some ⟨g, 0, none⟩) 0 0) := by
  have : w.drew.heap[b]? = some (.cells #[p, .slice (some ⟨g, 0, none⟩) 0 0] 89 (0, 0)) := hb
  rw [Lib.cell_of_heap this]; rfl
 have hSD : (Builtin.unsafeSliceData_ #[52] 137 #[.slice (some ⟨g, 0, none⟩) 0 0]).run Tryz.prog w.drew = .ok (.pointer (some ⟨w.drew.heap.size, 0, none⟩)) (w.drew.alloc (.view ⟨g, 0, none⟩ 5)) :=
  Lib.run_unsafeSliceData_zero w.drew _ _ 5 Tryz.underlying137 ⟨g, 0, none⟩ 0 (5, cur.size) (by have hg' : w.drew.heap[g]? = some (.cells cur 5 (0, 0)) := hg; simp [World.shape?, hg'])
 have c2 : (w.drew.alloc (.view ⟨g, 0, none⟩ 5)).cell? ⟨b, 1, none⟩ = some (.slice (some ⟨g, 0, none⟩) 0 0) := by
  have : (w.drew.alloc (.view ⟨g, 0, none⟩ 5)).heap[b]? = _ := (Lib.alloc_old w.drew _ b hlt).trans hb
  rw [Lib.cell_of_heap this]; rfl
 have c3 : (w.alloc (.view ⟨g, 0, none⟩ 5)).drew.cell? ⟨b, 1, none⟩ = some (.slice (some ⟨g, 0, none⟩) 0 0) := c2
 have c0 : w.cell? ⟨b, 1, none⟩ = some (.slice (some ⟨g, 0, none⟩) 0 0) := c1
 clear hb hg
 go_enter Tryz.func52, Tryz.ntmps52
 go_wp2
 go_region
 all_goals (go_wp2; go_ret; exact ⟨rfl, (Below.drew (Below.refl b w)).alloc (by show b ≤ w.heap.size; omega) _, fun f => (Keep.refl f w).drew.alloc _⟩)
set_option maxHeartbeats 800000 in
theorem textRoom (b g cap : Nat) (p : Value) (w : World) (hc0 : cap ≠ 0)
  (hb : w.heap[b]? = some (.cells #[p, .slice (some ⟨g, 0, none⟩) 0 cap] 89 (0, 0))) :
  Calls Tryz.prog 52 #[.pointer (some ⟨b, 0, none⟩)] w fun e w' => e = .returned (.string ⟨#[]⟩) ∧ Below b w w' ∧ ∀ f : Nat → Prop, Keep f w w' := by
 have hUS : ∀ (W : World) (q : Option Addr), (Builtin.unsafeString_ #[137, 3] 9 #[.pointer q, .int .i64 0]).run Tryz.prog W = .ok (.string .empty) W := fun W q => Lib.run_unsafeString_none W _ _ _ q
 have c1 : w.drew.cell? ⟨b, 1, none⟩ = some (.slice (some ⟨g, 0, none⟩) 0 cap) := by
  have : w.drew.heap[b]? = some (.cells #[p, .slice (some ⟨g, 0, none⟩) 0 cap] 89 (0, 0)) := hb
  rw [Lib.cell_of_heap this]; rfl
 have hSD : (Builtin.unsafeSliceData_ #[52] 137 #[.slice (some ⟨g, 0, none⟩) 0 cap]).run Tryz.prog w.drew = .ok (.pointer (some ⟨g, 0, none⟩)) w.drew :=
  Lib.run_unsafeSliceData_row _ _ _ _ _ _ hc0
 clear hb hc0
 go_enter Tryz.func52, Tryz.ntmps52
 go_wp2
 go_region
 all_goals (go_wp2; go_ret; exact ⟨rfl, Below.drew (Below.refl b w), fun f => (Keep.refl f w).drew⟩)
theorem textF (b : Nat) (p : Value) (l : List UInt8) (fp : Nat → Prop) (w : World) (h : BldF b p l fp w) :
  Calls Tryz.prog 52 #[.pointer (some ⟨b, 0, none⟩)] w fun e w' => e = .returned (.string ⟨l.toArray⟩) ∧ Below b w w' ∧ Keep (fun k => ¬ fp k) w w' := by
 obtain ⟨v, hb, hown, _, hfv⟩ := h
 rcases id hown.2 with ⟨rfl, hz⟩ | ⟨g, cap, cur, rfl, hbg, hg, hnc, hcm, hcs, _⟩
 ·have : l = [] := List.eq_nil_of_length_eq_zero hz
  subst this
  exact (textNil b p w hb).mono (fun _ _ ⟨h1, h2, h3⟩ => ⟨h1, h2, h3 _⟩)
 ·cases l with
  | nil =>
   by_cases hc0 : cap = 0
   ·subst hc0
    exact (textNoroom b g p cur w hb hg).mono (fun _ _ ⟨h1, h2, h3⟩ => ⟨h1, h2, h3 _⟩)
   ·exact (textRoom b g cap p w hc0 hb).mono (fun _ _ ⟨h1, h2, h3⟩ => ⟨h1, h2, h3 _⟩)
  | cons a r => exact (textS b p (a :: r) w g cap cur (by simp) hb hown hbg hg hnc hcm hcs).mono (fun _ _ ⟨h1, h2, h3⟩ => ⟨h1, h2, h3 _ (fun h => h (hfv g rfl))⟩)
end
end Go.Proofs.YtogblcdefbnbeaaGreat
