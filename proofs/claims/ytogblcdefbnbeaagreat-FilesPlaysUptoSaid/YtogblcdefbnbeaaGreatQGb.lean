
/- The last step of a law's row: a call that returns true and has made memory alone. Condition: none. -/
import Derived.Test.YtogblcdefbnbeaaGreatQGu
import Derived.ProofKit
import Derived.OpenShut
import Derived.ShutString
import Derived.SizedLaws
import Derived.JoinedCond
import Derived.Deep.CondSized
import Derived.Test.YtogblcdefbnbeaaGreatRows
import Derived.Lib.SmallJoins
import Derived.Deep.Fields
import Derived.Test.YtogblcdefbnbeaaGreatQGh
import Derived.Deep.Slices
import Derived.RangeFuncSeq
set_option maxRecDepth 100000
namespace Go.Proofs.YtogblcdefbnbeaaGreat
section
open Go.ChangeShapes Go.WideShapes Go.ChangeAt Go.RowKit
theorem own_knob : ownKnob Tryz.prog.godebug = none := by kernel_rfl
theorem laid_out : laidOutB Tryz.prog = true := by kernel_rfl
theorem trodAll_below {H : Type} {enc : TypeId × Value → H} {P : Program} (hl : laidOutB P = true) {W W' : World} (hb : Below W.heap.size W W') : ∀ {ts : List TypeId} {vs : List Value} {ds : List (DataW H)} {ps : List MemPlace},
  (ts.all fun t => P.readableRec t && decide (t < P.types.size)) = true → DataW.TrodAll enc P W 0 (fun _ => true) true ts vs ds ps → (∀ x ∈ ps, x.block < W.heap.size) →
  DataW.TrodAll enc P W' 0 (fun b => decide (b < W.heap.size)) true ts vs ds ps
 | [], vs, ds, ps, _, h, _ => by
  obtain ⟨rfl, rfl, rfl⟩ := trodAll_nil h
  exact trodAll_mk0
 | t :: ts, vs, ds, ps, hr, h, hlt => by
  obtain ⟨v, vs', d, ds', p, q, rfl, rfl, rfl, h0, h1⟩ := trodAll_cons h
  simp only [List.all_cons, Bool.and_eq_true, decide_eq_true_eq] at hr
  exact trodAll_cons_mk (Below.trod hl hr.1.1 hr.1.2 h0 hb (fun x hx => hlt x (List.mem_append_left _ hx)))
   (trodAll_below hl hb hr.2 h1 (fun x hx => hlt x (List.mem_append_right _ hx)))
theorem law_post {H : Type} {enc : TypeId × Value → H} {f : Func} {s : ChangeSpec} {W W' : World} {args : Array Value} {ds gs : List (DataW H)} {before : List MemPlace}
  (hW : DataW.Whole enc Tryz.prog f.params.toList s.vars false W args.toList ds gs before) (hb : Below W.heap.size W W')
  (hr : f.resultTypes.toList = [4]) (hn : f.resultTypes.size = 1) (hv : s.vars = []) (er : (s.fn H (ds ++ gs)).results = [.lit (.bool true)]) (ea : (s.fn H (ds ++ gs)).args = ds) (ev : (s.fn H (ds ++ gs)).vars = [])
  (hall : (f.params.toList.all fun t => Tryz.prog.readableRec t && decide (t < Tryz.prog.types.size)) = true) :
  s.post enc Tryz.prog f false true false false W args (.bool true) W' := by
 have hW' := hW
 obtain ⟨p, q, hA, hV, hpq, hfz, hnd⟩ := hW
 have hlt : ∀ x ∈ p, x.block < W.heap.size := fun x hx => hW'.lt x (by rw [hpq]; exact List.mem_append_left _ hx)
 refine ⟨ds, gs, before, [], p, [], hW', ?_, ?_, ?_, hb.frame _, fun h => by cases h⟩
 ·rw [hr, er, hn]
  exact trodAll_mk1 (shut_bool Tryz.underlying4 _)
 ·rw [ea]
  exact trodAll_below laid_out hb hall hA hlt
 ·rw [hv, ev]
  rfl
end
namespace bulks
theorem one_le {H : Type} (d : DataW H) : 1 ≤ Rows.uptoBulk d := by
 cases d with
 | lit l => cases l <;> simp [Rows.uptoBulk]
 | nil => simp [Rows.uptoBulk]
 | ptr d => simp [Rows.uptoBulk]
 | slice elems spare => simp [Rows.uptoBulk]
 | agg parts => simp [Rows.uptoBulk]
 | iface t d => simp [Rows.uptoBulk]
 | map entries => simp [Rows.uptoBulk]
 | held h => simp [Rows.uptoBulk]
theorem part_le {H : Type} {d : DataW H} {l : List (DataW H)} (h : d ∈ l) : Rows.uptoBulk d ≤ Rows.uptoBulkAll l := by
 induction l with
 | nil => cases h
 | cons x r ih =>
  simp only [Rows.uptoBulkAll]
  cases List.mem_cons.1 h with
  | inl e => subst e; omega
  | inr e => have := ih e; omega
theorem append {H : Type} (l r : List (DataW H)) : Rows.uptoBulkAll (l ++ r) = Rows.uptoBulkAll l + Rows.uptoBulkAll r := by
 induction l with
 | nil => simp [Rows.uptoBulkAll]
 | cons x l ih => simp only [List.cons_append, Rows.uptoBulkAll, ih]; omega
theorem length_le {H : Type} (l : List (DataW H)) : l.length ≤ Rows.uptoBulkAll l := by
 induction l with
 | nil => simp [Rows.uptoBulkAll]
 | cons x r ih => have := one_le x; simp only [Rows.uptoBulkAll, List.length_cons]; omega
theorem slice_le {H : Type} (elems spare : List (DataW H)) : elems.length + spare.length + 1 ≤ Rows.uptoBulk (.slice elems spare) := by
 have h1 := length_le elems
 have h2 := length_le spare
 simp only [Rows.uptoBulk]
 omega
theorem slice_elems {H : Type} (elems spare : List (DataW H)) : Rows.uptoBulkAll elems + 1 ≤ Rows.uptoBulk (.slice elems spare) := by
 simp only [Rows.uptoBulk]
 omega
theorem bound {H : Type} {l : List (DataW H)} (hk : Rows.uptoSmall H l = true) : Rows.uptoBulkAll l ≤ 1048576 := by
 simpa [Rows.uptoSmall] using hk
end bulks
section
open Go.ChangeShapes Go.WideShapes Go.ChangeAt Go.RowKit Go.Joins Go.Deep
end
section
open Go.ChangeShapes Go.WideShapes Go.ChangeAt Go.RowKit Go.Joins Go.Deep
theorem cells_bool : Tryz.prog.cellsOf 4 = 1 := by kernel_rfl
instance : Inhabited AcT := ⟨⟨0, 0, 0, []⟩⟩
theorem open_bools_cells {H : Type} {enc : TypeId × Value → H} {W : World} {n : Nat} {u : Value} {y : DataW H × List MemPlace} (h : DataW.trod enc Tryz.prog W 0 (fun _ => true) true n 34 [u] = some y) :
  ∃ l : List Bool, BoolsAt W u l ∧ ((y.1 = .nil ∧ l = []) ∨ ∃ sp, y.1 = .slice (l.map fun b => .lit (.bool b)) sp) := by
 rcases open_slice Tryz.underlying34 h with ⟨hcs, hx⟩ | ⟨a, len, cap, m, n', D, Pl, hcs, _, hl, hm, hmm, hx, hg⟩
 ·simp only [List.cons.injEq, and_true] at hcs
  subst hcs hx
  exact ⟨[], ⟨none, 0, rfl, by simp, by omega, fun h => by simp at h⟩, .inl ⟨rfl, rfl⟩⟩
 ·simp only [List.cons.injEq, and_true] at hcs
  simp only [if_true] at hmm
  subst hcs hx hmm
  obtain ⟨f, hf⟩ := choose_lt (n := m) (p := fun i (x : Bool) => D i = .lit (.bool x) ∧ W.cell? (a.add (i * 1)) = some (.bool x)) (fun i hi => by
   obtain ⟨cs', g1, g2⟩ := hg i hi
   rw [cells_bool] at g1
   obtain ⟨_, hlen, hcell⟩ := World.cells?_some g1
   match cs', hlen with
   | [c0], _ =>
    obtain ⟨d, e2, e3⟩ := DataW.trod_bool Tryz.underlying4 g2
    simp at e2 e3
    subst e2
    have g0 := hcell 0 (by omega)
    exact ⟨d, e3.1, by simpa [Addr.add] using g0⟩)
  have hlen : ((List.range len).map f).length = len := by simp
  refine ⟨(List.range len).map f, ⟨some a, m, by rw [hlen], by omega, by unfold maxLen at hm; exact hm, fun h0 => ?_⟩, .inr ⟨(List.range (m - len)).map fun j => D (len + j), ?_⟩⟩
  ·rw [hlen] at h0
   obtain ⟨b, off, spot⟩ := a
   have hspot : spot = none := by simpa [Addr.add] using World.cell?_spot ((hf 0 (by omega)).2)
   subst hspot
   have hc := fun i (hi : i < len) => (hf i (by omega)).2
   simp only [add_plain, Nat.mul_one] at hc
   refine ⟨b, off, rfl, ?_, fun i hi => ?_⟩
   ·obtain ⟨o, ho, _⟩ := not_walk_of_cell (hc 0 h0)
    exact (Array.getElem?_eq_some_iff.1 ho).1
   ·rw [hlen] at hi
    simp only [List.getElem_map, List.getElem_range]
    exact hc i hi
  ·show DataW.slice _ _ = DataW.slice _ _
   rw [List.map_map, List.map_congr_left (f := D) (g := (fun b => .lit (.bool b)) ∘ f) (fun i hi => (hf i (by have := List.mem_range.1 hi; omega)).1)]
def AcT.fine (x : AcT) : Prop := (-9223372036854775808 ≤ x.kind ∧ x.kind ≤ 9223372036854775807) ∧ (-9223372036854775808 ≤ x.at' ∧ x.at' ≤ 9223372036854775807) ∧ (-9223372036854775808 ≤ x.num ∧ x.num ≤ 9223372036854775807) ∧ x.keep.length ≤ 9223372036854775807
def AcT.isD {H : Type} (x : AcT) (d : DataW H) : Prop := ∃ d3, d = .agg [.lit (.int .i64 x.kind), .lit (.int .i64 x.at'), .lit (.int .i64 x.num), d3] ∧ ((d3 = .nil ∧ x.keep = []) ∨ ∃ sp, d3 = .slice (x.keep.map fun b => .lit (.bool b)) sp)
end
section
open Go.ChangeShapes Go.WideShapes Go.ChangeAt Go.RowKit Go.Joins Go.Deep
structure AcF where
 kind : Int
 at' : Int
 num : Int
 name : ByteArray
 dest : ByteArray
 data : ByteArray
 keep : List Bool
instance : Inhabited AcF := ⟨⟨0, 0, 0, .empty, .empty, .empty, []⟩⟩
def AcFIn (W : World) (b o : Nat) (x : AcF) : Prop :=
 W.cell? ⟨b, o, none⟩ = some (.int .i64 x.kind) ∧ W.cell? ⟨b, o + 1, none⟩ = some (.int .i64 x.at') ∧ W.cell? ⟨b, o + 2, none⟩ = some (.int .i64 x.num) ∧ W.cell? ⟨b, o + 3, none⟩ = some (.string x.name) ∧ W.cell? ⟨b, o + 4, none⟩ = some (.string x.dest) ∧ W.cell? ⟨b, o + 5, none⟩ = some (.string x.data) ∧
  ∃ u, W.cell? ⟨b, o + 6, none⟩ = some u ∧ BoolsAt W u x.keep
theorem AcFIn.below {W W' : World} {b o : Nat} {x : AcF} (h : AcFIn W b o x) (hlt : b < W.heap.size) (hb : Below W.heap.size W W') : AcFIn W' b o x := by
 obtain ⟨h0, h1, h2, h3, h4, h5, u, h6, h7⟩ := h
 have e := hb.block b hlt
 exact ⟨(World.cell?_of_block (a := ⟨b, o, none⟩) e).trans h0, (World.cell?_of_block (a := ⟨b, o + 1, none⟩) e).trans h1, (World.cell?_of_block (a := ⟨b, o + 2, none⟩) e).trans h2, (World.cell?_of_block (a := ⟨b, o + 3, none⟩) e).trans h3, (World.cell?_of_block (a := ⟨b, o + 4, none⟩) e).trans h4, (World.cell?_of_block (a := ⟨b, o + 5, none⟩) e).trans h5, u, (World.cell?_of_block (a := ⟨b, o + 6, none⟩) e).trans h6, h7.below hb⟩
def AcFsAt (W : World) (v : Value) (l : List AcF) : Prop :=
 ∃ (ao : Option Addr) (cap : Nat), v = .slice ao l.length cap ∧ l.length ≤ cap ∧ cap ≤ 9223372036854775807 ∧ (0 < l.length → ∃ b off, ao = some ⟨b, off, none⟩ ∧ b < W.heap.size ∧ ∀ i (hi : i < l.length), AcFIn W b (off + i * 7) l[i])
theorem AcFsAt.below {W W' : World} {v : Value} {l : List AcF} (h : AcFsAt W v l) (hb : Below W.heap.size W W') : AcFsAt W' v l := by
 obtain ⟨ao, cap, rfl, h1, h2, h⟩ := h
 refine ⟨ao, cap, rfl, h1, h2, fun h0 => ?_⟩
 obtain ⟨b, off, rfl, hlt, hc⟩ := h h0
 exact ⟨b, off, rfl, Nat.lt_of_lt_of_le hlt hb.size, fun i hi => (hc i hi).below hlt hb⟩
theorem cells_acf : Tryz.prog.cellsOf 36 = 7 := by kernel_rfl
def AcF.fine (x : AcF) : Prop := (-9223372036854775808 ≤ x.kind ∧ x.kind ≤ 9223372036854775807) ∧ (-9223372036854775808 ≤ x.at' ∧ x.at' ≤ 9223372036854775807) ∧ (-9223372036854775808 ≤ x.num ∧ x.num ≤ 9223372036854775807) ∧ x.keep.length ≤ 9223372036854775807
def AcF.isD {H : Type} (x : AcF) (d : DataW H) : Prop := ∃ d6, d = .agg [.lit (.int .i64 x.kind), .lit (.int .i64 x.at'), .lit (.int .i64 x.num), .lit (.string x.name.data.toList), .lit (.string x.dest.data.toList), .lit (.string x.data.data.toList), d6]
section
variable {H : Type} {enc : TypeId × Value → H} {P : Program} {w : World} {base : Nat} {spare : Nat → Bool} {held : Bool}
theorem trod_struct7 {t : TypeId} {f0 f1 f2 f3 f4 f5 f6 : Field} {fuel : Nat} {cs : List Value} {x : DataW H × List MemPlace} (ht : P.underlying t = some (.struct #[f0, f1, f2, f3, f4, f5, f6])) (h : DataW.trod enc P w base spare held fuel t cs = some x) :
  ∃ y0 y1 y2 y3 y4 y5 y6 n, x.1 = .agg [y0.1, y1.1, y2.1, y3.1, y4.1, y5.1, y6.1] ∧ DataW.trod enc P w base spare held n f0.type ((cs.drop f0.offset).take (P.cellsOf f0.type)) = some y0 ∧
   DataW.trod enc P w base spare held n f1.type ((cs.drop f1.offset).take (P.cellsOf f1.type)) = some y1 ∧ DataW.trod enc P w base spare held n f2.type ((cs.drop f2.offset).take (P.cellsOf f2.type)) = some y2 ∧
   DataW.trod enc P w base spare held n f3.type ((cs.drop f3.offset).take (P.cellsOf f3.type)) = some y3 ∧ DataW.trod enc P w base spare held n f4.type ((cs.drop f4.offset).take (P.cellsOf f4.type)) = some y4 ∧
   DataW.trod enc P w base spare held n f5.type ((cs.drop f5.offset).take (P.cellsOf f5.type)) = some y5 ∧ DataW.trod enc P w base spare held n f6.type ((cs.drop f6.offset).take (P.cellsOf f6.type)) = some y6 := by
 obtain ⟨xs, n, _, rfl, hl, hlen, hf⟩ := DataW.trod_struct ht h
 match xs, hlen with
 | [y0, y1, y2, y3, y4, y5, y6], _ => exact ⟨y0, y1, y2, y3, y4, y5, y6, n, by simp, by simpa using hf 0 f0 rfl, by simpa using hf 1 f1 rfl, by simpa using hf 2 f2 rfl, by simpa using hf 3 f3 rfl, by simpa using hf 4 f4 rfl, by simpa using hf 5 f5 rfl, by simpa using hf 6 f6 rfl⟩
end
theorem open_acf_cells {H : Type} {enc : TypeId × Value → H} {w : World} {n : Nat} {y : DataW H × List MemPlace} {cs : List Value} (hlen : cs.length = 7)
  (h2 : DataW.trod enc Tryz.prog w 0 (fun _ => true) true n 36 cs = some y) :
  ∃ (x : AcF) (u : Value), x.isD y.1 ∧ x.fine ∧ cs = [.int .i64 x.kind, .int .i64 x.at', .int .i64 x.num, .string x.name, .string x.dest, .string x.data, u] ∧ BoolsAt w u x.keep := by
 obtain ⟨y0, y1, y2, y3, y4, y5, y6, k, hx, t0, t1, t2, t3, t4, t5, t6⟩ := trod_struct7 Tryz.underlying36 h2
 match cs, hlen with
 | [c0, c1, c2, c3, c4, c5, c6], _ =>
  replace t0 : DataW.trod enc Tryz.prog w 0 (fun _ => true) true k 3 [c0] = some y0 := t0
  replace t1 : DataW.trod enc Tryz.prog w 0 (fun _ => true) true k 3 [c1] = some y1 := t1
  replace t2 : DataW.trod enc Tryz.prog w 0 (fun _ => true) true k 3 [c2] = some y2 := t2
  replace t3 : DataW.trod enc Tryz.prog w 0 (fun _ => true) true k 9 [c3] = some y3 := t3
  replace t4 : DataW.trod enc Tryz.prog w 0 (fun _ => true) true k 9 [c4] = some y4 := t4
  replace t5 : DataW.trod enc Tryz.prog w 0 (fun _ => true) true k 9 [c5] = some y5 := t5
  replace t6 : DataW.trod enc Tryz.prog w 0 (fun _ => true) true k 34 [c6] = some y6 := t6
  obtain ⟨q0, e0, rfl, w0⟩ := DataW.trod_int Tryz.underlying3 t0
  obtain ⟨q1, e1, rfl, w1⟩ := DataW.trod_int Tryz.underlying3 t1
  obtain ⟨q2, e2, rfl, w2⟩ := DataW.trod_int Tryz.underlying3 t2
  obtain ⟨q3, e3, rfl, _⟩ := DataW.trod_string Tryz.underlying9 t3
  obtain ⟨q4, e4, rfl, _⟩ := DataW.trod_string Tryz.underlying9 t4
  obtain ⟨q5, e5, rfl, _⟩ := DataW.trod_string Tryz.underlying9 t5
  obtain ⟨l, hl, hd⟩ := open_bools_cells t6
  simp at e0 e1 e2 e3 e4 e5
  subst e0 e1 e2 e3 e4 e5
  have b0 : -9223372036854775808 ≤ q0 ∧ q0 ≤ 9223372036854775807 := by simpa [Lit.wf, IntKind.min, IntKind.max, IntKind.signed, IntKind.bits] using w0
  have b1 : -9223372036854775808 ≤ q1 ∧ q1 ≤ 9223372036854775807 := by simpa [Lit.wf, IntKind.min, IntKind.max, IntKind.signed, IntKind.bits] using w1
  have b2 : -9223372036854775808 ≤ q2 ∧ q2 ≤ 9223372036854775807 := by simpa [Lit.wf, IntKind.min, IntKind.max, IntKind.signed, IntKind.bits] using w2
  have hlb : l.length ≤ 9223372036854775807 := by obtain ⟨_, _, _, h1, h2, _⟩ := hl; omega
  exact ⟨⟨q0, q1, q2, q3, q4, q5, l⟩, c6, ⟨y6.1, by rw [hx]⟩, ⟨b0, b1, b2, hlb⟩, rfl, hl⟩
theorem open_acfs {H : Type} {enc : TypeId × Value → H} {W : World} {r : Reach} {b0 : Nat} {v : Value} {d : DataW H} {p : List MemPlace}
  (hv : Value.okWide Tryz.prog W r b0 22 v) (h : DataW.Trod enc Tryz.prog W 0 (fun _ => true) true 22 v d p) :
  ∃ l : List AcF, AcFsAt W v l ∧ (∀ x ∈ l, x.fine) ∧ ((d = .nil ∧ l = []) ∨ ∃ ds sp, d = .slice ds sp ∧ ds.length = l.length ∧ ∀ i (hi : i < l.length) (hj : i < ds.length), l[i].isD ds[i]) := by
 obtain ⟨a0, len, cap, rfl⟩ := okWide_slice Tryz.underlying22 hv
 obtain ⟨fuel, hf⟩ := h
 rcases open_slice Tryz.underlying22 hf with ⟨hcs, hx⟩ | ⟨a, len', cap', m, n', D, Pl, hcs, _, hl, hm, hmm, hx, hg⟩
 ·simp only [Value.cells, List.cons.injEq, Value.slice.injEq, and_true] at hcs
  obtain ⟨rfl, rfl, rfl⟩ := hcs
  simp only [Prod.mk.injEq] at hx
  exact ⟨[], ⟨none, 0, rfl, by simp, by omega, fun h => by simp at h⟩, (fun x hx => by cases hx), .inl ⟨hx.1, rfl⟩⟩
 ·simp only [Value.cells, List.cons.injEq, Value.slice.injEq, and_true] at hcs
  obtain ⟨rfl, rfl, rfl⟩ := hcs
  simp only [if_true] at hmm
  subst hmm
  simp only [Prod.mk.injEq] at hx
  obtain ⟨f, hf⟩ := choose_lt (n := m) (p := fun i (x : AcF) => x.isD (D i) ∧ x.fine ∧
    W.cell? (a.add (i * 7)) = some (.int .i64 x.kind) ∧ W.cell? ((a.add (i * 7)).add 1) = some (.int .i64 x.at') ∧ W.cell? ((a.add (i * 7)).add 2) = some (.int .i64 x.num) ∧ W.cell? ((a.add (i * 7)).add 3) = some (.string x.name) ∧ W.cell? ((a.add (i * 7)).add 4) = some (.string x.dest) ∧ W.cell? ((a.add (i * 7)).add 5) = some (.string x.data) ∧ ∃ u, W.cell? ((a.add (i * 7)).add 6) = some u ∧ BoolsAt W u x.keep) (fun i hi => by
   obtain ⟨cs', g1, g2⟩ := hg i hi
   rw [cells_acf] at g1
   obtain ⟨_, hlen, hcell⟩ := World.cells?_some g1
   obtain ⟨x, u, e1, e2, e3, e4⟩ := open_acf_cells hlen g2
   subst e3
   have g0 := hcell 0 (by omega)
   have g1 := hcell 1 (by omega)
   have g2 := hcell 2 (by omega)
   have g3 := hcell 3 (by omega)
   have g4 := hcell 4 (by omega)
   have g5 := hcell 5 (by omega)
   have g6 := hcell 6 (by omega)
   exact ⟨x, e1, e2, by simpa [Addr.add] using g0, by simpa using g1, by simpa using g2, by simpa using g3, by simpa using g4, by simpa using g5, u, by simpa using g6, e4⟩)
  have hlen : ((List.range len).map f).length = len := by simp
  refine ⟨(List.range len).map f, ⟨some a, m, by rw [hlen], by omega, by unfold maxLen at hm; exact hm, fun h0 => ?_⟩, ?_, .inr ⟨(List.range len).map D, (List.range (m - len)).map (fun j => D (len + j)), hx.1, by simp, fun i hi hj => ?_⟩⟩
  ·rw [hlen] at h0
   obtain ⟨b, off, spot⟩ := a
   have hspot : spot = none := by simpa [Addr.add] using World.cell?_spot ((hf 0 (by omega)).2.2.1)
   subst hspot
   have hc := fun i (hi : i < len) => (hf i (by omega)).2.2
   simp only [add_plain] at hc
   refine ⟨b, off, rfl, ?_, fun i hi => ?_⟩
   ·obtain ⟨o, ho, _⟩ := not_walk_of_cell (hc 0 h0).1
    exact (Array.getElem?_eq_some_iff.1 ho).1
   ·rw [hlen] at hi
    obtain ⟨c0, c1, c2, c3, c4, c5, c6⟩ := hc i hi
    simp only [List.getElem_map, List.getElem_range]
    exact ⟨c0, c1, c2, c3, c4, c5, c6⟩
  ·intro x hx
   obtain ⟨i, hi, rfl⟩ := List.mem_map.1 hx
   exact (hf i (by have := List.mem_range.1 hi; omega)).2.1
  ·simp only [List.getElem_map, List.getElem_range]
   exact (hf i (by rw [hlen] at hi; omega)).1
theorem acfs_small {H : Type} {ds0 : List (DataW H)} (hk : Rows.uptoSmall H ds0 = true) {d : DataW H} (hm : d ∈ ds0) {l : List AcF}
  (hs : (d = .nil ∧ l = []) ∨ ∃ ds sp, d = .slice ds sp ∧ ds.length = l.length ∧ ∀ i (hi : i < l.length) (hj : i < ds.length), l[i].isD ds[i]) : l.length ≤ 1048576 ∧ ∀ x ∈ l, x.name.size ≤ 1048576 ∧ x.dest.size ≤ 1048576 ∧ x.data.size ≤ 1048576 := by
 have h0 := bulks.bound hk
 have h1 := bulks.part_le hm
 rcases hs with ⟨_, rfl⟩ | ⟨ds, sp, rfl, hl, hi⟩
 ·exact ⟨by simp, fun _ h => (List.not_mem_nil h).elim⟩
 ·have h2 := bulks.slice_le ds sp
  have h3 := bulks.slice_elems ds sp
  refine ⟨by omega, fun x hx => ?_⟩
  obtain ⟨i, hil, rfl⟩ := List.mem_iff_getElem.1 hx
  obtain ⟨d6, e⟩ := hi i hil (by omega)
  have h4 := bulks.part_le (List.getElem_mem (l := ds) (n := i) (by omega))
  rw [e] at h4
  simp only [Rows.uptoBulk, Rows.uptoBulkAll, Array.length_toList] at h4
  have e1 : l[i].name.data.size = l[i].name.size := rfl
  have e2 : l[i].dest.data.size = l[i].dest.size := rfl
  have e3 : l[i].data.data.size = l[i].data.size := rfl
  omega
end
end Go.Proofs.YtogblcdefbnbeaaGreat
