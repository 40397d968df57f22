
/- Arguments opened: slices of acts, and an act. Condition: none. -/
import Derived.Test.YtndekdgpibipnaaRow
import Derived.Test.YtndekdgpibipnaaActs
import Derived.Test.YtndekdgpibipnaaOpenAgg
import Derived.Lib.SmallJoins
import Derived.Deep.Slices
import Derived.RangeFuncSeq
namespace Go.Proofs.Ytndekdgpibipnaa
open Go.ChangeShapes Go.WideShapes Go.ChangeAt Go.RowKit Go.Joins Go.Deep

theorem cells_act : Try.prog.cellsOf 30 = 4 := by kernel_rfl
theorem bytes_act : Try.prog.bytesOf 30 = 48 := by kernel_rfl
theorem cells_bool : Try.prog.cellsOf 4 = 1 := by kernel_rfl
theorem bytes_bool : Try.prog.bytesOf 4 = 1 := by kernel_rfl

instance : Inhabited AcT := ⟨⟨0, 0, 0, []⟩⟩

set_option maxRecDepth 100000 in
theorem open_bools_cells {H : Type} {enc : TypeId × Value → H} {W : World} {n : Nat} {u : Value} {y : DataW H × List MemPlace} (h : DataW.trod enc Try.prog W 0 (fun _ => true) true n 28 [u] = some y) :
    ∃ l : List Bool, BoolsAt W u l ∧ ((y.1 = .nil ∧ l = []) ∨ ∃ sp, y.1 = .slice (l.map fun b => .lit (.bool b)) sp) := by
  rcases open_slice Try.underlying28 h with ⟨hcs, hx⟩ | ⟨a, len, cap, m, n', D, Pl, hcs, _, hl, hm, hmm, hx, hg⟩
  · simp only [List.cons.injEq, and_true] at hcs
    subst hcs hx
    exact ⟨[], ⟨none, 0, rfl, by simp, by omega, fun h => by simp at h⟩, .inl ⟨rfl, rfl⟩⟩
  · simp only [List.cons.injEq, and_true] at hcs
    simp only [if_true] at hmm
    subst hcs hx hmm
    obtain ⟨f, hf⟩ := choose_lt (n := m) (p := fun i (x : Bool) => D i = .lit (.bool x) ∧ W.cell? (a.add (i * 1)) = some (.bool x)) (fun i hi => by
      obtain ⟨cs', g1, g2⟩ := hg i hi
      rw [cells_bool] at g1
      obtain ⟨_, hlen, hcell⟩ := World.cells?_some g1
      match cs', hlen with
      | [c0], _ =>
        obtain ⟨d, e2, e3⟩ := DataW.trod_bool Try.underlying4 g2
        simp at e2 e3
        subst e2
        have g0 := hcell 0 (by omega)
        exact ⟨d, e3.1, by simpa [Addr.add] using g0⟩)
    have hlen : ((List.range len).map f).length = len := by simp
    refine ⟨(List.range len).map f, ⟨some a, m, by rw [hlen], by omega, by unfold maxLen at hm; exact hm, fun h0 => ?_⟩, .inr ⟨(List.range (m - len)).map fun j => D (len + j), ?_⟩⟩
    · rw [hlen] at h0
      obtain ⟨b, off, spot⟩ := a
      have hspot : spot = none := by simpa [Addr.add] using World.cell?_spot ((hf 0 (by omega)).2)
      subst hspot
      have hc := fun i (hi : i < len) => (hf i (by omega)).2
      simp only [add_plain, Nat.mul_one] at hc
      refine ⟨b, off, rfl, ?_, fun i hi => ?_⟩
      · obtain ⟨o, ho, _⟩ := not_walk_of_cell (hc 0 h0)
        exact (Array.getElem?_eq_some_iff.1 ho).1
      · rw [hlen] at hi
        simp only [List.getElem_map, List.getElem_range]
        exact hc i hi
    · show DataW.slice _ _ = DataW.slice _ _
      rw [List.map_map, List.map_congr_left (f := D) (g := (fun b => .lit (.bool b)) ∘ f) (fun i hi => (hf i (by have := List.mem_range.1 hi; omega)).1)]

/-- an act's numbers are ints, and its weight -/
def AcT.fine (x : AcT) : Prop := (-9223372036854775808 ≤ x.kind ∧ x.kind ≤ 9223372036854775807) ∧ (-9223372036854775808 ≤ x.at' ∧ x.at' ≤ 9223372036854775807) ∧ (-9223372036854775808 ≤ x.num ∧ x.num ≤ 9223372036854775807) ∧ x.keep.length ≤ 9223372036854775807
/-- an act as a datum: its keep is told as a slice or nil -/
def AcT.isD {H : Type} (x : AcT) (d : DataW H) : Prop := ∃ d3, d = .agg [.lit (.int .i64 x.kind), .lit (.int .i64 x.at'), .lit (.int .i64 x.num), d3] ∧ ((d3 = .nil ∧ x.keep = []) ∨ ∃ sp, d3 = .slice (x.keep.map fun b => .lit (.bool b)) sp)

set_option maxRecDepth 100000 in
theorem open_act_cells {H : Type} {enc : TypeId × Value → H} {w : World} {n : Nat} {y : DataW H × List MemPlace} {cs : List Value} (hlen : cs.length = 4)
    (h2 : DataW.trod enc Try.prog w 0 (fun _ => true) true n 30 cs = some y) :
    ∃ (x : AcT) (u : Value), x.isD y.1 ∧ x.fine ∧ cs = [.int .i64 x.kind, .int .i64 x.at', .int .i64 x.num, u] ∧ BoolsAt w u x.keep := by
  obtain ⟨y0, y1, y2, y3, k, hx, _, t0, t1, t2, t3⟩ := trod_struct4 Try.underlying30 h2
  match cs, hlen with
  | [c0, c1, c2, c3], _ =>
    replace t0 : DataW.trod enc Try.prog w 0 (fun _ => true) true k 3 [c0] = some y0 := t0
    replace t1 : DataW.trod enc Try.prog w 0 (fun _ => true) true k 3 [c1] = some y1 := t1
    replace t2 : DataW.trod enc Try.prog w 0 (fun _ => true) true k 3 [c2] = some y2 := t2
    replace t3 : DataW.trod enc Try.prog w 0 (fun _ => true) true k 28 [c3] = some y3 := t3
    obtain ⟨q0, e0, rfl, w0⟩ := DataW.trod_int Try.underlying3 t0
    obtain ⟨q1, e1, rfl, w1⟩ := DataW.trod_int Try.underlying3 t1
    obtain ⟨q2, e2, rfl, w2⟩ := DataW.trod_int Try.underlying3 t2
    obtain ⟨l, hl, hd⟩ := open_bools_cells t3
    simp at e0 e1 e2
    subst e0 e1 e2
    have b0 : -9223372036854775808 ≤ q0 ∧ q0 ≤ 9223372036854775807 := by simpa [Lit.wf, IntKind.min, IntKind.max, IntKind.signed, IntKind.bits] using w0
    have b1 : -9223372036854775808 ≤ q1 ∧ q1 ≤ 9223372036854775807 := by simpa [Lit.wf, IntKind.min, IntKind.max, IntKind.signed, IntKind.bits] using w1
    have b2 : -9223372036854775808 ≤ q2 ∧ q2 ≤ 9223372036854775807 := by simpa [Lit.wf, IntKind.min, IntKind.max, IntKind.signed, IntKind.bits] using w2
    have hlb : l.length ≤ 9223372036854775807 := by obtain ⟨_, _, _, h1, h2, _⟩ := hl; omega
    exact ⟨⟨q0, q1, q2, l⟩, c3, ⟨y3.1, by rw [hx], hd⟩, ⟨b0, b1, b2, hlb⟩, rfl, hl⟩

set_option maxRecDepth 100000 in
theorem open_act {H : Type} {enc : TypeId × Value → H} {W : World} {r : Reach} {b0 : Nat} {v : Value} {d : DataW H} {p : List MemPlace}
    (hv : Value.okWide Try.prog W r b0 30 v) (h : DataW.Trod enc Try.prog W 0 (fun _ => true) true 30 v d p) :
    ∃ (x : AcT) (u : Value), x.isD d ∧ x.fine ∧ v = .agg #[.int .i64 x.kind, .int .i64 x.at', .int .i64 x.num, u] ∧ BoolsAt W u x.keep := by
  obtain ⟨cs, rfl, hsz⟩ := okWide_struct Try.underlying30 hv
  obtain ⟨l⟩ := cs
  obtain ⟨fuel, hf⟩ := h
  rw [cells_act] at hsz
  obtain ⟨x, u, h1, h2, h3, h4⟩ := open_act_cells (cs := l) (by simpa using hsz) hf
  exact ⟨x, u, h1, h2, by rw [h3], h4⟩

set_option maxRecDepth 100000 in
theorem open_acts {H : Type} {enc : TypeId × Value → H} {W : World} {r : Reach} {b0 : Nat} {v : Value} {d : DataW H} {p : List MemPlace}
    (hv : Value.okWide Try.prog W r b0 22 v) (h : DataW.Trod enc Try.prog W 0 (fun _ => true) true 22 v d p) :
    ∃ l : List AcT, ActsAt W v l ∧ (∀ x ∈ l, x.fine) ∧ ((d = .nil ∧ l = []) ∨ ∃ ds sp, d = .slice ds sp ∧ ds.length = l.length ∧ ∀ i (hi : i < l.length) (hj : i < ds.length), l[i].isD ds[i]) := by
  obtain ⟨a0, len, cap, rfl⟩ := okWide_slice Try.underlying22 hv
  obtain ⟨fuel, hf⟩ := h
  rcases open_slice Try.underlying22 hf with ⟨hcs, hx⟩ | ⟨a, len', cap', m, n', D, Pl, hcs, _, hl, hm, hmm, hx, hg⟩
  · simp only [Value.cells, List.cons.injEq, Value.slice.injEq, and_true] at hcs
    obtain ⟨rfl, rfl, rfl⟩ := hcs
    simp only [Prod.mk.injEq] at hx
    exact ⟨[], ⟨none, 0, rfl, by simp, by omega, fun h => by simp at h⟩, (fun x hx => by cases hx), .inl ⟨hx.1, rfl⟩⟩
  · simp only [Value.cells, List.cons.injEq, Value.slice.injEq, and_true] at hcs
    obtain ⟨rfl, rfl, rfl⟩ := hcs
    simp only [if_true] at hmm
    subst hmm
    simp only [Prod.mk.injEq] at hx
    obtain ⟨f, hf⟩ := choose_lt (n := m) (p := fun i (x : AcT) => x.isD (D i) ∧ x.fine ∧
        W.cell? (a.add (i * 4)) = some (.int .i64 x.kind) ∧ W.cell? ((a.add (i * 4)).add 1) = some (.int .i64 x.at') ∧ W.cell? ((a.add (i * 4)).add 2) = some (.int .i64 x.num) ∧ ∃ u, W.cell? ((a.add (i * 4)).add 3) = some u ∧ BoolsAt W u x.keep) (fun i hi => by
      obtain ⟨cs', g1, g2⟩ := hg i hi
      rw [cells_act] at g1
      obtain ⟨_, hlen, hcell⟩ := World.cells?_some g1
      obtain ⟨x, u, e1, e2, e3, e4⟩ := open_act_cells hlen g2
      subst e3
      have g0 := hcell 0 (by omega)
      have g1 := hcell 1 (by omega)
      have g2 := hcell 2 (by omega)
      have g3 := hcell 3 (by omega)
      exact ⟨x, e1, e2, by simpa [Addr.add] using g0, by simpa using g1, by simpa using g2, u, by simpa using g3, e4⟩)
    have hlen : ((List.range len).map f).length = len := by simp
    refine ⟨(List.range len).map f, ⟨some a, m, by rw [hlen], by omega, by unfold maxLen at hm; exact hm, fun h0 => ?_⟩, ?_, .inr ⟨(List.range len).map D, (List.range (m - len)).map (fun j => D (len + j)), hx.1, by simp, fun i hi hj => ?_⟩⟩
    · rw [hlen] at h0
      obtain ⟨b, off, spot⟩ := a
      have hspot : spot = none := by simpa [Addr.add] using World.cell?_spot ((hf 0 (by omega)).2.2.1)
      subst hspot
      have hc := fun i (hi : i < len) => (hf i (by omega)).2.2
      simp only [add_plain] at hc
      refine ⟨b, off, rfl, ?_, fun i hi => ?_⟩
      · obtain ⟨o, ho, _⟩ := not_walk_of_cell (hc 0 h0).1
        exact (Array.getElem?_eq_some_iff.1 ho).1
      · rw [hlen] at hi
        obtain ⟨c0, c1, c2, c3⟩ := hc i hi
        simp only [List.getElem_map, List.getElem_range]
        exact ⟨c0, c1, c2, c3⟩
    · intro x hx
      obtain ⟨i, hi, rfl⟩ := List.mem_map.1 hx
      exact (hf i (by have := List.mem_range.1 hi; omega)).2.1
    · simp only [List.getElem_map, List.getElem_range]
      exact (hf i (by simp at hi; omega)).1

set_option maxRecDepth 100000 in
/-- the form's own reach, of a slice of acts -/
theorem acts_sized {H : Type} {ts : List TypeId} {ds : List (DataW H)} (h : (DataW.weightsEach Try.prog ts ds).all (· ≤ reachBytes) = true) {j : Nat} {d : DataW H} {l : List AcT} (ht : ts[j]? = some 22) (hd : ds[j]? = some d)
    (hs : (d = .nil ∧ l = []) ∨ ∃ ds sp, d = .slice ds sp ∧ ds.length = l.length ∧ ∀ i (hi : i < l.length) (hj : i < ds.length), l[i].isD ds[i]) : l.length ≤ 2932031007317 := by
  rcases hs with ⟨_, rfl⟩ | ⟨es, sp, rfl, hl, _⟩
  · simp
  · have := sized_slice h ht hd Try.underlying22
    rw [bytes_act] at this
    simp only [reachBytes] at this
    omega
theorem weightsAll_mem {H : Type} {e : TypeId} {m : Nat} {d : DataW H} (hm : m ∈ d.weights Try.prog e) : ∀ {ds : List (DataW H)}, d ∈ ds → m ∈ DataW.weightsAll Try.prog e ds
  | x :: r, h => by
    unfold DataW.weightsAll
    rcases List.mem_cons.1 h with rfl | h
    · exact List.mem_append_left _ hm
    · exact List.mem_append_right _ (weightsAll_mem hm h)
set_option maxRecDepth 100000 in
/-- the form's own reach, of what acts keep -/
theorem acts_keep {H : Type} {d : DataW H} {l : List AcT} {ns : List Nat} (h : ns.all (· ≤ reachBytes) = true) (hm : ∀ n ∈ d.weights Try.prog 22, n ∈ ns)
    (hs : (d = .nil ∧ l = []) ∨ ∃ ds sp, d = .slice ds sp ∧ ds.length = l.length ∧ ∀ i (hi : i < l.length) (hj : i < ds.length), l[i].isD ds[i]) : ∀ x ∈ l, x.keep.length ≤ 140737488355328 := by
  rcases hs with ⟨_, rfl⟩ | ⟨es, sp, rfl, hl, hd⟩
  · intro x hx; cases hx
  · intro x hx
    obtain ⟨i, hi, rfl⟩ := List.mem_iff_getElem.1 hx
    obtain ⟨d3, h1, h2⟩ := hd i hi (by omega)
    rcases h2 with ⟨_, h3⟩ | ⟨sp3, rfl⟩
    · rw [h3]; simp
    · have hw : ((l[i].keep.map fun b => (DataW.lit (.bool b) : DataW H)).length + sp3.length) * Try.prog.bytesOf 4 ∈ (es[i]'(by omega)).weights Try.prog 30 := by
        rw [h1]
        simp [DataW.weights, DataW.weightsEach, Try.underlying30, Try.underlying28]
      have h4 := weightsAll_mem hw (List.getElem_mem (l := es) (by omega))
      have h5 : ((l[i].keep.map fun b => (DataW.lit (.bool b) : DataW H)).length + sp3.length) * Try.prog.bytesOf 4 ∈ (DataW.slice es sp).weights Try.prog 22 := by
        simp only [DataW.weights, Try.underlying22]
        exact List.mem_cons_of_mem _ (List.mem_append_left _ h4)
      have h6 := List.all_eq_true.1 h _ (hm _ h5)
      rw [bytes_bool] at h6
      simp only [List.length_map, reachBytes, decide_eq_true_eq] at h6
      omega
end Go.Proofs.Ytndekdgpibipnaa
