/- What both walks of Pick share: how it ends; boxes and rows of tables. Condition: none. -/
import Derived.Test.YtekfaodjadinnaaWPk1
import Derived.Deep.RegionWith
namespace Go.Proofs.Ytekfaodjadinnaa
open Go.RowKit

def Pl.jb0 : Pl.Jb := ⟨0, [], [], false⟩
/-- how Pick ends -/
def PkEnd (w : World) (R : Option Pl.Jb) (e : Ending) (w' : World) : Prop :=
  ∃ (a1 : Option Addr) (c1 : Nat) (a2 : Option Addr) (c2 : Nat), e = .returned (.tuple #[jobV ((R.getD Pl.jb0).level : Int) a1 (R.getD Pl.jb0).frm.length c1 a2 (R.getD Pl.jb0).onto.length c2 (R.getD Pl.jb0).bottom, .bool R.isSome]) ∧
    TOwn w' w.heap.size (.slice a1 (R.getD Pl.jb0).frm.length c1) (R.getD Pl.jb0).frm ∧ TOwn w' w.heap.size (.slice a2 (R.getD Pl.jb0).onto.length c2) (R.getD Pl.jb0).onto ∧ Below w.heap.size w w'
theorem job_loadVar {W : World} {b : Nat} {k : Int} {a1 a2 : Option Addr} {n1 c1 n2 c2 : Nat} {bt : Bool} (h : JbBox W b k a1 n1 c1 a2 n2 c2 bt) : (loadVar 35 ⟨b, 0, none⟩).run Try.prog W = .ok (jobV k a1 n1 c1 a2 n2 c2 bt) W :=
  run_loadVar_mid (P := Try.prog) W b 0 35 [.int .i64 k, .slice a1 n1 c1, .slice a2 n2 c2, .bool bt] _ (fun j u hj => by
    obtain ⟨d0, d1, d2, d3⟩ := h.cells
    rw [Nat.zero_add]
    rcases j with _ | _ | _ | _ | j
    · cases hj; exact d0
    · cases hj; exact d1
    · cases hj; exact d2
    · cases hj; exact d3
    · simp at hj) Try.underlying35 rfl (by kernel_rfl)
theorem results_job2 {fn : Func} {p q : Tmp} (h : fn.results = #[.cell p 35, .tmp q]) {tmps : Array Value} {b : Nat} {v : Value} {k : Int} {a1 a2 : Option Addr} {n1 c1 n2 c2 : Nat} {bt : Bool} {w : World} (hp : tmps.getD p undef = .pointer (some ⟨b, 0, none⟩)) (hq : tmps.getD q undef = v) (hc : JbBox w b k a1 n1 c1 a2 n2 c2 bt) :
    (results fn tmps).run Try.prog w = .ok (.tuple #[jobV k a1 n1 c1 a2 n2 c2 bt, v]) w := by
  have hp' : tmps[p]?.getD undef = .pointer (some ⟨b, 0, none⟩) := by simpa using hp
  have hq' : tmps[q]?.getD undef = v := by simpa using hq
  simp [results, h, hp', hq', asAddr, job_loadVar hc]
theorem heap_four {W : World} {b : Nat} {y0 y1 y2 y3 : Value} {t : TypeId} (h : W.heap[b]? = some (.cells #[y0, y1, y2, y3] t (0, 0))) (x0 x1 x2 x3 : Value) :
    ((((W.setCell ⟨b, 0, none⟩ x0).setCell ⟨b, 1, none⟩ x1).setCell ⟨b, 2, none⟩ x2).setCell ⟨b, 3, none⟩ x3).heap[b]? = some (.cells #[x0, x1, x2, x3] t (0, 0)) := by
  simp [World.setCell, Array.getElem?_modify, h]
theorem tab_one (W : World) (B : Nat) (x : Pl.Tb) (hB : B ≤ W.heap.size) : TOwn (W.alloc (.cells #[.int .u64 (x.num : Int), .int .i64 x.level, .int .i64 x.size, .int .i64 x.count, .string x.least, .string x.greatest] 40)) B (.slice (some ⟨W.heap.size, 0, none⟩) 1 1) [x] :=
  ⟨rfl, .inr ⟨W.heap.size, 1, _, rfl, hB, World.alloc_heap_new _ _, Nat.le_refl _, by unfold maxLen; decide, rfl, rfl⟩⟩
theorem JbBox.not_row {W : World} {b : Nat} {k : Int} {a1 a2 : Option Addr} {n1 c1 n2 c2 : Nat} {bt : Bool} (h : JbBox W b k a1 n1 c1 a2 n2 c2 bt) {B : Nat} {v : Value} {l : List Pl.Tb} (hr : TOwn W B v l) (q : Nat) (hq : v.ownBlock = some q) : q ≠ b := by
  intro e
  subst e
  rcases hr.2 with ⟨rfl, _⟩ | ⟨g, cap, cur, rfl, _, hg, _⟩
  · cases hq
  · have e : g = q := by simpa [Value.ownBlock] using hq
    subst e
    unfold JbBox at h
    rw [h] at hg
    injection hg with hg
    injection hg with _ e3
    exact absurd e3 (by decide)
set_option maxRecDepth 100000 in
/-- 'append(v, u...)' of tables as a step of a region that draws -/
theorem step_appT {ops : Array Oper} {o : Oper} {a : Act} {K : Act → World → Prop} {Q : Exit → Act → World → Prop} {E : Prop} {s x : Operand} (w0 : World) (B : Nat) (v u : Value) (xs ys : List Pl.Tb) (hr : TOwn w0 B v xs) (hB : B ≤ w0.heap.size) (hu : TbsAt w0 u ys) (hlen : (xs.length + ys.length) * 64 ≤ 140737488355328)
    (hgd : o.guard = none) (ho : o.op = .call { callee := .builtin .append, args := #[s, x], argTypes := #[27, 27] }) (hs : a.eval s = v) (hx : a.eval x = u)
    (h : ∀ v' w', TOwn w' B v' (xs ++ ys) → w0.grownBy w' v.ownBlock → K (a.put o.dst v') w') :
    if Region.wanted o (yielded ops a.tmps) = true then Oper.wp Try.prog o a w0 K Q else E := by
  have hw : Region.wanted o (yielded ops a.tmps) = true := by simp [Region.wanted, hgd]
  rw [if_pos hw]
  obtain ⟨i, hi', hz0, hz1, hz2⟩ := info_parts info_table
  obtain ⟨ao, cap, rfl, h1, h2, hn, hc⟩ := hu
  rcases hn with ⟨rfl, rfl⟩ | ⟨b0, off0, rfl⟩
  · obtain rfl : ys = [] := List.eq_nil_of_length_eq_zero (by omega)
    have hrun := run_append_owned_none (P := Try.prog) (w := w0) B 27 o.type 40 i 6 Try.underlying27 hi' v xs.length (tcells xs) hr
    unfold Oper.wp
    simp [execOp, ho, resolve, invoke, builtin, hs, hx, hrun, Result.andThen]
    exact h v w0 (by rw [List.append_nil]; exact hr) ⟨rfl, rfl, rfl, Nat.le_refl _, fun _ _ _ => rfl⟩
  · refine wp_append_own _ s x 27 ho B 40 i (.agg #[.int .u64 0, .int .i64 0, .int .i64 0, .int .i64 0, .string .empty, .string .empty]) 6 64 Try.underlying27 hi' hz0 hz1 hz2 rfl (by decide) v xs.length (tcells xs) hs hr ⟨b0, off0, none⟩ ys.length cap (tcells ys) hx (by rw [tcells_length]) ?_ (tcells_one ys) (by unfold maxLen; omega) hlen hB ?_
    · intro j u hj
      have hlt : j < (tcells ys).length := (List.getElem?_eq_some_iff.1 hj).1
      rw [tcells_length] at hlt
      obtain ⟨b, off, e, hbl, hxx⟩ := hc (by omega)
      injection e with e
      injection e with e5 e6
      subst e5 e6
      have hi : j / 6 < ys.length := by omega
      have hj6 : j % 6 < 6 := Nat.mod_lt _ (by decide)
      have hg := tcells_get ys (j / 6) hi (j % 6) hj6
      rw [show j / 6 * 6 + j % 6 = j by omega, hj] at hg
      have := (hxx (j / 6) hi).get (j % 6) u hg.symm
      rw [Addr.add_lit, show off0 + j = off0 + j / 6 * 6 + j % 6 by omega]
      exact this
    · intro v' w' ho' hg _
      refine h v' w' ?_ hg
      unfold TOwn
      rw [tcells_append, List.length_append]
      exact ho'
theorem heap_third {W : World} {b : Nat} {k : Int} {a1 a2 : Option Addr} {n1 c1 n2 c2 : Nat} {bt : Bool} {a3 : Option Addr} {n3 c3 : Nat} (h : JbBox W b k a1 n1 c1 a2 n2 c2 bt) : JbBox (W.setCell ⟨b, 2, none⟩ (.slice a3 n3 c3)) b k a1 n1 c1 a3 n3 c3 bt := by
  unfold JbBox at *
  simp [World.setCell, Array.getElem?_modify, h]
theorem heap_fourth {W : World} {b : Nat} {k : Int} {a1 a2 : Option Addr} {n1 c1 n2 c2 : Nat} {bt b2 : Bool} (h : JbBox W b k a1 n1 c1 a2 n2 c2 bt) : JbBox (W.setCell ⟨b, 3, none⟩ (.bool b2)) b k a1 n1 c1 a2 n2 c2 b2 := by
  unfold JbBox at *
  simp [World.setCell, Array.getElem?_modify, h]
theorem heap_second {W : World} {b : Nat} {k : Int} {a1 a2 : Option Addr} {n1 c1 n2 c2 : Nat} {bt : Bool} {v : Value} (h : JbBox W b k a1 n1 c1 a2 n2 c2 bt) : (W.setCell ⟨b, 1, none⟩ v).heap[b]? = some (.cells #[.int .i64 k, v, .slice a2 n2 c2, .bool bt] 35 (0, 0)) := by
  unfold JbBox at h
  simp [World.setCell, Array.getElem?_modify, h]
theorem keep_four (W : World) (b : Nat) (x0 x1 x2 x3 : Value) : Keep (fun q => q ≠ b) W ((((W.setCell ⟨b, 0, none⟩ x0).setCell ⟨b, 1, none⟩ x1).setCell ⟨b, 2, none⟩ x2).setCell ⟨b, 3, none⟩ x3) :=
  ((((Keep.refl _ _).setCell _ _ _ (fun h _ => h rfl)).setCell _ _ _ (fun h _ => h rfl)).setCell _ _ _ (fun h _ => h rfl)).setCell _ _ _ (fun h _ => h rfl)

end Go.Proofs.Ytekfaodjadinnaa
