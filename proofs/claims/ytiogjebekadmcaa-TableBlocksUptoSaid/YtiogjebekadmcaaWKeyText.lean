
/- Walks: texts as keys. Condition: a length that a text may have. -/
import Derived.Test.YtiogjebekadmcaaWEsc
namespace Go.Proofs.Ytiogjebekadmcaa
open Go.RowKit Go.Shelf

attribute [local go_sem] Oper.semAt_some

theorem ownsRow_not_obj {W : World} {base : Nat} {e : TypeId} {size k : Nat} {v : Value} {xs : List Value} (hr : W.ownsRow base e size v k xs) {D : Nat} {o : Obj} (hD : W.heap[D]? = some o) (ho : o.isCells = false) : some D ≠ v.ownBlock := by
  rcases hr.2 with ⟨rfl, _⟩ | ⟨g, cap, cur, rfl, _, hgb, _⟩
  · simp [Value.ownBlock]
  · intro e'
    obtain rfl : D = g := by simpa [Value.ownBlock] using e'
    rw [hgb] at hD; cases hD; cases ho

theorem cells_two_new (w : World) (a b : Value) (t : TypeId) : ∀ j u, [a, b][j]? = some u → (w.alloc (.cells #[a, b] t)).cell? ((⟨w.heap.size, 0, none⟩ : Addr).add j) = some u := cell_two_new w a b t

set_option maxRecDepth 100000 in
set_option maxHeartbeats 2000000 in
theorem keyText_in (n : Nat) (hn : 3 ≤ n) (s : ByteArray) (hs : s.size ≤ 35184372088832) (w : World) :
    CallsIn Fence.wide n Try.prog 51 #[.string s] w fun e w' => e = .returned (.string ⟨(Pl.keyText s.data.toList).toArray⟩) ∧ Below w.heap.size w w' := by
  have h1 : 1 ≤ n := by omega
  obtain ⟨i0, hi, hz0, hz1, hz2⟩ := info_parts info_u8
  obtain ⟨M, hM⟩ : ∃ M, M = madeCells (Value.int .u8 0).cells ((((s.size + 2 : Nat)) : Int).toNat * i0.size) := ⟨_, rfl⟩
  have et : ((s.size : Int) + 2).toNat = s.size + 2 := by omega
  have hMs : M.size = s.size + 2 := by rw [hM, size_madeCells, hz1]; simp [et]
  have hmk : ∀ W : World, (Instr.makeSlice 90 (.int .i64 0) (.int .i64 ((s.size : Int) + 2))).run Try.prog W = .ok (.slice (some ⟨W.heap.size, 0, none⟩) 0 (s.size + 2)) (W.alloc (.cells M 5)) := fun W => by
    have h := run_make (P := Try.prog) W 90 5 i0 (.int .u8 0) Try.underlying90 hi hz0 .i64 .i64 0 ((s.size + 2 : Nat) : Int) (by omega) (by omega) (by rw [hz2]; omega) (by omega)
    rw [← hM] at h
    simpa [et] using h
  clear et
  have HMs := Lib.hid hMs
  clear hM hMs
  refine callsIn_of_wp_marks Try.func51 rfl trivial ?_ rfl
  simp only [Try.ntmps51, List.size_toArray, List.length_cons, List.length_nil, Nat.reduceAdd, Nat.reduceSub, Array.replicate_succ, Array.replicate_zero, List.push_toArray, List.append_toArray, List.nil_append, List.cons_append]
  gi_wp2_with (refine ⟨trivial, ?_⟩; gi_at_call 67; refine (escaped_in (n - 1) s _).mono ?_; rintro e w' ⟨rfl, rfl⟩)
  have bO := Boxed.new (w.alloc (.cells M 5)) 90 (.slice (some ⟨w.heap.size, 0, none⟩) 0 (s.size + 2))
  have bN := Boxed.new ((w.alloc (.cells M 5)).alloc (.cells #[.slice (some ⟨w.heap.size, 0, none⟩) 0 (s.size + 2)] 90)) 9 (.string s)
  have oR := World.ownsRow_made (base := w.heap.size) (e := 5) (size := 1) w M (s.size + 2) (Nat.le_refl _) (by unfold maxLen; omega) (by rw [HMs.out]; omega)
  rw [World.size_alloc] at bO
  rw [World.size_alloc, World.size_alloc] at bN
  have hB0 : Below w.heap.size w (((w.alloc (.cells M 5)).alloc (.cells #[.slice (some ⟨w.heap.size, 0, none⟩) 0 (s.size + 2)] 90)).alloc (.cells #[.string s] 9)) :=
    (((Below.refl _ w).alloc (Nat.le_refl _) _).alloc (by simp) _).alloc (by simp; omega) _
  have hel := Pl.esc_length s.data.toList
  rw [Pl.size_data] at hel
  refine wpIn_rangeFunc_ownG (F := Fence.wide) rfl h1 (gf := 75) (lb := #[.pointer (some ⟨w.heap.size + 2, 0, none⟩)]) rfl trivial (enters_of Try.func75 (by kernel_rfl) rfl)
    (escaped_stops (n - 1) (by omega) (w.heap.size + 2) s (by omega) _ (by simp) bN.cell) kpB_t (kpB_b (by simp)) (Below.refl _ _) (fun _ => rfl)
    (fun pre W => (∃ v, Boxed W (w.heap.size + 1) 90 v ∧ W.ownsRow w.heap.size 5 1 v pre.length (bcells pre) ∧ True) ∧ (Boxed W (w.heap.size + 2) 9 (.string s) ∧ Below w.heap.size w W))
    (fun _ _ _ => False)
    (OwnFrom.and (Go.Own.from (holdsRow_own w.heap.size (w.heap.size + 1) 90 5 1 (fun pre : List UInt8 => pre.length) (fun pre => bcells pre) (fun _ _ => True)) _)
      (OwnFrom.and (fun _ W W' row hs hg hr => hs.kept hg (fun e => by obtain ⟨_, o, ho, hc⟩ := hr _ e.symm; rw [show W.heap[w.heap.size + 2]? = _ from hs] at ho; cases ho; cases hc)) (ownFrom_below (Nat.le_refl _) (by simp; omega))))
    (fun _ _ _ _ _ hs _ _ => hs)
    ⟨⟨_, bO.alloc _, (oR.alloc _).alloc _, trivial⟩, bN, hB0⟩
    (fun x => { tmps := #[.string s, undef, .string ⟨#[]⟩, .pointer (some ⟨w.heap.size + 1, 0, none⟩), .int .u8 (x.toNat : Int), .string s, .int .i64 (s.size : Int), .int .i64 ((s.size : Int) + 2), .slice (some ⟨w.heap.size, 0, none⟩) 0 (s.size + 2), .string s, .func (.func 75) #[] #[.pointer (some ⟨w.heap.size + 2, 0, none⟩)], .int .u8 (x.toNat : Int), undef, undef, undef, undef, undef, undef, undef, undef], defers := [] }) ?assign ?body ?done ?stop
  case assign =>
    intro l x W K hK
    gi_wp2
    exact hK
  case body =>
    rintro l pre x W ⟨⟨v, hv, hrow, _⟩, hbx, hB⟩ hlt
    have hc := hv.cell
    have hbs := hB.size
    gi_wp2_with (gi_at_builtin; refine wpListIn_append_own _ rfl _ _ 90 rfl w.heap.size 5 i0 (.int .u8 0) 1 1 Try.underlying90 hi hz0 hz1 hz2 rfl (by decide) _ _ _ rfl (hrow.alloc _) ⟨W.heap.size, 0, none⟩ 1 1 [.int .u8 (x.toNat : Int)] rfl rfl (cell_one_new _ _ _) (by simp [Value.oneCell']) (by unfold maxLen; omega) (by omega) (by simp; omega) ?_; intro v' w1 hown' hgrow _; obtain ⟨g', cap', rfl⟩ := ownsRow_succ hown'; have hbx1 := (hbx.alloc _).kept hgrow (hbx.not_row (by decide) hrow); obtain ⟨hv1, hv2, hr2, hk2, hb2⟩ := hv.appended (by decide) hrow hbs (by omega) hown' hgrow; have hc1 := hv1.cell; have hf1 := hv1.frozen)
    have hbx2 := hbx1.kept (grownBy_setCell' _ _ (Value.slice (some ⟨g', 0, none⟩) (pre.length + 1) cap')) (show some (w.heap.size + 2) ≠ some (w.heap.size + 1) from fun e => by simp at e)
    refine ⟨hk2.from _, (show _ = _ from hbx2).trans (show _ = _ from hbx).symm, ⟨_, hv2, ?_, trivial⟩, hbx2, hB.trans hb2⟩
    have e : bcells (pre ++ [x]) = bcells pre ++ [.int .u8 (x.toNat : Int)] := by simp [bcells]
    rw [e]
    simpa using hr2
  case done =>
    rintro D ys W hD rfl ⟨⟨v, hv, hrow, hnil⟩, hbx, hB⟩ hK
    have hc := hv.cell
    have hbs := hB.size
    gi_wp2_with (gi_at_builtin; go_must (refine wpListIn_append_own _ rfl _ _ 90 rfl w.heap.size 5 i0 (.int .u8 0) 1 1 Try.underlying90 hi hz0 hz1 hz2 rfl (by decide) _ _ _ rfl (hrow.alloc _) ⟨W.heap.size, 0, none⟩ 2 2 [.int .u8 0, .int .u8 1] rfl rfl (cells_two_new _ _ _ _) (by simp [Value.oneCell']) (by unfold maxLen; omega) (by omega) (by simp; omega) ?_; intro v' w1 hown' hgrow _; have hcells : bcells (Pl.esc s.data.toList) ++ [.int .u8 0, .int .u8 1] = bcells (Pl.keyText s.data.toList) := (by simp [bcells, Pl.keyText]); have hst := run_string_own (P := Try.prog) w1 90 9 5 (l := Pl.keyText s.data.toList) (v := v') Try.underlying90 Try.underlying5 Try.underlying9 ⟨hcells ▸ hown', Below.refl _ w1, (by have := hgrow.size; simp at this; omega)⟩))
    have hK1 := (hgrow.block D (by have := (Array.getElem?_eq_some_iff.1 hK).1; simp; omega) (ownsRow_not_obj hrow hK rfl)).trans ((Below.heap_alloc W _ D (Array.getElem?_eq_some_iff.1 hK).1).trans hK)
    refine ⟨by simp, .inl ⟨_, _, rfl, run_takeDeferred hK1, ?_⟩⟩
    refine ⟨_, results_tmp rfl _ _ _, rfl, ?_⟩
    have hb3 : Below w.heap.size w w1 := (hB.alloc hbs _).grown hgrow (by simp; omega) (fun k hk => (hrow.lt k hk).1)
    exact hb3.trans (belowK_b (w := w) (Nat.le_refl _) w1 D _ _ (by simp at hD; omega) hK1 rfl rfl)
  case stop =>
    rintro D c pre W _ _ h _
    exact h.elim

theorem keyText_any (s : ByteArray) (w : World) (hs : s.size ≤ 35184372088832) :
    Calls Try.prog 51 #[.string s] w fun e w' => e = .returned (.string ⟨(Pl.keyText s.data.toList).toArray⟩) ∧ Below w.heap.size w w' :=
  callsIn_wide.1 (keyText_in 6 (by omega) s hs w)
end Go.Proofs.Ytiogjebekadmcaa
