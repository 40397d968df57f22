
/- Walks: a disk of blocks in memory: reads, Sync. Condition: lengths that memory lets. -/
import Derived.Test.YtndekdgpibipnaaWDev2
import Derived.Maps.OwnSet
namespace Go.Proofs.Ytndekdgpibipnaa
open Go.RowKit

theorem zero_string (w : World) : (zeroValue 9).run Try.prog w = .ok (.string .empty) w := by kernel_rfl
theorem mapOf_isMap (w : List (Nat × ByteArray)) : Maps.IsMap (mapOf w) := by
  refine Pl.snoc_ind (P := fun w => Maps.IsMap (mapOf w)) Maps.isMap_empty (fun l x ih => ?_) w
  rw [mapOf_snoc]; exact ih.put _ _
theorem mapOf_at (w : List (Nat × ByteArray)) (i : Nat) (z : DataW Unit) : (mapOf w).atKey (.int .i64 (i : Int)) z = match Pl.lastW w i with | some x => .lit (.string x.data.toList) | none => z := by
  refine Pl.snoc_ind (P := fun w => (mapOf w).atKey (.int .i64 (i : Int)) z = match Pl.lastW w i with | some x => .lit (.string x.data.toList) | none => z) rfl (fun l p ih => ?_) w
  rw [mapOf_snoc, Pl.lastW_snoc]
  by_cases h : p.1 = i
  · rw [if_pos h, h]; exact Maps.atKey_put_same (mapOf_isMap l) (show WideAt.IsKeyLit (.int .i64 (i : Int)) from trivial) _ _
  · rw [if_neg h, Maps.atKey_put_other (by intro e; injection e with _ e; omega)]; exact ih
theorem mapOf_has (w : List (Nat × ByteArray)) (i : Nat) : Maps.has (mapOf w) (.int .i64 (i : Int)) = (Pl.lastW w i).isSome := by
  cases h : Pl.lastW w i with
  | none => exact Maps.has_false_of_atKey (fun z => by rw [mapOf_at, h])
  | some x => exact Maps.has_true_of_atKey (y := .lit (.string x.data.toList)) (fun z => by rw [mapOf_at, h])
set_option maxRecDepth 100000 in
theorem look_str {w : List (Nat × ByteArray)} {i : Nat} {v : Value} {ps : List MemPlace} (h : plainElem (H := Unit) Try.prog 9 v = some ((mapOf w).atKey (.int .i64 (i : Int)) (.lit (.string [])), ps)) : v = .string ((Pl.lastW w i).getD .empty) := by
  obtain ⟨x, rfl, hz, _⟩ := plainElem_string_inv Try.underlying9 h
  rw [mapOf_at] at hz
  cases hl : Pl.lastW w i with
  | none =>
    rw [hl] at hz
    have hz' : ((DataW.lit (.string []) : DataW Unit), ps) = (.lit (.string x.data.toList), []) := hz
    injection hz' with h1 _
    injection h1 with h1
    injection h1 with h1
    exact congrArg Value.string (ByteArray.ext (Array.ext' (by rw [← h1]; rfl)))
  | some y =>
    rw [hl] at hz
    have hz' : ((DataW.lit (.string y.data.toList) : DataW Unit), ps) = (.lit (.string x.data.toList), []) := hz
    injection hz' with h1 _
    injection h1 with h1
    injection h1 with h1
    exact congrArg Value.string (ByteArray.ext (Array.ext' h1.symm))

variable {B d gs cs m : Nat} {vp : Value} {s : Pl.Dv} {fp : Nat → Prop} {W W' : World}
theorem DevO.safe_at (h : DevO B d gs cs vp m s fp W) (i : Nat) (hi : i < s.safe.length) : W.cell? ⟨gs, i, none⟩ = some (.string s.safe[i]) := by
  rw [h.safe.cellAt i (by omega), scells_get _ _ hi]
/-- a safe block turned -/
theorem DevO.setSafe (h : DevO B d gs cs vp m s fp W) {i : Nat} {x : ByteArray} (hx : x.size = 256) :
    DevO B d gs cs vp m { s with safe := s.safe.set i x } fp (W.setCell ⟨gs, i, none⟩ (.string x)) ∧ Step fp fp W (W.setCell ⟨gs, i, none⟩ (.string x)) := by
  have n1 := h.blk.not_row (by decide) h.safe
  have n5 := map_not_row h.map h.safe
  have hne : ∀ k, vp.ownBlock = some k → k ≠ gs := fun k e e2 => rows_apart h.wait h.safe (by decide) e (by rw [e2]; rfl)
  have kp : Keep (fun k => k ≠ gs) W (W.setCell ⟨gs, i, none⟩ (.string x)) := (Keep.refl _ W).setCell _ _ _ (fun h _ => h rfl)
  have s1 := (h.safe.stored i (.string x)).1
  rw [scells_set] at s1
  have hlt : ∀ k, fp k → k < (W.setCell ⟨gs, i, none⟩ (.string x)).heap.size := fun k hk => Nat.lt_of_lt_of_le (h.lt k hk) kp.size
  have e1 : (s.safe.set i x).length = s.safe.length := by simp
  refine ⟨⟨?_, ?_, kp.ownsRow h.wait hne, ownsMap_keep h.map kp (fun e => n5 (by rw [e]; rfl)), h.fd, h.fgs, h.fvp, h.fm, hlt, h.low, ⟨?_, ?_⟩⟩, kp.mono (fun k hn _ e => hn (e ▸ h.fgs)), fun _ h => .inl h, hlt⟩
  · simp only [e1]; exact h.blk.keep kp (fun e => n1 (by rw [e]; rfl))
  · simp only [e1]; exact s1
  · intro y hy
    rcases Pl.mem_set_of hy with h1 | rfl
    · exact h.wf.size y h1
    · exact hx
  · intro p hp
    simp only [e1]
    exact h.wf.wait p hp

set_option maxRecDepth 100000 in
theorem read_dead (i : Int) (h : DevAt B d s fp W) (hd : s.down = true) : Calls Try.prog 21 #[.pointer (some ⟨d, 0, none⟩), .int .i64 i] W fun e w' => e = .returned (.tuple #[.string .empty, .int .i64 4]) ∧ W = w' := by
  obtain ⟨gs, cs, vp, m, h⟩ := h
  have c3 := h.blk.cell 3
  simp [hd] at c3
  go_enter Try.func21, Try.ntmps21
  go_wp2
  go_ret2
  exact ⟨rfl, rfl⟩

set_option maxRecDepth 100000 in
theorem read_bad (i : Int) (h : DevAt B d s fp W) (hd : s.down = false) (hi : i < 0 ∨ (s.safe.length : Int) ≤ i) : Calls Try.prog 21 #[.pointer (some ⟨d, 0, none⟩), .int .i64 i] W fun e w' => e = .returned (.tuple #[.string .empty, .int .i64 1]) ∧ W = w' := by
  obtain ⟨gs, cs, vp, m, h⟩ := h
  have c3 := h.blk.cell 3
  have c0 := h.blk.cell 0
  simp [hd] at c3 c0
  by_cases h0 : i < 0
  · clear hi
    go_enter Try.func21, Try.ntmps21
    go_wp2
    go_ret2
    exact ⟨rfl, rfl⟩
  · have h1 : (s.safe.length : Int) ≤ i := by omega
    clear hi
    go_enter Try.func21, Try.ntmps21
    go_wp2
    go_ret2
    exact ⟨rfl, rfl⟩

set_option maxRecDepth 100000 in
theorem read_ok (i : Nat) (h : DevAt B d s fp W) (hd : s.down = false) (hi : i < s.safe.length) (hl : s.safe.length ≤ 9223372036854775807) : Calls Try.prog 21 #[.pointer (some ⟨d, 0, none⟩), .int .i64 (i : Int)] W fun e w' => e = .returned (.tuple #[.string (s.read i), .int .i64 0]) ∧ W = w' := by
  obtain ⟨gs, cs, vp, m, h⟩ := h
  have c3 := h.blk.cell 3
  have c0 := h.blk.cell 0
  have c2 := h.blk.cell 2
  simp [hd] at c3 c0 c2
  have hm := h.map
  have hat := h.safe_at i hi
  have hkey : keyOf Try.prog 3 (.int .i64 (i : Int)) = some (.int .i64 (i : Int)) := Maps.keyOf_int_mk Try.underlying3 (by simp [Lit.wf, IntKind.min, IntKind.max, IntKind.signed, IntKind.bits]; omega)
  have hhas := mapOf_has s.wait i
  have hrd : s.read i = (Pl.lastW s.wait i).getD s.safe[i] := by unfold Pl.Dv.read; simp [List.getD_eq_getElem?_getD, hi]
  rw [hrd]
  clear hrd hd
  cases hlw : Pl.lastW s.wait i with
  | none =>
    rw [hlw] at hhas
    replace hhas : Maps.has (mapOf s.wait) (.int .i64 (i : Int)) = false := hhas
    clear h
    go_enter Try.func21, Try.ntmps21
    go_wp2_with (at_lookup; go_must (refine wpList_lookup_own_ok _ rfl _ _ 89 rfl 3 9 (Maps.int_keyed Try.underlying3) Try.underlying89 _ (zero_string _) (.lit (.string [])) [] (plainElem_string Try.underlying9 (s := ByteArray.empty) (by decide)) m s.wait.length _ rfl hm _ _ rfl hkey ?_; intro v ps hv; rw [hhas]; obtain rfl := look_str hv))
    go_ret2
    exact ⟨rfl, rfl⟩
  | some x =>
    rw [hlw] at hhas
    replace hhas : Maps.has (mapOf s.wait) (.int .i64 (i : Int)) = true := hhas
    clear h
    go_enter Try.func21, Try.ntmps21
    go_wp2_with (at_lookup; go_must (refine wpList_lookup_own_ok _ rfl _ _ 89 rfl 3 9 (Maps.int_keyed Try.underlying3) Try.underlying89 _ (zero_string _) (.lit (.string [])) [] (plainElem_string Try.underlying9 (s := ByteArray.empty) (by decide)) m s.wait.length _ rfl hm _ _ rfl hkey ?_; intro v ps hv; rw [hhas]; obtain rfl := look_str hv; rw [hlw]))
    go_ret2
    exact ⟨rfl, rfl⟩
end Go.Proofs.Ytndekdgpibipnaa
