
/- Walks: the document's groups, and whether two lists of pairs are alike. Condition: rows whose bytes fit. -/
import Derived.Test.YtiogjebekadmcaaWColl9
import Derived.BigQuiet
import Derived.StillTailTactics
namespace Go.Proofs.Ytiogjebekadmcaa
open Go.RowKit

theorem pcells_get : ∀ (l : List Pl.PV) (i : Nat) (h : i < l.length), (pcells l)[i * 2]? = some (.string l[i].1) ∧ (pcells l)[i * 2 + 1]? = some (.string l[i].2)
  | x :: l, 0, _ => ⟨rfl, rfl⟩
  | x :: l, i + 1, h => by
    have := pcells_get l i (by simpa using h)
    rw [show (i + 1) * 2 = i * 2 + 1 + 1 from by omega]
    simpa [pcells] using this
theorem vcells_get : ∀ (l : List Ver) (i : Nat) (h : i < l.length), (vcells l)[i * 4]? = some (.string l[i].key) ∧ (vcells l)[i * 4 + 1]? = some (.int .u64 (l[i].seq : Int)) ∧ (vcells l)[i * 4 + 2]? = some (.bool l[i].del) ∧ (vcells l)[i * 4 + 3]? = some (.string l[i].val)
  | x :: l, 0, _ => ⟨rfl, rfl, rfl, rfl⟩
  | x :: l, i + 1, h => by
    have := vcells_get l i (by simpa using h)
    rw [show (i + 1) * 4 = i * 4 + 1 + 1 + 1 + 1 from by omega]
    simpa [vcells] using this

/-- in W, v is a slice of these pairs -/
def PairsAt (W : World) (v : Value) (l : List Pl.PV) : Prop :=
  ∃ (ao : Option Addr) (cap : Nat), v = .slice ao l.length cap ∧ l.length ≤ cap ∧ (0 < l.length → ∃ b off, ao = some ⟨b, off, none⟩ ∧ b < W.heap.size ∧ ∀ i (hi : i < l.length), W.cell? ⟨b, off + i * 2, none⟩ = some (.string l[i].1) ∧ W.cell? ⟨b, off + i * 2 + 1, none⟩ = some (.string l[i].2))
theorem PairsAt.below {W W' : World} {v : Value} {l : List Pl.PV} (h : PairsAt W v l) (hb : Below W.heap.size W W') : PairsAt W' v l := by
  obtain ⟨ao, cap, rfl, h1, h⟩ := h
  refine ⟨ao, cap, rfl, h1, fun h0 => ?_⟩
  obtain ⟨b, off, he, hB, hc⟩ := h h0
  exact ⟨b, off, he, Nat.lt_of_lt_of_le hB hb.size, fun i hi => ⟨(hb.cell (p := ⟨b, off + i * 2, none⟩) hB).trans (hc i hi).1, (hb.cell (p := ⟨b, off + i * 2 + 1, none⟩) hB).trans (hc i hi).2⟩⟩
theorem own_at {W : World} {base n sz : Nat} {e : TypeId} {v : Value} {xs : List Value} (h : W.ownsRow base e sz v n xs) :
    (n = 0 ∧ v = .slice none 0 0) ∨ ∃ g cap, v = .slice (some ⟨g, 0, none⟩) n cap ∧ base ≤ g ∧ g < W.heap.size ∧ n ≤ cap ∧ cap ≤ 9223372036854775807 ∧ ∀ j, j < n * sz → W.cell? ⟨g, j, none⟩ = xs[j]? := by
  have h' := h
  rcases h.2 with ⟨rfl, h0⟩ | ⟨g, cap, cur, rfl, h1, h2, h3, h4, _⟩
  · exact .inl ⟨h0, rfl⟩
  · exact .inr ⟨g, cap, rfl, h1, (Array.getElem?_eq_some_iff.1 h2).1, h3, by unfold maxLen at h4; exact h4, fun j hj => h'.cellAt j hj⟩
theorem own_pairs {W : World} {base : Nat} {v : Value} {l : List Pl.PV} (h : W.ownsRow base 72 2 v l.length (pcells l)) : PairsAt W v l := by
  rcases own_at h with ⟨h0, rfl⟩ | ⟨g, cap, rfl, h1, h2, h3, h4, hc⟩
  · exact ⟨none, 0, by rw [h0], by omega, fun h => by omega⟩
  · refine ⟨_, cap, rfl, h3, fun _ => ⟨g, 0, rfl, h2, fun i hi => ?_⟩⟩
    have hp := pcells_get l i hi
    simp only [Nat.zero_add]
    exact ⟨(hc _ (by omega)).trans hp.1, (hc _ (by omega)).trans hp.2⟩
theorem own_vers {W : World} {base : Nat} {v : Value} {l : List Ver} (h : W.ownsRow base 44 4 v l.length (vcells l)) : VersAt W v l := by
  rcases own_at h with ⟨h0, rfl⟩ | ⟨g, cap, rfl, h1, h2, h3, h4, hc⟩
  · exact ⟨none, 0, by rw [h0], by omega, by omega, fun h => by omega⟩
  · refine ⟨_, cap, rfl, h3, h4, fun _ => ⟨g, 0, rfl, h2, fun i hi => ?_⟩⟩
    have hp := vcells_get l i hi
    simp only [Nat.zero_add]
    exact ⟨(hc _ (by omega)).trans hp.1, (hc _ (by omega)).trans hp.2.1, (hc _ (by omega)).trans hp.2.2.1, (hc _ (by omega)).trans hp.2.2.2⟩
theorem PairsAt.take {W : World} {v : Value} {l : List Pl.PV} (h : PairsAt W v l) (n : Nat) (hn : n ≤ l.length) : ∃ ao cap, v = .slice ao l.length cap ∧ l.length ≤ cap ∧ PairsAt W (.slice ao n cap) (l.take n) := by
  obtain ⟨ao, cap, rfl, h1, h⟩ := h
  have e : (l.take n).length = n := by rw [List.length_take]; omega
  refine ⟨ao, cap, rfl, h1, ao, cap, by rw [e], by omega, fun h0 => ?_⟩
  rw [e] at h0
  obtain ⟨b, off, he, hB, hc⟩ := h (by omega)
  exact ⟨b, off, he, hB, fun i hi => by rw [e] at hi; rw [List.getElem_take]; exact hc i (by omega)⟩

set_option maxRecDepth 100000 in
set_option maxHeartbeats 2000000 in
theorem samePairs_same (u v : Value) (l : List Pl.PV) (w : World) (hu : PairsAt w u l) (hv : PairsAt w v l) (hl : l.length ≤ 9223372036854775807) :
    Calls Try.prog 14 #[u, v] w fun e w' => e = .returned (.bool true) ∧ Q w w' := by
  obtain ⟨a1, c1, rfl, _, hu⟩ := hu
  obtain ⟨a2, c2, rfl, _, hv⟩ := hv
  go_enter Try.func14, Try.ntmps14
  go_wp2
  go_loopw [5] (fun i wr => ∃ k n : Nat, k ≤ l.length ∧ i = .int .i64 k ∧ wr = w.drewN n) (fun i _ => l.length - (intOf i).toNat)
  case atStart => exact ⟨0, 0, by omega, rfl, rfl⟩
  case round =>
    obtain ⟨k, n, hk, rfl, rfl⟩ := hrel
    by_cases h1 : k < l.length
    · obtain ⟨b1, o1, rfl, _, hc1⟩ := hu (by omega)
      obtain ⟨b2, o2, rfl, _, hc2⟩ := hv (by omega)
      obtain ⟨x0, x1⟩ := hc1 k h1
      obtain ⟨y0, y1⟩ := hc2 k h1
      clear hc1 hc2 hu hv
      go_wp2
      go_quiet (fail)
      go_wp2
      go_roundw
      case rel => exact ⟨k + 1, _, by omega, by go_num, rfl⟩
      case measure => simp [intOf]; omega
    · go_wp2
      go_ret
      exact ⟨rfl, (Q.refl w).drewN n⟩

theorem icells_get (l : List Nat) (i : Nat) (h : i < l.length) : (l.map fun (i : Nat) => Value.int .i64 (i : Int))[i]? = some (.int .i64 (l[i] : Int)) := by simp [h]
/-- the cells of numbers -/
def icells (l : List Nat) : List Value := l.map fun (i : Nat) => Value.int .i64 (i : Int)
theorem icells_snoc (l : List Nat) (x : Nat) : icells l ++ (#[Value.int .i64 (x : Int)] : Array Value).toList = icells (l ++ [x]) := by simp [icells]
theorem info_int : (Try.prog.info? 3).map (fun i => (i.zero, i.size, i.bytes)) = some (some (.int .i64 0), 1, 8) := by kernel_rfl

set_option maxRecDepth 100000 in
set_option maxHeartbeats 2000000 in
theorem groups_any (v : Value) (l : List Ver) (w : World) (hv : VersAt w v l) (hl : l.length ≤ 2932031007317) :
    Calls Try.prog 35 #[v] w fun e w' => ∃ v', e = .returned v' ∧ ∃ g, Pl.GroupsOf l g ∧ g.length ≤ l.length + 1 ∧ Own w.heap.size 3 1 v' g.length (icells g) w w' := by
  obtain ⟨ao, cap, rfl, _, _, hv⟩ := hv
  go_enter Try.func35, Try.ntmps35
  go_wp2
  go_loopw [3, 4] (fun o i wr => ∃ (j : Nat) (out : List Nat), j ≤ l.length ∧ i = .int .i64 j ∧ out.length ≤ j ∧ Hid (Pl.GInv l j out) ∧ Own w.heap.size 3 1 o out.length (icells out) w wr) (fun _ i _ => l.length - (intOf i).toNat)
  case atStart => exact ⟨0, [], by omega, rfl, by simp, Lib.hid (Pl.GInv.nil l), Own.nil (Below.refl _ _) (Nat.le_refl _)⟩
  case round =>
    obtain ⟨j, out, hj, rfl, hol, HG, hown⟩ := hrel
    by_cases h1 : j < l.length
    · obtain ⟨b, off, rfl, hrow⟩ := hv (by omega)
      replace hrow := hrow.below (hown.below.mono (Nat.le_refl _))
      by_cases h0 : j = 0
      · subst h0
        have HG' := Lib.hid (HG.out.yes (.inl rfl))
        clear HG hrow
        go_wp2
        go_quiet (fail)
        go_wp2_with (at_builtin; go_must (refine wpList_app (by rfl) _ _ 74 (by rfl) w.heap.size 3 (.int .i64 0) 1 8 Try.underlying74 info_int rfl (by decide) _ out.length (icells out) w _ (hown.drewN nq) (by rfl) #[.int .i64 0] 1 (by rfl) (by rfl) (by simp [Value.oneCell']) (by omega) (by omega) ?_; intro v' w1 hown1))
        go_roundw
        case rel => exact ⟨0 + 1, out ++ [0], by omega, by go_num, by rw [List.length_append, List.length_singleton]; omega, HG', by
          rw [← icells_snoc, List.length_append, List.length_singleton]
          exact hown1⟩
        case measure => simp [intOf]; omega
      · obtain ⟨m, rfl⟩ : ∃ m, j = m + 1 := ⟨j - 1, by omega⟩
        obtain ⟨x0, _, _, _⟩ := hrow.2 (m + 1) h1
        obtain ⟨y0, _, _, _⟩ := hrow.2 m (by omega)
        have hwr : IntKind.i64.wrap ((m : Int) + 1 - 1) = (m : Int) := IntWalk.i64_in _ (by omega) |>.trans (by omega)
        have hlt1 : m < l.length := by omega
        have hd0 : (((m : Int) + 1) == 0) = false := by simp; omega
        have hd1 : (m : Int) + 1 - 1 = (m : Int) := by omega
        have hst : ∀ b, (l[m + 1].key.toList == l[m].key.toList) = b → (Pl.isStart l (m + 1) ↔ b = false) := by
          intro b hb
          subst hb
          rw [beq_eq_false_iff_ne]
          exact ⟨fun h => h.elim (fun e => absurd e (by omega)) (fun ⟨_, _, h⟩ => h), fun h => .inr ⟨h1, hlt1, h⟩⟩
        cases e4 : l[m + 1].key.toList == l[m].key.toList
        · have HG' := Lib.hid (HG.out.yes ((hst _ e4).2 rfl))
          clear HG hrow hst
          go_wp2
          go_quiet (fail)
          go_wp2_with (at_builtin; go_must (refine wpList_app (by rfl) _ _ 74 (by rfl) w.heap.size 3 (.int .i64 0) 1 8 Try.underlying74 info_int rfl (by decide) _ out.length (icells out) w _ (hown.drewN nq) (by rfl) #[.int .i64 ((m + 1 : Nat) : Int)] 1 (by rfl) (by rfl) (by simp [Value.oneCell']) (by omega) (by omega) ?_; intro v' w1 hown1))
          go_roundw
          case rel => exact ⟨m + 1 + 1, out ++ [m + 1], by omega, by go_num, by rw [List.length_append, List.length_singleton]; omega, HG', by
            rw [← icells_snoc, List.length_append, List.length_singleton]
            exact hown1⟩
          case measure => simp [intOf]; omega
        · have HG' := Lib.hid (HG.out.no (fun h => by cases (hst _ e4).1 h))
          clear HG hrow hst
          go_wp2
          go_quiet (fail)
          go_wp2
          go_roundw
          case rel => exact ⟨m + 1 + 1, out, by omega, by go_num, by omega, HG', hown.drewN nq⟩
          case measure => simp [intOf]; omega
    · obtain rfl : j = l.length := by omega
      go_wp2_with (at_builtin; go_must (refine wpList_app (by rfl) _ _ 74 (by rfl) w.heap.size 3 (.int .i64 0) 1 8 Try.underlying74 info_int rfl (by decide) _ out.length (icells out) w _ hown (by rfl) #[.int .i64 (l.length : Int)] 1 (by rfl) (by rfl) (by simp [Value.oneCell']) (by omega) (by omega) ?_; intro v' w1 hown1))
      go_ret
      refine ⟨_, rfl, out ++ [l.length], ⟨out, rfl, HG.out⟩, by rw [List.length_append, List.length_singleton]; omega, ?_⟩
      · rw [← icells_snoc, List.length_append, List.length_singleton]
        exact hown1
end Go.Proofs.Ytiogjebekadmcaa
