
/- Walks: the document's lists of a row. Condition: rows whose bytes fit. -/
import Derived.Test.YtiogjebekadmcaaWSame
import Derived.Test.YtiogjebekadmcaaPlainCt
import Derived.Test.YtiogjebekadmcaaPlainMg
import Derived.Test.YtiogjebekadmcaaOwn
import Derived.BigQuiet
namespace Go.Proofs.Ytiogjebekadmcaa
open Go.RowKit

theorem wrap_vsz' (a : Nat) (z : Ver) : wrap64 (wrap64 (wrap64 (wrap64 (a : Int) + (z.key.size : Int)) + (z.val.size : Int)) + 16) = wrap64 ((a + Pl.vsz z : Nat) : Int) := by
  unfold Pl.vsz wrap64; omega

set_option maxRecDepth 100000 in
set_option maxHeartbeats 2000000 in
theorem bytes_any (v : Value) (l : List Ver) (w : World) (hv : VersAt w v l) :
    Calls Try.prog 36 #[v] w fun e w' => e = .returned (.int .i64 (wrap64 (Pl.vsum l : Int))) ∧ Q w w' := by
  obtain ⟨a1, c1, rfl, d1, d2, hu⟩ := hv
  have hl : l.length ≤ 9223372036854775807 := by omega
  go_enter Try.func36, Try.ntmps36
  go_wp2
  go_loopw [3, 4] (fun m i wr => ∃ k n : Nat, k ≤ l.length ∧ i = .int .i64 k ∧ m = .int .i64 (wrap64 (Pl.vsum (l.take k) : Int)) ∧ wr = w.drewN n) (fun _ i _ => l.length - (intOf i).toNat)
  case atStart => exact ⟨0, 0, by omega, rfl, by simp [Pl.vsum, wrap64], rfl⟩
  case round =>
    obtain ⟨k, n, hk, rfl, rfl, rfl⟩ := hrel
    by_cases h1 : k < l.length
    · obtain ⟨b1, o1, rfl, hc1⟩ := hu (by omega)
      obtain ⟨x0, x1, x2, x3⟩ := hc1.2 k h1
      have hsn : Pl.vsum (l.take (k + 1)) = Pl.vsum (l.take k) + Pl.vsz l[k] := by
        rw [List.take_succ_eq_append_getElem h1, Pl.vsum_append _ [_], Pl.vsum_one]
      replace hsn := Lib.hid hsn
      clear hc1 hu
      go_wp2
      go_quiet (fail)
      go_wp2
      go_roundw
      case rel => exact ⟨k + 1, _, by omega, by go_num, by rw [hsn.out, ← wrap_vsz'], rfl⟩
      case measure => simp [intOf]; omega
    · obtain rfl : k = l.length := by omega
      go_wp2
      go_ret
      exact ⟨ret_int (by rw [List.take_of_length_le (Nat.le_refl _)]), (Q.refl w).drewN n⟩
/-- a part of a row -/
theorem VersAt.seg {W : World} {ao : Option Addr} {cap : Nat} {l : List Ver} (h : VersAt W (.slice ao l.length cap) l) {a b : Nat} (hab : a ≤ b) (hb : b ≤ l.length) (ha : a < l.length) :
    ∃ blk off, ao = some ⟨blk, off, none⟩ ∧ VersAt W (.slice (some ⟨blk, off + a * 4, none⟩) (b - a) (cap - a)) (Pl.seg l a b) := by
  obtain ⟨_, _, e, h1, h2, hr⟩ := h
  cases e
  obtain ⟨blk, off, rfl, hrr⟩ := hr (by omega)
  refine ⟨blk, off, rfl, _, _, by rw [Pl.seg_length l hb], by rw [Pl.seg_length l hb]; omega, by omega, fun _ => ⟨blk, off + a * 4, rfl, hrr.1, fun i hi => ?_⟩⟩
  rw [Pl.seg_get l hb hi]
  rw [Pl.seg_length l hb] at hi
  have := hrr.2 (a + i) (by omega)
  rwa [show off + (a + i) * 4 = off + a * 4 + i * 4 by omega] at this

/-- lists, in values -/
def ListsAt (W : World) (vs : List Value) (ls : List (List Ver)) : Prop := vs.length = ls.length ∧ ∀ i (h : i < vs.length) (h' : i < ls.length), VersAt W vs[i] ls[i]
theorem ListsAt.nil (W : World) : ListsAt W [] [] := ⟨rfl, fun i h => by simp at h⟩
theorem ListsAt.snoc {W : World} {vs : List Value} {ls : List (List Ver)} {v : Value} {l : List Ver} (h : ListsAt W vs ls) (hv : VersAt W v l) : ListsAt W (vs ++ [v]) (ls ++ [l]) := by
  refine ⟨by simp [h.1], fun i h1 h2 => ?_⟩
  by_cases h3 : i < vs.length
  · rw [List.getElem_append_left h3, List.getElem_append_left (by rw [← h.1]; exact h3)]
    exact h.2 i h3 (by rw [← h.1]; exact h3)
  · have : i = vs.length := by simp at h1; omega
    subst this
    rw [List.getElem_append_right (Nat.le_refl _), List.getElem_append_right (by rw [h.1]; exact Nat.le_refl _)]
    simpa using hv
theorem ListsAt.below {W W' : World} {vs : List Value} {ls : List (List Ver)} (h : ListsAt W vs ls) (hb : Below W.heap.size W W') : ListsAt W' vs ls := ⟨h.1, fun i h1 h2 => (h.2 i h1 h2).below hb⟩
theorem info_vers : (Try.prog.info? 22).map (fun i => (i.zero, i.size, i.bytes)) = some (some (.slice none 0 0), 1, 24) := by kernel_rfl
/-- has a list enough bytes? -/
def bigB (by' : Int) (l : List Ver) : Bool := decide (by' ≤ wrap64 (Pl.vsum l : Int))

theorem rc_cut {big : List Ver → Bool} {l : List Ver} {outs : List (List Ver)} {from' i : Nat} (hf : from' ≤ i) (hi : i < l.length) (hr : outs ++ Pl.rc big (Pl.seg l from' i) (l.drop i) = Pl.rc big [] l)
    (h : (l.drop (i + 1)).isEmpty = true ∨ (Pl.lastOf l[i] (l.drop (i + 1)) = true ∧ big (Pl.seg l from' (i + 1)) = true)) : (outs ++ [Pl.seg l from' (i + 1)]) ++ Pl.rc big (Pl.seg l (i + 1) (i + 1)) (l.drop (i + 1)) = Pl.rc big [] l := by
  have e : Pl.seg l from' (i + 1) = Pl.seg l from' i ++ [l[i]] := by
    have := Pl.seg_split l hf (show i < i + 1 by omega) (show i + 1 ≤ l.length by omega)
    rw [this]
    congr 1
    simp [Pl.seg]
  have e2 : Pl.seg l (i + 1) (i + 1) = [] := by simp [Pl.seg]
  rw [← hr, List.drop_eq_getElem_cons hi, e2, List.append_assoc]
  congr 1
  conv => rhs; unfold Pl.rc
  rw [← e, if_pos (by
    rw [Bool.or_eq_true, Bool.and_eq_true]
    exact h)]
  rfl
theorem rc_on {big : List Ver → Bool} {l : List Ver} {outs : List (List Ver)} {from' i : Nat} (hf : from' ≤ i) (hi : i < l.length) (hr : outs ++ Pl.rc big (Pl.seg l from' i) (l.drop i) = Pl.rc big [] l)
    (h : (l.drop (i + 1)).isEmpty = false ∧ (Pl.lastOf l[i] (l.drop (i + 1)) = false ∨ big (Pl.seg l from' (i + 1)) = false)) : outs ++ Pl.rc big (Pl.seg l from' (i + 1)) (l.drop (i + 1)) = Pl.rc big [] l := by
  have e : Pl.seg l from' (i + 1) = Pl.seg l from' i ++ [l[i]] := by
    have := Pl.seg_split l hf (show i < i + 1 by omega) (show i + 1 ≤ l.length by omega)
    rw [this]
    congr 1
    simp [Pl.seg]
  rw [← hr, List.drop_eq_getElem_cons hi]
  congr 1
  conv => rhs; unfold Pl.rc
  rw [← e, if_neg (by
    rw [Bool.or_eq_true, Bool.and_eq_true, h.1]
    rcases h.2 with h | h <;> rw [h] <;> simp)]
theorem last_end {l : List Ver} {i : Nat} (h : i + 1 = l.length) : (l.drop (i + 1)).isEmpty = true := by rw [h]; simp
theorem last_not {l : List Ver} {i : Nat} (h : i + 1 < l.length) : (l.drop (i + 1)).isEmpty = false ∧ Pl.lastOf (l[i]'(by omega)) (l.drop (i + 1)) = !(l[i + 1].key.toList == (l[i]'(by omega)).key.toList) := by
  rw [List.drop_eq_getElem_cons h]
  exact ⟨rfl, rfl⟩

set_option maxRecDepth 100000 in
set_option maxHeartbeats 4000000 in
theorem refCut_any (v : Value) (l : List Ver) (by' : Int) (w : World) (hv : VersAt w v l) (hl : l.length ≤ 2932031007317) :
    Calls Try.prog 15 #[v, .int .i64 by'] w fun e w' => ∃ v' vs, e = .returned v' ∧ ListsAt w vs (Pl.cutsOf (bigB by') l) ∧ Own w.heap.size 22 1 v' vs.length vs w w' := by
  have hv0 := hv
  obtain ⟨ao, cap, rfl, d1, d2, hrow⟩ := hv
  go_enter Try.func15, Try.ntmps15
  go_wp2
  go_loopw [5, 6, 7] (fun o f i wr => ∃ (j from' : Nat) (vs : List Value) (outs : List (List Ver)), from' ≤ j ∧ j ≤ l.length ∧ i = .int .i64 j ∧ f = .int .i64 from' ∧ vs.length ≤ j ∧ ListsAt w vs outs ∧ Hid (outs ++ Pl.rc (bigB by') (Pl.seg l from' j) (l.drop j) = Pl.rc (bigB by') [] l) ∧
    Own w.heap.size 22 1 o vs.length vs w wr) (fun _ _ i _ => l.length - (intOf i).toNat)
  case atStart => exact ⟨0, 0, [], [], by omega, by omega, rfl, rfl, by simp, ListsAt.nil _, Lib.hid (by simp [Pl.seg]), Own.nil (Below.refl _ _) (Nat.le_refl _)⟩
  case round =>
    obtain ⟨j, from', vs, outs, hfj, hj, rfl, rfl, hvl, hls, HR, hown⟩ := hrel
    by_cases h1 : j < l.length
    · have hv1 := hv0.below (hown.below.mono (Nat.le_refl _))
      obtain ⟨b, off, rfl, hseg⟩ := hv0.seg (a := from') (b := j + 1) (by omega) (by omega) (by omega)
      obtain ⟨_, _, e1, hr1⟩ := hrow (by omega)
      cases e1
      replace hr1 := hr1.below (hown.below.mono (Nat.le_refl _))
      obtain ⟨x0, _, _, _⟩ := hr1.2 j h1
      have hw1 : IntKind.i64.wrap ((j : Int) + 1) = (j : Int) + 1 := IntWalk.i64_in _ (by omega)
      have hcap : from' < cap := by omega
      have hb2 := fun n => Lib.hid (bytes_any (.slice (some ⟨b, off + from' * 4, none⟩) (j + 1 - from') (cap - from')) (Pl.seg l from' (j + 1)) (w := n))
      have hseg1 := hseg.below hown.below
      clear hv0 hrow
      by_cases h2 : j + 1 = l.length
      · have hd : ((j : Int) + 1 == (l.length : Int)) = true := by simp; omega
        have HR' := Lib.hid (rc_cut hfj h1 HR.out (.inl (last_end h2)))
        have h3 : j + 1 ≤ l.length := by omega
        clear h2 HR
        go_wp2
        go_quiet (fail)
        go_wp2_with fail
        ((with_reducible refine ((hb2 _).out (hseg1.quiet ((Q.refl wr).drewN nq))).mono ?_); rintro e w2 ⟨rfl, n2, rfl⟩)
        have hown2 := hown.drewN (nq + n2)
        go_wp2_with (at_builtin; go_must (refine wpList_app (by rfl) _ _ 37 (by rfl) w.heap.size 22 (.slice none 0 0) 1 24 Try.underlying37 info_vers rfl (by decide) _ vs.length vs w _ hown2 (by rfl) #[.slice (some ⟨b, off + from' * 4, none⟩) (j + 1 - from') (cap - from')] 1 (by rfl) (by rfl) (by simp [Value.oneCell']) (by omega) (by omega) ?_; intro o1 w1 hown1))
        go_roundw
        case rel => exact ⟨j + 1, j + 1, vs ++ [.slice (some ⟨b, off + from' * 4, none⟩) (j + 1 - from') (cap - from')], outs ++ [Pl.seg l from' (j + 1)], by omega, by omega, by go_num, by go_num, by simp; omega, hls.snoc hseg, HR', by simpa using hown1⟩
        case measure => simp [intOf]; omega
      · have h3 : j + 1 < l.length := by omega
        have hd : ((j : Int) + 1 == (l.length : Int)) = false := by simp; omega
        obtain ⟨y0, _, _, _⟩ := hr1.2 (j + 1) h3
        have hln := last_not h3
        cases e4 : l[j + 1].key.toList == l[j].key.toList
        · rw [e4] at hln
          cases e5 : bigB by' (Pl.seg l from' (j + 1))
          · have HR' := Lib.hid (rc_on hfj h1 HR.out ⟨hln.1, .inr e5⟩)
            have h5 : ¬ by' ≤ wrap64 (Pl.vsum (Pl.seg l from' (j + 1)) : Int) := by unfold bigB at e5; simpa using e5
            clear h2 HR e5 hln
            go_wp2
            go_quiet (fail)
            go_wp2_with fail
            ((with_reducible refine ((hb2 _).out (hseg1.quiet ((Q.refl wr).drewN nq))).mono ?_); rintro e w2 ⟨rfl, n2, rfl⟩)
            have hown2 := hown.drewN (nq + n2)
            go_wp2
            go_roundw
            case rel => exact ⟨j + 1, from', vs, outs, by omega, by omega, by go_num, rfl, by omega, hls, HR', hown2⟩
            case measure => simp [intOf]; omega
          · have HR' := Lib.hid (rc_cut hfj h1 HR.out (.inr ⟨hln.2, e5⟩))
            have h5 : by' ≤ wrap64 (Pl.vsum (Pl.seg l from' (j + 1)) : Int) := by unfold bigB at e5; simpa using e5
            clear h2 HR e5 hln
            go_wp2
            go_quiet (fail)
            go_wp2_with fail
            ((with_reducible refine ((hb2 _).out (hseg1.quiet ((Q.refl wr).drewN nq))).mono ?_); rintro e w2 ⟨rfl, n2, rfl⟩)
            have hown2 := hown.drewN (nq + n2)
            go_wp2_with (at_builtin; go_must (refine wpList_app (by rfl) _ _ 37 (by rfl) w.heap.size 22 (.slice none 0 0) 1 24 Try.underlying37 info_vers rfl (by decide) _ vs.length vs w _ hown2 (by rfl) #[.slice (some ⟨b, off + from' * 4, none⟩) (j + 1 - from') (cap - from')] 1 (by rfl) (by rfl) (by simp [Value.oneCell']) (by omega) (by omega) ?_; intro o1 w1 hown1))
            go_roundw
            case rel => exact ⟨j + 1, j + 1, vs ++ [.slice (some ⟨b, off + from' * 4, none⟩) (j + 1 - from') (cap - from')], outs ++ [Pl.seg l from' (j + 1)], by omega, by omega, by go_num, by go_num, by simp; omega, hls.snoc hseg, HR', by simpa using hown1⟩
            case measure => simp [intOf]; omega
        · rw [e4] at hln
          have HR' := Lib.hid (rc_on hfj h1 HR.out ⟨hln.1, .inl hln.2⟩)
          clear h2 HR hln
          go_wp2
          go_quiet (fail)
          go_wp2_with fail
          ((with_reducible refine ((hb2 _).out (hseg1.quiet ((Q.refl wr).drewN nq))).mono ?_); rintro e w2 ⟨rfl, n2, rfl⟩)
          have hown2 := hown.drewN (nq + n2)
          go_wp2
          go_roundw
          case rel => exact ⟨j + 1, from', vs, outs, by omega, by omega, by go_num, rfl, by omega, hls, HR', hown2⟩
          case measure => simp [intOf]; omega
    · obtain rfl : j = l.length := by omega
      have HR' : outs = Pl.cutsOf (bigB by') l := by
        rw [Pl.cuts_rc, ← HR.out, List.drop_length]; simp [Pl.rc]
      replace HR' := Lib.hid HR'
      clear HR
      go_wp2
      go_ret
      exact ⟨_, vs, rfl, by rw [← HR'.out]; exact hls, hown⟩
end Go.Proofs.Ytiogjebekadmcaa
