
/- Walk: the law FrameWalks returns true. Condition: bytes that are not many. -/
import Derived.Test.YtlchkpmmemdjcaaWRefAll
import Derived.Test.YtlchkpmmemdjcaaWShown
import Derived.Test.YtlchkpmmemdjcaaMarks
import Derived.Test.YtlchkpmmemdjcaaRoundQ
import Derived.Test.YtlchkpmmemdjcaaColl
namespace Go.Proofs.Ytlchkpmmemdjcaa
open Go.RowKit Go.Shelf

attribute [local go_sem] Oper.semAt_some

/-- in W, frames and their places lie in the block b -/
def AtsIn (W : World) (b : Nat) (l : List Pl.AtF) : Prop := b < W.heap.size ∧ ∀ i (hi : i < l.length), W.cell? ⟨b, i * 3, none⟩ = some (.int .i64 (l[i].1 : Int)) ∧ W.cell? ⟨b, i * 3 + 1, none⟩ = some (.int .u8 (l[i].2.1.toNat : Int)) ∧ W.cell? ⟨b, i * 3 + 2, none⟩ = some (.string ⟨l[i].2.2.toArray⟩)
theorem own_ats {W : World} {base : Nat} {v : Value} {l : List Pl.AtF} {k : Nat} (h : W.ownsRow base 64 3 v k (acells l)) (hk : k = l.length) : ∃ (ao : Option Addr) (cap : Nat), v = .slice ao k cap ∧ (0 < k → ∃ b, ao = some ⟨b, 0, none⟩ ∧ base ≤ b ∧ AtsIn W b l) := by
  have h' := h
  rcases h.2 with ⟨rfl, h0⟩ | ⟨g, cap, cur, rfl, h1, h2, _, _, _⟩
  · exact ⟨none, 0, by rw [h0], fun h => by omega⟩
  · refine ⟨_, cap, rfl, fun _ => ⟨g, rfl, h1, (Array.getElem?_eq_some_iff.1 h2).1, fun i hi => ?_⟩⟩
    have hp := acells_get l i hi
    exact ⟨(h'.cellAt _ (by omega)).trans hp.1, (h'.cellAt _ (by omega)).trans hp.2.1, (h'.cellAt _ (by omega)).trans hp.2.2⟩
theorem results_bool {fn : Func} {p : Tmp} (h : fn.results = #[.cell p 4]) {tmps : Array Value} {b : Nat} {v : Value} {w : World} (hp : tmps.getD p undef = .pointer (some ⟨b, 0, none⟩)) (hc : w.cell? ⟨b, 0, none⟩ = some v) :
    (results fn tmps).run Try.prog w = .ok v w := by
  have hp' : tmps[p]?.getD undef = .pointer (some ⟨b, 0, none⟩) := by simpa using hp
  have hu := Try.underlying4
  have hl : (loadVar 4 ⟨b, 0, none⟩).run Try.prog w = .ok v w := by simp [loadVar, isAgg, Sem.run_bind, run_underlying hu w, go_sem, hc]
  simp [results, h, hp', asAddr, hl]
/-- how many rounds are still to come, by the variable that counts them -/
def roundsLeft (v : Value) (W : World) : Nat := match v with | .pointer (some p) => 2 - (intOf ((W.cell? p).getD undef)).toNat | _ => 0
theorem keep_or {f g : Nat → Prop} {A B : World} (h : Keep f A B) (k : Keep g A B) : Keep (fun i => f i ∨ g i) A B :=
  ⟨h.os, h.tape, h.output, h.size, fun i hi hl => hi.elim (fun e => h.block i e hl) (fun e => k.block i e hl)⟩
theorem AtsIn.keep {W W' : World} {b : Nat} {l : List Pl.AtF} {fp : Nat → Prop} (h : AtsIn W b l) (hk : Keep fp W W') (hf : fp b) : AtsIn W' b l :=
  ⟨Nat.lt_of_lt_of_le h.1 hk.size, fun i hi => ⟨hk.cell hf (h.2 i hi).1, hk.cell hf (h.2 i hi).2.1, hk.cell hf (h.2 i hi).2.2⟩⟩

set_option maxRecDepth 100000 in
set_option maxHeartbeats 2000000 in
theorem frameWalks_any (s : ByteArray) (early : Int) (w : World) (hs : s.size ≤ 1048575) :
    Calls Try.prog 11 #[.string s, .int .i64 early] w fun e w' => e = .returned (.bool true) ∧ Below w.heap.size w w' := by
  have hsz := Pl.size_data s
  have bA := (Boxed.new w 3 (.int .i64 early)).alloc (.cells #[.bool false] 4)
  have bR := Boxed.new (w.alloc (.cells #[.int .i64 early] 3)) 4 (.bool false)
  simp only [World.size_alloc] at bR
  have hb0 : Below w.heap.size w ((w.alloc (.cells #[.int .i64 early] 3)).alloc (.cells #[.bool false] 4)) := ((Below.refl _ _).alloc (Nat.le_refl _) _).alloc (by simp) _
  have hz0 : ((w.alloc (.cells #[.int .i64 early] 3)).alloc (.cells #[.bool false] 4)).heap.size = w.heap.size + 2 := by simp
  have P1 := Lib.hid shown_any
  have P2 := Lib.hid (fun w => refAll_any s w hs)
  refine callsIn_wide.1 (callsIn_of_wp_marks (n := 9) Try.func11 rfl trivial (wpIn_wide.2 ?_) rfl)
  simp only [Try.ntmps11, List.size_toArray, List.length_cons, List.length_nil, Nat.reduceAdd, Nat.reduceSub, Array.replicate_succ, Array.replicate_zero, List.push_toArray, List.append_toArray, List.nil_append, List.cons_append]
  go_wp2_with fail
  generalize ((w.alloc (.cells #[.int .i64 early] 3)).alloc (.cells #[.bool false] 4)) = wa at bA bR hb0 hz0 ⊢
  refine (P1.out _).mono ?_
  rintro e1 w1 ⟨rfl, b1⟩
  replace bA : Boxed w1 w.heap.size 3 (.int .i64 early) := (b1.block _ bA.lt).trans bA
  replace bR : Boxed w1 (w.heap.size + 1) 4 (.bool false) := (b1.block _ bR.lt).trans bR
  replace hb0 := hb0.trans (b1.mono hb0.size)
  go_wp2_with fail
  refine (P2.out _).mono ?_
  rintro e2 w2 ⟨v2, rfl, K, u, hK, rfl, hown⟩
  have hb2 := hown.below
  replace bA : Boxed w2 w.heap.size 3 (.int .i64 early) := (hb2.block _ bA.lt).trans bA
  replace bR : Boxed w2 (w.heap.size + 1) 4 (.bool false) := (hb2.block _ bR.lt).trans bR
  replace hb0 := hb0.trans (hb2.mono hb0.size)
  obtain ⟨ao, cap, rfl, hats⟩ := own_ats hown.1 (Pl.frames_length _ _).symm
  clear hown hb2 b1
  go_wp2_with (go_at_call 49; refine (callsIn_wide.1 (all_in 3 _ _)).mono ?_; rintro e w' ⟨rfl, rfl⟩)
  have bQ := (((Boxed.new w2 57 (.slice ao K cap)).alloc (.cells #[.int .i64 0] 3)).alloc (.cells #[.string s] 9)).alloc (.cells #[.int .i64 0] 3)
  have bN := ((Boxed.new (w2.alloc (.cells #[.slice ao K cap] 57)) 3 (.int .i64 0)).alloc (.cells #[.string s] 9)).alloc (.cells #[.int .i64 0] 3)
  have bS := (Boxed.new ((w2.alloc (.cells #[.slice ao K cap] 57)).alloc (.cells #[.int .i64 0] 3)) 9 (.string s)).alloc (.cells #[.int .i64 0] 3)
  have bK := Boxed.new (((w2.alloc (.cells #[.slice ao K cap] 57)).alloc (.cells #[.int .i64 0] 3)).alloc (.cells #[.string s] 9)) 3 (.int .i64 0)
  simp only [World.size_alloc] at bN bS bK
  have hk0 : ∀ f : Nat → Prop, Keep f w2 ((((w2.alloc (.cells #[.slice ao K cap] 57)).alloc (.cells #[.int .i64 0] 3)).alloc (.cells #[.string s] 9)).alloc (.cells #[.int .i64 0] 3)) := fun f => ((((Keep.refl f w2).alloc _).alloc _).alloc _).alloc _
  have hzz : ((((w2.alloc (.cells #[.slice ao K cap] 57)).alloc (.cells #[.int .i64 0] 3)).alloc (.cells #[.string s] 9)).alloc (.cells #[.int .i64 0] 3)).heap.size = w2.heap.size + 4 := by simp
  have hbz : w.heap.size + 2 ≤ w2.heap.size := by have := bR.lt; omega
  replace hb0 := ((((hb0.alloc (by omega) (.cells #[.slice ao K cap] 57)).alloc (by simp; omega) (.cells #[.int .i64 0] 3)).alloc (by simp; omega) (.cells #[.string s] 9)).alloc (by simp; omega) (.cells #[.int .i64 0] 3))
  generalize (((w2.alloc (.cells #[.slice ao K cap] 57)).alloc (.cells #[.int .i64 0] 3)).alloc (.cells #[.string s] 9)).alloc (.cells #[.int .i64 0] 3) = W0 at bQ bN bS bK hk0 hzz hb0 ⊢
  replace bA := (hk0 (fun _ => True)).boxed trivial bA
  replace bR := (hk0 (fun _ => True)).boxed trivial bR
  replace hats : 0 < K → ∃ b, ao = some ⟨b, 0, none⟩ ∧ AtsIn W0 b (Pl.frames s.data.toList K) ∧ b < w2.heap.size := fun h => by
    obtain ⟨b, e, _, ha⟩ := hats h
    exact ⟨b, e, ha.keep (hk0 (fun _ => True)) trivial, ha.1⟩
  clear hk0
  have hKb : K ≤ 1048575 := by have := Pl.pos_le hK.1; omega
  generalize hpK : Pl.pos s.data.toList K = pK at *
  replace hpK := Lib.hid hpK
  -- LOOP
  refine wp_loop (fun a W => ∃ (k kbk nv : Nat) (Ds : List Nat), k ≤ 2 ∧ Boxed W kbk 3 (.int .i64 (k : Int)) ∧ Boxed W (w2.heap.size + 1) 3 (.int .i64 (nv : Int)) ∧ (k = 2 → nv = K) ∧ Keep (fun z => z < w2.heap.size + 4 ∧ z ≠ w2.heap.size + 1 ∧ z ≠ w2.heap.size + 1 + 1 + 1) W0 W ∧
      (kbk = w2.heap.size + 1 + 1 + 1 ∨ w2.heap.size + 4 ≤ kbk) ∧ Marked Ds W ∧ (∀ D ∈ Ds, w2.heap.size + 4 ≤ D ∧ D ≠ kbk) ∧ ∃ v11 v12 v24 v25 v26 v27 v28 v29 v30 v31 v32 v33 v34 v35 v36 v37 v38 v39 v40 v41 v42 v43 v44 v45 v46 v47 v48 v49 v50 v51 v52 v53 v54 v55 v56 v57 v58 v59 v60 v61 v62 : Value, a = (
      ⟨#[.string s, .int .i64 early, undef, .pointer (some ⟨w.heap.size, 0, none⟩), .pointer (some ⟨w.heap.size + 1, 0, none⟩), .bool true, .pointer (some ⟨w2.heap.size, 0, none⟩), .int .i64 (pK : Int), .pointer (some ⟨w2.heap.size + 1, 0, none⟩), .func (.func 58) #[] #[.pointer (some ⟨w2.heap.size + 1 + 1, 0, none⟩)], .pointer (some ⟨kbk, 0, none⟩), v11, v12, undef, .bool true, .bool true, .bool false, .tuple #[.slice ao K cap, .int .i64 (pK : Int)], .string s, .tuple #[.slice ao K cap, .int .i64 (pK : Int)], .slice ao K cap, .int .i64 (pK : Int), .string s, .func (.func 58) #[] #[.pointer (some ⟨w2.heap.size + 1 + 1, 0, none⟩)], v24, v25, v26, v27, v28, v29, v30, v31, v32, v33, v34, v35, v36, v37, v38, v39, v40, v41, v42, v43, v44, v45, v46, v47, v48, v49, v50, v51, v52, v53, v54, v55, v56, v57, v58, v59, v60, v61, v62, undef, undef, undef, undef, undef, undef, undef, undef, undef, undef, undef], Ds.map mark⟩ : Act)) (fun a W => roundsLeft (a.tmps.getD 10 undef) W) ?_ ?_
  · exact ⟨0, w2.heap.size + 1 + 1 + 1, 0, [], by omega, bK, bN, (fun h => by cases h), Keep.refl _ _, .inl rfl, Marked.nil _, (fun _ h => by cases h), _, _, _, _, _, _, _, _, _, _, _, _, _, _, _, _, _, _, _, _, _, _, _, _, _, _, _, _, _, _, _, _, _, _, _, _, _, _, _, _, _, rfl⟩
  · rintro a W ⟨k, kbk, nv, Ds, hk2, bkW, bnW, hnv, hkW, hkb, hM, hDl, v11, v12, v24, v25, v26, v27, v28, v29, v30, v31, v32, v33, v34, v35, v36, v37, v38, v39, v40, v41, v42, v43, v44, v45, v46, v47, v48, v49, v50, v51, v52, v53, v54, v55, v56, v57, v58, v59, v60, v61, v62, rfl⟩
    have ck := bkW.cell
    have ltk := bkW.lt
    have cn := bnW.cell
    have fn0 := bnW.frozen
    have ltn := bnW.lt
    by_cases hk : k < 2
    · have hkn : kbk ≠ w2.heap.size + 1 := by omega
      have hks : kbk ≠ w2.heap.size + 1 + 1 := by omega
      have hsW : w2.heap.size + 4 ≤ W.heap.size := by have := hkW.size; omega
      go_wp2
      have bn1 := bnW.set (.int .i64 0)
      have hk1 : ∀ f : Nat → Prop, ¬ f (w2.heap.size + 1) → Keep f W (W.setCell ⟨w2.heap.size + 1, 0, none⟩ (.int .i64 0)) := fun f h => (Keep.refl f W).setCell _ _ _ (fun e _ => h e)
      have hz1 : (W.setCell ⟨w2.heap.size + 1, 0, none⟩ (.int .i64 0)).heap.size = W.heap.size := by simp [World.setCell]
      have bsW := (hkW.boxed ⟨by omega, by omega, by omega⟩ bS)
      have bs1 := (hk1 (fun z => z = w2.heap.size + 1 + 1) (fun h => by omega)).boxed rfl bsW
      have hNlt : w2.heap.size + 1 < W.heap.size := ltn
      generalize W.setCell ⟨w2.heap.size + 1, 0, none⟩ (.int .i64 0) = W1 at bn1 hk1 hz1 bs1 ⊢
      clear ck cn fn0
      refine wpIn_wide.1 (wpIn_rangeG (n := 9) (F := Fence.wide) rfl (by omega) (gf := 58) (lb := #[.pointer (some ⟨w2.heap.size + 1 + 1, 0, none⟩)]) rfl trivial (enters_of Try.func58 (by kernel_rfl) rfl)
        (all1_seq 8 (w2.heap.size + 1 + 1) s W1 (by omega) bs1) (fun _ => rfl) (fun z h => by have h' : z = w2.heap.size + 1 + 1 := h; omega) (fun z h => by have h' : z = w2.heap.size + 1 + 1 := h; omega)
        (fun pre fp X => ((∀ z, z < W.heap.size → z ≠ w2.heap.size + 1 + 1 → fp z) ∧ Boxed X (w2.heap.size + 1) 3 (.int .i64 ((pre.length : Nat) : Int)) ∧ Keep (fun z => z < W.heap.size ∧ z ≠ w2.heap.size + 1 + 1 ∧ z ≠ w2.heap.size + 1) W X)) (fun c pre fp X => (c = .exit 2 ∧ k = 0) ∧ ((∀ z, z < W.heap.size → z ≠ w2.heap.size + 1 + 1 → fp z) ∧ Boxed X (w2.heap.size + 1) 3 (.int .i64 ((pre.length : Nat) : Int)) ∧ Keep (fun z => z < W.heap.size ∧ z ≠ w2.heap.size + 1 + 1 ∧ z ≠ w2.heap.size + 1) W X))
        (fun pre x a' fp X => ((∀ z, z < W.heap.size → z ≠ w2.heap.size + 1 + 1 → fp z) ∧ Boxed X (w2.heap.size + 1) 3 (.int .i64 ((pre.length : Nat) : Int)) ∧ Keep (fun z => z < W.heap.size ∧ z ≠ w2.heap.size + 1 + 1 ∧ z ≠ w2.heap.size + 1) W X) ∧ ∃ bx, Fr bx (x.2.1.toNat : Int) ⟨x.2.2.toArray⟩ X ∧ fp bx ∧ W.heap.size ≤ bx ∧ a' = (
          { tmps := #[.string s, .int .i64 early, undef, .pointer (some ⟨w.heap.size, 0, none⟩), .pointer (some ⟨w.heap.size + 1, 0, none⟩), .bool true, .pointer (some ⟨w2.heap.size, 0, none⟩), .int .i64 (pK : Int), .pointer (some ⟨w2.heap.size + 1, 0, none⟩), .func (.func 58) #[] #[.pointer (some ⟨w2.heap.size + 1 + 1, 0, none⟩)], .pointer (some ⟨kbk, 0, none⟩), .int .i64 (x.1 : Int), .pointer (some ⟨bx, 0, none⟩), undef, .bool true, .bool true, .bool false, .tuple #[.slice ao K cap, .int .i64 (pK : Int)], .string s, .tuple #[.slice ao K cap, .int .i64 (pK : Int)], .slice ao K cap, .int .i64 (pK : Int), .string s, .func (.func 58) #[] #[.pointer (some ⟨w2.heap.size + 1 + 1, 0, none⟩)], .int .i64 (k : Int), .bool true, v26, v27, .func (.func 58) #[] #[.pointer (some ⟨w2.heap.size + 1 + 1, 0, none⟩)], .int .i64 (x.1 : Int), .agg #[.int .u8 (x.2.1.toNat : Int), .string ⟨x.2.2.toArray⟩], v31, v32, v33, v34, v35, v36, v37, v38, v39, v40, v41, v42, v43, v44, v45, v46, v47, v48, v49, v50, v51, v52, v53, v54, v55, v56, v57, v58, v59, v60, v61, v62, undef, undef, undef, undef, undef, undef, undef, undef, undef, undef, undef], defers := [] } : Act))
        ?_ ?_ ?_ (fun z => z < W.heap.size ∧ z ≠ w2.heap.size + 1 + 1) ?_ ?_ ?_ ?assign ?body ?done ?stop)
      case assign =>
        intro l pre x fp X KK hI hlt hlen hKK
        unfold encF
        rw [fold2]
        simp only [List.setIfInBounds_toArray, List.set_cons_succ, List.set_cons_zero]
        gi_wp2
        obtain ⟨h1, h2, h3⟩ := hI
        refine hKK _ _ _ (Step.alloc hlt _) ⟨⟨fun z a b => .inl (h1 z a b), h2.alloc _, h3.alloc _⟩, X.heap.size, Fr.new _ _ _ _, .inr rfl, h3.size, rfl⟩
      case body =>
        rintro l pre x a' fp X ⟨⟨h1, h2, h3⟩, bx, ⟨x0, x1, xB⟩, hbx, hbx2, rfl⟩ hlt hlen
        obtain ⟨rfl, hok, hpre, hrun⟩ := Pl.sp_last hlen
        have hKle : pre.length + 1 ≤ K := hK.run_le (hrun.succ hok)
        clear hlen hpre hrun hok
        have cn := h2.cell
        have fzn := h2.frozen
        have ltnX := h2.lt
        have hkX : Keep (fun z => z < w2.heap.size + 4 ∧ z ≠ w2.heap.size + 1 ∧ z ≠ w2.heap.size + 1 + 1 ∧ z ≠ w2.heap.size + 1 + 1 + 1) W0 X :=
          (hkW.mono (fun i hi _ => ⟨hi.1, hi.2.1, hi.2.2.2⟩) : Keep (fun z => z < w2.heap.size + 4 ∧ z ≠ w2.heap.size + 1 ∧ z ≠ w2.heap.size + 1 + 1 ∧ z ≠ w2.heap.size + 1 + 1 + 1) W0 W).trans h3 (fun i hi _ => ⟨by omega, hi.2.2.1, hi.2.1⟩)
        have cE := (hkX.boxed ⟨by omega, by omega, by omega, by omega⟩ bA).cell
        have cQ := (hkX.boxed ⟨by omega, by omega, by omega, by omega⟩ bQ).cell
        have cK := (h3.boxed ⟨ltk, hks, hkn⟩ bkW).cell
        have ltkX : kbk < X.heap.size := Nat.lt_of_lt_of_le ltk h3.size
        obtain ⟨b, rfl, ha, hb⟩ := hats (by omega)
        obtain ⟨y0, y1, y2⟩ := (ha.keep hkX ⟨by omega, by omega, by omega, by omega⟩).2 pre.length (by rw [Pl.frames_length]; omega)
        rw [Pl.frames_get] at y0 y1 y2
        clear ha hats hkX hpK hb0 hM hDl bR bA bQ bN bS bK bn1 bs1 hk1 bsW bkW bnW hkW hnv hK
        generalize Pl.frameAt s.data.toList pre.length = x at *
        obtain ⟨p, kd, ld⟩ := x
        simp only at x0 x1 y0 y1 y2
        have hge : decide (K ≤ pre.length) = false := by simp; omega
        have hlt2 : (pre.length : Int) < (K : Int) := by omega
        have hlt3 : pre.length < K := by omega
        gi_wp2
        refine wpIn_round_quiet (by kernel_rfl) (by kernel_rfl) (by rintro ⟨a, w, h⟩; exact h) (by kernel_rfl) ?_
        repeat go_big_quiet_step (fail)
        refine wpQuiet_nil ?_
        rintro _ ⟨nq, rfl⟩
        gi_wp2
        all_goals
          have fin : (∀ z, z < W.heap.size → z ≠ w2.heap.size + 1 + 1 → fp z) ∧ Boxed ((X.drewN nq).setCell ⟨w2.heap.size + 1, 0, none⟩ (.int .i64 ((pre.length : Int) + 1))) (w2.heap.size + 1) 3 (.int .i64 (((pre ++ [((p, kd, ld) : Pl.AtF)]).length : Nat) : Int)) ∧
              Keep (fun z => z < W.heap.size ∧ z ≠ w2.heap.size + 1 + 1 ∧ z ≠ w2.heap.size + 1) W ((X.drewN nq).setCell ⟨w2.heap.size + 1, 0, none⟩ (.int .i64 ((pre.length : Int) + 1))) := by
            refine ⟨h1, ?_, (h3.drewN nq).setCell _ _ _ (fun h _ => h.2.2 rfl)⟩
            rw [List.length_append, List.length_singleton]
            have hs2 : Boxed (X.setCell ⟨w2.heap.size + 1, 0, none⟩ (.int .i64 ((pre.length : Int) + 1))) (w2.heap.size + 1) 3 (.int .i64 ((pre.length : Int) + 1)) := h2.set _
            exact hs2
          have st : Step fp fp X ((X.drewN nq).setCell ⟨w2.heap.size + 1, 0, none⟩ (.int .i64 ((pre.length : Int) + 1))) :=
            ⟨((Keep.refl _ X).drewN nq).setCell _ _ _ (fun h _ => h (h1 _ hNlt (by omega))), fun _ h => .inl h, fun z h => by have := hlt z h; simpa [World.setCell] using this⟩
          first
            | exact ⟨fp, fin, st⟩
            | exact ⟨fp, ⟨⟨rfl, by assumption⟩, fin⟩, st⟩
      case done =>
        rintro D ys fp X hD hnD hnew hlt hkT ⟨k', hek, rfl⟩ ⟨h1, h2, h3⟩ hKD
        obtain rfl := hek.unique hK
        rw [Pl.frames_length] at h2
        have cK := (h3.boxed ⟨ltk, hks, hkn⟩ bkW).cell
        have ltkX : kbk < X.heap.size := Nat.lt_of_lt_of_le ltk h3.size
        go_wp2
        have hkX : Keep (fun z => (z < W.heap.size ∧ z ≠ w2.heap.size + 1 + 1 ∧ z ≠ w2.heap.size + 1) ∨ z = w2.heap.size + 1 + 1) W X := keep_or h3 ((hk1 _ (fun h => by omega)).trans hkT (fun _ h _ => h))
        have hDX : D < X.heap.size := (Array.getElem?_eq_some_iff.1 hKD).1
        have hMX := (hM.keep hkX (fun d hd => .inl ⟨hM.lt d hd, by have := hDl d hd; omega, by have := hDl d hd; omega⟩)).cons hKD (fun h => by have := hM.lt D h; omega)
        have bkX := Boxed.new X 3 (.int .i64 ((k : Int) + 1))
        have ckX := bkX.cell
        have ckW := bkW.cell
        refine ⟨⟨k + 1, X.heap.size, _, D :: Ds, by omega, bkX, h2.alloc _, (fun _ => rfl), (hkW.trans hkX (fun i hi _ => ?_)).alloc _, .inr (by have := h3.size; omega), hMX.below ((Below.refl _ _).alloc (Nat.le_refl _) _), ?_, _, _, _, _, _, _, _, _, _, _, _, _, _, _, _, _, _, _, _, _, _, _, _, _, _, _, _, _, _, _, _, _, _, _, _, _, _, _, _, _, _, rfl⟩, ?_⟩
        · by_cases e : i = w2.heap.size + 1 + 1
          · exact .inr e
          · exact .inl ⟨by omega, e, hi.2.1⟩
        · intro d hd
          rcases List.mem_cons.1 hd with rfl | hd
          · omega
          · have h5 := hM.lt d hd; have h6 := hDl d hd; have := h3.size; omega
        · show roundsLeft (.pointer (some ⟨X.heap.size, 0, none⟩)) _ < roundsLeft (.pointer (some ⟨kbk, 0, none⟩)) W
          unfold roundsLeft
          simp only [ckX, ckW, Option.getD_some, intOf]
          omega
      case stop =>
        rintro D c pre fp X hD hnD hnew hlt hkT _ ⟨⟨rfl, hk0⟩, h1, h2, h3⟩ hKD
        have cK := (h3.boxed ⟨ltk, hks, hkn⟩ bkW).cell
        have ltkX : kbk < X.heap.size := Nat.lt_of_lt_of_le ltk h3.size
        refine wpIn_wide.2 ?_
        replace hk0 := Lib.hid hk0
        go_wp2
        have hkX : Keep (fun z => (z < W.heap.size ∧ z ≠ w2.heap.size + 1 + 1 ∧ z ≠ w2.heap.size + 1) ∨ z = w2.heap.size + 1 + 1) W X := keep_or h3 ((hk1 _ (fun h => by omega)).trans hkT (fun _ h _ => h))
        have hDX : D < X.heap.size := (Array.getElem?_eq_some_iff.1 hKD).1
        have hMX := (hM.keep hkX (fun d hd => .inl ⟨hM.lt d hd, by have := hDl d hd; omega, by have := hDl d hd; omega⟩)).cons hKD (fun h => by have := hM.lt D h; omega)
        have bkX := Boxed.new X 3 (.int .i64 ((k : Int) + 1))
        have ckX := bkX.cell
        have ckW := bkW.cell
        refine ⟨⟨k + 1, X.heap.size, pre.length, D :: Ds, by omega, bkX, h2.alloc _, (fun h => absurd h (by have := hk0.out; omega)), (hkW.trans hkX (fun i hi _ => ?_)).alloc _, .inr (by have := h3.size; omega), hMX.below ((Below.refl _ _).alloc (Nat.le_refl _) _), ?_, _, _, _, _, _, _, _, _, _, _, _, _, _, _, _, _, _, _, _, _, _, _, _, _, _, _, _, _, _, _, _, _, _, _, _, _, _, _, _, _, _, rfl⟩, ?_⟩
        · by_cases e : i = w2.heap.size + 1 + 1
          · exact .inr e
          · exact .inl ⟨by omega, e, hi.2.1⟩
        · intro d hd
          rcases List.mem_cons.1 hd with rfl | hd
          · omega
          · have h5 := hM.lt d hd; have h6 := hDl d hd; have := h3.size; omega
        · show roundsLeft (.pointer (some ⟨X.heap.size, 0, none⟩)) _ < roundsLeft (.pointer (some ⟨kbk, 0, none⟩)) W
          unfold roundsLeft
          simp only [ckX, ckW, Option.getD_some, intOf]
          omega
      · rintro pre fp X X' ⟨h1, h2, h3⟩ hkp
        exact ⟨h1, hkp.boxed (h1 _ hNlt (by omega)) h2, h3.trans hkp (fun i hi _ => h1 i hi.1 hi.2.1)⟩
      · rintro c pre fp X X' ⟨hc, h1, h2, h3⟩ hkp
        exact ⟨hc, h1, hkp.boxed (h1 _ hNlt (by omega)) h2, h3.trans hkp (fun i hi _ => h1 i hi.1 hi.2.1)⟩
      · rintro pre x a' _ fp X X' ⟨⟨h1, h2, h3⟩, bx, ⟨x0, x1, xB⟩, hbx, hbx2, he⟩ hkp
        exact ⟨⟨h1, hkp.boxed (h1 _ hNlt (by omega)) h2, h3.trans hkp (fun i hi _ => h1 i hi.1 hi.2.1)⟩, bx, ⟨hkp.cell hbx x0, hkp.cell hbx x1, Nat.lt_of_lt_of_le xB hkp.size⟩, hbx, hbx2, he⟩
      · intro z h1 h2
        exact h1.2 h2
      · intro z h1
        rw [hz1]; exact h1.1
      · exact ⟨fun z a b => ⟨a, b⟩, bn1, hk1 _ (fun h => h.2.2 rfl)⟩
    · obtain rfl : k = 2 := by omega
      obtain rfl := hnv rfl
      have P3 := Lib.hid (end_any s W (by omega))
      have hb1 : Below w.heap.size w W := hkW.below hb0 (Nat.le_refl _) (fun z hz => ⟨by omega, by omega, by omega⟩)
      have bRW := hkW.boxed ⟨by omega, by omega, by omega⟩ bR
      have bQW := hkW.boxed ⟨by omega, by omega, by omega⟩ bQ
      clear hats hkW bA bR bQ bN bS bK hb0
      go_wp2_with fail
      refine P3.out.mono ?_
      rintro e3 W3 ⟨v3, rfl, ⟨k', hek, rfl⟩, b3⟩
      obtain rfl := hek.unique hK
      rw [hpK.out]
      have cN3 := Boxed.cell (show Boxed W3 (w2.heap.size + 1) 3 (.int .i64 (k' : Int)) from (b3.block _ bnW.lt).trans bnW)
      have bR3 : Boxed W3 (w.heap.size + 1) 4 (.bool false) := (b3.block _ bRW.lt).trans bRW
      have cQ3 := Boxed.cell (show Boxed W3 w2.heap.size 57 (.slice ao k' cap) from (b3.block _ bQW.lt).trans bQW)
      have cR3 := bR3.cell
      have fR3 := bR3.frozen
      have lR3 := bR3.lt
      have hM3 := hM.below b3
      have hb3 := hb1.trans (b3.mono hb1.size)
      clear ck cn fn0 b3
      go_wp2
      have bR4 := bR3.set (.bool true)
      have hk4 : Keep (fun z => z ≠ w.heap.size + 1) W3 (W3.setCell ⟨w.heap.size + 1, 0, none⟩ (.bool true)) := (Keep.refl _ _).setCell _ _ _ (fun h _ => h rfl)
      have hb4 : Below w.heap.size w (W3.setCell ⟨w.heap.size + 1, 0, none⟩ (.bool true)) := hb3.setCell (by show w.heap.size ≤ w.heap.size + 1; omega) _
      refine leaves_marks Ds _ (hM3.keep hk4 (fun d hd => by have := hDl d hd; omega)) (fun W' hk' => ?_)
      exact ⟨_, results_bool rfl rfl (hk'.boxed (fun h => by have := hDl _ h; omega) bR4).cell, rfl, hk'.below hb4 (Nat.le_refl _) (fun z hz h => by have := hDl _ h; omega)⟩
end Go.Proofs.Ytlchkpmmemdjcaa
