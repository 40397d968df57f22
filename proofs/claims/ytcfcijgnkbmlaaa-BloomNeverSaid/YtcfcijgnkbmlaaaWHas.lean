/- Walks: is a key in a filter? Condition: lengths that the form's reach lets. -/
import Derived.Test.YtcfcijgnkbmlaaaWAsk
import Derived.Test.YtcfcijgnkbmlaaaWPlaces
import Derived.Test.YtcfcijgnkbmlaaaMarks
import Derived.StillTailTactics
import Derived.Test.YtcfcijgnkbmlaaaWBuild
namespace Go.Proofs.Ytcfcijgnkbmlaaa
open Go.RowKit Go.Shelf

theorem has_good {s : ByteArray} (key : List UInt8) (h : Pl.valid s.data.toList = true) (h0 : s.size ≠ 0) (k : Nat) (hk0 : 0 < s.size) (hk : s[0].toNat = k) : Pl.has s.data.toList key = (Pl.keyPlaces key k (8 * (s.size - 1))).all (Pl.hasBit s.data.toList) := by
  unfold Pl.has
  have e : s.data.toList[0]? = some s[0] := by rw [List.getElem?_eq_getElem (by rw [Pl.size_data]; exact hk0)]; rfl
  rw [h, e, Option.getD_some, hk, Pl.size_data, List.isEmpty_eq_false_iff.2 (ne_of_size h0)]
  simp
theorem has_bad {s : ByteArray} (key : List UInt8) (h : Pl.valid s.data.toList = false ∨ s.size = 0) : Pl.has s.data.toList key = true := by
  unfold Pl.has
  rcases h with h | h
  · rw [h]; rfl
  · rw [nil_of_size h]; simp
theorem all_stop {l : List Nat} {f : Nat → Bool} {i : Nat} (hi : i < l.length) (h : f l[i] = false) : l.all f = false := by
  rw [Bool.eq_false_iff]
  intro e
  have := List.all_eq_true.1 e l[i] (List.getElem_mem hi)
  rw [h] at this; cases this
theorem all_next {l : List Nat} {f : Nat → Bool} {i : Nat} (hi : i < l.length) (h : (l.take i).all f = true) (h2 : f l[i] = true) : (l.take (i + 1)).all f = true := by
  rw [List.take_succ_eq_append_getElem hi, List.all_append, h]
  simp [h2]

set_option maxRecDepth 100000 in
set_option maxHeartbeats 2000000 in
theorem refHas_any (s key : ByteArray) (w : World) (hs : s.size ≤ 140737488355328) (hkey : key.size ≤ 9223372036854775807) :
    Calls Try.prog 25 #[.string s, .string key] w fun e w' => e = .returned (.bool (Pl.has s.data.toList key.data.toList)) ∧ Below w.heap.size w w' := by
  have P1 := Lib.hid (fun w => refValid_any s w (by omega))
  cases hv : Pl.valid s.data.toList with
  | false =>
    rw [has_bad _ (.inl hv)]
    rw [hv] at P1
    go_enter Try.func25, Try.ntmps25
    go_wp2_with fail
    refine (P1.out _).mono ?_
    rintro e w1 ⟨rfl, rfl⟩
    go_wp2
    go_ret
    exact ⟨rfl, Below.refl _ _⟩
  | true =>
    by_cases h0 : s.size = 0
    · rw [has_bad _ (.inr h0)]
      have he := isEmpty_of' h0
      rw [hv] at P1
      go_enter Try.func25, Try.ntmps25
      go_wp2_with fail
      refine (P1.out _).mono ?_
      rintro e w1 ⟨rfl, rfl⟩
      go_wp2
      go_ret
      exact ⟨rfl, Below.refl _ _⟩
    · have he := isEmpty_of h0
      obtain ⟨hg, k, hk1, hk2, hk0, hk3⟩ := good_of hv h0 hs
      rw [has_good _ hv h0 k hk0 hk3]
      rw [hv] at P1
      have h9 := hg.size
      clear hg hv
      obtain ⟨m, hm⟩ : ∃ m, m = s.size - 1 := ⟨_, rfl⟩
      rw [← hm]
      have hm1 : (s.size : Int) - 1 = (m : Int) := by omega
      replace hm := Lib.hid hm
      have P2 := Lib.hid (fun w => refPlaces_any key k (8 * m) w hkey (by omega) (by omega) (by omega))
      have e8 : ((8 * m : Nat) : Int) = 8 * (m : Int) := by omega
      rw [e8] at P2
      clear e8
      have P3 := Lib.hid (fun i w hi => bit_any s i w hs hi)
      have hlenP : (Pl.keyPlaces key.data.toList k (8 * m)).length = k := Pl.places_length _ _ _ _
      have hltP : ∀ x ∈ Pl.keyPlaces key.data.toList k (8 * m), x < 8 * m := Pl.places_lt (by omega) _
      generalize Pl.keyPlaces key.data.toList k (8 * m) = ps at P2 hlenP hltP ⊢
      go_enter Try.func25, Try.ntmps25
      go_wp2_with fail
      refine (P1.out _).mono ?_
      rintro e w1 ⟨rfl, rfl⟩
      go_wp2_with fail
      refine (P2.out _).mono ?_
      rintro e1 W1 ⟨v1, rfl, hown⟩
      have hr1 := hown.1
      rw [show k = (k - 1) + 1 from by omega] at hr1
      obtain ⟨g, cp, rfl⟩ := ownsRow_succ hr1
      rw [show (k - 1) + 1 = k from by omega] at hr1 ⊢
      have hb1 := hown.below
      have hsz1 := hb1.size
      clear hown
      replace hlenP := Lib.hid hlenP
      go_wp2
      go_loopw [7, 8] (fun v _ X => ∃ i : Nat, i ≤ k ∧ v = .int .i64 i ∧ X = W1 ∧ Hid ((ps.take i).all (Pl.hasBit s.data.toList) = true)) (fun v _ _ => k - (intOf v).toNat)
      case atStart => exact ⟨0, by omega, rfl, rfl, rfl⟩
      case round =>
        obtain ⟨i, hi, rfl, rfl, hA⟩ := hrel
        by_cases hik : i < k
        · have hip : i < ps.length := by rw [hlenP.out]; exact hik
          have hcp : wr.cell? ⟨g, i, none⟩ = some (.int .i64 (ps[i] : Int)) := by
            rw [hr1.cellAt i (by omega)]; simp [icells, hip]
          have hy := hltP ps[i] (List.getElem_mem hip)
          have hst := all_stop (f := Pl.hasBit s.data.toList) hip
          have hnx := all_next (f := Pl.hasBit s.data.toList) hip hA.out
          generalize hyE : ps[i] = y at *
          replace hst := Lib.hid hst
          replace hnx := Lib.hid hnx
          go_wp2_with fail
          refine (P3.out _ _ (by have := hm.out; omega)).mono ?_
          rintro e w1 ⟨rfl, rfl⟩
          cases hb : Pl.hasBit s.data.toList y with
          | true =>
            rw [hb] at hnx
            go_wp2
            go_roundw
            case rel => exact ⟨i + 1, by omega, by go_num, by trivial, hnx.out (by trivial)⟩
            case measure => simp [intOf]; omega
          | false =>
            rw [hb] at hst
            go_wp2
            go_ret
            exact ⟨ret_bool (by rw [hst.out (by trivial)]), hb1⟩
        · obtain rfl : i = k := by omega
          go_wp2
          go_ret
          exact ⟨ret_bool (by rw [← List.take_of_length_le (Nat.le_of_eq hlenP.out), hA.out]), hb1⟩

attribute [local go_sem] Oper.semAt_some
theorem bit1 (x : UInt8) (j : Nat) : (bits .and .u8 ((x.toNat : Int) / 2 ^ j) 1 == 0) = !(x.toNat.testBit j) := by
  have hx := x.toNat_lt
  have e : (x.toNat : Int) / 2 ^ j = ((x.toNat / 2 ^ j : Nat) : Int) := by rw [Int.natCast_ediv]; simp
  have hl : x.toNat / 2 ^ j ≤ x.toNat := Nat.div_le_self _ _
  rw [e, show (1 : Int) = ((1 : Nat) : Int) from rfl, u8_and_nat _ _ (by omega) (by omega), Nat.and_one_is_mod, Nat.testBit_eq_decide_div_mod_eq, Bool.eq_iff_iff]
  simp
  omega
theorem all_fin {n : Nat} {f : Nat → Bool} {pre : List (Fin n)} {y : Fin n} (h : (pre.map Fin.val).all f = true) (hy : f y.val = true) : ((pre ++ [y]).map Fin.val).all f = true := by
  rw [List.map_append, List.all_append, h]
  simp [hy]

theorem results_bool {fn : Func} {p : Tmp} (h : fn.results = #[.cell p 4]) {tmps : Array Value} {b : Nat} {v : Value} {w : World} (hp : tmps.getD p undef = .pointer (some ⟨b, 0, none⟩)) (hc : w.cell? ⟨b, 0, none⟩ = some v) :
    (results fn tmps).run Try.prog w = .ok v w := by
  have hp' : tmps[p]?.getD undef = .pointer (some ⟨b, 0, none⟩) := by simpa using hp
  have hu := Try.underlying4
  have hl : (loadVar 4 ⟨b, 0, none⟩).run Try.prog w = .ok v w := by simp [loadVar, isAgg, Sem.run_bind, run_underlying hu w, go_sem, hc]
  simp [results, h, hp', asAddr, hl]

set_option maxRecDepth 100000 in
set_option maxHeartbeats 2000000 in
theorem has_in (n : Nat) (s key : ByteArray) (w : World) (hs : s.size ≤ 140737488355328) (hkey : key.size ≤ 9223372036854775807) :
    CallsIn Fence.wide n Try.prog 21 #[.string s, .string key] w fun e w' => e = .returned (.bool (Pl.has s.data.toList key.data.toList)) ∧ Below w.heap.size w w' := by
  have P1 := Lib.hid (fun w => valid_any s w (by omega))
  refine callsIn_of_wp_marks Try.func21 rfl trivial (wpIn_wide.2 ?_) rfl
  simp only [Try.ntmps21, List.size_toArray, List.length_cons, List.length_nil, Nat.reduceAdd, Nat.reduceSub, Array.replicate_succ, Array.replicate_zero, List.push_toArray, List.append_toArray, List.nil_append, List.cons_append]
  have bS := Boxed.new w 9 (.string s)
  have bR := Boxed.new (w.alloc (.cells #[.string s] 9)) 4 (.bool false)
  rw [World.size_alloc] at bR
  replace bS := bS.alloc (.cells #[.bool false] 4)
  have cR' := (Boxed.new (w.alloc (.cells #[.string s] 9)) 4 (.bool true)).cell
  rw [World.size_alloc] at cR'
  replace cR' := Lib.hid cR'
  have cS := bS.cell
  have cR := bR.cell
  have fR := bR.frozen
  by_cases h0 : s.size = 0
  · rw [has_bad _ (.inr h0)]
    have he := isEmpty_of' h0
    go_wp2_with fail
    refine ⟨_, results_bool rfl rfl cR'.out, rfl, ?_⟩
    exact ((Below.refl _ _).alloc (Nat.le_refl _) _).alloc (by rw [World.size_alloc]; omega) _
  · have he := isEmpty_of h0
    cases hv : Pl.valid s.data.toList with
    | false =>
      rw [has_bad _ (.inl hv)]
      rw [hv] at P1
      go_wp2_with fail
      refine (P1.out _).mono ?_
      rintro e w1 ⟨rfl, rfl⟩
      go_wp2
      refine ⟨_, results_bool rfl rfl cR'.out, rfl, ?_⟩
      exact ((Below.refl _ _).alloc (Nat.le_refl _) _).alloc (by rw [World.size_alloc]; omega) _
    | true =>
      obtain ⟨hg, k, hk1, hk2, hk0, hk3⟩ := good_of hv h0 hs
      rw [has_good _ hv h0 k hk0 hk3]
      rw [hv] at P1
      have h9 := hg.size
      clear hg hv
      obtain ⟨m, hm⟩ : ∃ m, m = s.size - 1 := ⟨_, rfl⟩
      rw [← hm]
      have hm1 : (s.size : Int) - 1 = (m : Int) := by omega
      replace hm := Lib.hid hm
      go_wp2_with fail
      refine (P1.out _).mono ?_
      rintro e w1 ⟨rfl, rfl⟩
      go_wp2
      have hks : (s[0].toNat : Int) = (k : Int) := by omega
      have hB0 : Below w.heap.size w ((w.alloc (.cells #[.string s] 9)).alloc (.cells #[.bool false] 4)) := ((Below.refl _ _).alloc (Nat.le_refl _) _).alloc (by rw [World.size_alloc]; omega) _
      have hz0 : ((w.alloc (.cells #[.string s] 9)).alloc (.cells #[.bool false] 4)).heap.size = w.heap.size + 2 := by simp
      clear cR'
      generalize ((w.alloc (.cells #[.string s] 9)).alloc (.cells #[.bool false] 4)) = W at bS bR cS cR fR hB0 hz0 ⊢
      go_still_tail 8, (by kernel_rfl)
      change wpList _ _ _ _ _ W.drew
      go_wp2_with (go_at_call 41; refine (callsIn_wide.1 (places_in 3 _ _ _ _)).mono ?_; rintro e w' ⟨rfl, rfl⟩)
      have bK := Boxed.new W 9 (.string key)
      have bN := Boxed.new (W.alloc (.cells #[.string key] 9)) 3 (.int .i64 (k : Int))
      have bM := Boxed.new ((W.alloc (.cells #[.string key] 9)).alloc (.cells #[.int .i64 (k : Int)] 3)) 3 (.int .i64 (8 * (m : Int)))
      simp only [World.size_alloc] at bN bM
      replace bK := (bK.alloc (.cells #[.int .i64 (k : Int)] 3)).alloc (.cells #[.int .i64 (8 * (m : Int))] 3)
      replace bN := bN.alloc (.cells #[.int .i64 (8 * (m : Int))] 3)
      have hk3' : ∀ f : Nat → Prop, Keep f W (((W.alloc (.cells #[.string key] 9)).alloc (.cells #[.int .i64 (k : Int)] 3)).alloc (.cells #[.int .i64 (8 * (m : Int))] 3)) := fun f => (((Keep.refl f W).alloc _).alloc _).alloc _
      have hz3 : (((W.alloc (.cells #[.string key] 9)).alloc (.cells #[.int .i64 (k : Int)] 3)).alloc (.cells #[.int .i64 (8 * (m : Int))] 3)).heap.size = W.heap.size + 3 := by simp
      generalize (((W.alloc (.cells #[.string key] 9)).alloc (.cells #[.int .i64 (k : Int)] 3)).alloc (.cells #[.int .i64 (8 * (m : Int))] 3)) = W0 at bK bN bM hk3' hz3 ⊢
      replace bK : Boxed W0.drew W.heap.size 9 (.string key) := bK
      replace bN : Boxed W0.drew (W.heap.size + 1) 3 (.int .i64 (k : Int)) := bN
      have e8 : (8 * (m : Int)) = ((8 * m : Nat) : Int) := by omega
      rw [e8] at bM
      replace bM : Boxed W0.drew (W.heap.size + 1 + 1) 3 (.int .i64 ((8 * m : Nat) : Int)) := bM
      rw [hz0] at bK bN bM
      replace hk3' : ∀ f : Nat → Prop, Keep f W W0.drew := fun f => (hk3' f).drew
      replace hz3 : W0.drew.heap.size = w.heap.size + 5 := by show W0.heap.size = _; omega
      generalize W0.drew = X0 at bK bN bM hk3' hz3 ⊢
      refine wpIn_wide.1 (wpIn_rangeF (n := 4) (F := Fence.wide) rfl (by omega) (gf := 54) (lb := #[.pointer (some ⟨w.heap.size + 2, 0, none⟩), .pointer (some ⟨w.heap.size + 2 + 1, 0, none⟩), .pointer (some ⟨w.heap.size + 2 + 1 + 1, 0, none⟩)]) rfl trivial (enters_of Try.func54 (by kernel_rfl) rfl)
        (places1_seq 3 (w.heap.size + 2) (by omega) key k (8 * m) X0 hkey (by omega) (by omega) (by omega) bK bN bM) (fun _ => rfl) (by rintro z (h | h | h) <;> omega) (fun _ h => h.elim)
        (fun pre fp X => (∀ z, z < W.heap.size → fp z) ∧ (pre.map Fin.val).all (Pl.hasBit s.data.toList) = true ∧ Keep (fun z => z < W.heap.size) W X)
        (fun c pre fp X => (∀ z, z < W.heap.size → fp z) ∧ c = .ret ∧ (∃ x, x ∈ pre.map Fin.val ∧ Pl.hasBit s.data.toList x = false) ∧ Boxed X (w.heap.size + 1) 4 (.bool false) ∧ Keep (fun z => z < w.heap.size) W X)
        (fun pre x a' fp X => ((∀ z, z < W.heap.size → fp z) ∧ (pre.map Fin.val).all (Pl.hasBit s.data.toList) = true ∧ Keep (fun z => z < W.heap.size) W X) ∧ a' = { tmps := #[.string s, .string key, .pointer (some ⟨w.heap.size, 0, none⟩), undef, .pointer (some ⟨w.heap.size + 1, 0, none⟩), .int .i64 (x.val : Int), .string s, .bool false,
          .bool false, .string s, .bool true, .bool false, .bool false, .string key, .string s, .int .u8 (k : Int), .int .i64 (IntKind.i64.wrap (k : Int)), .string s, .int .i64 (s.size : Int), .int .i64 (IntKind.i64.wrap (m : Int)), .int .i64 (IntKind.i64.wrap (8 * IntKind.i64.wrap (m : Int))),
          .func (.func 54) #[] #[.pointer (some ⟨w.heap.size + 2, 0, none⟩), .pointer (some ⟨w.heap.size + 2 + 1, 0, none⟩), .pointer (some ⟨w.heap.size + 2 + 1 + 1, 0, none⟩)], .int .i64 (x.val : Int), undef, undef, undef, undef, undef, undef, undef, undef, undef, undef], defers := [] })
        ?_ ?_ ?_ (fun z => z < W.heap.size) ?_ ?_ ?_ ?assign ?body ?done ?stop)
      case assign =>
        intro l pre x fp X K hI hlt hlen2 hK2
        unfold encN
        rw [fold1]
        simp only [List.setIfInBounds_toArray, List.set_cons_succ, List.set_cons_zero]
        gi_wp2
        exact hK2 _ fp X (Step.refl hlt) ⟨hI, rfl⟩
      case body =>
        rintro l pre ⟨y, hy⟩ a' fp X ⟨⟨hfp, hA, hkX⟩, rfl⟩ hlt hlen2
        have bSX := hkX.boxed (by omega) bS
        have bRX := hkX.boxed (by omega) bR
        have cSX := bSX.cell
        have cRX := bRX.cell
        have fRX := bRX.frozen
        clear e8 bM bN bK hk3'
        have hms := hm.out
        have hyl : 1 + y / 8 < s.size := by omega
        have ha7 := and7 y (by omega)
        have hq0 : 0 ≤ (y : Int) := by omega
        have hw1 : IntKind.i64.wrap (1 + (y : Int) / 8) = 1 + (y : Int) / 8 := IntWalk.i64_in _ (by omega)
        have hw2 : (0 : Int) ≤ 1 + (y : Int) / 8 := by omega
        have hw3 : 1 + (y : Int) / 8 < (s.size : Int) := by omega
        have hw4 : (1 + (y : Int) / 8).toNat = 1 + y / 8 := by omega
        clear hms
        gi_wp2
        · have h1 : (bits .and .u8 ((s[1 + y / 8].toNat : Int) / 2 ^ (y % 8)) 1 == 0) = true := by assumption
          rw [bit1, ← has_at s y hyl] at h1
          refine ⟨fp, ⟨hfp, rfl, ⟨y, by simp, by simpa using h1⟩, bRX.set (.bool false), (hkX.mono (fun _ _ _ => by omega)).setCell _ _ _ (fun h _ => by omega)⟩, ⟨(Keep.refl _ _).setCell _ _ _ (fun h _ => h (hfp _ (by omega))), fun _ h => .inl h, fun z hz => ?_⟩⟩
          have := hlt z hz
          simpa [World.setCell] using this
        · have h1 : (bits .and .u8 ((s[1 + y / 8].toNat : Int) / 2 ^ (y % 8)) 1 == 0) = false := by assumption
          rw [bit1, ← has_at s y hyl] at h1
          exact ⟨fp, ⟨hfp, all_fin hA (by simpa using h1), hkX⟩, Step.refl hlt⟩
      case done =>
        rintro D ys fp X hD hnD hnew hlt hkp hys ⟨hfp, hA, hkX⟩ hKD
        have bRX := hkX.boxed (by omega) bR
        have cRX := bRX.cell
        have fRX := bRX.frozen
        clear e8 bM bN bK
        rw [hys] at hA
        have hM : Marked [D] (X.setCell ⟨w.heap.size + 1, 0, none⟩ (.bool true)) := by
          refine ⟨by simp, fun x hx => ?_⟩
          obtain rfl : x = D := by simpa using hx
          exact ((grownBy_setCell' X (w.heap.size + 1) (.bool true)).block x (Array.getElem?_eq_some_iff.1 hKD).1 (fun e => by cases e; omega)).trans hKD
        have hX := hkX.setCell (w.heap.size + 1) 0 (.bool true)
        go_wp2
        refine leaves_marks [D] _ hM (fun W' hk' => ⟨_, results_bool rfl rfl (hk'.boxed (by simp; omega) (bRX.set (.bool true))).cell, (by rw [hA]), ?_⟩)
        have hk2 : Keep (fun z => z < w.heap.size) W W' := ((hkX.mono (fp' := fun z => z < w.heap.size) (fun _ _ _ => by omega)).setCell (w.heap.size + 1) 0 (.bool true) (fun h _ => by omega)).trans hk' (fun z hz _ => by simp; omega)
        exact ⟨hk2.os.trans hB0.os, hk2.tape.trans hB0.tape, hk2.output.trans hB0.output, Nat.le_trans hB0.size hk2.size, fun z hz => (hk2.block z hz (by omega)).trans (hB0.block z hz)⟩
      case stop =>
        rintro D c pre fp X hD hnD hnew hlt hkp hys ⟨hfp, rfl, ⟨x, hx, hx2⟩, hBX, hkX⟩ hKD
        clear e8 bM bN bK
        have hA : (Pl.keyPlaces key.data.toList k (8 * m)).all (Pl.hasBit s.data.toList) = false := by
          rw [Bool.eq_false_iff]
          intro e
          have := List.all_eq_true.1 e x (hys.subset hx)
          rw [hx2] at this; cases this
        have hM : Marked [D] X := ⟨by simp, fun x hx => by obtain rfl : x = D := by simpa using hx
                                                           exact hKD⟩
        gi_wp2
        refine leaves_marks [D] _ hM (fun W' hk' => ⟨_, results_bool rfl rfl (hk'.boxed (by simp; omega) hBX).cell, (by rw [hA]), ?_⟩)
        have hk2 : Keep (fun z => z < w.heap.size) W W' := hkX.trans hk' (fun z hz _ => by simp; omega)
        exact ⟨hk2.os.trans hB0.os, hk2.tape.trans hB0.tape, hk2.output.trans hB0.output, Nat.le_trans hB0.size hk2.size, fun z hz => (hk2.block z hz (by omega)).trans (hB0.block z hz)⟩
      · rintro pre f X X' ⟨hf, hb, hk⟩ hkp
        exact ⟨hf, hb, hk.trans hkp (fun z hz _ => hf z hz)⟩
      · rintro c pre f X X' ⟨hf, hc, hx, hb, hk⟩ hkp
        exact ⟨hf, hc, hx, hkp.boxed (hf _ (by omega)) hb, hk.trans hkp (fun z hz _ => hf z (by omega))⟩
      · rintro pre x a' _ f X X' ⟨⟨hf, hb, hk⟩, he⟩ hkp
        exact ⟨⟨hf, hb, hk.trans hkp (fun z hz _ => hf z hz)⟩, he⟩
      · rintro z hz (h | h | h) <;> omega
      · intro z hz; omega
      · exact ⟨fun _ h => h, rfl, hk3' _⟩
end Go.Proofs.Ytcfcijgnkbmlaaa
