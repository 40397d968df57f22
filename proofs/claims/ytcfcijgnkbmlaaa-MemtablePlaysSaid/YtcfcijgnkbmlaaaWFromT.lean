
/- Walk: what a table's From tells. Condition: rows whose bytes fit. -/
import Derived.Test.YtcfcijgnkbmlaaaWBehind6
import Derived.Test.YtcfcijgnkbmlaaaFr
import Derived.Test.YtcfcijgnkbmlaaaApp1
import Derived.Test.YtcfcijgnkbmlaaaWAdd6
import Derived.Test.YtcfcijgnkbmlaaaOwnV
namespace Go.Proofs.Ytcfcijgnkbmlaaa
open Go.RowKit Go.Shelf

attribute [local go_sem] Oper.semAt_some

theorem ptrO_is (q : Option Nat) : ∃ o, Pl.ptrO q = .pointer o := by
  cases q with
  | none => exact ⟨_, rfl⟩
  | some b => exact ⟨_, rfl⟩
theorem ownsRow_sl {W : World} {base : Nat} {e : TypeId} {size : Nat} {v : Value} {k : Nat} {xs : List Value} (h : W.ownsRow base e size v k xs) : ∃ g cap, v = .slice g k cap := by
  rcases h.2 with ⟨rfl, rfl⟩ | ⟨g, cap, _, rfl, _⟩
  · exact ⟨_, _, rfl⟩
  · exact ⟨_, _, rfl⟩

set_option maxRecDepth 100000 in
set_option maxHeartbeats 1600000 in
theorem tfrom1_seqR (n : Nat) (hn : 1 ≤ n) (b T : Nat) (xs : List Ver) (hs bs : List Nat) (cnt by' : Int) (key : ByteArray) (k : Nat) (w : World) (mfp : Nat → Prop)
    (hb : Boxed w b 39 (.pointer (some ⟨T, 0, none⟩))) (hkb : Boxed w (b + 1) 9 (.string key)) (hS : SkAt w T xs hs bs cnt by') (hA : Ahead (fun x => Op.bytesLess x.key.toList key.toList) xs k)
    (hh : ∀ i, i < hs.length → 1 ≤ hs.getD i 0) (hx : xs.length ≤ 2932031007317) (hm : ∀ q, mfp q → q < w.heap.size) :
    SeqR Fence.wide n Try.prog 47 #[.pointer (some ⟨b, 0, none⟩), .pointer (some ⟨b + 1, 0, none⟩)] encV (fun q => SkB T bs q ∨ q = b ∨ q = b + 1) mfp mfp (fun ys => ys = xs.drop k) (fun ys => ys <+: xs.drop k) w := by
  intro lp J Jx W fp hkm hd hlt hJ hJx hY h0
  have hb1 := (hkm.boxed (.inr (.inl rfl)) hb).cell
  have hb2 := (hkm.boxed (.inr (.inr rfl)) hkb).cell
  have hbl1 := (hkm.boxed (.inr (.inl rfl)) hb).lt
  have hbl2 := (hkm.boxed (.inr (.inr rfl)) hkb).lt
  have hSW := hS.keep hkm (fun q h => .inl h)
  have hl := hS.hl
  have bl := hS.bl
  have hkn := hA.le
  have hpd := pd_zero_all hh (k := k) (by omega)
  have hnx := nx_zero_all hh (p := k) (by omega)
  have hkh : 0 < Pl.hof hs k := by have := Pl.pd_hit hs 0 k (by omega); rwa [hpd] at this
  have hnx2 : Hid (∀ p, p ≤ hs.length → Pl.nx hs p 0 = p) := Lib.hid (fun p hp => nx_zero_all hh hp)
  have hhid := Lib.hid hh
  have hzw := hkm.size
  replace hA := Lib.hid hA
  replace hY := Lib.hid hY
  clear hS hkb hb hh
  refine callsIn_of_wp Try.func47 rfl trivial (wpIn_wide.2 ?_) rfl
  simp only [Try.ntmps47, List.size_toArray, List.length_cons, List.length_nil, Nat.reduceAdd, Nat.reduceSub, Array.replicate_succ, Array.replicate_zero, List.push_toArray, List.append_toArray, List.nil_append, List.cons_append]
  go_wp2
  go_loopw [5, 6] (fun at' i W' => ∃ (m p : Nat), m ≤ 8 ∧ i = .int .i64 ((m : Int) - 1) ∧ p ≤ k ∧ Hid (m ≤ Pl.hof hs p) ∧ Hid (m < 8 → p = Pl.pd hs m k) ∧ at' = .pointer (some ⟨blk T bs p, 0, none⟩) ∧ Below W.heap.size W W') (fun _ i _ => (intOf i + 1).toNat)
  case atStart => exact ⟨8, 0, by omega, rfl, by omega, Lib.hid (Nat.le_refl 8), Lib.hid (fun h => by omega), rfl, Below.refl _ _⟩
  case round =>
    obtain ⟨m, p, hm8, hi, hp, hho, hpp, rfl, hdw⟩ := hrel
    have hSo := hSW.below hdw
    have k1 := (hdw.cell (p := ⟨b, 0, none⟩) hbl1).trans hb1
    have k2 := (hdw.cell (p := ⟨b + 1, 0, none⟩) hbl2).trans hb2
    cases m with
    | zero =>
      obtain rfl := hi
      have hpk : p = k := by rw [hpp.out (by omega), hpd]
      subst hpk
      clear hpp hho k1 k2
      have l0 := hSo.link0 (p := p) (by omega)
      rw [Pl.lnk_step hkh hnx] at l0
      obtain ⟨o0, ho0⟩ : ∃ o, Pl.ptrO bs[p]? = .pointer o := ptrO_is _
      rw [ho0] at l0
      replace ho0 := Lib.hid ho0
      clear hSo
      go_wp2
      go_loopg [4, 7] (xs.length - p) (fun g l x W' => ∃ i, g = xs.length - p - i ∧ i ≤ xs.length - p ∧ Hid (x = Pl.ptrO bs[p + i]?) ∧ W'.ownsRow W.heap.size 24 4 l i (vcells ((xs.drop p).take i)) ∧ Below W.heap.size W W')
      case atStart => exact ⟨0, rfl, by omega, Lib.hid ho0.out.symm, World.ownsRow_nil _ _ _ _, hdw⟩
      case round =>
        obtain ⟨i, rfl, hi, hx', hown, hbi⟩ := hrel
        have hSr := hSW.below hbi
        replace hx' := hx'.out
        by_cases h1 : p + i < xs.length
        · rw [ptr_blk (T := T) (by omega)] at hx'
          subst hx'
          obtain ⟨x0, x1, x2, x3, xB⟩ := hSr.ver h1
          have l1 := hSr.link0 (p := p + i + 1) (by omega)
          rw [Pl.lnk_step (show 0 < Pl.hof hs (p + i + 1) from hhid.out (p + i) (by omega)) (hnx2.out (p + i + 1) (by omega))] at l1
          obtain ⟨o1, ho1⟩ : ∃ o, Pl.ptrO bs[p + i + 1]? = .pointer o := ptrO_is _
          rw [ho1] at l1
          replace ho1 := Lib.hid ho1
          have hlk : (i + 1) * 48 ≤ 140737488355328 := by omega
          have hB3 : W.heap.size ≤ wr.heap.size := hbi.size
          have htk : Hid (vcells ((xs.drop p).take (i + 1)) = vcells ((xs.drop p).take i) ++ (#[.string xs[p + i].key, .int .u64 (xs[p + i].seq : Int), .bool xs[p + i].del, .string xs[p + i].val] : Array Value).toList) := Lib.hid (by
            rw [List.take_succ_eq_append_getElem (by rw [List.length_drop]; omega), vcells_append, List.getElem_drop]; rfl)
          have hPut : Hid (∀ w1 : World, (wr.alloc (.cells #[.string xs[p + i].key, .int .u64 (xs[p + i].seq : Int), .bool xs[p + i].del, .string xs[p + i].val] 24)).grownBy w1 u4.ownBlock → Below W.heap.size W w1 ∧ w1.cell? ⟨blk T bs (p + i + 1), 4, none⟩ = some (.pointer o1)) := Lib.hid (fun w1 hgr => by
            have hb1 : Below W.heap.size W w1 := (hbi.alloc hB3 _).grown hgr (by simp; omega) (fun k e => (hown.lt k e).1)
            refine ⟨hb1, (hb1.cell (p := ⟨blk T bs (p + i + 1), 4, none⟩) (hSW.lt (hSW.blk_mem (p := p + i + 1) (by omega)))).trans ?_⟩
            exact (hbi.cell (p := ⟨blk T bs (p + i + 1), 4, none⟩) (hSW.lt (hSW.blk_mem (p := p + i + 1) (by omega)))).symm.trans l1)
          clear hSr
          go_wp2_with (at_builtin; go_must (refine wpList_app1 (by rfl) _ _ 45 (by rfl) W.heap.size 24 (.agg #[.string .empty, .int .u64 0, .bool false, .string .empty]) 4 48 Try.underlying45 info_version rfl (by decide) u4 i (vcells ((xs.drop p).take i)) wr hown hB3 (by rfl) #[.string xs[p + i].key, .int .u64 (xs[p + i].seq : Int), .bool xs[p + i].del, .string xs[p + i].val] 24 (by rfl) rfl (by simp [Value.oneCell']) hlk (by decide) ?_; intro g cap w1 hown' hgrow hat hg; have ⟨b1, hl1⟩ := hPut.out w1 hgrow))
          go_roundg (xs.length - p - (i + 1))
          case measure => omega
          case rel => exact ⟨i + 1, rfl, by omega, Lib.hid (by rw [← Nat.add_assoc]; exact ho1.out.symm), by rw [htk.out]; exact hown', b1⟩
        · rw [ptr_none (by omega)] at hx'
          subst hx'
          obtain rfl : i = xs.length - p := by omega
          rw [List.take_of_length_le (by rw [List.length_drop]; exact Nat.le_refl _)] at hown
          obtain ⟨Y, hYl⟩ : ∃ Y, xs.drop p = Y := ⟨_, rfl⟩
          have hlY : xs.length - p = Y.length := by rw [← hYl, List.length_drop]
          rw [hYl, hlY] at hown
          have hYx : Y.length ≤ 2932031007317 := by omega
          have hV := own_vers hown
          obtain ⟨g0, cap0, hu, c1, c2, hrow⟩ := hV
          have hgw : ∀ q, u4.ownBlock = some q → W.heap.size ≤ q ∧ q < wr.heap.size := fun q e => hown.lt q e
          subst hu
          obtain ⟨wo, rfl⟩ : ∃ wo : World, wo = wr := ⟨_, rfl⟩
          have hJo := hJ _ _ _ _ h0 (Keep.of_below (fp := fp) hbi (fun q hq _ => hlt q hq))
          have hko : Keep mfp W wo := Keep.of_below hbi (fun q _ h => h)
          have hzo := hbi.size
          have hc0 : Hid (∀ i (hi : i < Y.length), ∃ gb off, g0 = some ⟨gb, off, none⟩ ∧ W.heap.size ≤ gb ∧ gb < wo.heap.size ∧ VerIn wo gb (off + i * 4) Y[i]) := Lib.hid (fun i hi => by
            obtain ⟨gb, off, rfl, hr⟩ := hrow (by omega)
            exact ⟨gb, off, rfl, (hgw gb rfl).1, (hgw gb rfl).2, hr.2 i hi⟩)
          replace hYl := Lib.hid hYl
          clear hSr hown hrow hSW hA hpd hnx hkh hnx2 hhid hb1 hb2 hbl1 hbl2 hl bl hbi hdw l0 ho0 hgw
          replace hlY := Lib.hid hlY
          go_wp2
          refine (wpIn_wide (n := n)).1 ?_
          gi_loopw [9, 67] (fun _ i W' => ∃ j : Nat, j ≤ Y.length ∧ i = .int .i64 j ∧ Keep mfp W W' ∧ Keep (fun q => W.heap.size ≤ q ∧ q < wo.heap.size) wo W' ∧ ∃ fp', (∀ q, fp' q → fp q ∨ wo.heap.size ≤ q) ∧ (∀ q, fp' q → q < W'.heap.size) ∧ J (Y.take j) fp' W') (fun _ i _ => Y.length - (intOf i).toNat)
          case atStart => exact ⟨0, by omega, rfl, hko, Keep.refl _ _, fp, fun _ h => .inl h, fun q hq => by have := hlt q hq; omega, by simpa using hJo⟩
          case round =>
            obtain ⟨j, hj, rfl, hkp, hkw, fp', hn', hlt', hJ'⟩ := hrel
            by_cases h1 : j < Y.length
            · obtain ⟨gb, off, rfl, hg1, hg2, x0, x1, x2, x3⟩ := hc0.out j h1
              replace x0 := hkw.cell ⟨hg1, hg2⟩ x0
              replace x1 := hkw.cell ⟨hg1, hg2⟩ x1
              replace x2 := hkw.cell ⟨hg1, hg2⟩ x2
              replace x3 := hkw.cell ⟨hg1, hg2⟩ x3
              have htk : Hid (Y.take (j + 1) = Y.take j ++ [Y[j]]) := (by show _ = _; exact List.take_succ_eq_append_getElem h1)
              have hka : ∀ f : Nat → Prop, Keep f wr (wr.alloc (.cells #[.string Y[j].key, .int .u64 (Y[j].seq : Int), .bool Y[j].del, .string Y[j].val] 24)) := fun f => (Keep.refl f wr).alloc _
              have hza : (wr.alloc (.cells #[.string Y[j].key, .int .u64 (Y[j].seq : Int), .bool Y[j].del, .string Y[j].val] 24)).heap.size = wr.heap.size + 1 := by simp
              obtain ⟨fn, tmps, assign, body, hy, hRd⟩ := hY.out (Y.take j) Y[j] fp' _ (hJ _ _ _ _ hJ' (hka _)) (fun q hq => by have := hlt' q hq; omega) (by rw [hYl.out, ← htk.out]; exact List.take_prefix _ _)
              unfold encV at hy
              gi_wp2
              refine hRd.mono ?_
              rintro e W3 (⟨rfl, fp3, hJ3, st3⟩ | ⟨rfl, fp3, hJx3, st3⟩)
              · clear hy
                have hk3 : Keep mfp W W3 := (hkp.trans (hka mfp) (fun _ h _ => h)).trans st3.keep (fun i hi hil hf => by
                  rcases hn' i hf with h | h
                  · exact hd i h hi
                  · have := hm i hi; omega)
                have hw3 : Keep (fun q => W.heap.size ≤ q ∧ q < wo.heap.size) wo W3 := (hkw.trans (hka (fun q => W.heap.size ≤ q ∧ q < wo.heap.size)) (fun _ h _ => h)).trans st3.keep (fun i hi hil hf => by
                  rcases hn' i hf with h | h
                  · have := hlt i h; omega
                  · omega)
                have hn3 : ∀ q, fp3 q → fp q ∨ wo.heap.size ≤ q := fun q h => by
                  rcases st3.new q h with h | h
                  · exact hn' q h
                  · have := hkw.size; right; omega
                gi_wp2
                go_roundw
                case rel => ((repeat apply Exists.intro); refine ⟨⟨j + 1, by omega, by go_num, hk3, hw3, fp3, hn3, st3.lt, by rw [htk.out]; exact hJ3⟩, rfl⟩)
                case measure => simp [intOf]; omega
              · clear hy
                have hk3 : Keep mfp W W3 := (hkp.trans (hka mfp) (fun _ h _ => h)).trans st3.keep (fun i hi hil hf => by
                  rcases hn' i hf with h | h
                  · exact hd i h hi
                  · have := hm i hi; omega)
                have hw3 : Keep (fun q => W.heap.size ≤ q ∧ q < wo.heap.size) wo W3 := (hkw.trans (hka (fun q => W.heap.size ≤ q ∧ q < wo.heap.size)) (fun _ h _ => h)).trans st3.keep (fun i hi hil hf => by
                  rcases hn' i hf with h | h
                  · have := hlt i h; omega
                  · omega)
                have hn3 : ∀ q, fp3 q → fp q ∨ wo.heap.size ≤ q := fun q h => by
                  rcases st3.new q h with h | h
                  · exact hn' q h
                  · have := hkw.size; right; omega
                gi_wp2
                refine bodyPost_ret (results_none rfl _ _ _) rfl ?_
                exact SeqEnd.part hk3 (fun q h => (hn3 q h).imp id (fun h => by omega)) st3.lt _ (by rw [hYl.out]; exact List.take_prefix (j + 1) Y) (by rw [htk.out]; exact hJx3)
            · obtain rfl : j = Y.length := by omega
              gi_wp2
              go_end0
              exact SeqEnd.all hkp (fun q h => (hn' q h).imp id (fun h => by omega)) hlt' Y hYl.out.symm (by simpa using hJ')
    | succ lv =>
      rw [show (((lv + 1 : Nat) : Int) - 1) = (lv : Int) by omega] at hi
      subst hi
      clear hpp
      go_wp2
      go_loopg [5] (k - p) (fun g at' W' => ∃ q, g = k - q ∧ q ≤ k ∧ Hid (lv + 1 ≤ Pl.hof hs q) ∧ at' = .pointer (some ⟨blk T bs q, 0, none⟩) ∧ Below W.heap.size W W')
      case atStart => exact ⟨p, rfl, hp, hho, rfl, hdw⟩
      case round =>
        obtain ⟨q, rfl, hq, hh2, rfl, hdr⟩ := hrel
        have hSr := hSW.below hdr
        have l1 := hSr.link (p := q) (lv := lv) (by omega) (by omega)
        rw [Pl.lnk_step (show lv < Pl.hof hs q by have := hh2.out; omega) rfl] at l1
        obtain ⟨j, hj⟩ : ∃ j, Pl.nx hs q lv = j := ⟨_, rfl⟩
        have hj1 := Pl.nx_ge hs q lv
        have hj2 := Pl.nx_le (hs := hs) (p := q) (by omega) lv
        have hj3 : Hid (j < xs.length → lv < hs.getD j 0) := Lib.hid (fun h => by subst hj; exact Pl.nx_hit (by omega))
        have hj4 : Hid (∀ i, q ≤ i → i < j → hs.getD i 0 ≤ lv) := Lib.hid (fun i h1 h2 => by subst hj; exact Pl.nx_miss h1 h2)
        rw [hj] at l1 hj1 hj2
        clear hj
        have hend : Hid (¬ j < k → Pl.pd hs lv k = q) := Lib.hid (fun h => Pl.pd_eq (by omega) hq (by have := hh2.out; omega) (fun i h1 h2 => hj4.out i h1 (by omega)))
        have hw1 : IntKind.i64.wrap (lv : Int) = (lv : Int) := IntWalk.i64_in _ (by omega)
        have hw2 : (0 : Int) ≤ (lv : Int) := by omega
        have hw3 : ¬ ((lv : Int) < 0) := by omega
        have hw4 : (lv : Int) < 8 := by omega
        have hw5 : lv < 8 := by omega
        have k3 := (hdr.cell (p := ⟨b + 1, 0, none⟩) hbl2).trans hb2
        by_cases h1 : j < xs.length
        · rw [ptr_blk (T := T) (by omega)] at l1
          obtain ⟨x0, x1, x2, x3, xB⟩ := hSr.ver h1
          have hres : Hid (Op.bytesLess xs[j].key.toList key.toList = decide (j < k)) := Lib.hid (by
            by_cases h2 : j < k
            · rw [hA.out.yes j h1 h2]; simp [h2]
            · rw [hA.out.no j h1 (by omega)]; simp [h2])
          clear hSr hSo
          by_cases h2 : j < k
          · have hr2 : Op.bytesLess xs[j].key.toList key.toList = true := by rw [hres.out]; simp [h2]
            clear hres
            go_wp2
            go_quiet (fail)
            go_wp2
            go_roundg (k - (j + 1))
            case measure => omega
            case rel => exact ⟨j + 1, rfl, by omega, Lib.hid (by have := hj3.out h1; exact this), by rfl, below_drewN hdr nq⟩
          · have hr2 : Op.bytesLess xs[j].key.toList key.toList = false := by rw [hres.out]; simp [h2]
            have hpe := Lib.hid (hend.out h2)
            clear hres
            go_wp2
            go_quiet (fail)
            go_wp2
            go_roundw
            case rel => exact ⟨lv, q, by omega, rfl, hq, Lib.hid (by have := hh2.out; omega), Lib.hid (fun _ => hpe.out.symm), by rfl, below_drewN hdr nq⟩
            case measure => simp [intOf]
        · rw [ptr_none (by omega)] at l1
          have hpe := Lib.hid (hend.out (by omega))
          clear hSr hSo
          go_wp2
          go_quiet (fail)
          go_wp2
          go_roundw
          case rel => exact ⟨lv, q, by omega, rfl, hq, Lib.hid (by have := hh2.out; omega), Lib.hid (fun _ => hpe.out.symm), by rfl, below_drewN hdr nq⟩
          case measure => simp [intOf]
end Go.Proofs.Ytcfcijgnkbmlaaa
