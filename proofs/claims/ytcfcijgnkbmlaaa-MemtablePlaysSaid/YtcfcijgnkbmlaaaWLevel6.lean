
/- Walks: the versions of a level; how many links a look goes along. Condition: rows whose bytes fit. -/
import Derived.Test.YtcfcijgnkbmlaaaTbl
import Derived.Test.YtcfcijgnkbmlaaaPlainLv
namespace Go.Proofs.Ytcfcijgnkbmlaaa
open Go.RowKit Go.Shelf

set_option maxRecDepth 100000 in
set_option maxHeartbeats 1600000 in
theorem tbl_steps (T : Nat) (xs : List Ver) (hs bs : List Nat) (key : ByteArray) (w : World) (hT : TblAt w T xs hs bs) (hx : xs.length ≤ 2932031007317) :
    Calls Try.prog 37 #[.pointer (some ⟨T, 0, none⟩), .string key] w fun e w' => e = .returned (.int .i64 (Pl.stp hs (Pl.bOf xs key) 8 0 : Nat)) ∧ Below w.heap.size w w' := by
  have hSW := hT.sk
  have hl := hSW.hl
  have bl := hSW.bl
  have hA := Pl.ahead_key hT.good.ris key
  generalize Pl.bOf xs key = k at *
  have hkn := hA.le
  have hst := Pl.stp_le hs k 8 0
  replace hA := Lib.hid hA
  clear hT
  go_enter Try.func37, Try.ntmps37
  go_wp2
  go_loopw [5, 6, 7] (fun n at' i W' => ∃ (m p c : Nat), m ≤ 8 ∧ i = .int .i64 ((m : Int) - 1) ∧ p ≤ k ∧ Hid (m ≤ Pl.hof hs p) ∧ at' = .pointer (some ⟨blk T bs p, 0, none⟩) ∧ n = .int .i64 (c : Int) ∧ Hid (c + Pl.stp hs k m p = Pl.stp hs k 8 0) ∧ Below w.heap.size w W') (fun _ _ i _ => (intOf i + 1).toNat)
  case atStart => exact ⟨8, 0, 0, by omega, rfl, by omega, Lib.hid (Nat.le_refl 8), rfl, rfl, Lib.hid (Nat.zero_add _), Below.refl _ _⟩
  case round =>
    obtain ⟨m, p, c, hm8, hi, hp, hho, rfl, rfl, hcs, hdw⟩ := hrel
    cases m with
    | zero =>
      obtain rfl := hi
      go_wp2
      go_ret
      have e := hcs.out
      exact ⟨ret_int (by have : Pl.stp hs k 0 p = 0 := rfl
                         omega), hdw⟩
    | succ lv =>
      rw [show (((lv + 1 : Nat) : Int) - 1) = (lv : Int) by omega] at hi
      subst hi
      go_wp2
      go_loopg [5, 6] (k - p) (fun g n at' W' => ∃ q, g = k - q ∧ p ≤ q ∧ q ≤ k ∧ Hid (lv + 1 ≤ Pl.hof hs q) ∧ at' = .pointer (some ⟨blk T bs q, 0, none⟩) ∧ n = .int .i64 ((c + Pl.cntN hs lv p q : Nat) : Int) ∧ Below w.heap.size w W')
      case atStart => exact ⟨p, rfl, Nat.le_refl _, hp, hho, rfl, by rw [Pl.cntN_self]; rfl, hdw⟩
      case round =>
        obtain ⟨q, rfl, hpq, hq, hh2, rfl, rfl, hdr⟩ := hrel
        have hSr := hSW.below hdr
        have l1 := hSr.link (p := q) (lv := lv) (by omega) (by omega)
        rw [Pl.lnk_step (show lv < Pl.hof hs q by have := hh2.out; omega) rfl] at l1
        obtain ⟨j, hj⟩ : ∃ j, Pl.nx hs q lv = j := ⟨_, rfl⟩
        have hj1 := Pl.nx_ge hs q lv
        have hj2 := Pl.nx_le (hs := hs) (p := q) (by omega) lv
        have hj3 : Hid (j < xs.length → lv < hs.getD j 0) := Lib.hid (fun h => by subst hj; exact Pl.nx_hit (by omega))
        have hj4 : Hid (∀ i, q ≤ i → i < j → hs.getD i 0 ≤ lv) := Lib.hid (fun i h1 h2 => by subst hj; exact Pl.nx_miss h1 h2)
        rw [hj] at l1 hj1 hj2
        clear hj
        have hend : Hid (¬ j < k → Pl.pd hs lv k = q ∧ Pl.cntN hs lv p k = Pl.cntN hs lv p q) := Lib.hid (fun h => ⟨Pl.pd_eq (by omega) hq (by have := hh2.out; omega) (fun i h1 h2 => hj4.out i h1 (by omega)), Pl.cntN_skip hpq hq (fun i h1 h2 => hj4.out i h1 (by omega))⟩)
        have hc2 := Pl.cntN_le hs lv p q
        have hcb : c ≤ Pl.stp hs k 8 0 := by have := hcs.out; omega
        have hfin : Hid (¬ j < k → c + Pl.cntN hs lv p q + Pl.stp hs k lv q = Pl.stp hs k 8 0) := Lib.hid (fun h => by
          have h1 := hend.out h
          have h2 := hcs.out
          rw [Pl.stp, h1.1, h1.2] at h2
          omega)
        have hw1 : IntKind.i64.wrap (lv : Int) = (lv : Int) := IntWalk.i64_in _ (by omega)
        have hw2 : (0 : Int) ≤ (lv : Int) := by omega
        have hw3 : ¬ ((lv : Int) < 0) := by omega
        have hw4 : (lv : Int) < 8 := by omega
        have hw5 : lv < 8 := by omega
        have hws : IntKind.i64.wrap (((c + Pl.cntN hs lv p q : Nat) : Int) + 1) = ((c + Pl.cntN hs lv p q : Nat) : Int) + 1 := IntWalk.i64_in _ (by omega)
        by_cases h1 : j < xs.length
        · rw [ptr_blk (T := T) (by omega)] at l1
          obtain ⟨x0, x1, x2, x3, xB⟩ := hSr.ver h1
          have hres : Hid (Op.bytesLess xs[j].key.toList key.toList = decide (j < k)) := Lib.hid (by
            by_cases h2 : j < k
            · rw [hA.out.yes j h1 h2]; simp [h2]
            · rw [hA.out.no j h1 (by omega)]; simp [h2])
          clear hSr
          by_cases h2 : j < k
          · have hr2 : Op.bytesLess xs[j].key.toList key.toList = true := by rw [hres.out]; simp [h2]
            have hcn : Hid (Pl.cntN hs lv p (j + 1) = Pl.cntN hs lv p q + 1) := Lib.hid (by rw [Pl.cntN_hit (hj3.out h1) (by omega), Pl.cntN_skip hpq hj1 (fun i h1 h2 => hj4.out i h1 h2)])
            generalize hcc : c + Pl.cntN hs lv p q = cc at *
            replace hcc := Lib.hid hcc
            clear hres
            go_wp2
            go_roundg (k - (j + 1))
            case measure => omega
            case rel => exact ⟨j + 1, rfl, by omega, by omega, Lib.hid (by have := hj3.out h1; exact this), by rfl, by rw [hcn.out, ← Nat.add_assoc, hcc.out]; first | rfl | go_num, hdr⟩
          · have hr2 : Op.bytesLess xs[j].key.toList key.toList = false := by rw [hres.out]; simp [h2]
            have hf2 := Lib.hid (hfin.out h2)
            clear hres
            go_wp2
            go_roundw
            case rel => exact ⟨lv, q, c + Pl.cntN hs lv p q, by omega, rfl, hq, Lib.hid (by have := hh2.out; omega), by rfl, by rfl, hf2, hdr⟩
            case measure => simp [intOf]
        · rw [ptr_none (by omega)] at l1
          have hf2 := Lib.hid (hfin.out (by omega))
          clear hSr
          go_wp2
          go_roundw
          case rel => exact ⟨lv, q, c + Pl.cntN hs lv p q, by omega, rfl, hq, Lib.hid (by have := hh2.out; omega), by rfl, by rfl, hf2, hdr⟩
          case measure => simp [intOf]
set_option maxRecDepth 100000 in
set_option maxHeartbeats 1600000 in
theorem tbl_level_in (T : Nat) (xs : List Ver) (hs bs : List Nat) (lv : Nat) (w : World) (hT : TblAt w T xs hs bs) (hlv : lv < 8) (hx : xs.length ≤ 2932031007316) :
    Calls Try.prog 36 #[.pointer (some ⟨T, 0, none⟩), .int .i64 (lv : Int)] w fun e w' => ∃ v, e = .returned v ∧ w'.ownsRow w.heap.size 24 4 v (Pl.lvlN xs hs lv xs.length).length (vcells (Pl.lvlN xs hs lv xs.length)) ∧ Below w.heap.size w w' := by
  have hS := hT.sk
  have hl := hS.hl
  have bl := hS.bl
  have l0 := hS.link (p := 0) (lv := lv) (by omega) hlv
  rw [Pl.lnk_step (show lv < Pl.hof hs 0 from hlv) rfl] at l0
  have l00 : w.cell? ⟨T, 4 + lv, none⟩ = some (Pl.ptrO bs[Pl.nx hs 0 lv]?) := l0
  obtain ⟨o0, ho0⟩ : ∃ o, Pl.ptrO bs[Pl.nx hs 0 lv]? = .pointer o := ptrO_is _
  rw [ho0] at l00
  have hn0 := Pl.nx_le (hs := hs) (p := 0) (by omega) lv
  have hst : Hid (Pl.lvlN xs hs lv (Pl.nx hs 0 lv) = []) := Lib.hid (Pl.lvlN_skip (a := 0) (by omega) (fun i h1 h2 => Pl.nx_miss h1 h2))
  have hhit0 : Hid (Pl.nx hs 0 lv < xs.length → lv < hs.getD (Pl.nx hs 0 lv) 0) := Lib.hid (fun h => Pl.nx_hit (by omega))
  generalize Pl.nx hs 0 lv = j0 at *
  have hw1 : IntKind.i64.wrap (lv : Int) = (lv : Int) := IntWalk.i64_in _ (by omega)
  have hw2 : (0 : Int) ≤ (lv : Int) := by omega
  have hw3 : ¬ ((lv : Int) < 0) := by omega
  have hw4 : (lv : Int) < 8 := by omega
  replace ho0 := Lib.hid ho0
  clear l0 hT
  go_enter Try.func36, Try.ntmps36
  go_wp2
  go_loopg [5, 6] (xs.length - j0) (fun g l x W' => ∃ j, g = xs.length - j ∧ j ≤ xs.length ∧ Hid (j < xs.length → lv < hs.getD j 0) ∧ Hid (x = Pl.ptrO bs[j]?) ∧ W'.ownsRow w.heap.size 24 4 l (Pl.lvlN xs hs lv j).length (vcells (Pl.lvlN xs hs lv j)) ∧ Below w.heap.size w W')
  case atStart => exact ⟨j0, rfl, by omega, hhit0, Lib.hid ho0.out.symm, by rw [hst.out]; exact World.ownsRow_nil _ _ _ _, Below.refl _ _⟩
  case round =>
    obtain ⟨j, rfl, hj, hhit, hx', hown, hbi⟩ := hrel
    have hSr := hS.below hbi
    replace hx' := hx'.out
    by_cases h1 : j < xs.length
    · rw [ptr_blk (T := T) (by omega)] at hx'
      subst hx'
      obtain ⟨x0, x1, x2, x3, xB⟩ := hSr.ver h1
      have l1 := hSr.link (p := j + 1) (lv := lv) (by omega) hlv
      rw [Pl.lnk_step (show lv < Pl.hof hs (j + 1) from hhit.out h1) rfl] at l1
      have hn1 := Pl.nx_ge hs (j + 1) lv
      have hn2 := Pl.nx_le (hs := hs) (p := j + 1) (by omega) lv
      have hhit2 : Hid (Pl.nx hs (j + 1) lv < xs.length → lv < hs.getD (Pl.nx hs (j + 1) lv) 0) := Lib.hid (fun h => Pl.nx_hit (by omega))
      have hlvl : Hid (Pl.lvlN xs hs lv (Pl.nx hs (j + 1) lv) = Pl.lvlN xs hs lv j ++ [xs[j]]) := Lib.hid (by rw [Pl.lvlN_skip hn1 (fun i h1 h2 => Pl.nx_miss h1 h2), Pl.lvlN_hit (hhit.out h1) h1])
      generalize Pl.nx hs (j + 1) lv = j2 at *
      obtain ⟨o1, ho1⟩ : ∃ o, Pl.ptrO bs[j2]? = .pointer o := ptrO_is _
      rw [ho1] at l1
      replace ho1 := Lib.hid ho1
      have hll := Pl.lvlN_length xs hs lv j
      obtain ⟨q, hq⟩ : ∃ q, (Pl.lvlN xs hs lv j).length = q := ⟨_, rfl⟩
      rw [hq] at hown hll
      have hlk : (q + 1) * 48 ≤ 140737488355328 := by omega
      have hB3 : w.heap.size ≤ wr.heap.size := hbi.size
      have hPut : Hid (∀ w1 : World, (wr.alloc (.cells #[.string xs[j].key, .int .u64 (xs[j].seq : Int), .bool xs[j].del, .string xs[j].val] 24)).grownBy w1 u5.ownBlock → Below w.heap.size w w1 ∧ w1.cell? ⟨blk T bs (j + 1), 4 + lv, none⟩ = some (.pointer o1)) := Lib.hid (fun w1 hgr => by
        have hb1 : Below w.heap.size w w1 := (hbi.alloc hB3 _).grown hgr (by simp; omega) (fun k e => (hown.lt k e).1)
        refine ⟨hb1, (hb1.cell (p := ⟨blk T bs (j + 1), 4 + lv, none⟩) (hS.lt (hS.blk_mem (p := j + 1) (by omega)))).trans ?_⟩
        exact (hbi.cell (p := ⟨blk T bs (j + 1), 4 + lv, none⟩) (hS.lt (hS.blk_mem (p := j + 1) (by omega)))).symm.trans l1)
      replace hq := Lib.hid hq
      clear hSr
      go_wp2_with (at_builtin; go_must (refine wpList_app1 (by rfl) _ _ 45 (by rfl) w.heap.size 24 (.agg #[.string .empty, .int .u64 0, .bool false, .string .empty]) 4 48 Try.underlying45 info_version rfl (by decide) u5 q (vcells (Pl.lvlN xs hs lv j)) wr hown hB3 (by rfl) #[.string xs[j].key, .int .u64 (xs[j].seq : Int), .bool xs[j].del, .string xs[j].val] 24 (by rfl) rfl (by simp [Value.oneCell']) hlk (by decide) ?_; intro g cap w1 hown' hgrow hat hg; have ⟨b1, hl1⟩ := hPut.out w1 hgrow))
      go_roundg (xs.length - j2)
      case measure => omega
      case rel =>
        refine ⟨j2, rfl, by omega, hhit2, Lib.hid ho1.out.symm, ?_, b1⟩
        rw [hlvl.out, List.length_append, vcells_append, hq.out]
        exact hown'
    · rw [ptr_none (by omega)] at hx'
      subst hx'
      obtain rfl : j = xs.length := by omega
      clear hSr
      go_wp2
      go_ret
      exact ⟨_, rfl, hown, hbi⟩
set_option maxRecDepth 100000 in
theorem tbl_level_out (T : Nat) (lv : Int) (w : World) (hlv : lv < 0 ∨ 8 ≤ lv) :
    Calls Try.prog 36 #[.pointer (some ⟨T, 0, none⟩), .int .i64 lv] w fun e w' => e = .returned (.slice none 0 0) ∧ w' = w := by
  go_enter Try.func36, Try.ntmps36
  rcases hlv with h | h
  · go_wp2
    go_ret
    exact ⟨rfl, rfl⟩
  · have h0 : ¬ lv < 0 := by omega
    go_wp2
    go_ret
    exact ⟨rfl, rfl⟩
end Go.Proofs.Ytcfcijgnkbmlaaa
