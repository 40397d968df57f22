
/- Walks: the document's table asked for its levels and its links. Condition: rows whose bytes fit. -/
import Derived.Test.YtcfcijgnkbmlaaaWRef6
namespace Go.Proofs.Ytcfcijgnkbmlaaa
open Go.RowKit Go.Shelf

/-- the cells of heights -/
def hcells (l : List Nat) : List Value := l.map fun (h : Nat) => Value.int .i64 (h : Int)
theorem hcells_length (l : List Nat) : (hcells l).length = l.length := by simp [hcells]
theorem hcells_append (a b : List Nat) : hcells (a ++ b) = hcells a ++ hcells b := by simp [hcells]
/-- in W, the document's table lies in block R -/
def RtAt (W : World) (R : Nat) (xs : List Ver) (hs : List Nat) : Prop :=
  ∃ L H, W.heap[R]? = some (.cells #[L, H] 64 (0, 0)) ∧ W.ownsRow (R + 1) 24 4 L xs.length (vcells xs) ∧ W.ownsRow (R + 1) 3 1 H hs.length (hcells hs) ∧ (xs = [] → L = .slice none 0 0 ∧ H = .slice none 0 0)
theorem own_ints {W : World} {base : Nat} {v : Value} {l : List Nat} (h : W.ownsRow base 3 1 v l.length (hcells l)) : ∃ g cap, v = .slice g l.length cap ∧ l.length ≤ cap ∧ cap ≤ 9223372036854775807 ∧ ∀ i (hi : i < l.length), ∃ b, g = some ⟨b, 0, none⟩ ∧ v.ownBlock = some b ∧ W.cell? ⟨b, i, none⟩ = some (.int .i64 (l[i] : Int)) := by
  rcases own_at h with ⟨h0, rfl⟩ | ⟨g, cap, rfl, h1, h2, h3, h4, hc⟩
  · exact ⟨none, 0, by rw [h0], by omega, by omega, fun i hi => by omega⟩
  · refine ⟨_, cap, rfl, h3, h4, fun i hi => ⟨g, rfl, rfl, ?_⟩⟩
    rw [hc i (by omega)]
    simp [hcells, hi]
theorem own_vers2 {W : World} {base : Nat} {v : Value} {l : List Ver} (h : W.ownsRow base 24 4 v l.length (vcells l)) : ∃ g cap, v = .slice g l.length cap ∧ l.length ≤ cap ∧ cap ≤ 9223372036854775807 ∧ ∀ i (hi : i < l.length), ∃ b, g = some ⟨b, 0, none⟩ ∧ v.ownBlock = some b ∧ VerIn W b (i * 4) l[i] := by
  rcases own_at h with ⟨h0, rfl⟩ | ⟨g, cap, rfl, h1, h2, h3, h4, hc⟩
  · exact ⟨none, 0, by rw [h0], by omega, by omega, fun i hi => by omega⟩
  · refine ⟨_, cap, rfl, h3, h4, fun i hi => ⟨g, rfl, rfl, ?_⟩⟩
    have hp := vcells_get l i hi
    exact ⟨(hc _ (by omega)).trans hp.1, (hc _ (by omega)).trans hp.2.1, (hc _ (by omega)).trans hp.2.2.1, (hc _ (by omega)).trans hp.2.2.2⟩
theorem RtAt.below {W W' : World} {R : Nat} {xs : List Ver} {hs : List Nat} (h : RtAt W R xs hs) (hb : Below W.heap.size W W') : RtAt W' R xs hs := by
  obtain ⟨L, H, h1, h2, h3, h4⟩ := h
  have hk : Keep (fun _ => True) W W' := Keep.of_below hb (fun _ _ h => h)
  exact ⟨L, H, (hb.block R (Array.getElem?_eq_some_iff.1 h1).1).trans h1, hk.ownsRow h2 (fun _ _ => trivial), hk.ownsRow h3 (fun _ _ => trivial), h4⟩

set_option maxRecDepth 100000 in
set_option maxHeartbeats 1600000 in
theorem refLevel_any (R : Nat) (xs : List Ver) (hs : List Nat) (lv : Int) (w : World) (hR : RtAt w R xs hs) (hl : hs.length = xs.length) (hx : xs.length ≤ 2932031007316) :
    Calls Try.prog 52 #[.pointer (some ⟨R, 0, none⟩), .int .i64 lv] w fun e w' => ∃ v, e = .returned v ∧ w'.ownsRow w.heap.size 24 4 v (if 0 ≤ lv then Pl.lvlN xs hs lv.toNat xs.length else []).length (vcells (if 0 ≤ lv then Pl.lvlN xs hs lv.toNat xs.length else [])) ∧ Below w.heap.size w w' := by
  obtain ⟨L, H, hblk, hrl, hrh, _⟩ := hR
  obtain ⟨gl, capl, rfl, l1, l2, hcl⟩ := own_vers2 hrl
  obtain ⟨gh, caph, rfl, k1, k2, hch⟩ := own_ints hrh
  have hRw := (Array.getElem?_eq_some_iff.1 hblk).1
  have cL : w.cell? ⟨R, 0, none⟩ = some (.slice gl xs.length capl) := (cell_of hblk).trans rfl
  have cH : w.cell? ⟨R, 1, none⟩ = some (.slice gh hs.length caph) := (cell_of hblk).trans rfl
  have hll := fun q e => hrl.lt (k := q) e
  have hlh := fun q e => hrh.lt (k := q) e
  have hcl' := Lib.hid hcl
  have hch' := Lib.hid hch
  clear hblk hrl hrh hcl hch
  by_cases hlv : 0 ≤ lv
  · obtain ⟨n, rfl⟩ := Int.eq_ofNat_of_zero_le hlv
    rw [if_pos hlv, Int.toNat_natCast]
    have hg0 : decide ((0 : Int) ≤ (n : Int)) = true := by simp
    go_enter Try.func52, Try.ntmps52
    go_wp2
    go_loopw [5, 6] (fun o i W' => ∃ k : Nat, k ≤ xs.length ∧ i = .int .i64 k ∧ W'.ownsRow w.heap.size 24 4 o (Pl.lvlN xs hs n k).length (vcells (Pl.lvlN xs hs n k)) ∧ Below w.heap.size w W') (fun _ i _ => xs.length - (intOf i).toNat)
    case atStart => exact ⟨0, by omega, rfl, World.ownsRow_nil _ _ _ _, Below.refl _ _⟩
    case round =>
      obtain ⟨k, hk, rfl, hown, hbi⟩ := hrel
      have dL := (hbi.cell (p := ⟨R, 0, none⟩) hRw).trans cL
      have dH := (hbi.cell (p := ⟨R, 1, none⟩) hRw).trans cH
      by_cases h1 : k < xs.length
      · have h1' : k < hs.length := by omega
        obtain ⟨b, rfl, hob, hver⟩ := hcl'.out k h1
        obtain ⟨b2, rfl, hob2, hint⟩ := hch'.out k h1'
        obtain ⟨x0, x1, x2, x3⟩ := hver.kept (hbi.block b (hll b hob).2)
        have y0 := (hbi.cell (p := ⟨b2, k, none⟩) (hlh b2 hob2).2).trans hint
        have hgd : hs.getD k 0 = hs[k] := by rw [List.getD_eq_getElem?_getD, List.getElem?_eq_getElem h1']; rfl
        by_cases h2 : n < hs[k]
        · have e1 := Lib.hid (Pl.lvlN_hit (xs := xs) (hs := hs) (lv := n) (j := k) (by rw [hgd]; exact h2) h1)
          have hd2 : decide ((n : Int) < (hs[k] : Int)) = true := by simp; exact h2
          have hll2 := Pl.lvlN_length xs hs n k
          obtain ⟨q, hq⟩ : ∃ q, (Pl.lvlN xs hs n k).length = q := ⟨_, rfl⟩
          rw [hq] at hown hll2
          replace hq := Lib.hid hq
          have hlk : (q + 1) * 48 ≤ 140737488355328 := by omega
          have hB3 : w.heap.size ≤ wr.heap.size := hbi.size
          have hPut : Hid (∀ w1 : World, (wr.alloc (.cells #[.string xs[k].key, .int .u64 (xs[k].seq : Int), .bool xs[k].del, .string xs[k].val] 24)).grownBy w1 u5.ownBlock → Below w.heap.size w w1) := Lib.hid (fun w1 hgr => (hbi.alloc hB3 _).grown hgr (by simp; omega) (fun k e => (hown.lt k e).1))
          clear hgd
          go_wp2_with (at_builtin; go_must (refine wpList_app1 (by rfl) _ _ 45 (by rfl) w.heap.size 24 (.agg #[.string .empty, .int .u64 0, .bool false, .string .empty]) 4 48 Try.underlying45 info_version rfl (by decide) u5 q (vcells (Pl.lvlN xs hs n k)) wr hown hB3 (by rfl) #[.string xs[k].key, .int .u64 (xs[k].seq : Int), .bool xs[k].del, .string xs[k].val] 24 (by rfl) rfl (by simp [Value.oneCell']) hlk (by decide) ?_; intro g cap w1 hown' hgrow hat hg; have b1 := hPut.out w1 hgrow))
          go_roundw
          case rel =>
            refine ⟨k + 1, by omega, by go_num, ?_, b1⟩
            rw [e1.out, List.length_append, vcells_append, hq.out]
            exact hown'
          case measure => simp [intOf]; omega
        · have e1 : Pl.lvlN xs hs n (k + 1) = Pl.lvlN xs hs n k := Pl.lvlN_skip (Nat.le_succ k) (fun i g1 g2 => (by
            obtain rfl : i = k := by omega
            rw [hgd]; omega))
          have hd2 : decide ((n : Int) < (hs[k] : Int)) = false := by simp; omega
          rw [← e1] at hown
          clear e1 hgd
          go_wp2
          go_roundw
          case rel => exact ⟨k + 1, by omega, by go_num, hown, hbi⟩
          case measure => simp [intOf]; omega
      · obtain rfl : k = xs.length := by omega
        go_wp2
        go_ret
        exact ⟨_, rfl, hown, hbi⟩
  · rw [if_neg hlv]
    have hg0 : decide ((0 : Int) ≤ lv) = false := by simp; omega
    go_enter Try.func52, Try.ntmps52
    go_wp2
    go_loopw [5, 6] (fun o i W' => ∃ k : Nat, k ≤ xs.length ∧ i = .int .i64 k ∧ o = .slice none 0 0 ∧ W' = w) (fun _ i _ => xs.length - (intOf i).toNat)
    case atStart => exact ⟨0, by omega, rfl, rfl, rfl⟩
    case round =>
      obtain ⟨k, hk, rfl, rfl, rfl⟩ := hrel
      by_cases h1 : k < xs.length
      · go_wp2
        go_roundw
        case rel => exact ⟨k + 1, by omega, by go_num, by trivial, by trivial⟩
        case measure => simp [intOf]; omega
      · obtain rfl : k = xs.length := by omega
        go_wp2
        go_ret
        exact ⟨_, rfl, World.ownsRow_nil _ _ _ _, Below.refl _ _⟩

set_option maxRecDepth 100000 in
set_option maxHeartbeats 1600000 in
theorem refSteps_any (R : Nat) (xs : List Ver) (hs : List Nat) (key : ByteArray) (w : World) (hR : RtAt w R xs hs) (hg : Pl.TGood xs hs) (hx : xs.length ≤ 2932031007316) :
    Calls Try.prog 53 #[.pointer (some ⟨R, 0, none⟩), .string key] w fun e w' => e = .returned (.int .i64 (Pl.stp hs (Pl.bOf xs key) 8 0 : Nat)) ∧ Below w.heap.size w w' := by
  obtain ⟨L, H, hblk, hrl, hrh, _⟩ := hR
  obtain ⟨gl, capl, rfl, l1, l2, hcl⟩ := own_vers2 hrl
  obtain ⟨gh, caph, rfl, k1, k2, hch⟩ := own_ints hrh
  have cL : w.cell? ⟨R, 0, none⟩ = some (.slice gl xs.length capl) := (cell_of hblk).trans rfl
  have cH : w.cell? ⟨R, 1, none⟩ = some (.slice gh hs.length caph) := (cell_of hblk).trans rfl
  have hcl' := Lib.hid hcl
  have hch' := Lib.hid hch
  have hl := hg.hl
  have hA := Pl.ahead_key hg.ris key
  generalize Pl.bOf xs key = k at *
  have hkn := hA.le
  have hst := Pl.stp_le hs k 8 0
  replace hA := Lib.hid hA
  clear hblk hrl hrh hcl hch hg
  go_enter Try.func53, Try.ntmps53
  go_wp2
  go_loopw [5, 6, 7, 8] (fun n at' i _ W' => ∃ (m p c : Nat), m ≤ 8 ∧ i = .int .i64 ((m : Int) - 1) ∧ p ≤ k ∧ Hid (m ≤ Pl.hof hs p) ∧ at' = .int .i64 ((p : Int) - 1) ∧ n = .int .i64 (c : Int) ∧ Hid (c + Pl.stp hs k m p = Pl.stp hs k 8 0) ∧ W' = w) (fun _ _ i _ _ => (intOf i + 1).toNat)
  case atStart => exact ⟨8, 0, 0, by omega, rfl, by omega, Lib.hid (Nat.le_refl 8), rfl, rfl, Lib.hid (Nat.zero_add _), rfl⟩
  case round =>
    obtain ⟨m, p, c, hm8, hi, hp, hho, rfl, rfl, hcs, rfl⟩ := hrel
    cases m with
    | zero =>
      obtain rfl := hi
      go_wp2
      go_ret
      have e := hcs.out
      exact ⟨ret_int (by have : Pl.stp hs k 0 p = 0 := rfl
                         omega), Below.refl _ _⟩
    | succ lv =>
      rw [show (((lv + 1 : Nat) : Int) - 1) = (lv : Int) by omega] at hi
      subst hi
      have hwp : IntKind.i64.wrap ((p : Int) - 1 + 1) = (p : Int) := (IntWalk.i64_in _ (by omega)).trans (by omega)
      have hwp2 : (p : Int) - 1 + 1 = (p : Int) := by omega
      have hcb : c ≤ Pl.stp hs k 8 0 := by have := hcs.out; omega
      go_wp2
      go_loopw [5, 6, 8] (fun n at' i W' => ∃ (j q : Nat), p ≤ q ∧ q ≤ j ∧ j ≤ k ∧ i = .int .i64 (j : Int) ∧ Hid (lv + 1 ≤ Pl.hof hs q) ∧ Hid (∀ z, q ≤ z → z < j → hs.getD z 0 ≤ lv) ∧ at' = .int .i64 ((q : Int) - 1) ∧ n = .int .i64 ((c + Pl.cntN hs lv p j : Nat) : Int) ∧ W' = wr) (fun _ _ i _ => k - (intOf i).toNat)
      case atStart => exact ⟨p, p, Nat.le_refl _, Nat.le_refl _, hp, rfl, hho, Lib.hid (fun z h1 h2 => by omega), rfl, by rw [Pl.cntN_self]; rfl, rfl⟩
      case round =>
        obtain ⟨j, q, hpq, hqj, hjk, rfl, hh2, hno, rfl, rfl, rfl⟩ := hrel
        have hc2 := Pl.cntN_le hs lv p j
        have hws : IntKind.i64.wrap (((c + Pl.cntN hs lv p j : Nat) : Int) + 1) = ((c + Pl.cntN hs lv p j : Nat) : Int) + 1 := IntWalk.i64_in _ (by omega)
        by_cases h1 : j < k
        · have h1x : j < xs.length := by omega
          have h1' : j < hs.length := by omega
          obtain ⟨b, rfl, hob, hver⟩ := hcl'.out j h1x
          obtain ⟨b2, rfl, hob2, y0⟩ := hch'.out j h1'
          obtain ⟨x0, x1, x2, x3⟩ := hver
          have hr2 := hA.out.yes j h1x h1
          have hgd : hs.getD j 0 = hs[j] := by rw [List.getD_eq_getElem?_getD, List.getElem?_eq_getElem h1']; rfl
          by_cases h2 : lv < hs[j]
          · have hd2 : decide ((lv : Int) < (hs[j] : Int)) = true := by simp; exact h2
            have e1 := Lib.hid (Pl.cntN_hit (hs := hs) (lv := lv) (a := p) (j := j) (by rw [hgd]; exact h2) (by omega))
            have hho2 : Hid (lv + 1 ≤ Pl.hof hs (j + 1)) := Lib.hid (by show lv < hs.getD j 0; rw [hgd]; exact h2)
            generalize hcc : c + Pl.cntN hs lv p j = cc at *
            replace hcc := Lib.hid hcc
            clear hgd
            go_wp2
            go_roundw
            case rel => exact ⟨j + 1, j + 1, by omega, by omega, by omega, by go_num, hho2, Lib.hid (fun z h1 h2 => by omega), by go_num, by rw [e1.out, ← Nat.add_assoc, hcc.out]; go_num, by trivial⟩
            case measure => simp [intOf]; omega
          · have hd2 : decide ((lv : Int) < (hs[j] : Int)) = false := by simp; omega
            have hno2 : Hid (∀ z, q ≤ z → z < j + 1 → hs.getD z 0 ≤ lv) := Lib.hid (fun z h3 h4 => by
              by_cases e : z = j
              · subst e; rw [hgd]; omega
              · exact hno.out z h3 (by omega))
            have e1 := Lib.hid (Pl.cntN_skip (hs := hs) (lv := lv) (a := p) (q := j) (b := j + 1) (by omega) (by omega) (fun z h3 h4 => hno2.out z (by omega) h4))
            clear hgd
            go_wp2
            go_roundw
            case rel => exact ⟨j + 1, q, by omega, by omega, by omega, by go_num, hh2, hno2, by rfl, by rw [e1.out], by trivial⟩
            case measure => simp [intOf]; omega
        · obtain rfl : j = k := by omega
          have hpe : Pl.pd hs lv j = q := Pl.pd_eq (by omega) hqj (by have := hh2.out; omega) hno.out
          have hf2 : Hid (c + Pl.cntN hs lv p j + Pl.stp hs j lv q = Pl.stp hs j 8 0) := Lib.hid (by
            have h2 := hcs.out
            rw [Pl.stp, hpe] at h2
            omega)
          replace hpe := Lib.hid hpe
          by_cases h2 : j < xs.length
          · obtain ⟨b, rfl, hob, hver⟩ := hcl'.out j h2
            obtain ⟨x0, x1, x2, x3⟩ := hver
            have hr2 := hA.out.no j h2 (Nat.le_refl _)
            go_wp2
            go_roundw
            case rel => exact ⟨lv, q, _, by omega, rfl, hqj, Lib.hid (by have := hh2.out; omega), by rfl, by rfl, hf2, by trivial⟩
            case measure => simp [intOf]
          · go_wp2
            go_roundw
            case rel => exact ⟨lv, q, _, by omega, rfl, hqj, Lib.hid (by have := hh2.out; omega), by rfl, by rfl, hf2, by trivial⟩
            case measure => simp [intOf]
end Go.Proofs.Ytcfcijgnkbmlaaa
