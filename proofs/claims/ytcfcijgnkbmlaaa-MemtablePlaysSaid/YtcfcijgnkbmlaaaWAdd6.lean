
/- Walk: a version put into a table. Condition: counts that are ints. -/
import Derived.Test.YtcfcijgnkbmlaaaWBehind6
import Derived.Test.YtcfcijgnkbmlaaaSkGrow
import Derived.Test.YtcfcijgnkbmlaaaWMay
import Derived.BigRegion
namespace Go.Proofs.Ytcfcijgnkbmlaaa
open Go.RowKit

set_option maxRecDepth 100000 in
set_option maxHeartbeats 800000 in
theorem add_bad (T : Nat) (v : Ver) (h : Int) (w : World) (hb : Pl.mayM v.key v.seq v.del v.val = false ∨ h < 1 ∨ 8 < h) :
    Calls Try.prog 28 #[.pointer (some ⟨T, 0, none⟩), .agg #[.string v.key, .int .u64 (v.seq : Int), .bool v.del, .string v.val], .int .i64 h] w fun e w' =>
      e = .returned (.int .i64 1) ∧ Below w.heap.size w w' := by
  have P := Lib.hid (fun w => mmay_any v.key v.seq v.del v.val w)
  have ⟨f0, f1, f2, f3, fB⟩ := VrAt.new w v.key (v.seq : Int) v.del v.val 24
  have hb0 : Below w.heap.size w (w.alloc (.cells #[.string v.key, .int .u64 (v.seq : Int), .bool v.del, .string v.val] 24)) := (Below.refl _ _).alloc (Nat.le_refl _) _
  cases hm : Pl.mayM v.key v.seq v.del v.val
  · rw [hm] at P
    go_enter Try.func28, Try.ntmps28
    go_wp2_with fail
    refine (P.out _).mono ?_
    rintro e w1 ⟨rfl, b1⟩
    go_wp2_with fail
    go_ret
    exact ⟨ret_int (by rfl), below_seq hb0 b1⟩
  · rw [hm] at P
    have hh : h < 1 ∨ 8 < h := by
      rcases hb with h1 | h1
      · rw [hm] at h1; cases h1
      · exact h1
    rcases hh with hh | hh
    all_goals
      go_enter Try.func28, Try.ntmps28
      go_wp2_with fail
      refine (P.out _).mono ?_
      rintro e w1 ⟨rfl, b1⟩
      go_wp2_with fail
      go_ret
      exact ⟨ret_int (by rfl), below_seq hb0 b1⟩

theorem ptr_is (hs bs : List Nat) (p lv : Nat) : ∃ o, Pl.lnk hs bs p lv = .pointer o := by
  unfold Pl.lnk
  generalize (if lv < Pl.hof hs p then bs[Pl.nx hs p lv]? else none) = q
  cases q with
  | none => exact ⟨_, rfl⟩
  | some b => exact ⟨_, rfl⟩
/-- at level 0 each place leads to the next one -/
theorem nx_zero_all {hs : List Nat} (hh : ∀ i, i < hs.length → 1 ≤ hs.getD i 0) {p : Nat} (hp : p ≤ hs.length) : Pl.nx hs p 0 = p :=
  Pl.nx_eq (Nat.le_refl _) hp (fun h => hh p h) (fun i h1 h2 => by omega)
theorem pd_zero_all {hs : List Nat} (hh : ∀ i, i < hs.length → 1 ≤ hs.getD i 0) {k : Nat} (hk : k ≤ hs.length) : Pl.pd hs 0 k = k := by
  refine Pl.pd_eq (by omega) (Nat.le_refl _) ?_ (fun i h1 h2 => by omega)
  cases k with
  | zero => show 0 < 8; omega
  | succ k => exact hh k (by omega)

set_option maxRecDepth 100000 in
set_option maxHeartbeats 1600000 in
theorem add_there (T : Nat) (xs : List Ver) (hs bs : List Nat) (n by' : Int) (v : Ver) (h : Int) (k : Nat) (w : World) (hS : SkAt w T xs hs bs n by') (hA : Ahead (fun x => lessV x.key x.seq v.key v.seq) xs k) (hh : ∀ i, i < hs.length → 1 ≤ hs.getD i 0)
    (hm : Pl.mayM v.key v.seq v.del v.val = true) (h1 : 1 ≤ h) (h8 : h ≤ 8) (hk : k < xs.length) (hp : placeV xs[k].key xs[k].seq v.key v.seq = true) :
    Calls Try.prog 28 #[.pointer (some ⟨T, 0, none⟩), .agg #[.string v.key, .int .u64 (v.seq : Int), .bool v.del, .string v.val], .int .i64 h] w fun e w' =>
      e = .returned (.int .i64 7) ∧ Below w.heap.size w w' := by
  have P := Lib.hid (fun w => mmay_any v.key v.seq v.del v.val w)
  rw [hm] at P
  have hV := VrAt.new w v.key (v.seq : Int) v.del v.val 24
  have ⟨f0, f1, f2, f3, fB⟩ := hV
  have hb0 : Below w.heap.size w (w.alloc (.cells #[.string v.key, .int .u64 (v.seq : Int), .bool v.del, .string v.val] 24)) := (Below.refl _ _).alloc (Nat.le_refl _) _
  have hl := hS.hl
  have bl := hS.bl
  have hpd := pd_zero_all hh (k := k) (by omega)
  have hnx := nx_zero_all hh (p := k) (by omega)
  have hkh : 0 < Pl.hof hs k := by have := Pl.pd_hit hs 0 k (by omega); rwa [hpd] at this
  go_enter Try.func28, Try.ntmps28
  go_wp2_with fail
  refine (P.out _).mono ?_
  rintro e w1 ⟨rfl, b1⟩
  have hbw := below_seq hb0 b1
  have hV1 := hV.kept b1
  have hS1 := hS.below hbw
  have ⟨g0, g1, g2, g3, gB⟩ := hV1
  have P2 := Lib.hid (behind_any T xs hs bs n by' v k w1 hS1 hA)
  rw [hpd] at P2
  clear P f0 f1 f2 f3 fB hb0 hV b1 hS
  go_wp2_with fail
  refine P2.out.mono ?_
  rintro e w2 ⟨rfl, b2⟩
  have hbw2 := hbw.trans (b2.mono hbw.size)
  have hV2 := hV1.kept b2
  have hS2 := hS1.below b2
  obtain ⟨w3, hw3⟩ : ∃ w3, w2.alloc (.cells #[.pointer (some ⟨blk T bs k, 0, none⟩), .pointer (some ⟨blk T bs (Pl.pd hs 1 k), 0, none⟩), .pointer (some ⟨blk T bs (Pl.pd hs 2 k), 0, none⟩), .pointer (some ⟨blk T bs (Pl.pd hs 3 k), 0, none⟩), .pointer (some ⟨blk T bs (Pl.pd hs 4 k), 0, none⟩), .pointer (some ⟨blk T bs (Pl.pd hs 5 k), 0, none⟩), .pointer (some ⟨blk T bs (Pl.pd hs 6 k), 0, none⟩), .pointer (some ⟨blk T bs (Pl.pd hs 7 k), 0, none⟩)] 77) = w3 := ⟨_, rfl⟩
  have hD3 : w3.heap[w2.heap.size]? = some (.cells #[.pointer (some ⟨blk T bs k, 0, none⟩), .pointer (some ⟨blk T bs (Pl.pd hs 1 k), 0, none⟩), .pointer (some ⟨blk T bs (Pl.pd hs 2 k), 0, none⟩), .pointer (some ⟨blk T bs (Pl.pd hs 3 k), 0, none⟩), .pointer (some ⟨blk T bs (Pl.pd hs 4 k), 0, none⟩), .pointer (some ⟨blk T bs (Pl.pd hs 5 k), 0, none⟩), .pointer (some ⟨blk T bs (Pl.pd hs 6 k), 0, none⟩), .pointer (some ⟨blk T bs (Pl.pd hs 7 k), 0, none⟩)] 77 (0, 0)) := by rw [← hw3]; exact World.alloc_heap_new _ _
  have hb3 : Below w2.heap.size w2 w3 := by rw [← hw3]; exact (Below.refl _ _).alloc (Nat.le_refl _) _
  have hbw3 := hbw2.trans (hb3.mono hbw2.size)
  have hV3 := hV2.kept hb3
  have hS3 := hS2.below hb3
  have ⟨y0, y1, y2, y3, yB⟩ := hV3
  have d0 := (cell_of hD3 (o := 0)).trans rfl
  have l0 := hS3.link0 (p := k) (by omega)
  rw [Pl.lnk_step hkh hnx] at l0
  rw [ptr_blk (T := T) (by omega)] at l0
  obtain ⟨x0, x1, x2, x3, xB⟩ := hS3.ver hk
  have hkey : (xs[k].key.toList == v.key.toList) = true := by unfold placeV at hp; rw [Bool.and_eq_true] at hp; exact hp.1
  have hsq : ((xs[k].seq : Int) == (v.seq : Int)) = true := by unfold placeV at hp; rw [Bool.and_eq_true] at hp; rw [nat_beq]; exact hp.2
  clear P2 g0 g1 g2 g3 gB hp hS1 hS2 hS3 hV1 hV2 hA
  go_wp2_with fail
  go_quiet (fail)
  go_wp2
  go_ret
  exact ⟨ret_int (by rfl), below_drewN hbw3 nq⟩

set_option maxRecDepth 100000 in
set_option maxHeartbeats 1600000 in
theorem add_ok0 (T : Nat) (xs : List Ver) (hs bs : List Nat) (n by' : Int) (v : Ver) (h : Int) (k : Nat) (w : World) (hS : SkAt w T xs hs bs n by') (hA : Ahead (fun x => lessV x.key x.seq v.key v.seq) xs k) (hh : ∀ i, i < hs.length → 1 ≤ hs.getD i 0)
    (hm : Pl.mayM v.key v.seq v.del v.val = true) (h1 : 1 ≤ h) (h8 : h ≤ 8) (hk : ¬ k < xs.length) (hn : 0 ≤ n ∧ n ≤ 4611686018427387904) (hby : 0 ≤ by' ∧ by' ≤ 4611686018427387904) :
    Calls Try.prog 28 #[.pointer (some ⟨T, 0, none⟩), .agg #[.string v.key, .int .u64 (v.seq : Int), .bool v.del, .string v.val], .int .i64 h] w fun e w' =>
      e = .returned (.int .i64 0) ∧ ∃ b, w.heap.size ≤ b ∧ b < w'.heap.size ∧ SkAt w' T (Pl.ins xs k v) (Pl.ins hs k h.toNat) (Pl.ins bs k b) (n + 1) (by' + ((v.key.size : Int) + (v.val.size : Int) + 16)) ∧ Keep (fun q => ¬ SkB T bs q) w w' := by
  have P := Lib.hid (fun w => mmay_any v.key v.seq v.del v.val w)
  rw [hm] at P
  have hV := VrAt.new w v.key (v.seq : Int) v.del v.val 24
  have ⟨f0, f1, f2, f3, fB⟩ := hV
  have hb0 : Below w.heap.size w (w.alloc (.cells #[.string v.key, .int .u64 (v.seq : Int), .bool v.del, .string v.val] 24)) := (Below.refl _ _).alloc (Nat.le_refl _) _
  have hkx := hA.le
  have hl := hS.hl
  have bl := hS.bl
  have hpd := pd_zero_all hh (k := k) (by omega)
  have hnx := nx_zero_all hh (p := k) (by omega)
  have hkh : 0 < Pl.hof hs k := by have := Pl.pd_hit hs 0 k (by omega); rwa [hpd] at this
  go_enter Try.func28, Try.ntmps28
  go_wp2_with fail
  refine (P.out _).mono ?_
  rintro e w1 ⟨rfl, b1⟩
  have hbw := below_seq hb0 b1
  have hV1 := hV.kept b1
  have hS1 := hS.below hbw
  have ⟨g0, g1, g2, g3, gB⟩ := hV1
  have P2 := Lib.hid (behind_any T xs hs bs n by' v k w1 hS1 hA)
  rw [hpd] at P2
  clear P f0 f1 f2 f3 fB hb0 hV b1
  go_wp2_with fail
  refine P2.out.mono ?_
  rintro e w2 ⟨rfl, b2⟩
  have hbw2 := hbw.trans (b2.mono hbw.size)
  have hV2 := hV1.kept b2
  have hS2 := hS1.below b2
  obtain ⟨w3, hw3⟩ : ∃ w3, w2.alloc (.cells #[.pointer (some ⟨blk T bs k, 0, none⟩), .pointer (some ⟨blk T bs (Pl.pd hs 1 k), 0, none⟩), .pointer (some ⟨blk T bs (Pl.pd hs 2 k), 0, none⟩), .pointer (some ⟨blk T bs (Pl.pd hs 3 k), 0, none⟩), .pointer (some ⟨blk T bs (Pl.pd hs 4 k), 0, none⟩), .pointer (some ⟨blk T bs (Pl.pd hs 5 k), 0, none⟩), .pointer (some ⟨blk T bs (Pl.pd hs 6 k), 0, none⟩), .pointer (some ⟨blk T bs (Pl.pd hs 7 k), 0, none⟩)] 77) = w3 := ⟨_, rfl⟩
  have hD3 : w3.heap[w2.heap.size]? = some (.cells #[.pointer (some ⟨blk T bs k, 0, none⟩), .pointer (some ⟨blk T bs (Pl.pd hs 1 k), 0, none⟩), .pointer (some ⟨blk T bs (Pl.pd hs 2 k), 0, none⟩), .pointer (some ⟨blk T bs (Pl.pd hs 3 k), 0, none⟩), .pointer (some ⟨blk T bs (Pl.pd hs 4 k), 0, none⟩), .pointer (some ⟨blk T bs (Pl.pd hs 5 k), 0, none⟩), .pointer (some ⟨blk T bs (Pl.pd hs 6 k), 0, none⟩), .pointer (some ⟨blk T bs (Pl.pd hs 7 k), 0, none⟩)] 77 (0, 0)) := by rw [← hw3]; exact World.alloc_heap_new _ _
  have hb3 : Below w2.heap.size w2 w3 := by rw [← hw3]; exact (Below.refl _ _).alloc (Nat.le_refl _) _
  have hbw3 := hbw2.trans (hb3.mono hbw2.size)
  have hV3 := hV2.kept hb3
  have hS3 := hS2.below hb3
  have ⟨y0, y1, y2, y3, yB⟩ := hV3
  have d0 := (cell_of hD3 (o := 0)).trans rfl
  have l0 := hS3.link0 (p := k) (by omega)
  rw [Pl.lnk_step hkh hnx] at l0
  rw [ptr_none (by omega)] at l0
  clear P2 g0 g1 g2 g3 gB hS1 hV1 hV2
  go_wp2_with fail
  go_quiet (fail)
  obtain ⟨W5, hW5⟩ : ∃ W5, (w3.drewN nq).alloc (.cells #[.string v.key, .int .u64 (v.seq : Int), .bool v.del, .string v.val, .pointer none, .pointer none, .pointer none, .pointer none, .pointer none, .pointer none, .pointer none, .pointer none] 79) = W5 := ⟨_, rfl⟩
  have hb4 : Below w3.heap.size w3 (w3.drewN nq) := below_drewN (Below.refl _ _) nq
  have hb5 : Below w3.heap.size w3 W5 := by rw [← hW5]; exact hb4.alloc (by simp) _
  have hS5 : SkAt W5 T (Pl.ins xs k v) (Pl.ins hs k 0) (Pl.ins bs k w3.heap.size) n by' := by
    rw [← hW5]
    exact (hS3.below hb4).fresh hkx v
  have hV5 := hV3.kept hb5
  have hD5 := (hb5.block _ (Array.getElem?_eq_some_iff.1 hD3).1).trans hD3
  have hbw5 := hbw3.trans (hb5.mono hbw3.size)
  have hwb : w.heap.size ≤ w3.heap.size := by have := hbw3.size; omega
  have hbl : w3.heap.size < W5.heap.size := hS5.lt (.inr (mem_ins.2 (.inl rfl)))
  have hDn : ¬ SkB T (Pl.ins bs k w3.heap.size) w2.heap.size := fun h => by
    have h1 := (Array.getElem?_eq_some_iff.1 hD3).1
    rcases h with h | h
    · have := hS2.lt (.inl h); omega
    · rcases mem_ins.1 h with h | h
      · omega
      · have := hS2.lt (.inr h); omega
  have hVn : ¬ SkB T (Pl.ins bs k w3.heap.size) w.heap.size := fun h => by
    rcases h with h | h
    · have := hS.lt (.inl h); omega
    · rcases mem_ins.1 h with h | h
      · have := hV3.2.2.2.2; omega
      · have := hS.lt (.inr h); omega
  have hbz := hb3.size
  have hbnew : ∀ q, SkB T bs q → q < w3.heap.size := fun q hq => by have := hS2.lt hq; omega
  replace hbnew := Lib.hid hbnew
  have hsz : v.key.size ≤ 96 ∧ v.val.size ≤ 16384 := by
    unfold Pl.mayM at hm
    simp only [Bool.and_eq_true, decide_eq_true_eq] at hm
    exact ⟨hm.1.1.1.1.2, hm.1.2⟩
  clear hS2 hS3 hV3 hD3
  go_wp2
  generalize w3.heap.size = b at *
  go_loopw [10, 61] (fun _ i W => ∃ m : Nat, (m : Int) ≤ h ∧ i = .int .i64 m ∧ SkAt W T (Pl.ins xs k v) (Pl.ins hs k m) (Pl.ins bs k b) n by' ∧ Keep (fun q => ¬ SkB T (Pl.ins bs k b) q) W5 W) (fun _ i _ => (h - intOf i).toNat)
  case atStart => exact ⟨0, by omega, rfl, hS5, Keep.refl _ _⟩
  case round =>
    obtain ⟨m, hmh, rfl, hSm, hkp⟩ := hrel
    by_cases hlt : (m : Int) < h
    · have hm8 : m < 8 := by omega
      have hp := Pl.pd_le hs m k
      have e1 := hSm.link (p := Pl.pd hs m k) (lv := m) (by rw [Pl.ins_length]; omega) hm8
      have e2 := hSm.link (p := k + 1) (lv := m) (by rw [Pl.ins_length]; omega) hm8
      have z1 := hSm.frozen (p := Pl.pd hs m k) (by rw [Pl.ins_length]; omega) (4 + m)
      have z2 := hSm.frozen (p := k + 1) (by rw [Pl.ins_length]; omega) (4 + m)
      have hg := hSm.grow (by omega) (by omega) hm8
      have hne := hSm.blk_ne (p := Pl.pd hs m k) (q := k + 1) (by rw [Pl.ins_length]; omega) (by rw [Pl.ins_length]; omega) (by omega)
      have m1 : SkB T (Pl.ins bs k b) (blk T bs (Pl.pd hs m k)) := by have := hSm.blk_mem (p := Pl.pd hs m k) (by rw [Pl.ins_length]; omega); rwa [blk_ins_low (by omega) hp] at this
      have m2 : SkB T (Pl.ins bs k b) b := .inr (mem_ins.2 (.inl rfl))
      rw [blk_ins_low (by omega) hp] at e1 z1 hg hne
      rw [blk_ins_at (by omega)] at e2 z2 hg hne
      have hD := (hkp.block _ hDn (Array.getElem?_eq_some_iff.1 hD5).1).trans hD5
      have dm : wr.cell? ⟨w2.heap.size, m, none⟩ = some (.pointer (some ⟨blk T bs (Pl.pd hs m k), 0, none⟩)) := by
        rw [cell_of hD]
        rcases eight hm8 with rfl | rfl | rfl | rfl | rfl | rfl | rfl | rfl
        · rw [hpd]; rfl
        all_goals rfl
      have hk2 := (hkp.setCell b (4 + m) (Pl.lnk (Pl.ins hs k m) (Pl.ins bs k b) (Pl.pd hs m k) m) (fun h _ => h m2)).setCell (blk T bs (Pl.pd hs m k)) (4 + m) (.pointer (some ⟨b, 0, none⟩)) (fun h _ => h m1)
      obtain ⟨o1, ho1⟩ : ∃ o, Pl.lnk (Pl.ins hs k m) (Pl.ins bs k b) (Pl.pd hs m k) m = .pointer o := ptr_is _ _ _ _
      obtain ⟨o2, ho2⟩ : ∃ o, Pl.lnk (Pl.ins hs k m) (Pl.ins bs k b) (k + 1) m = .pointer o := ptr_is _ _ _ _
      rw [ho1] at e1 hg hk2
      rw [ho2] at e2
      replace ho1 := Lib.hid ho1
      replace ho2 := Lib.hid ho2
      generalize blk T bs (Pl.pd hs m k) = B at *
      have hw1 : IntKind.i64.wrap (m : Int) = (m : Int) := IntWalk.i64_in _ (by omega)
      have hw2 : (0 : Int) ≤ (m : Int) := by omega
      have hw3 : ¬ ((m : Int) < 0) := by omega
      have hw4 : (m : Int) < 8 := by omega
      clear hSm hD hD5 hkp hS5
      go_wp2
      go_region
      all_goals
        have hg2 := hg.below ((Below.refl _ _).drew)
        have hk3 := hk2.drewN 1
        go_wp2
        go_roundw
        case rel => exact ⟨m + 1, by omega, by go_num, hg2, hk3⟩
        case measure => simp [intOf]; omega
    · obtain rfl : (m : Int) = h := by omega
      have c12 : wr.cell? ⟨T, 12, none⟩ = some (.int .i64 n) := (cell_of hSm.head).trans rfl
      have c13 : wr.cell? ⟨T, 13, none⟩ = some (.int .i64 by') := (cell_of hSm.head).trans rfl
      have f12 := frozen_of hSm.head (o := 12)
      have f13 := frozen_of hSm.head (o := 13)
      have ⟨y0, y1, y2, y3, yB⟩ := hV5.keep hkp hVn
      have hT : SkB T (Pl.ins bs k b) T := .inl rfl
      have s1 : IntKind.i64.wrap (n + 1) = n + 1 := IntWalk.i64_in _ (by omega)
      have s2 : IntKind.i64.wrap ((v.key.size : Int) + (v.val.size : Int)) = (v.key.size : Int) + (v.val.size : Int) := IntWalk.i64_in _ (by omega)
      have s3 : IntKind.i64.wrap ((v.key.size : Int) + (v.val.size : Int) + 16) = (v.key.size : Int) + (v.val.size : Int) + 16 := IntWalk.i64_in _ (by omega)
      have s4 : IntKind.i64.wrap (by' + ((v.key.size : Int) + (v.val.size : Int) + 16)) = by' + ((v.key.size : Int) + (v.val.size : Int) + 16) := IntWalk.i64_in _ (by omega)
      have hg := hSm.tally (n + 1) (by' + ((v.key.size : Int) + (v.val.size : Int) + 16))
      have hk2 := (hkp.setCell T 12 (.int .i64 (n + 1)) (fun h _ => h hT)).setCell T 13 (.int .i64 (by' + ((v.key.size : Int) + (v.val.size : Int) + 16))) (fun h _ => h hT)
      have hbl2 : b < wr.heap.size := Nat.lt_of_lt_of_le hbl hkp.size
      clear hSm hS5 hV5 hD5 hkp
      go_wp2
      go_region
      all_goals
        have hg2 := hg.below ((Below.refl _ _).drew)
        have hk3 := hk2.drewN 1
        have hkw : Keep (fun q => ¬ SkB T bs q) w W5 := Keep.of_below hbw5 (fun q (_ : ¬ SkB T bs q) hl => hl)
        have hkf := hkw.trans hk3 (fun q hq hl h' => by
          rcases h' with h' | h'
          · exact hq (.inl h')
          · rcases mem_ins.1 h' with h' | h'
            · omega
            · exact hq (.inr h'))
        go_wp2
        go_ret
        exact ⟨ret_int (by rfl), b, hwb, by simpa using hbl2, by simpa using hg2, hkf⟩
set_option maxRecDepth 100000 in
set_option maxHeartbeats 1600000 in
theorem add_ok1 (T : Nat) (xs : List Ver) (hs bs : List Nat) (n by' : Int) (v : Ver) (h : Int) (k : Nat) (w : World) (hS : SkAt w T xs hs bs n by') (hA : Ahead (fun x => lessV x.key x.seq v.key v.seq) xs k) (hh : ∀ i, i < hs.length → 1 ≤ hs.getD i 0)
    (hm : Pl.mayM v.key v.seq v.del v.val = true) (h1 : 1 ≤ h) (h8 : h ≤ 8) (hk : k < xs.length) (hkey : (xs[k].key.toList == v.key.toList) = false) (hn : 0 ≤ n ∧ n ≤ 4611686018427387904) (hby : 0 ≤ by' ∧ by' ≤ 4611686018427387904) :
    Calls Try.prog 28 #[.pointer (some ⟨T, 0, none⟩), .agg #[.string v.key, .int .u64 (v.seq : Int), .bool v.del, .string v.val], .int .i64 h] w fun e w' =>
      e = .returned (.int .i64 0) ∧ ∃ b, w.heap.size ≤ b ∧ b < w'.heap.size ∧ SkAt w' T (Pl.ins xs k v) (Pl.ins hs k h.toNat) (Pl.ins bs k b) (n + 1) (by' + ((v.key.size : Int) + (v.val.size : Int) + 16)) ∧ Keep (fun q => ¬ SkB T bs q) w w' := by
  have P := Lib.hid (fun w => mmay_any v.key v.seq v.del v.val w)
  rw [hm] at P
  have hV := VrAt.new w v.key (v.seq : Int) v.del v.val 24
  have ⟨f0, f1, f2, f3, fB⟩ := hV
  have hb0 : Below w.heap.size w (w.alloc (.cells #[.string v.key, .int .u64 (v.seq : Int), .bool v.del, .string v.val] 24)) := (Below.refl _ _).alloc (Nat.le_refl _) _
  have hkx := hA.le
  have hl := hS.hl
  have bl := hS.bl
  have hpd := pd_zero_all hh (k := k) (by omega)
  have hnx := nx_zero_all hh (p := k) (by omega)
  have hkh : 0 < Pl.hof hs k := by have := Pl.pd_hit hs 0 k (by omega); rwa [hpd] at this
  go_enter Try.func28, Try.ntmps28
  go_wp2_with fail
  refine (P.out _).mono ?_
  rintro e w1 ⟨rfl, b1⟩
  have hbw := below_seq hb0 b1
  have hV1 := hV.kept b1
  have hS1 := hS.below hbw
  have ⟨g0, g1, g2, g3, gB⟩ := hV1
  have P2 := Lib.hid (behind_any T xs hs bs n by' v k w1 hS1 hA)
  rw [hpd] at P2
  clear P f0 f1 f2 f3 fB hb0 hV b1
  go_wp2_with fail
  refine P2.out.mono ?_
  rintro e w2 ⟨rfl, b2⟩
  have hbw2 := hbw.trans (b2.mono hbw.size)
  have hV2 := hV1.kept b2
  have hS2 := hS1.below b2
  obtain ⟨w3, hw3⟩ : ∃ w3, w2.alloc (.cells #[.pointer (some ⟨blk T bs k, 0, none⟩), .pointer (some ⟨blk T bs (Pl.pd hs 1 k), 0, none⟩), .pointer (some ⟨blk T bs (Pl.pd hs 2 k), 0, none⟩), .pointer (some ⟨blk T bs (Pl.pd hs 3 k), 0, none⟩), .pointer (some ⟨blk T bs (Pl.pd hs 4 k), 0, none⟩), .pointer (some ⟨blk T bs (Pl.pd hs 5 k), 0, none⟩), .pointer (some ⟨blk T bs (Pl.pd hs 6 k), 0, none⟩), .pointer (some ⟨blk T bs (Pl.pd hs 7 k), 0, none⟩)] 77) = w3 := ⟨_, rfl⟩
  have hD3 : w3.heap[w2.heap.size]? = some (.cells #[.pointer (some ⟨blk T bs k, 0, none⟩), .pointer (some ⟨blk T bs (Pl.pd hs 1 k), 0, none⟩), .pointer (some ⟨blk T bs (Pl.pd hs 2 k), 0, none⟩), .pointer (some ⟨blk T bs (Pl.pd hs 3 k), 0, none⟩), .pointer (some ⟨blk T bs (Pl.pd hs 4 k), 0, none⟩), .pointer (some ⟨blk T bs (Pl.pd hs 5 k), 0, none⟩), .pointer (some ⟨blk T bs (Pl.pd hs 6 k), 0, none⟩), .pointer (some ⟨blk T bs (Pl.pd hs 7 k), 0, none⟩)] 77 (0, 0)) := by rw [← hw3]; exact World.alloc_heap_new _ _
  have hb3 : Below w2.heap.size w2 w3 := by rw [← hw3]; exact (Below.refl _ _).alloc (Nat.le_refl _) _
  have hbw3 := hbw2.trans (hb3.mono hbw2.size)
  have hV3 := hV2.kept hb3
  have hS3 := hS2.below hb3
  have ⟨y0, y1, y2, y3, yB⟩ := hV3
  have d0 := (cell_of hD3 (o := 0)).trans rfl
  have l0 := hS3.link0 (p := k) (by omega)
  rw [Pl.lnk_step hkh hnx] at l0
  rw [ptr_blk (T := T) (by omega)] at l0
  obtain ⟨x0, x1, x2, x3, xB⟩ := hS3.ver hk
  clear P2 g0 g1 g2 g3 gB hS1 hV1 hV2
  go_wp2_with fail
  go_quiet (fail)
  obtain ⟨W5, hW5⟩ : ∃ W5, (w3.drewN nq).alloc (.cells #[.string v.key, .int .u64 (v.seq : Int), .bool v.del, .string v.val, .pointer none, .pointer none, .pointer none, .pointer none, .pointer none, .pointer none, .pointer none, .pointer none] 79) = W5 := ⟨_, rfl⟩
  have hb4 : Below w3.heap.size w3 (w3.drewN nq) := below_drewN (Below.refl _ _) nq
  have hb5 : Below w3.heap.size w3 W5 := by rw [← hW5]; exact hb4.alloc (by simp) _
  have hS5 : SkAt W5 T (Pl.ins xs k v) (Pl.ins hs k 0) (Pl.ins bs k w3.heap.size) n by' := by
    rw [← hW5]
    exact (hS3.below hb4).fresh hkx v
  have hV5 := hV3.kept hb5
  have hD5 := (hb5.block _ (Array.getElem?_eq_some_iff.1 hD3).1).trans hD3
  have hbw5 := hbw3.trans (hb5.mono hbw3.size)
  have hwb : w.heap.size ≤ w3.heap.size := by have := hbw3.size; omega
  have hbl : w3.heap.size < W5.heap.size := hS5.lt (.inr (mem_ins.2 (.inl rfl)))
  have hDn : ¬ SkB T (Pl.ins bs k w3.heap.size) w2.heap.size := fun h => by
    have h1 := (Array.getElem?_eq_some_iff.1 hD3).1
    rcases h with h | h
    · have := hS2.lt (.inl h); omega
    · rcases mem_ins.1 h with h | h
      · omega
      · have := hS2.lt (.inr h); omega
  have hVn : ¬ SkB T (Pl.ins bs k w3.heap.size) w.heap.size := fun h => by
    rcases h with h | h
    · have := hS.lt (.inl h); omega
    · rcases mem_ins.1 h with h | h
      · have := hV3.2.2.2.2; omega
      · have := hS.lt (.inr h); omega
  have hbz := hb3.size
  have hbnew : ∀ q, SkB T bs q → q < w3.heap.size := fun q hq => by have := hS2.lt hq; omega
  replace hbnew := Lib.hid hbnew
  have hsz : v.key.size ≤ 96 ∧ v.val.size ≤ 16384 := by
    unfold Pl.mayM at hm
    simp only [Bool.and_eq_true, decide_eq_true_eq] at hm
    exact ⟨hm.1.1.1.1.2, hm.1.2⟩
  clear hS2 hS3 hV3 hD3
  go_wp2
  generalize w3.heap.size = b at *
  go_loopw [10, 61] (fun _ i W => ∃ m : Nat, (m : Int) ≤ h ∧ i = .int .i64 m ∧ SkAt W T (Pl.ins xs k v) (Pl.ins hs k m) (Pl.ins bs k b) n by' ∧ Keep (fun q => ¬ SkB T (Pl.ins bs k b) q) W5 W) (fun _ i _ => (h - intOf i).toNat)
  case atStart => exact ⟨0, by omega, rfl, hS5, Keep.refl _ _⟩
  case round =>
    obtain ⟨m, hmh, rfl, hSm, hkp⟩ := hrel
    by_cases hlt : (m : Int) < h
    · have hm8 : m < 8 := by omega
      have hp := Pl.pd_le hs m k
      have e1 := hSm.link (p := Pl.pd hs m k) (lv := m) (by rw [Pl.ins_length]; omega) hm8
      have e2 := hSm.link (p := k + 1) (lv := m) (by rw [Pl.ins_length]; omega) hm8
      have z1 := hSm.frozen (p := Pl.pd hs m k) (by rw [Pl.ins_length]; omega) (4 + m)
      have z2 := hSm.frozen (p := k + 1) (by rw [Pl.ins_length]; omega) (4 + m)
      have hg := hSm.grow (by omega) (by omega) hm8
      have hne := hSm.blk_ne (p := Pl.pd hs m k) (q := k + 1) (by rw [Pl.ins_length]; omega) (by rw [Pl.ins_length]; omega) (by omega)
      have m1 : SkB T (Pl.ins bs k b) (blk T bs (Pl.pd hs m k)) := by have := hSm.blk_mem (p := Pl.pd hs m k) (by rw [Pl.ins_length]; omega); rwa [blk_ins_low (by omega) hp] at this
      have m2 : SkB T (Pl.ins bs k b) b := .inr (mem_ins.2 (.inl rfl))
      rw [blk_ins_low (by omega) hp] at e1 z1 hg hne
      rw [blk_ins_at (by omega)] at e2 z2 hg hne
      have hD := (hkp.block _ hDn (Array.getElem?_eq_some_iff.1 hD5).1).trans hD5
      have dm : wr.cell? ⟨w2.heap.size, m, none⟩ = some (.pointer (some ⟨blk T bs (Pl.pd hs m k), 0, none⟩)) := by
        rw [cell_of hD]
        rcases eight hm8 with rfl | rfl | rfl | rfl | rfl | rfl | rfl | rfl
        · rw [hpd]; rfl
        all_goals rfl
      have hk2 := (hkp.setCell b (4 + m) (Pl.lnk (Pl.ins hs k m) (Pl.ins bs k b) (Pl.pd hs m k) m) (fun h _ => h m2)).setCell (blk T bs (Pl.pd hs m k)) (4 + m) (.pointer (some ⟨b, 0, none⟩)) (fun h _ => h m1)
      obtain ⟨o1, ho1⟩ : ∃ o, Pl.lnk (Pl.ins hs k m) (Pl.ins bs k b) (Pl.pd hs m k) m = .pointer o := ptr_is _ _ _ _
      obtain ⟨o2, ho2⟩ : ∃ o, Pl.lnk (Pl.ins hs k m) (Pl.ins bs k b) (k + 1) m = .pointer o := ptr_is _ _ _ _
      rw [ho1] at e1 hg hk2
      rw [ho2] at e2
      replace ho1 := Lib.hid ho1
      replace ho2 := Lib.hid ho2
      generalize blk T bs (Pl.pd hs m k) = B at *
      have hw1 : IntKind.i64.wrap (m : Int) = (m : Int) := IntWalk.i64_in _ (by omega)
      have hw2 : (0 : Int) ≤ (m : Int) := by omega
      have hw3 : ¬ ((m : Int) < 0) := by omega
      have hw4 : (m : Int) < 8 := by omega
      clear hSm hD hD5 hkp hS5
      go_wp2
      go_region
      all_goals
        have hg2 := hg.below ((Below.refl _ _).drew)
        have hk3 := hk2.drewN 1
        go_wp2
        go_roundw
        case rel => exact ⟨m + 1, by omega, by go_num, hg2, hk3⟩
        case measure => simp [intOf]; omega
    · obtain rfl : (m : Int) = h := by omega
      have c12 : wr.cell? ⟨T, 12, none⟩ = some (.int .i64 n) := (cell_of hSm.head).trans rfl
      have c13 : wr.cell? ⟨T, 13, none⟩ = some (.int .i64 by') := (cell_of hSm.head).trans rfl
      have f12 := frozen_of hSm.head (o := 12)
      have f13 := frozen_of hSm.head (o := 13)
      have ⟨y0, y1, y2, y3, yB⟩ := hV5.keep hkp hVn
      have hT : SkB T (Pl.ins bs k b) T := .inl rfl
      have s1 : IntKind.i64.wrap (n + 1) = n + 1 := IntWalk.i64_in _ (by omega)
      have s2 : IntKind.i64.wrap ((v.key.size : Int) + (v.val.size : Int)) = (v.key.size : Int) + (v.val.size : Int) := IntWalk.i64_in _ (by omega)
      have s3 : IntKind.i64.wrap ((v.key.size : Int) + (v.val.size : Int) + 16) = (v.key.size : Int) + (v.val.size : Int) + 16 := IntWalk.i64_in _ (by omega)
      have s4 : IntKind.i64.wrap (by' + ((v.key.size : Int) + (v.val.size : Int) + 16)) = by' + ((v.key.size : Int) + (v.val.size : Int) + 16) := IntWalk.i64_in _ (by omega)
      have hg := hSm.tally (n + 1) (by' + ((v.key.size : Int) + (v.val.size : Int) + 16))
      have hk2 := (hkp.setCell T 12 (.int .i64 (n + 1)) (fun h _ => h hT)).setCell T 13 (.int .i64 (by' + ((v.key.size : Int) + (v.val.size : Int) + 16))) (fun h _ => h hT)
      have hbl2 : b < wr.heap.size := Nat.lt_of_lt_of_le hbl hkp.size
      clear hSm hS5 hV5 hD5 hkp
      go_wp2
      go_region
      all_goals
        have hg2 := hg.below ((Below.refl _ _).drew)
        have hk3 := hk2.drewN 1
        have hkw : Keep (fun q => ¬ SkB T bs q) w W5 := Keep.of_below hbw5 (fun q (_ : ¬ SkB T bs q) hl => hl)
        have hkf := hkw.trans hk3 (fun q hq hl h' => by
          rcases h' with h' | h'
          · exact hq (.inl h')
          · rcases mem_ins.1 h' with h' | h'
            · omega
            · exact hq (.inr h'))
        go_wp2
        go_ret
        exact ⟨ret_int (by rfl), b, hwb, by simpa using hbl2, by simpa using hg2, hkf⟩
set_option maxRecDepth 100000 in
set_option maxHeartbeats 1600000 in
theorem add_ok2 (T : Nat) (xs : List Ver) (hs bs : List Nat) (n by' : Int) (v : Ver) (h : Int) (k : Nat) (w : World) (hS : SkAt w T xs hs bs n by') (hA : Ahead (fun x => lessV x.key x.seq v.key v.seq) xs k) (hh : ∀ i, i < hs.length → 1 ≤ hs.getD i 0)
    (hm : Pl.mayM v.key v.seq v.del v.val = true) (h1 : 1 ≤ h) (h8 : h ≤ 8) (hk : k < xs.length) (hkey : (xs[k].key.toList == v.key.toList) = true) (hsq : ((xs[k].seq : Int) == (v.seq : Int)) = false) (hn : 0 ≤ n ∧ n ≤ 4611686018427387904) (hby : 0 ≤ by' ∧ by' ≤ 4611686018427387904) :
    Calls Try.prog 28 #[.pointer (some ⟨T, 0, none⟩), .agg #[.string v.key, .int .u64 (v.seq : Int), .bool v.del, .string v.val], .int .i64 h] w fun e w' =>
      e = .returned (.int .i64 0) ∧ ∃ b, w.heap.size ≤ b ∧ b < w'.heap.size ∧ SkAt w' T (Pl.ins xs k v) (Pl.ins hs k h.toNat) (Pl.ins bs k b) (n + 1) (by' + ((v.key.size : Int) + (v.val.size : Int) + 16)) ∧ Keep (fun q => ¬ SkB T bs q) w w' := by
  have P := Lib.hid (fun w => mmay_any v.key v.seq v.del v.val w)
  rw [hm] at P
  have hV := VrAt.new w v.key (v.seq : Int) v.del v.val 24
  have ⟨f0, f1, f2, f3, fB⟩ := hV
  have hb0 : Below w.heap.size w (w.alloc (.cells #[.string v.key, .int .u64 (v.seq : Int), .bool v.del, .string v.val] 24)) := (Below.refl _ _).alloc (Nat.le_refl _) _
  have hkx := hA.le
  have hl := hS.hl
  have bl := hS.bl
  have hpd := pd_zero_all hh (k := k) (by omega)
  have hnx := nx_zero_all hh (p := k) (by omega)
  have hkh : 0 < Pl.hof hs k := by have := Pl.pd_hit hs 0 k (by omega); rwa [hpd] at this
  go_enter Try.func28, Try.ntmps28
  go_wp2_with fail
  refine (P.out _).mono ?_
  rintro e w1 ⟨rfl, b1⟩
  have hbw := below_seq hb0 b1
  have hV1 := hV.kept b1
  have hS1 := hS.below hbw
  have ⟨g0, g1, g2, g3, gB⟩ := hV1
  have P2 := Lib.hid (behind_any T xs hs bs n by' v k w1 hS1 hA)
  rw [hpd] at P2
  clear P f0 f1 f2 f3 fB hb0 hV b1
  go_wp2_with fail
  refine P2.out.mono ?_
  rintro e w2 ⟨rfl, b2⟩
  have hbw2 := hbw.trans (b2.mono hbw.size)
  have hV2 := hV1.kept b2
  have hS2 := hS1.below b2
  obtain ⟨w3, hw3⟩ : ∃ w3, w2.alloc (.cells #[.pointer (some ⟨blk T bs k, 0, none⟩), .pointer (some ⟨blk T bs (Pl.pd hs 1 k), 0, none⟩), .pointer (some ⟨blk T bs (Pl.pd hs 2 k), 0, none⟩), .pointer (some ⟨blk T bs (Pl.pd hs 3 k), 0, none⟩), .pointer (some ⟨blk T bs (Pl.pd hs 4 k), 0, none⟩), .pointer (some ⟨blk T bs (Pl.pd hs 5 k), 0, none⟩), .pointer (some ⟨blk T bs (Pl.pd hs 6 k), 0, none⟩), .pointer (some ⟨blk T bs (Pl.pd hs 7 k), 0, none⟩)] 77) = w3 := ⟨_, rfl⟩
  have hD3 : w3.heap[w2.heap.size]? = some (.cells #[.pointer (some ⟨blk T bs k, 0, none⟩), .pointer (some ⟨blk T bs (Pl.pd hs 1 k), 0, none⟩), .pointer (some ⟨blk T bs (Pl.pd hs 2 k), 0, none⟩), .pointer (some ⟨blk T bs (Pl.pd hs 3 k), 0, none⟩), .pointer (some ⟨blk T bs (Pl.pd hs 4 k), 0, none⟩), .pointer (some ⟨blk T bs (Pl.pd hs 5 k), 0, none⟩), .pointer (some ⟨blk T bs (Pl.pd hs 6 k), 0, none⟩), .pointer (some ⟨blk T bs (Pl.pd hs 7 k), 0, none⟩)] 77 (0, 0)) := by rw [← hw3]; exact World.alloc_heap_new _ _
  have hb3 : Below w2.heap.size w2 w3 := by rw [← hw3]; exact (Below.refl _ _).alloc (Nat.le_refl _) _
  have hbw3 := hbw2.trans (hb3.mono hbw2.size)
  have hV3 := hV2.kept hb3
  have hS3 := hS2.below hb3
  have ⟨y0, y1, y2, y3, yB⟩ := hV3
  have d0 := (cell_of hD3 (o := 0)).trans rfl
  have l0 := hS3.link0 (p := k) (by omega)
  rw [Pl.lnk_step hkh hnx] at l0
  rw [ptr_blk (T := T) (by omega)] at l0
  obtain ⟨x0, x1, x2, x3, xB⟩ := hS3.ver hk
  clear P2 g0 g1 g2 g3 gB hS1 hV1 hV2
  go_wp2_with fail
  go_quiet (fail)
  obtain ⟨W5, hW5⟩ : ∃ W5, (w3.drewN nq).alloc (.cells #[.string v.key, .int .u64 (v.seq : Int), .bool v.del, .string v.val, .pointer none, .pointer none, .pointer none, .pointer none, .pointer none, .pointer none, .pointer none, .pointer none] 79) = W5 := ⟨_, rfl⟩
  have hb4 : Below w3.heap.size w3 (w3.drewN nq) := below_drewN (Below.refl _ _) nq
  have hb5 : Below w3.heap.size w3 W5 := by rw [← hW5]; exact hb4.alloc (by simp) _
  have hS5 : SkAt W5 T (Pl.ins xs k v) (Pl.ins hs k 0) (Pl.ins bs k w3.heap.size) n by' := by
    rw [← hW5]
    exact (hS3.below hb4).fresh hkx v
  have hV5 := hV3.kept hb5
  have hD5 := (hb5.block _ (Array.getElem?_eq_some_iff.1 hD3).1).trans hD3
  have hbw5 := hbw3.trans (hb5.mono hbw3.size)
  have hwb : w.heap.size ≤ w3.heap.size := by have := hbw3.size; omega
  have hbl : w3.heap.size < W5.heap.size := hS5.lt (.inr (mem_ins.2 (.inl rfl)))
  have hDn : ¬ SkB T (Pl.ins bs k w3.heap.size) w2.heap.size := fun h => by
    have h1 := (Array.getElem?_eq_some_iff.1 hD3).1
    rcases h with h | h
    · have := hS2.lt (.inl h); omega
    · rcases mem_ins.1 h with h | h
      · omega
      · have := hS2.lt (.inr h); omega
  have hVn : ¬ SkB T (Pl.ins bs k w3.heap.size) w.heap.size := fun h => by
    rcases h with h | h
    · have := hS.lt (.inl h); omega
    · rcases mem_ins.1 h with h | h
      · have := hV3.2.2.2.2; omega
      · have := hS.lt (.inr h); omega
  have hbz := hb3.size
  have hbnew : ∀ q, SkB T bs q → q < w3.heap.size := fun q hq => by have := hS2.lt hq; omega
  replace hbnew := Lib.hid hbnew
  have hsz : v.key.size ≤ 96 ∧ v.val.size ≤ 16384 := by
    unfold Pl.mayM at hm
    simp only [Bool.and_eq_true, decide_eq_true_eq] at hm
    exact ⟨hm.1.1.1.1.2, hm.1.2⟩
  clear hS2 hS3 hV3 hD3
  go_wp2
  generalize w3.heap.size = b at *
  go_loopw [10, 61] (fun _ i W => ∃ m : Nat, (m : Int) ≤ h ∧ i = .int .i64 m ∧ SkAt W T (Pl.ins xs k v) (Pl.ins hs k m) (Pl.ins bs k b) n by' ∧ Keep (fun q => ¬ SkB T (Pl.ins bs k b) q) W5 W) (fun _ i _ => (h - intOf i).toNat)
  case atStart => exact ⟨0, by omega, rfl, hS5, Keep.refl _ _⟩
  case round =>
    obtain ⟨m, hmh, rfl, hSm, hkp⟩ := hrel
    by_cases hlt : (m : Int) < h
    · have hm8 : m < 8 := by omega
      have hp := Pl.pd_le hs m k
      have e1 := hSm.link (p := Pl.pd hs m k) (lv := m) (by rw [Pl.ins_length]; omega) hm8
      have e2 := hSm.link (p := k + 1) (lv := m) (by rw [Pl.ins_length]; omega) hm8
      have z1 := hSm.frozen (p := Pl.pd hs m k) (by rw [Pl.ins_length]; omega) (4 + m)
      have z2 := hSm.frozen (p := k + 1) (by rw [Pl.ins_length]; omega) (4 + m)
      have hg := hSm.grow (by omega) (by omega) hm8
      have hne := hSm.blk_ne (p := Pl.pd hs m k) (q := k + 1) (by rw [Pl.ins_length]; omega) (by rw [Pl.ins_length]; omega) (by omega)
      have m1 : SkB T (Pl.ins bs k b) (blk T bs (Pl.pd hs m k)) := by have := hSm.blk_mem (p := Pl.pd hs m k) (by rw [Pl.ins_length]; omega); rwa [blk_ins_low (by omega) hp] at this
      have m2 : SkB T (Pl.ins bs k b) b := .inr (mem_ins.2 (.inl rfl))
      rw [blk_ins_low (by omega) hp] at e1 z1 hg hne
      rw [blk_ins_at (by omega)] at e2 z2 hg hne
      have hD := (hkp.block _ hDn (Array.getElem?_eq_some_iff.1 hD5).1).trans hD5
      have dm : wr.cell? ⟨w2.heap.size, m, none⟩ = some (.pointer (some ⟨blk T bs (Pl.pd hs m k), 0, none⟩)) := by
        rw [cell_of hD]
        rcases eight hm8 with rfl | rfl | rfl | rfl | rfl | rfl | rfl | rfl
        · rw [hpd]; rfl
        all_goals rfl
      have hk2 := (hkp.setCell b (4 + m) (Pl.lnk (Pl.ins hs k m) (Pl.ins bs k b) (Pl.pd hs m k) m) (fun h _ => h m2)).setCell (blk T bs (Pl.pd hs m k)) (4 + m) (.pointer (some ⟨b, 0, none⟩)) (fun h _ => h m1)
      obtain ⟨o1, ho1⟩ : ∃ o, Pl.lnk (Pl.ins hs k m) (Pl.ins bs k b) (Pl.pd hs m k) m = .pointer o := ptr_is _ _ _ _
      obtain ⟨o2, ho2⟩ : ∃ o, Pl.lnk (Pl.ins hs k m) (Pl.ins bs k b) (k + 1) m = .pointer o := ptr_is _ _ _ _
      rw [ho1] at e1 hg hk2
      rw [ho2] at e2
      replace ho1 := Lib.hid ho1
      replace ho2 := Lib.hid ho2
      generalize blk T bs (Pl.pd hs m k) = B at *
      have hw1 : IntKind.i64.wrap (m : Int) = (m : Int) := IntWalk.i64_in _ (by omega)
      have hw2 : (0 : Int) ≤ (m : Int) := by omega
      have hw3 : ¬ ((m : Int) < 0) := by omega
      have hw4 : (m : Int) < 8 := by omega
      clear hSm hD hD5 hkp hS5
      go_wp2
      go_region
      all_goals
        have hg2 := hg.below ((Below.refl _ _).drew)
        have hk3 := hk2.drewN 1
        go_wp2
        go_roundw
        case rel => exact ⟨m + 1, by omega, by go_num, hg2, hk3⟩
        case measure => simp [intOf]; omega
    · obtain rfl : (m : Int) = h := by omega
      have c12 : wr.cell? ⟨T, 12, none⟩ = some (.int .i64 n) := (cell_of hSm.head).trans rfl
      have c13 : wr.cell? ⟨T, 13, none⟩ = some (.int .i64 by') := (cell_of hSm.head).trans rfl
      have f12 := frozen_of hSm.head (o := 12)
      have f13 := frozen_of hSm.head (o := 13)
      have ⟨y0, y1, y2, y3, yB⟩ := hV5.keep hkp hVn
      have hT : SkB T (Pl.ins bs k b) T := .inl rfl
      have s1 : IntKind.i64.wrap (n + 1) = n + 1 := IntWalk.i64_in _ (by omega)
      have s2 : IntKind.i64.wrap ((v.key.size : Int) + (v.val.size : Int)) = (v.key.size : Int) + (v.val.size : Int) := IntWalk.i64_in _ (by omega)
      have s3 : IntKind.i64.wrap ((v.key.size : Int) + (v.val.size : Int) + 16) = (v.key.size : Int) + (v.val.size : Int) + 16 := IntWalk.i64_in _ (by omega)
      have s4 : IntKind.i64.wrap (by' + ((v.key.size : Int) + (v.val.size : Int) + 16)) = by' + ((v.key.size : Int) + (v.val.size : Int) + 16) := IntWalk.i64_in _ (by omega)
      have hg := hSm.tally (n + 1) (by' + ((v.key.size : Int) + (v.val.size : Int) + 16))
      have hk2 := (hkp.setCell T 12 (.int .i64 (n + 1)) (fun h _ => h hT)).setCell T 13 (.int .i64 (by' + ((v.key.size : Int) + (v.val.size : Int) + 16))) (fun h _ => h hT)
      have hbl2 : b < wr.heap.size := Nat.lt_of_lt_of_le hbl hkp.size
      clear hSm hS5 hV5 hD5 hkp
      go_wp2
      go_region
      all_goals
        have hg2 := hg.below ((Below.refl _ _).drew)
        have hk3 := hk2.drewN 1
        have hkw : Keep (fun q => ¬ SkB T bs q) w W5 := Keep.of_below hbw5 (fun q (_ : ¬ SkB T bs q) hl => hl)
        have hkf := hkw.trans hk3 (fun q hq hl h' => by
          rcases h' with h' | h'
          · exact hq (.inl h')
          · rcases mem_ins.1 h' with h' | h'
            · omega
            · exact hq (.inr h'))
        go_wp2
        go_ret
        exact ⟨ret_int (by rfl), b, hwb, by simpa using hbl2, by simpa using hg2, hkf⟩
theorem add_ok (T : Nat) (xs : List Ver) (hs bs : List Nat) (n by' : Int) (v : Ver) (h : Int) (k : Nat) (w : World) (hS : SkAt w T xs hs bs n by') (hA : Ahead (fun x => lessV x.key x.seq v.key v.seq) xs k) (hh : ∀ i, i < hs.length → 1 ≤ hs.getD i 0)
    (hm : Pl.mayM v.key v.seq v.del v.val = true) (h1 : 1 ≤ h) (h8 : h ≤ 8) (hp : ∀ hk : k < xs.length, placeV xs[k].key xs[k].seq v.key v.seq = false) (hn : 0 ≤ n ∧ n ≤ 4611686018427387904) (hby : 0 ≤ by' ∧ by' ≤ 4611686018427387904) :
    Calls Try.prog 28 #[.pointer (some ⟨T, 0, none⟩), .agg #[.string v.key, .int .u64 (v.seq : Int), .bool v.del, .string v.val], .int .i64 h] w fun e w' =>
      e = .returned (.int .i64 0) ∧ ∃ b, w.heap.size ≤ b ∧ b < w'.heap.size ∧ SkAt w' T (Pl.ins xs k v) (Pl.ins hs k h.toNat) (Pl.ins bs k b) (n + 1) (by' + ((v.key.size : Int) + (v.val.size : Int) + 16)) ∧ Keep (fun q => ¬ SkB T bs q) w w' := by
  by_cases hk : k < xs.length
  · have h2 := hp hk
    unfold placeV at h2
    cases hkey : xs[k].key.toList == v.key.toList
    · exact add_ok1 T xs hs bs n by' v h k w hS hA hh hm h1 h8 hk hkey hn hby
    · rw [hkey, Bool.true_and] at h2
      exact add_ok2 T xs hs bs n by' v h k w hS hA hh hm h1 h8 hk hkey (by rw [nat_beq]; exact h2) hn hby
  · exact add_ok0 T xs hs bs n by' v h k w hS hA hh hm h1 h8 hk hn hby
end Go.Proofs.Ytcfcijgnkbmlaaa
