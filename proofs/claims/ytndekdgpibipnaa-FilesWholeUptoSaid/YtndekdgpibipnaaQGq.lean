
/- Walk: bytes read of a file at hand. Condition: lengths that memory lets.
   Walk: plain files compared with what a file system has. Condition: lengths that memory lets. -/
import Derived.Test.YtndekdgpibipnaaQGp

namespace Go.Proofs.Ytndekdgpibipnaa
open Go.RowKit Go.Maps

attribute [local go_sem] Oper.semAt_some
namespace Pl
/-- what is read of a file at hand: of its old bytes, of its new ones -/
def readOld (s : Dv) (y : HF) (a t : Nat) : ByteArray := (bytesOf s y (a / 256) (takesB ((min t y.old : Nat) : Int)).toNat).extract (a - a / 256 * 256) (min (bytesOf s y (a / 256) (takesB ((min t y.old : Nat) : Int)).toNat).size (t - a / 256 * 256))
def readAt (s : Dv) (y : HF) (a t : Nat) : ByteArray := (if a < y.old then readOld s y a t else .empty) ++ (if y.old < t then y.added.extract (a - y.old) (t - y.old) else .empty)
def readY (s : Dv) (y : HF) (fr n : Nat) : ByteArray := readAt s y (min fr y.size) (min fr y.size + min n (y.size - min fr y.size))
theorem bytesOf_size {s : Dv} (h : s.WF) (y : HF) (fr tt : Nat) (h2 : tt ≤ y.blocks.length) (hb : ∀ q ∈ y.blocks, 0 ≤ q ∧ q < (s.safe.length : Int)) : (bytesOf s y fr tt).size = min ((tt - fr) * 256) (y.old - fr * 256) := by
  have hl := bytesL_length h ((y.blocks.take tt).drop fr) (fun q hq => hb q (List.mem_of_mem_take (List.mem_of_mem_drop hq)))
  rw [List.length_drop, List.length_take, Nat.min_eq_left h2] at hl
  unfold bytesOf
  have hs : (⟨(bytesL s ((y.blocks.take tt).drop fr)).toArray⟩ : ByteArray).size = (bytesL s ((y.blocks.take tt).drop fr)).length := by simp [ByteArray.size]
  rw [ByteArray.size_extract, hs, hl]
  omega
theorem takesB_nat (n : Nat) : takesB (n : Int) = (((n + 255) / 256 : Nat) : Int) := by
  unfold takesB
  split <;> omega
end Pl
variable {B Bd f d m : Nat} {vf : Value} {x : Pl.Fs} {s : Pl.Dv} {rp fp fpd : Nat → Prop} {W W' : World}
set_option maxRecDepth 100000 in
set_option maxHeartbeats 1600000 in
theorem read_is (h : FsAt B f d x fp W) (hd : DevAt Bd d s fpd W) (hdd : x.dead s = false) (nm : ByteArray) (hs : nm.size ≤ maxLen) (y : Pl.HF) (hg : Pl.hget x.hand nm = some y) (fr n : Nat) (hfr : fr ≤ 9223372036854775807) (hn : n ≤ 9223372036854775807)
    (hold : y.old ≤ 4194304) (hadd : y.added.size ≤ 140737488355328) (hbn : y.blocks.length = (y.old + 255) / 256) (hN : s.safe.length ≤ 16384) (hbk : ∀ q ∈ y.blocks, 0 ≤ q ∧ q < (s.safe.length : Int)) :
    Calls Try.prog 40 #[.pointer (some ⟨f, 0, none⟩), .string nm, .int .i64 (fr : Int), .int .i64 (n : Int)] W fun e w' => e = .returned (.tuple #[.string (Pl.readY s y fr n), .int .i64 0]) ∧ Below W.heap.size W w' := by
  obtain ⟨E, hE⟩ : ∃ E, E = Pl.readY s y fr n := ⟨_, rfl⟩
  rw [← hE]
  obtain ⟨m, vf, rp, ho, rfl⟩ := id h
  have PD := Lib.hid (dead_is hdd h hd)
  have hup : Hid (s.down = false) := Lib.hid (by unfold Pl.Fs.dead at hdd; cases hq : s.down; rfl; rw [hq] at hdd; cases hdd)
  have hz : y.old + y.added.size ≤ 9223372036854775807 := by omega
  unfold Pl.readY at hE
  obtain ⟨sz, hsz⟩ : ∃ sz, sz = y.size := ⟨_, rfl⟩
  rw [← hsz] at hE
  unfold Pl.HF.size at hsz
  obtain ⟨a, ha⟩ : ∃ a, a = min fr sz := ⟨_, rfl⟩
  rw [← ha] at hE
  obtain ⟨t, ht⟩ : ∃ t, t = a + min n (sz - a) := ⟨_, rfl⟩
  rw [← ht] at hE
  have hw1 : IntKind.i64.wrap ((y.old : Int) + (y.added.size : Int)) = (sz : Int) := by rw [IntWalk.i64_in _ (by omega)]; omega
  have hmin1 : min (fr : Int) (sz : Int) = (a : Int) := by omega
  have hw2 : IntKind.i64.wrap ((sz : Int) - (a : Int)) = ((sz - a : Nat) : Int) := by rw [IntWalk.i64_in _ (by omega)]; omega
  have hmin2 : min (n : Int) ((sz - a : Nat) : Int) = ((t - a : Nat) : Int) := by omega
  have hw3 : IntKind.i64.wrap ((a : Int) + ((t - a : Nat) : Int)) = (t : Int) := by rw [IntWalk.i64_in _ (by omega)]; omega
  have hszb : sz ≤ 140737500000000 := by omega
  have hat : a ≤ t := by omega
  have htz : t ≤ sz := by omega
  have hfr0 : ¬ (fr : Int) < 0 := by omega
  have hn0 : ¬ (n : Int) < 0 := by omega
  replace hE := Lib.hid hE
  clear hdd
  replace hsz := Lib.hid hsz
  replace ha := Lib.hid ha
  replace ht := Lib.hid ht
  go_enter Try.func40, Try.ntmps40
  go_wp2_with fail
  refine PD.out.mono ?_
  rintro e w1 ⟨rfl, nq, e1⟩
  have ho1 := ho.keep (keep_drewN e1 _)
  have hb1 : Below W.heap.size W w1 := e1 ▸ below_drewN (Below.refl _ _) nq
  have hd1 := hd.beyond hb1
  clear e1
  obtain ⟨c0, c1, c2, c3, c4, c5⟩ := ho1.cells
  obtain ⟨ua, uc, hrun, hu⟩ := hand_look ho1.hand hs
  rw [hg] at hrun hu
  simp only [Option.getD_some, Option.isSome_some] at hrun hu
  clear PD hg h ho hd
  replace hbn := Lib.hid hbn
  go_upto_if 59 with (fail)
  have hX : Blk (w1.alloc (.cells #[.slice ua y.blocks.length uc, .int .i64 (y.old : Int), .string y.added] 134)) w1.heap.size #[.slice ua y.blocks.length uc, .int .i64 (y.old : Int), .string y.added] 134 := Blk.new _ _ _
  have hb2 : Below w1.heap.size w1 (w1.alloc (.cells #[.slice ua y.blocks.length uc, .int .i64 (y.old : Int), .string y.added] 134)) := (Below.refl _ _).alloc (Nat.le_refl _) _
  generalize w1.alloc (.cells #[.slice ua y.blocks.length uc, .int .i64 (y.old : Int), .string y.added] 134) = W2 at *
  have hbw2 := hb1.trans (hb2.mono hb1.size)
  have ho2 := ho1.beyond hb2
  have hd2 := hd1.beyond hb2
  have hu2 := hu.keep (Keep.of_below (fp := rp) hb2 (fun q hq _ => ho1.lt q hq)) (fun _ h => h)
  have hzz := hX.lt
  clear ho1 hd1 hu hrun c0 c1 c2 c3 c4 c5 hb2 hw1 hw2 hw3 hmin1 hmin2 hfr0 hn0
  have hEs : Hid (E = (if a < y.old then Pl.readOld s y a t else .empty) ++ (if y.old < t then y.added.extract (a - y.old) (t - y.old) else .empty)) := Lib.hid hE.out
  obtain ⟨S1, hS1⟩ : ∃ S1, S1 = if a < y.old then Pl.readOld s y a t else .empty := ⟨_, rfl⟩
  rw [← hS1] at hEs
  go_cut [14] (fun v wx => v = .string S1 ∧ Below W2.heap.size W2 wx)
  case first =>
    have x1 : W2.cell? ⟨w1.heap.size, 1, none⟩ = some (.int .i64 (y.old : Int)) := by simp [hX.cell]
    by_cases hao : a < y.old
    case neg =>
      obtain rfl : S1 = .empty := by rw [hS1, if_neg hao]
      have hao' : ¬ (a : Int) < (y.old : Int) := by omega
      clear hS1 hao
      go_wp2
      go_meet
      exact ⟨rfl, Below.refl _ _⟩
    case pos =>
      rw [if_pos hao] at hS1
      have hao' : (a : Int) < (y.old : Int) := by omega
      obtain ⟨k, hk⟩ : ∃ k, k = a / 256 := ⟨_, rfl⟩
      obtain ⟨mo, hmo⟩ : ∃ k, k = min t y.old := ⟨_, rfl⟩
      obtain ⟨tb, htb⟩ : ∃ k, k = (mo + 255) / 256 := ⟨_, rfl⟩
      unfold Pl.readOld at hS1
      rw [← hk, ← hmo, Pl.takesB_nat, Int.toNat_natCast, ← htb] at hS1
      have hbsz := Pl.bytesOf_size hd2.wf y k tb (by rw [hbn.out]; omega) hbk
      have PBy := Lib.hid (fun (wA : World) (bA : Below W2.heap.size W2 wA) => bytes_any (ho2.beyond bA) (hd2.beyond bA) hup.out y (.slice ua y.blocks.length uc) (hu2.keep (Keep.of_below (fp := rp) bA (fun q hq _ => ho2.lt q hq)) (fun _ h => h)).1 k tb (by omega) (by rw [hbn.out]; omega) (by omega) (by omega) (by rw [hbn.out]; omega) hN hbk)
      have PBl := Lib.hid (fun wA => blocksOf_any (mo : Int) wA (by omega) (by omega))
      rw [Pl.takesB_nat, ← htb] at PBl
      generalize Pl.bytesOf s y k tb = BB at hS1 hbsz PBy
      have x2 : W2.cell? ⟨w1.heap.size, 2, none⟩ = some (.string y.added) := by simp [hX.cell]
      have x0 : W2.cell? ⟨w1.heap.size, 0, none⟩ = some (.slice ua y.blocks.length uc) := by simp [hX.cell]
      have hq1 : (a : Int).tdiv 256 = (k : Int) := by rw [Int.tdiv_eq_ediv_of_nonneg (by omega)]; omega
      have hq2 : IntKind.i64.wrap (k : Int) = (k : Int) := IntWalk.i64_in _ (by omega)
      have hm1 : min (t : Int) (y.old : Int) = (mo : Int) := by omega
      have h1 : IntKind.i64.wrap ((k : Int) * 256) = (k : Int) * 256 := IntWalk.i64_in _ (by omega)
      have h2 : IntKind.i64.wrap ((a : Int) - (k : Int) * 256) = ((a - k * 256 : Nat) : Int) := by rw [IntWalk.i64_in _ (by omega)]; omega
      have h3 : IntKind.i64.wrap ((t : Int) - (k : Int) * 256) = ((t - k * 256 : Nat) : Int) := by rw [IntWalk.i64_in _ (by omega)]; omega
      have h4 : min (BB.size : Int) ((t - k * 256 : Nat) : Int) = ((min BB.size (t - k * 256) : Nat) : Int) := by omega
      have g1 : ((a - k * 256 : Nat) : Int) ≤ ((min BB.size (t - k * 256) : Nat) : Int) := by omega
      have g2 : ((min BB.size (t - k * 256) : Nat) : Int) ≤ (BB.size : Int) := by omega
      replace hk := Lib.hid hk
      replace hmo := Lib.hid hmo
      replace htb := Lib.hid htb
      replace hbsz := Lib.hid hbsz
      replace hS1 := Lib.hid hS1
      go_upto_region 16 with (fail)
      go_cut [14] (fun v wx => v = .string BB ∧ Below W2.heap.size W2 wx)
      case first =>
        go_region_with (first
          | (go_at_call 81; refine (PBl.out _).mono ?_; rintro e wq ⟨rfl, rfl⟩)
          | (go_at_call 80; refine (PBy.out _ (by first | exact Below.refl _ _ | exact (Below.refl _ _).drew)).mono ?_; rintro e w' ⟨rfl, b'⟩; have bb : Below W2.heap.size W2 w' := (by first | exact b' | exact ((Below.refl _ _).drew).trans b')))
        all_goals
          go_wp2_with fail
          go_meet
          exact ⟨rfl, bb⟩
      case rest =>
        obtain ⟨rfl, hb3⟩ := hcut
        obtain rfl := hS1.out
        clear PBy PBl
        go_wp2
        go_meet
        exact ⟨rfl, hb3⟩
  case rest =>
    obtain ⟨rfl, hb3⟩ := hcut
    have hX3 : Blk wc w1.heap.size #[.slice ua y.blocks.length uc, .int .i64 (y.old : Int), .string y.added] 134 := (hb3.block _ hzz).trans hX
    have x1 : wc.cell? ⟨w1.heap.size, 1, none⟩ = some (.int .i64 (y.old : Int)) := by simp [hX3.cell]
    have x2 : wc.cell? ⟨w1.heap.size, 2, none⟩ = some (.string y.added) := by simp [hX3.cell]
    have hS1s : S1.size ≤ 4194304 := by
      rw [hS1]
      split
      · unfold Pl.readOld
        rw [ByteArray.size_extract, Pl.bytesOf_size hd2.wf y _ _ (by rw [hbn.out, Pl.takesB_nat]; omega) hbk]
        omega
      · decide
    have hbw3 := hbw2.trans (hb3.mono hbw2.size)
    clear hS1 hX3 hX ho2 hd2 hu2 hbk hN hup
    by_cases hyt : y.old < t
    case neg =>
      rw [if_neg hyt, ByteArray.append_empty] at hEs
      have hyt' : ¬ (y.old : Int) < (t : Int) := by omega
      have PC := Lib.hid (clone_any S1 wc (by omega))
      clear hyt
      go_wp2_with fail
      refine PC.out.mono ?_
      rintro e w4 ⟨rfl, b4⟩
      clear PC
      go_wp2
      go_ret2
      exact ⟨by rw [hEs.out]; rfl, hbw3.trans (b4.mono hbw3.size)⟩
    case pos =>
      rw [if_pos hyt] at hEs
      have hyt' : (y.old : Int) < (t : Int) := by omega
      have h1 : IntKind.i64.wrap ((a : Int) - (y.old : Int)) = (a : Int) - (y.old : Int) := IntWalk.i64_in _ (by omega)
      have h2 : max ((a : Int) - (y.old : Int)) 0 = ((a - y.old : Nat) : Int) := by omega
      have h3 : IntKind.i64.wrap ((t : Int) - (y.old : Int)) = ((t - y.old : Nat) : Int) := by rw [IntWalk.i64_in _ (by omega)]; omega
      have hsz' := hsz.out
      have g1 : ((a - y.old : Nat) : Int) ≤ ((t - y.old : Nat) : Int) := by omega
      have g2 : ((t - y.old : Nat) : Int) ≤ (y.added.size : Int) := by omega
      have hes : (y.added.extract (a - y.old) (t - y.old)).size ≤ y.added.size := by rw [ByteArray.size_extract]; omega
      have g3 : S1.size + (y.added.extract (a - y.old) (t - y.old)).size ≤ 9223372036854775807 := by omega
      have PC := Lib.hid (fun wA => clone_any (S1 ++ y.added.extract (a - y.old) (t - y.old)) wA (by rw [ByteArray.size_append]; omega))
      clear hyt hsz'
      go_wp2_with fail
      refine (PC.out _).mono ?_
      rintro e w4 ⟨rfl, b4⟩
      clear PC
      go_wp2
      go_ret2
      exact ⟨by rw [hEs.out]; rfl, hbw3.trans (b4.mono hbw3.size)⟩
end Go.Proofs.Ytndekdgpibipnaa

namespace Go.Proofs.Ytndekdgpibipnaa
open Go.RowKit Go.Maps

attribute [local go_sem] Oper.semAt_some
variable {B Bd f d m : Nat} {vf : Value} {x : Pl.Fs} {s : Pl.Dv} {rp fp fpd : Nat → Prop} {W W' : World}
set_option maxRecDepth 100000 in
set_option maxHeartbeats 800000 in
theorem read_none (h : FsAt B f d x fp W) (hd : DevAt Bd d s fpd W) (hdd : x.dead s = false) (nm : ByteArray) (hs : nm.size ≤ maxLen) (hg : Pl.hget x.hand nm = none) (fr n : Nat) :
    Calls Try.prog 40 #[.pointer (some ⟨f, 0, none⟩), .string nm, .int .i64 (fr : Int), .int .i64 (n : Int)] W fun e w' => e = .returned (.tuple #[.string .empty, .int .i64 6]) ∧ Below W.heap.size W w' := by
  obtain ⟨m, vf, rp, ho, rfl⟩ := id h
  have PD := Lib.hid (dead_is hdd h hd)
  have hfr0 : ¬ (fr : Int) < 0 := by omega
  have hn0 : ¬ (n : Int) < 0 := by omega
  clear hdd
  go_enter Try.func40, Try.ntmps40
  go_wp2_with fail
  refine PD.out.mono ?_
  rintro e w1 ⟨rfl, nq, e1⟩
  have ho1 := ho.keep (keep_drewN e1 _)
  have hb1 : Below W.heap.size W w1 := e1 ▸ below_drewN (Below.refl _ _) nq
  clear e1
  obtain ⟨c0, c1, c2, c3, c4, c5⟩ := ho1.cells
  obtain ⟨ua, uc, hrun, hu⟩ := hand_look ho1.hand hs
  rw [hg] at hrun hu
  simp only [Option.getD_none, Option.isSome_none, Pl.HF.zero] at hrun hu
  clear PD hg h ho hd
  go_wp2
  go_ret2
  exact ⟨rfl, hb1.alloc hb1.size _⟩
/-- is that what a file system has? -/
def IsP (x : Pl.Fs) (s : Pl.Dv) (ns ds : List ByteArray) : Prop := x.hand.length = ns.length ∧ ∀ i (h : i < ns.length) (h2 : i < ds.length), ∃ y, Pl.hget x.hand ns[i] = some y ∧ Pl.readY s y 0 y.size = ds[i]
set_option maxRecDepth 100000 in
set_option maxHeartbeats 2000000 in
theorem is_any (h : FsAt B f d x fp W) (hd : DevAt Bd d s fpd W) (hdd : x.dead s = false) {N T : Nat} (hk : Pl.HK N T x.hand) (hT : T ≤ 140737488355328) (hN : N ≤ 16384) (hlen : s.safe.length = N) (vn vd : Value) (ns ds : List ByteArray) (hn : TxtAt W vn ns) (hdt : TxtAt W vd ds) (hnd : ds.length = ns.length) (hl : ns.length ≤ 1073741824) (hsz : ∀ t ∈ ns, t.size ≤ maxLen) :
    Calls Try.prog 50 #[.agg #[vn, vd], .pointer (some ⟨f, 0, none⟩)] W fun e w' => ∃ b : Bool, e = .returned (.bool b) ∧ (b = true ↔ IsP x s ns ds) ∧ Below W.heap.size W w' := by
  obtain ⟨an, cn, rfl, hn'⟩ := id hn
  obtain ⟨ad, cd, rfl, hd'⟩ := id hdt
  obtain ⟨n, hnl⟩ : ∃ n, n = ns.length := ⟨_, rfl⟩
  rw [hnd, ← hnl]
  rw [← hnl] at hl
  replace hnl := Lib.hid hnl
  replace hnd := Lib.hid hnd
  replace hn := Lib.hid hn'
  replace hdt := Lib.hid hd'
  clear hn' hd'
  obtain ⟨W0, hW0⟩ : ∃ W0, W.alloc (.cells #[.slice an n cn, .slice ad n cd] 84) = W0 := ⟨_, rfl⟩
  have hBp : Blk W0 W.heap.size #[.slice an n cn, .slice ad n cd] 84 := by rw [← hW0]; exact Blk.new _ _ _
  have hb0 : Below W.heap.size W W0 := by rw [← hW0]; exact (Below.refl _ _).alloc (Nat.le_refl _) _
  have PN := Lib.hid (names_any (h.beyond hb0) (hd.beyond hb0) (by have := hk.many; omega))
  have hnm : (x.namesE s).length = x.hand.length := by unfold Pl.Fs.namesE; rw [if_neg (by rw [hdd]; exact Bool.false_ne_true)]; simp [Pl.namesOf]
  rw [hnm] at PN
  have hlw := hb0.size
  have hlp := hBp.lt
  replace hlen := Lib.hid hlen
  replace hdd := Lib.hid hdd
  obtain ⟨hm, hhm⟩ : ∃ k, k = x.hand.length := ⟨_, rfl⟩
  rw [← hhm] at PN
  have hmm : hm ≤ 64 := by rw [hhm]; exact hk.many
  replace hhm := Lib.hid hhm
  clear hnm
  go_enter Try.func50, Try.ntmps50
  go_wp2_with fail
  clear hW0
  refine PN.out.mono ?_
  rintro e w1 ⟨v, rfl, hv, b1⟩
  clear PN
  have hbw1 := hb0.trans (b1.mono hlw)
  have hX1 := (show Blk w1 W.heap.size #[.slice an n cn, .slice ad n cd] 84 from (b1.block _ hlp).trans hBp)
  obtain ⟨va, vc, rfl⟩ : ∃ a c, v = .slice a hm c := by
    rcases hv.2 with ⟨rfl, h0⟩ | ⟨g, cap, cur, rfl, _⟩
    · exact ⟨none, 0, by rw [h0]⟩
    · exact ⟨_, _, rfl⟩
  clear hv hBp b1 hb0
  have c0 : w1.cell? ⟨W.heap.size, 0, none⟩ = some (.slice an n cn) := by simp [hX1.cell]
  by_cases hmn : hm = n
  case neg =>
    have hne : ((hm : Int) != (n : Int)) = true := by simp; omega
    have hend : Hid (¬ IsP x s ns ds) := Lib.hid (fun hp => hmn (by rw [hhm.out, hnl.out]; exact hp.1))
    clear hmn
    go_wp2
    go_ret
    exact ⟨false, rfl, ⟨fun h => (by cases h), fun h => absurd h hend.out⟩, hbw1⟩
  subst hmn
  have hxl : Hid (x.hand.length = ns.length) := Lib.hid (by rw [← hhm.out, hnl.out])
  clear hhm
  go_wp2_with fail
  clear c0
  have hread : Hid (∀ (X : World) (hb : Below W.heap.size W X) (nm : ByteArray) (hs : nm.size ≤ maxLen) (y : Pl.HF), Pl.hget x.hand nm = some y → Calls Try.prog 40 #[.pointer (some ⟨f, 0, none⟩), .string nm, .int .i64 0, .int .i64 (y.size : Int)] X fun e w' => e = .returned (.tuple #[.string (Pl.readY s y 0 y.size), .int .i64 0]) ∧ Below X.heap.size X w') := Lib.hid (fun X hb nm hs y hg => by
    obtain ⟨p, hp, rfl, _⟩ := Pl.hget_some hg
    have he := hk.all p hp
    exact read_is (h.beyond hb) (hd.beyond hb) hdd.out nm hs p.2 hg 0 p.2.size (by omega) (by unfold Pl.HF.size; have := he.old; have := he.added; omega) he.old (Nat.le_trans he.added hT) he.blocks (by rw [hlen.out]; exact hN) (fun q hq => by have := he.inner q hq; rw [hlen.out]; omega))
  have hsize : Hid (∀ (X : World) (hb : Below W.heap.size W X) (nm : ByteArray) (hs : nm.size ≤ maxLen), Calls Try.prog 39 #[.pointer (some ⟨f, 0, none⟩), .string nm] X fun e w' => e = .returned (.tuple #[.int .i64 (x.sizeE s nm).1, .int .i64 (x.sizeE s nm).2]) ∧ Below X.heap.size X w') := Lib.hid (fun X hb nm hs => size_any (h.beyond hb) (hd.beyond hb) nm hs (fun y hg => by
    obtain ⟨p, hp, rfl, _⟩ := Pl.hget_some hg
    have he := hk.all p hp
    unfold Pl.HF.size; have := he.old; have := he.added; omega))
  have hrno : Hid (∀ (X : World) (hb : Below W.heap.size W X) (nm : ByteArray) (hs : nm.size ≤ maxLen), Pl.hget x.hand nm = none → Calls Try.prog 40 #[.pointer (some ⟨f, 0, none⟩), .string nm, .int .i64 0, .int .i64 0] X fun e w' => e = .returned (.tuple #[.string .empty, .int .i64 6]) ∧ Below X.heap.size X w') := Lib.hid (fun (X : World) (hb : Below W.heap.size W X) (nm : ByteArray) (hs : nm.size ≤ maxLen) (hg : Pl.hget x.hand nm = none) => read_none (h.beyond hb) (hd.beyond hb) hdd.out nm hs hg 0 0)
  have hse : Hid (∀ nm, x.sizeE s nm = match Pl.hget x.hand nm with | none => (0, 6) | some y => ((y.size : Int), 0)) := Lib.hid (fun nm => by unfold Pl.Fs.sizeE; rw [if_neg (by rw [hdd.out]; exact Bool.false_ne_true)]; cases Pl.hget x.hand nm <;> rfl)
  clear h hd
  go_loopw [6] (fun ix X => ∃ i : Nat, i ≤ hm ∧ ix = .int .i64 (i : Int) ∧ Blk X W.heap.size #[.slice an hm cn, .slice ad hm cd] 84 ∧ Below W.heap.size W X ∧ ∀ j (h : j < ns.length) (h2 : j < ds.length), j < i → ∃ y, Pl.hget x.hand ns[j] = some y ∧ Pl.readY s y 0 y.size = ds[j]) (fun ix _ => hm - (intOf ix).toNat)
  case atStart => exact ⟨0, Nat.zero_le _, rfl, hX1, hbw1, fun _ _ _ h => absurd h (Nat.not_lt_zero _)⟩
  clear hX1 hbw1
  case round =>
    obtain ⟨i, hi, rfl, hX, hbw, hok⟩ := hrel
    have c0 : wr.cell? ⟨W.heap.size, 0, none⟩ = some (.slice an hm cn) := by simp [hX.cell]
    have c1 : wr.cell? ⟨W.heap.size, 1, none⟩ = some (.slice ad hm cd) := by simp [hX.cell]
    have hXl := hX.lt
    have hzw := hbw.size
    by_cases hil : i < hm
    case neg =>
      obtain rfl : i = hm := by omega
      have hend : Hid (IsP x s ns ds) := Lib.hid ⟨hxl.out, fun j h h2 => hok j h h2 (by rw [hnl.out]; exact h)⟩
      clear hok
      go_wp2
      go_ret
      exact ⟨true, rfl, ⟨fun _ => hend.out, fun _ => rfl⟩, hbw⟩
    obtain ⟨b, off, rfl, hbl, hx⟩ := hn.out (by rw [← hnl.out]; omega)
    obtain ⟨b2, off2, rfl, hbl2, hx2⟩ := hdt.out (by rw [hnd.out, ← hnl.out]; omega)
    have hin : i < ns.length := by rw [← hnl.out]; exact hil
    have hid : i < ds.length := by rw [hnd.out, ← hnl.out]; exact hil
    have x0 := (hbw.cell (p := ⟨b, off + i, none⟩) hbl).trans (hx i hin)
    have x1 := (hbw.cell (p := ⟨b2, off2 + i, none⟩) hbl2).trans (hx2 i hid)
    have hns := hsz _ (List.getElem_mem hin)
    obtain ⟨nm, hnm⟩ : ∃ t, t = ns[i] := ⟨_, rfl⟩
    obtain ⟨dt, hdt2⟩ : ∃ t, t = ds[i] := ⟨_, rfl⟩
    rw [← hnm] at x0 hns
    rw [← hdt2] at x1
    replace hnm := Lib.hid hnm
    replace hdt2 := Lib.hid hdt2
    replace hok := Lib.hid hok
    have PS := Lib.hid (hsize.out wr hbw nm hns)
    rw [hse.out nm] at PS
    have hXr : Hid (∀ X, Below wr.heap.size wr X → X.cell? ⟨W.heap.size, 0, none⟩ = some (.slice (some ⟨b, off, none⟩) hm cn) ∧ X.cell? ⟨W.heap.size, 1, none⟩ = some (.slice (some ⟨b2, off2, none⟩) hm cd) ∧ X.cell? ⟨b, off + i, none⟩ = some (.string nm) ∧ X.cell? ⟨b2, off2 + i, none⟩ = some (.string dt)) := Lib.hid (fun X hb => ⟨(hb.cell (p := ⟨W.heap.size, 0, none⟩) hXl).trans c0, (hb.cell (p := ⟨W.heap.size, 1, none⟩) hXl).trans c1, (hb.cell (p := ⟨b, off + i, none⟩) (show b < wr.heap.size by omega)).trans x0, (hb.cell (p := ⟨b2, off2 + i, none⟩) (show b2 < wr.heap.size by omega)).trans x1⟩)
    clear hx hx2 hn hdt hsz
    go_wp2_with fail
    refine PS.out.mono ?_
    rintro e w3 ⟨rfl, b3⟩
    have hbw3 := hbw.trans (b3.mono hzw)
    obtain ⟨d0, d1, y0, y1⟩ := hXr.out w3 b3
    clear c0 c1 x0 x1 PS
    have hz3 := b3.size
    cases hg : Pl.hget x.hand nm with
    | none =>
      have PR := Lib.hid (hrno.out w3 hbw3 nm hns hg)
      have hend : Hid (¬ IsP x s ns ds) := Lib.hid (fun hp => by
        obtain ⟨y, hy, _⟩ := hp.2 i hin hid
        rw [← hnm.out, hg] at hy
        cases hy)
      clear hg hse hok
      go_wp2_with fail
      refine PR.out.mono ?_
      rintro e w4 ⟨rfl, b4⟩
      have hbw4 := hbw3.trans (b4.mono (by omega))
      clear PR d0 d1 y0 y1
      go_wp2
      go_ret
      exact ⟨false, rfl, ⟨fun h => (by cases h), fun h => absurd h hend.out⟩, hbw4⟩
    | some y =>
      have PR := Lib.hid (hread.out w3 hbw3 nm hns y hg)
      replace hg := Lib.hid hg
      generalize hrr : Pl.readY s y 0 y.size = R at PR
      clear hse
      go_wp2_with fail
      refine PR.out.mono ?_
      rintro e w4 ⟨rfl, b4⟩
      have b34 := b3.trans (b4.mono hz3)
      have hbw4 := hbw3.trans (b4.mono (by omega))
      obtain ⟨d0, d1, y0, y1⟩ := hXr.out w4 b34
      have hX4 := Lib.hid (show Blk w4 W.heap.size _ _ from (b34.block _ hXl).trans hX)
      clear PR
      by_cases hq : R = dt
      · subst hq
        have hok1 : Hid (∀ j (h : j < ns.length) (h2 : j < ds.length), j < i + 1 → ∃ y, Pl.hget x.hand ns[j] = some y ∧ Pl.readY s y 0 y.size = ds[j]) := Lib.hid (fun j h h2 hj => by
          rcases Nat.lt_or_ge j i with hji | hji
          · exact hok.out j h h2 hji
          · obtain rfl : j = i := by omega
            exact ⟨y, by rw [← hnm.out]; exact hg.out, by rw [hrr]; exact hdt2.out⟩)
        clear hrr hok hX
        go_wp2
        go_roundw
        case rel => exact ⟨i + 1, by omega, by go_num, hX4.out, hbw4, hok1.out⟩
        case measure => simp [intOf]; omega
      · obtain ⟨q1, q2⟩ := toList_bne hq
        have hend : Hid (¬ IsP x s ns ds) := Lib.hid (fun hp => by
          obtain ⟨y', hy', hr'⟩ := hp.2 i hin hid
          rw [← hnm.out, hg.out] at hy'
          obtain rfl := Option.some.inj hy'
          rw [hrr, ← hdt2.out] at hr'
          exact hq hr')
        clear hq hrr hok hX
        go_wp2
        go_ret
        exact ⟨false, rfl, ⟨fun h => (by cases h), fun h => absurd h hend.out⟩, hbw4⟩
end Go.Proofs.Ytndekdgpibipnaa
