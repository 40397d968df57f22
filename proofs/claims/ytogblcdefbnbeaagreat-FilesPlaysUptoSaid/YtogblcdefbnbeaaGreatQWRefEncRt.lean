
/- Walk: the document's: a root as bytes. Condition: none. -/
import Derived.Test.YtogblcdefbnbeaaGreatQWRefMay4
import Derived.Test.YtogblcdefbnbeaaGreatQWEncRt
import Derived.Test.YtogblcdefbnbeaaGreatQHa
import Derived.Deep.RegionHeld3
import Derived.Deep.RegionWith
import Derived.Deep.DeepCutAuto
set_option maxRecDepth 100000
namespace Go.Proofs.YtogblcdefbnbeaaGreat
section
open Go.RowKit
theorem mk_two (a b : List UInt8) : (ByteArray.mk a.toArray ++ ByteArray.mk b.toArray) = ⟨(a ++ b).toArray⟩ := by rw [Pl.mk_append]
theorem size_mk (a : List UInt8) : (ByteArray.mk a.toArray).size = a.length := by simp [ByteArray.size]
theorem val_str {a b : ByteArray} (h : a = b) : Value.string a = .string b := by rw [h]
set_option maxHeartbeats 1600000 in
theorem refRuns_any (v : Value) (l : List Int) (w : World) (hv : IntsAt w v l) (hl : l.length ≤ 16384) (hlo : ∀ x ∈ l, 0 ≤ x ∧ x ≤ 16384) :
  Calls Tryz.prog 102 #[v] w fun e w' => e = .returned (.string ⟨(Pl.putUint (Pl.runsOf l).length ++ (Pl.runsOf l).flatMap Pl.runBytes).toArray⟩) ∧ Below w.heap.size w w' := by
 obtain ⟨ao, cap, rfl, c1, c2, hrow⟩ := hv
 have hrl := Pl.runsOf_length l.length l (Nat.le_refl _)
 have hall := flatMap_le (f := Pl.runBytes) (c := 20) (Pl.runsOf l) (fun y hy => by
  obtain ⟨m1, m2⟩ := Pl.mem_runs l.length l y (Nat.le_refl _) hy
  have := hlo _ m1
  exact Pl.runBytes_le (by omega) (by omega))
 have hlo' := Lib.hid hlo
 clear hlo
 go_enter Tryz.func102, Tryz.ntmps102
 go_wp2
 go_loopw [3, 4, 5] (fun s m ix W' => ∃ (i : Nat) (pre : List (Int × Nat)), i ≤ l.length ∧ Pl.runsOf l = pre ++ Pl.runsOf (l.drop i) ∧ s = .string ⟨(pre.flatMap Pl.runBytes).toArray⟩ ∧ m = .int .i64 (pre.length : Int) ∧ ix = .int .i64 (i : Int) ∧ Below w.heap.size w W') (fun _ _ ix _ => l.length - (intOf ix).toNat)
 case atStart => exact ⟨0, [], by omega, by simp, rfl, rfl, rfl, Below.refl _ _⟩
 case round =>
  obtain ⟨i, pre, hi, hpre, rfl, rfl, rfl, hbr⟩ := hrel
  have hpl : pre.length ≤ (Pl.runsOf l).length := by rw [hpre, List.length_append]; omega
  have hpb := flat_le (f := Pl.runBytes) (a := pre) (b := Pl.runsOf l) ⟨_, hpre.symm⟩
  by_cases hil : i < l.length
  case neg =>
   obtain rfl : i = l.length := by omega
   rw [List.drop_length, Pl.runsOf_nil, List.append_nil] at hpre
   have hpre' := Lib.hid hpre
   clear hpre
   have hul := Pl.putUint_length64 pre.length (by omega)
   have hz1 := size_mk (Pl.putUint pre.length)
   have hz2 := size_mk (pre.flatMap Pl.runBytes)
   have hw1 : IntKind.u64.wrap (pre.length : Int) = (pre.length : Int) := by rw [IntKind.wrap_u64]; omega
   have P := Lib.hid (fun W => refPutUint_any pre.length W (u64_of _ (by omega)))
   go_wp2_with fail
   refine (P.out _).mono ?_
   rintro e w1 ⟨rfl, b1⟩
   go_wp2_with fail
   go_ret
   exact ⟨ret_str (by rw [mk_two, hpre'.out]), hbr.trans (b1.mono hbr.size)⟩
  obtain ⟨rb, off, rfl, hrb, hc⟩ := hrow (by omega)
  have hd1 := Pl.runsOf_drop hil
  have hup1 := Pl.upR_drop_pos hil
  have hup2 := Pl.upR_le l[i] (l.drop i)
  rw [List.length_drop] at hup2
  have hrw := Lib.hid (fun k (hk : i + k < l.length) => hc (i + k) hk)
  have hab := hlo'.out l[i] (List.getElem_mem hil)
  have hgo : Hid (∀ k (hk : i + k < l.length), k ≤ Pl.upR l[i] (l.drop i) → (l[i + k] = l[i] + (k : Int) ↔ k < Pl.upR l[i] (l.drop i))) := Lib.hid (fun k hk hle => by
   have h1 : k < (l.drop i).length := by rw [List.length_drop]; omega
   have := Pl.upR_lt (a := l[i]) (l := l.drop i) (j := k) h1 hle
   rwa [List.getElem_drop] at this)
  have ha0 := hc i hil
  generalize hU : Pl.upR l[i] (l.drop i) = U at *
  replace hU := Lib.hid hU
  have hpre3 := Lib.hid (show Pl.runsOf l = (pre ++ [(l[i], U)]) ++ Pl.runsOf (l.drop (i + U)) by rw [hpre, hd1]; simp)
  clear hpre hd1 hc
  have hpl2 : pre.length + 1 ≤ (Pl.runsOf l).length := by
   have := congrArg List.length hpre3.out
   simp only [List.length_append, List.length_singleton] at this
   omega
  have hrb2 : Hid ((pre ++ [(l[i], U)]).flatMap Pl.runBytes = pre.flatMap Pl.runBytes ++ Pl.putUint l[i].toNat ++ Pl.putUint U) := Lib.hid (by rw [List.flatMap_append]; simp [Pl.runBytes])
  generalize l[i] = a at *
  obtain ⟨wo, rfl⟩ : ∃ wo : World, wo = wr := ⟨_, rfl⟩
  have hbow := hbr
  go_wp2
  go_loopw [6] (fun s W' => ∃ k : Nat, 1 ≤ k ∧ k ≤ U ∧ s = .int .i64 (k : Int) ∧ Below wo.heap.size wo W') (fun s _ => U - (intOf s).toNat)
  case atStart => exact ⟨1, Nat.le_refl _, hup1, rfl, Below.refl _ _⟩
  case round =>
   obtain ⟨k, hk1, hk2, rfl, hbk⟩ := hrel
   have hbwk := hbow.trans (hbk.mono hbow.size)
   have cak := (hbwk.cell (p := ⟨rb, off + i, none⟩) hrb).trans ha0
   have hw0 : IntKind.i64.wrap ((i : Int) + (k : Int)) = (i : Int) + (k : Int) := IntWalk.i64_in _ (by omega)
   have hg0 : (0 : Int) ≤ (i : Int) + (k : Int) := by omega
   have hg1 : (0 : Int) ≤ (i : Int) := by omega
   have hg2 : (i : Int) < (l.length : Int) := by omega
   have htn : ((i : Int) + (k : Int)).toNat = i + k := by omega
   by_cases hkU : k < U
   ·have hkm : i + k < l.length := by omega
    have hy := (hgo.out k hkm hk2).2 hkU
    have cy := (hbwk.cell (p := ⟨rb, off + (i + k), none⟩) hrb).trans (hrw.out k hkm)
    generalize l[i + k] = y at *
    have hw1 : IntKind.i64.wrap (a + (k : Int)) = a + (k : Int) := IntWalk.i64_in _ (by omega)
    have hy1 : (y == a + (k : Int)) = true := by simpa using hy
    have hkm1 : (i : Int) + (k : Int) < (l.length : Int) := by omega
    have hkm2 : decide ((i : Int) + (k : Int) < (l.length : Int)) = true := decide_eq_true hkm1
    replace hy := Lib.hid hy
    go_wp2
    go_quiet (fail)
    go_wp2
    go_roundw
    case rel => exact ⟨k + 1, by omega, by omega, by go_num, below_drewN hbk nq⟩
    case measure => simp [intOf]; omega
   obtain rfl : k = U := by omega
   go_wp2
   go_cut [31] (fun v wx => v = .bool false ∧ Below wo.heap.size wo wx)
   case first =>
    by_cases hkm : i + k < l.length
    ·have hy : ¬ l[i + k] = a + (k : Int) := fun e => absurd ((hgo.out k hkm (Nat.le_refl _)).1 e) (Nat.lt_irrefl _)
     have cy := (hbwk.cell (p := ⟨rb, off + (i + k), none⟩) hrb).trans (hrw.out k hkm)
     generalize l[i + k] = y at *
     have hw1 : IntKind.i64.wrap (a + (k : Int)) = a + (k : Int) := IntWalk.i64_in _ (by omega)
     have hy1 : (y == a + (k : Int)) = false := by simpa using hy
     have hkm1 : (i : Int) + (k : Int) < (l.length : Int) := by omega
     have hkm2 : decide ((i : Int) + (k : Int) < (l.length : Int)) = true := decide_eq_true hkm1
     go_quiet (fail)
     go_wp2
     go_meet
     exact ⟨by first | rfl | simp, below_drewN hbk nq⟩
    ·have hkm1 : ¬ (i : Int) + (k : Int) < (l.length : Int) := by omega
     have hkm2 : decide ((i : Int) + (k : Int) < (l.length : Int)) = false := decide_eq_false hkm1
     go_quiet (fail)
     go_wp2
     go_meet
     exact ⟨by first | rfl | simp, below_drewN hbk nq⟩
   case rest =>
   obtain ⟨rfl, hbc⟩ := hcut
   have hbwc := hbow.trans (hbc.mono hbow.size)
   have cac := (hbwc.cell (p := ⟨rb, off + i, none⟩) hrb).trans ha0
   obtain ⟨an, rfl⟩ := Int.eq_ofNat_of_zero_le hab.1
   have hu1 := Pl.putUint_length64 an (by omega)
   have hu2 := Pl.putUint_length64 k (by omega)
   have hz1 := size_mk (Pl.putUint an)
   have hz2 := size_mk (Pl.putUint k)
   have hz3 := size_mk (pre.flatMap Pl.runBytes)
   have hz4 : (ByteArray.mk (pre.flatMap Pl.runBytes).toArray ++ ByteArray.mk (Pl.putUint an).toArray).size = (pre.flatMap Pl.runBytes).length + (Pl.putUint an).length := by rw [mk_two, size_mk, List.length_append]
   have hwa : IntKind.u64.wrap (an : Int) = (an : Int) := by rw [IntKind.wrap_u64]; omega
   have hwk : IntKind.u64.wrap (k : Int) = (k : Int) := by rw [IntKind.wrap_u64]; omega
   have P1 := Lib.hid (fun W => refPutUint_any an W (u64_of _ (by omega)))
   have P2 := Lib.hid (fun W => refPutUint_any k W (u64_of _ (by omega)))
   clear cak hbk hbwk hU
   go_wp2_with fail
   refine (P1.out _).mono ?_
   rintro e w1 ⟨rfl, b1⟩
   go_wp2_with fail
   refine (P2.out _).mono ?_
   rintro e w2 ⟨rfl, b2⟩
   go_wp2_with fail
   go_roundw
   case rel => exact ⟨i + k, pre ++ [((an : Int), k)], by omega, hpre3.out, val_str (by rw [hrb2.out, mk_two, mk_two, Int.toNat_natCast]), by simp, by go_num, hbwc.trans ((b1.trans (b2.mono b1.size)).mono hbwc.size)⟩
   case measure => simp [intOf]; omega
set_option maxHeartbeats 1600000 in
theorem refEnc_bad (r : Pl.RootP) (ao : Option Addr) (cap : Nat) (N0 : Int) (w : World) (hf : r.fine) (hu : FilesAt w (.slice ao r.files.length cap) r.files) (hN1 : -9223372036854775808 ≤ N0) (hN2 : N0 ≤ 9223372036854775807) (hm : ¬ Pl.May (min N0 16384) r) :
  Calls Tryz.prog 76 #[.agg #[.int .u64 (r.gen : Int), .slice ao r.files.length cap], .int .i64 N0] w fun e w' => e = .returned (.tuple #[.string .empty, .int .i64 1]) ∧ Below w.heap.size w w' := by
 obtain ⟨W0, hW0⟩ : ∃ W0, w.alloc (.cells #[.int .u64 (r.gen : Int), .slice ao r.files.length cap] 71) = W0 := ⟨_, rfl⟩
 have hb0 : Below w.heap.size w W0 := by rw [← hW0]; exact (Below.refl _ _).alloc (Nat.le_refl _) _
 have hR0 : W0.heap[w.heap.size]? = some (.cells #[.int .u64 (r.gen : Int), .slice ao r.files.length cap] 71 (0, 0)) := by rw [← hW0]; exact World.alloc_heap_new _ _
 have r0 : W0.cell? ⟨w.heap.size, 0, none⟩ = some (.int .u64 (r.gen : Int)) := by simp [World.cell?, hR0]
 have r1 : W0.cell? ⟨w.heap.size, 1, none⟩ = some (.slice ao r.files.length cap) := by simp [World.cell?, hR0]
 have P := Lib.hid (refMay4_any r (.slice ao r.files.length cap) (min N0 16384) W0 hf (hu.below hb0) (by omega) (by omega))
 rw [Pl.mayB_no hm] at P
 rcases (by omega : N0 ≤ 16384 ∨ 16384 < N0) with h | h
 ·rw [show min N0 16384 = N0 by omega] at P
  go_enter Tryz.func76, Tryz.ntmps76
  go_wp2_with fail
  refine P.out.mono ?_
  rintro e w1 ⟨rfl, b1⟩
  go_wp2_with fail
  go_ret2
  exact ⟨rfl, hb0.trans (b1.mono hb0.size)⟩
 ·rw [show min N0 16384 = 16384 by omega] at P
  go_enter Tryz.func76, Tryz.ntmps76
  go_wp2_with fail
  refine P.out.mono ?_
  rintro e w1 ⟨rfl, b1⟩
  go_wp2_with fail
  go_ret2
  exact ⟨rfl, hb0.trans (b1.mono hb0.size)⟩
set_option maxHeartbeats 3200000 in
theorem refEnc_ok (r : Pl.RootP) (ao : Option Addr) (cap : Nat) (N0 : Int) (w : World) (hf : r.fine) (hu : FilesAt w (.slice ao r.files.length cap) r.files) (hN1 : -9223372036854775808 ≤ N0) (hN2 : N0 ≤ 9223372036854775807) (hm : Pl.May (min N0 16384) r) :
  Calls Tryz.prog 76 #[.agg #[.int .u64 (r.gen : Int), .slice ao r.files.length cap], .int .i64 N0] w fun e w' => e = .returned (.tuple #[.string ⟨(Pl.encOf r).1.toArray⟩, .int .i64 (Pl.encOf r).2]) ∧ Below w.heap.size w w' := by
 obtain ⟨W0, hW0⟩ : ∃ W0, w.alloc (.cells #[.int .u64 (r.gen : Int), .slice ao r.files.length cap] 71) = W0 := ⟨_, rfl⟩
 have hb0 : Below w.heap.size w W0 := by rw [← hW0]; exact (Below.refl _ _).alloc (Nat.le_refl _) _
 have hR0 : W0.heap[w.heap.size]? = some (.cells #[.int .u64 (r.gen : Int), .slice ao r.files.length cap] 71 (0, 0)) := by rw [← hW0]; exact World.alloc_heap_new _ _
 have r0 : W0.cell? ⟨w.heap.size, 0, none⟩ = some (.int .u64 (r.gen : Int)) := by simp [World.cell?, hR0]
 have r1 : W0.cell? ⟨w.heap.size, 1, none⟩ = some (.slice ao r.files.length cap) := by simp [World.cell?, hR0]
 have hz0 : w.heap.size < W0.heap.size := (Array.getElem?_eq_some_iff.1 hR0).1
 have P := Lib.hid (refMay4_any r (.slice ao r.files.length cap) (min N0 16384) W0 hf (hu.below hb0) (by omega) (by omega))
 rw [Pl.mayB_yes hm] at P
 have hg1 := hm.g1
 have hg2 := hm.g2
 have hmany := hm.many
 have hsize := Lib.hid (fun j => Pl.prefix_le hm (by omega) j)
 have hmb := Lib.hid (fun (x : Pl.FileP) (hx : x ∈ r.files) => hm.blocks (by omega) hx)
 have hU1 := u64_of r.gen (by omega)
 have hU2 := u64_of r.files.length (by omega)
 have hl1 := Pl.putUint_length64 r.gen (by omega)
 have hl2 := Pl.putUint_length64 r.files.length (by omega)
 have hz1 := size_mk (Pl.putUint r.gen)
 have hz2 := size_mk (Pl.putUint r.files.length)
 have hwl : IntKind.u64.wrap (r.files.length : Int) = (r.files.length : Int) := by rw [IntKind.wrap_u64]; omega
 clear hm
 go_enter Tryz.func76, Tryz.ntmps76
 go_upto_region 1 with (fail)
 clear hW0
 go_cut [6] (fun v wx => v = .bool true ∧ Below W0.heap.size W0 wx)
 case first =>
  rcases (by omega : N0 ≤ 16384 ∨ 16384 < N0) with h | h
  ·rw [show min N0 16384 = N0 by omega] at P
   go_wp2_with fail
   refine P.out.mono ?_
   rintro e w1 ⟨rfl, b1⟩
   go_wp2_with fail
   go_meet
   exact ⟨rfl, b1⟩
  ·rw [show min N0 16384 = 16384 by omega] at P
   go_wp2_with fail
   refine P.out.mono ?_
   rintro e w1 ⟨rfl, b1⟩
   go_wp2_with fail
   go_meet
   exact ⟨rfl, b1⟩
 case rest =>
 obtain ⟨rfl, hb1⟩ := hcut
 clear P
 have hS := Lib.hid (fun (W : World) (hb : Below wc.heap.size wc W) => And.intro (((hb1.trans (hb.mono hb1.size)).cell (p := ⟨w.heap.size, 0, none⟩) hz0).trans r0) (((hb1.trans (hb.mono hb1.size)).cell (p := ⟨w.heap.size, 1, none⟩) hz0).trans r1))
 go_wp2
 go_cut [7] (fun v wx => v = .string ⟨(Pl.putUint r.gen ++ Pl.putUint r.files.length).toArray⟩ ∧ Below wc.heap.size wc wx)
 case first =>
  have hq1 : (Pl.putUint r.gen).length + (Pl.putUint r.files.length).length ≤ 9223372036854775807 := by omega
  have hq2 : ¬ (9223372036854775807 < (Pl.putUint r.gen).length + (Pl.putUint r.files.length).length) := by omega
  have hS0 := hS.out wc (Below.refl _ _)
  obtain ⟨s0, s1⟩ := hS0
  go_region_held3 (fun w' => w'.cell? ⟨w.heap.size, 0, none⟩ = some (.int .u64 (r.gen : Int)) ∧ w'.cell? ⟨w.heap.size, 1, none⟩ = some (.slice ao r.files.length cap)) (first | exact hkp | exact ⟨s0, s1⟩ | go_keep)
   (first | (go_at_call 100; refine (refPutUint_any _ _ (by first | exact hU1 | exact hU2)).mono ?_; rintro e w2 ⟨rfl, b2⟩; have hx : Below wc.heap.size wc w2 := (by first | exact below_seq hx b2 | exact below_seq ((Below.refl _ wc).drew) b2); have hkp := hS.out w2 hx))
  all_goals
   go_wp2
   go_meet
   exact ⟨val_str (by rw [mk_two]), by assumption⟩
 case rest =>
 obtain ⟨rfl, hb2⟩ := hcut
 have hbw2 : Below w.heap.size w wc := hb0.trans ((hb1.trans (hb2.mono hb1.size)).mono hb0.size)
 obtain ⟨wq, rfl⟩ : ∃ wq : World, wq = wc := ⟨_, rfl⟩
 clear hz1 hz2 hU1 hU2 hwl
 go_wp2
 go_loopw [7, 8] (fun s ix W' => ∃ j : Nat, j ≤ r.files.length ∧ s = .string ⟨(Pl.putUint r.gen ++ Pl.putUint r.files.length ++ (r.files.take j).flatMap Pl.fileBytes).toArray⟩ ∧ ix = .int .i64 (j : Int) ∧ Below wq.heap.size wq W') (fun _ ix _ => r.files.length - (intOf ix).toNat)
 case atStart => exact ⟨0, Nat.zero_le _, by simp, rfl, Below.refl _ _⟩
 case round =>
  obtain ⟨j, hj, rfl, rfl, hbr⟩ := hrel
  have hbwr := hbw2.trans (hbr.mono hbw2.size)
  have ⟨_, s1⟩ := hS.out wr (hb2.trans (hbr.mono hb2.size))
  by_cases hjl : j < r.files.length
  case neg =>
   obtain rfl : j = r.files.length := by omega
   have hrl := hsize.out r.files.length
   rw [List.take_of_length_le (Nat.le_refl _)] at hrl ⊢
   have hrb : Pl.rootBytes r = Pl.putUint r.gen ++ Pl.putUint r.files.length ++ r.files.flatMap Pl.fileBytes := rfl
   rw [← hrb] at hrl ⊢
   replace hrb := Lib.hid hrb
   have hen : Hid (Pl.encOf r = if 262144 < (Pl.rootBytes r).length ∨ 3840 < (Pl.frame 1 (Pl.rootBytes r)).length then ([], 5) else (Pl.frame 1 (Pl.rootBytes r), 0)) := Lib.hid rfl
   have hzr : (ByteArray.mk (Pl.rootBytes r).toArray).size = (Pl.rootBytes r).length := by simp [ByteArray.size]
   have hdat : (ByteArray.mk (Pl.rootBytes r).toArray).data.toList = Pl.rootBytes r := by simp
   have PB := Lib.hid (fun W' (h : 262144 < (Pl.rootBytes r).length) => refPut_bad 1 ⟨(Pl.rootBytes r).toArray⟩ W' (.inr (by rw [hzr]; exact h)))
   have PO := Lib.hid (fun W' (h : (Pl.rootBytes r).length ≤ 262144) => refPut_ok 1 ⟨(Pl.rootBytes r).toArray⟩ W' (by decide) (by rw [hzr]; exact h))
   rw [hdat] at PO
   clear hdat hzr
   generalize Pl.rootBytes r = RB at *
   obtain ⟨FR, hFR⟩ : ∃ FR, FR = Pl.frame 1 RB := ⟨_, rfl⟩
   rw [← hFR] at hen PO
   replace hFR := Lib.hid hFR
   obtain ⟨EN, hEN⟩ : ∃ EN, Pl.encOf r = EN := ⟨_, rfl⟩
   rw [hEN] at hen
   replace hEN := Lib.hid hEN
   have fin := Lib.hid (fun (W' : World) (hb' : Below wr.heap.size wr W') => hbwr.trans (hb'.mono hbwr.size))
   by_cases hbig : 262144 < RB.length
   ·have he0 := Lib.hid (show EN = (([] : List UInt8), (5 : Int)) by rw [hen.out, if_pos (.inl hbig)])
    go_wp2_with fail
    refine (PB.out wr hbig).mono ?_
    rintro e Wy ⟨rfl, by'⟩
    go_wp2_with fail
    go_ret2
    exact ⟨by rw [hEN.out, he0.out]; rfl, fin.out Wy by'⟩
   ·have hok : RB.length ≤ 262144 := by omega
    have hFz : (ByteArray.mk FR.toArray).size = FR.length := by simp [ByteArray.size]
    go_wp2_with fail
    refine (PO.out wr hok).mono ?_
    rintro e Wy ⟨rfl, by'⟩
    by_cases hroom : 3840 < FR.length
    ·have he0 := Lib.hid (show EN = (([] : List UInt8), (5 : Int)) by rw [hen.out, if_pos (.inr hroom)])
     go_wp2_with fail
     go_ret2
     exact ⟨by rw [hEN.out, he0.out]; rfl, fin.out Wy by'⟩
    ·have he0 := Lib.hid (show EN = (FR, (0 : Int)) by rw [hen.out, if_neg (fun h => h.elim hbig hroom)])
     go_wp2_with fail
     go_ret2
     exact ⟨by rw [hEN.out, he0.out]; rfl, fin.out Wy by'⟩
  have hmem := List.getElem_mem hjl
  obtain ⟨hbl1, hbl2, hsz1, hsz2, hnm⟩ := hmb.out _ hmem
  obtain ⟨ao2, cap2, hao, _, _, hrow⟩ := id hu
  injection hao with hao1 hao2 hao3
  subst hao1 hao3
  obtain ⟨b0, off, rfl, hb0l, hcf⟩ := hrow (by omega)
  obtain ⟨x0, x1, u, x2, hints⟩ := hcf j hjl
  replace x0 := (hbwr.cell (p := ⟨b0, off + j * 3, none⟩) hb0l).trans x0
  replace x1 := (hbwr.cell (p := ⟨b0, off + j * 3 + 1, none⟩) hb0l).trans x1
  replace x2 := (hbwr.cell (p := ⟨b0, off + j * 3 + 2, none⟩) hb0l).trans x2
  have hints' := Lib.hid hints
  obtain ⟨ai, capi, rfl, i1, i2, _⟩ := hints
  have hsz := hsize.out j
  have hszn := hsize.out (j + 1)
  have htk : (r.files.take (j + 1)).flatMap Pl.fileBytes = (r.files.take j).flatMap Pl.fileBytes ++ Pl.fileBytes r.files[j] := by rw [List.take_succ_eq_append_getElem hjl, List.flatMap_append]; simp
  have hfb : Pl.fileBytes r.files[j] = Pl.putText r.files[j].name.data.toList ++ Pl.putUint r.files[j].size.toNat ++ (Pl.putUint (Pl.runsOf r.files[j].blocks).length ++ (Pl.runsOf r.files[j].blocks).flatMap Pl.runBytes) := by unfold Pl.fileBytes; simp only [List.append_assoc]
  rw [htk, hfb] at hszn
  have htk2 := Lib.hid (htk.trans (by rw [hfb]))
  clear htk hfb
  generalize r.files[j] = x at *
  obtain ⟨nm, sz, bl⟩ := x
  simp only at x0 x1 x2 hbl1 hbl2 hsz1 hsz2 hnm i1 i2 htk2 hszn hints'
  obtain ⟨szn, rfl⟩ := Int.eq_ofNat_of_zero_le hsz1
  simp only [Int.toNat_natCast] at htk2 hszn
  have P1 := Lib.hid (fun W => refPutText_any nm W (by omega))
  have P2 := Lib.hid (fun W => refPutUint_any szn W (u64_of _ (by omega)))
  have P3 := Lib.hid (fun W (hb : Below w.heap.size w W) => refRuns_any (.slice ai bl.length capi) bl W (hints'.out.below hb) (by omega) (fun x hx => by have := hbl2 x hx; omega))
  obtain ⟨RS, hRS⟩ : ∃ RS, RS = Pl.putUint (Pl.runsOf bl).length ++ (Pl.runsOf bl).flatMap Pl.runBytes := ⟨_, rfl⟩
  rw [← hRS] at htk2 hszn P3
  obtain ⟨PT, hPT⟩ : ∃ PT, PT = Pl.putText nm.data.toList := ⟨_, rfl⟩
  rw [← hPT] at htk2 hszn P1
  obtain ⟨PU, hPU⟩ : ∃ PU, PU = Pl.putUint szn := ⟨_, rfl⟩
  rw [← hPU] at htk2 hszn P2
  clear hRS hPT hPU hbl2 hrow hcf hmem
  have hnx : Hid (Pl.putUint r.gen ++ Pl.putUint r.files.length ++ (r.files.take (j + 1)).flatMap Pl.fileBytes = Pl.putUint r.gen ++ Pl.putUint r.files.length ++ (r.files.take j).flatMap Pl.fileBytes ++ PT ++ PU ++ RS) := Lib.hid (by rw [htk2.out]; simp only [List.append_assoc])
  have hq0 : (Pl.putUint r.gen ++ Pl.putUint r.files.length ++ (r.files.take j).flatMap Pl.fileBytes).length + PT.length + PU.length + RS.length ≤ 100000000 := by
   simp only [List.length_append] at hszn ⊢
   omega
  generalize Pl.putUint r.gen ++ Pl.putUint r.files.length ++ (r.files.take j).flatMap Pl.fileBytes = PB at *
  clear hszn hsz htk2
  have hq1 : PB.length + PT.length ≤ 9223372036854775807 := by omega
  have hq2 : PB.length + PT.length + PU.length ≤ 9223372036854775807 := by omega
  have hq3 : PB.length + PT.length + PU.length + RS.length ≤ 9223372036854775807 := by omega
  have hq1' : ¬ (9223372036854775807 < PB.length + PT.length) := by omega
  have hq2' : ¬ (9223372036854775807 < PB.length + PT.length + PU.length) := by omega
  have hq3' : ¬ (9223372036854775807 < PB.length + PT.length + PU.length + RS.length) := by omega
  have hwz : IntKind.u64.wrap (szn : Int) = (szn : Int) := by rw [IntKind.wrap_u64]; omega
  obtain ⟨W2, hW2⟩ : ∃ W2, wr.alloc (.cells #[.string nm, .int .i64 (szn : Int), .slice ai bl.length capi] 76) = W2 := ⟨_, rfl⟩
  have hb3 : Below wr.heap.size wr W2 := by rw [← hW2]; exact (Below.refl _ _).alloc (Nat.le_refl _) _
  have hF2 : W2.heap[wr.heap.size]? = some (.cells #[.string nm, .int .i64 (szn : Int), .slice ai bl.length capi] 76 (0, 0)) := by rw [← hW2]; exact World.alloc_heap_new _ _
  have hFl : wr.heap.size < W2.heap.size := (Array.getElem?_eq_some_iff.1 hF2).1
  have hS2 := Lib.hid (fun (W : World) (hb : Below W2.heap.size W2 W) => show W.cell? ⟨wr.heap.size, 0, none⟩ = some (.string nm) ∧ W.cell? ⟨wr.heap.size, 1, none⟩ = some (.int .i64 (szn : Int)) ∧ W.cell? ⟨wr.heap.size, 2, none⟩ = some (.slice ai bl.length capi) from
   have h0 := (hb.block wr.heap.size hFl).trans hF2
   ⟨by simp [World.cell?, h0], by simp [World.cell?, h0], by simp [World.cell?, h0]⟩)
  have hbw3 := hbwr.trans (hb3.mono hbwr.size)
  have hB3 := Lib.hid (fun (W : World) (hb : Below W2.heap.size W2 W) => hbw3.trans (hb.mono hbw3.size))
  have hbr3 := Lib.hid (fun (W : World) (hb : Below W2.heap.size W2 W) => (hbr.trans (hb3.mono hbr.size)).trans (hb.mono (hbr.trans (hb3.mono hbr.size)).size))
  clear hF2
  go_wp2
  clear hW2 x0 x1 x2 s1
  generalize wr.heap.size = fb at *
  obtain ⟨c0, c1, c2⟩ := hS2.out W2 (Below.refl _ _)
  go_region_held3 (fun w' => w'.cell? ⟨fb, 0, none⟩ = some (.string nm) ∧ w'.cell? ⟨fb, 1, none⟩ = some (.int .i64 (szn : Int)) ∧ w'.cell? ⟨fb, 2, none⟩ = some (.slice ai bl.length capi)) (first | exact hkp | exact ⟨c0, c1, c2⟩ | go_keep)
   (first
    | (go_at_call 101; refine (P1.out _).mono ?_; rintro e w2 ⟨rfl, b2⟩; have hx : Below W2.heap.size W2 w2 := (by first | exact below_seq hx b2 | exact below_seq ((Below.refl _ W2).drew) b2); have hkp := hS2.out w2 hx)
    | (go_at_call 100; refine (P2.out _).mono ?_; rintro e w2 ⟨rfl, b2⟩; have hx : Below W2.heap.size W2 w2 := (by first | exact below_seq hx b2 | exact below_seq ((Below.refl _ W2).drew) b2); have hkp := hS2.out w2 hx)
    | (go_at_call 102; refine (P3.out _ (by first | exact hB3.out _ hx | exact hB3.out _ ((Below.refl _ W2).drew))).mono ?_; rintro e w2 ⟨rfl, b2⟩; have hx : Below W2.heap.size W2 w2 := (by first | exact below_seq hx b2 | exact below_seq ((Below.refl _ W2).drew) b2); have hkp := hS2.out w2 hx))
  all_goals
   go_wp2
   go_roundw
   case rel => exact ⟨j + 1, by omega, val_str (by rw [mk_two, mk_two, mk_two, hnx.out]), by go_num, hbr3.out _ (by assumption)⟩
   case measure => simp [intOf]; omega
end
end Go.Proofs.YtogblcdefbnbeaaGreat
