
/- Walk: the document's Open. Condition: a disk that is up, behind few acts. -/
import Derived.Test.YtogblcdefbnbeaaGreatQPc
import Derived.Test.YtogblcdefbnbeaaGreatQWRr2
import Derived.Test.YtogblcdefbnbeaaGreatQWOpen
set_option maxRecDepth 100000
namespace Go.Proofs.YtogblcdefbnbeaaGreat
section
open Go.RowKit
variable {B Br q r N kk : Nat} {x : Pl.Rf} {s : Pl.Dv} {rp fp fpr : Nat → Prop} {W W' : World}
namespace Pl
theorem openK_par (s : Dv) (dec : Nat → Option RootP) : ∀ k, (openK s dec k).gen = 0 ∨ (openK s dec k).gen % 2 < k
 | 0 => .inl rfl
 | k + 1 => by
  have ih := openK_par s dec k
  show (openStep s dec (openK s dec k) k).gen = 0 ∨ (openStep s dec (openK s dec k) k).gen % 2 < k + 1
  unfold openStep
  cases dec k with
  | none => exact ih.imp id (fun h => by omega)
  | some r =>
   simp only
   split
   ·exact ih.imp id (fun h => by omega)
   ·rename_i h
    right
    by_cases h1 : r.gen % 2 = k
    ·omega
    ·exact absurd (.inl h1) h
noncomputable def openR (s : Dv) (dec : Nat → Option RootP) : (Option Rf × Dv) × Int :=
 if (openK s dec 2).gen = 0 then
  if (wrRoot s [] ⟨1, []⟩).2 ≠ 0 then ((none, (wrRoot s [] ⟨1, []⟩).1), (wrRoot s [] ⟨1, []⟩).2) else ((some (Rf.revertR ⟨s.epoch, ⟨1, []⟩, [], false⟩ (wrRoot s [] ⟨1, []⟩).1), (wrRoot s [] ⟨1, []⟩).1), 0)
 else ((some (Rf.revertR ⟨s.epoch, openK s dec 2, [], false⟩ s), s), 0)
noncomputable def decS (s : Dv) (N : Nat) (k : Nat) : Option RootP := decRt (N : Int) (slotS s k)
def slotN (s : Dv) (k j : Nat) : ByteArray := ⟨(bytesL s ((slotB k).take j)).toArray⟩
theorem slotN_all (s : Dv) (k : Nat) : slotN s k 15 = slotS s k := by
 unfold slotN slotS
 rw [List.take_of_length_le (by rw [slotB_length]; omega)]
theorem slotN_succ (s : Dv) {k j : Nat} (h : j < 15) : slotN s k (j + 1) = slotN s k j ++ s.read (k * 16 + (j + 1)) := by
 unfold slotN
 rw [slotB_succ h, bytesL_snoc]
 apply ByteArray.ext
 rw [ByteArray.data_append]
 apply Array.ext'
 rw [Array.toList_append]
 rfl
theorem slotN_size {s : Dv} (hwf : s.WF) {k j : Nat} (hk : k < 2) (hN : 40 ≤ s.safe.length) : (slotN s k j).size ≤ 3840 := by
 have h1 : (bytesL s ((slotB k).take j)).length = ((slotB k).take j).length * 256 := bytesL_length hwf _ (fun q hq => by
  have h1 := List.mem_of_mem_take hq
  unfold slotB at h1
  obtain ⟨i, hi, rfl⟩ := List.mem_map.1 h1
  have := List.mem_range.1 hi
  omega)
 have h2 : (slotN s k j).size = (bytesL s ((slotB k).take j)).length := by
  show (bytesL s ((slotB k).take j)).toArray.size = _
  simp
 rw [h2, h1, List.length_take, slotB_length]
 omega
end Pl
def ROpenEnds (Br r : Nat) (fpr : Nat → Prop) (E : (Option Pl.Rf × Pl.Dv) × Int) (W : World) (e : Ending) (W' : World) : Prop :=
 ∃ fpr' : Nat → Prop, RefAt Br r E.1.2 fpr' W' ∧ (∀ z, fpr' z → fpr z ∨ W.heap.size ≤ z) ∧ Keep (fun z => ¬ fpr z) W W' ∧
  match E.1.1 with
  | none => e = .returned (.tuple #[.pointer none, .int .i64 E.2])
  | some x => ∃ (q : Nat) (fp : Nat → Prop), e = .returned (.tuple #[.pointer (some ⟨q, 0, none⟩), .int .i64 E.2]) ∧ RfAt W.heap.size q r x fp W' ∧ (∀ z, fp z → ¬ fpr' z)
set_option maxHeartbeats 4000000 in
theorem ropen_any (hr : RefAt Br r s fpr W) (hup : s.down = false) (hBr : Br ≤ W.heap.size) (hO : Pl.Fine N kk s) (hk : kk ≤ 1099511627776) (hN1 : 40 ≤ N) (hN2 : N ≤ 16384) :
  Calls Tryz.prog 18 #[.pointer (some ⟨r, 0, none⟩)] W (ROpenEnds Br r fpr (Pl.openR s (Pl.decS s N)) W) := by
 obtain ⟨dec, hdc⟩ : ∃ dec, dec = Pl.decS s N := ⟨_, rfl⟩
 obtain ⟨E, hE⟩ : ∃ E, E = Pl.openR s (Pl.decS s N) := ⟨_, rfl⟩
 rw [← hE]
 rw [← hdc] at hE
 replace hE := Lib.hid hE
 have hmay : ∀ k r0, dec k = some r0 → Pl.May (N : Int) r0 := fun k r0 h => by
  rw [hdc] at h
  have := (encRt_yes (Pl.decRt_may h)).1
  rwa [show min (N : Int) 16384 = (N : Int) by omega] at this
 have hlen := hO.len
 have hwf : s.WF := by obtain ⟨_, _, h⟩ := hr; exact h.wf
 have hS0 : ∀ k, k < 2 → (Pl.slotS s k).size ≤ 1000000000 := fun k hk => by
  rw [← Pl.slotN_all]
  exact Nat.le_trans (Pl.slotN_size hwf hk (by omega)) (by decide)
 have hdec : ∀ k, k < 2 → ∀ w, Calls Tryz.prog 57 #[.string (Pl.slotS s k), .int .i64 (N : Int)] w (DecEnds w (dec k)) := fun k hk w => by
  rw [hdc]
  exact rdecode_any _ _ w (hS0 k hk) (by omega) (by omega)
 clear hdc hS0
 have hblk := Blk.new W #[.pointer (some ⟨r, 0, none⟩), .int .i64 (s.epoch : Int), .int .u64 0, .slice none 0 0, .slice none 0 0, .bool false] 101
 have hb1 : Below W.heap.size W (W.alloc (.cells #[.pointer (some ⟨r, 0, none⟩), .int .i64 (s.epoch : Int), .int .u64 0, .slice none 0 0, .slice none 0 0, .bool false] 101)) := (Below.refl _ _).alloc (Nat.le_refl _) _
 have hz1 : (W.alloc (.cells #[.pointer (some ⟨r, 0, none⟩), .int .i64 (s.epoch : Int), .int .u64 0, .slice none 0 0, .slice none 0 0, .bool false] 101)).heap.size = W.heap.size + 1 := by simp
 obtain ⟨sv, wv, hR0⟩ := id hr
 obtain ⟨sa, sc, rfl⟩ := ownsRow_form hR0.safe
 have d0 : W.cell? ⟨r, 0, none⟩ = some (.slice sa s.safe.length sc) := by simp [hR0.blk.cell]
 have d2 : W.cell? ⟨r, 2, none⟩ = some (.bool false) := by simp [hR0.blk.cell, hup]
 have d5 : W.cell? ⟨r, 5, none⟩ = some (.int .i64 (s.epoch : Int)) := by simp [hR0.blk.cell]
 have hrl := hR0.blk.lt
 clear hR0
 go_enter Tryz.func18, Tryz.ntmps18
 go_upto_region 4 with (fail)
 generalize W.alloc (.cells #[.pointer (some ⟨r, 0, none⟩), .int .i64 (s.epoch : Int), .int .u64 0, .slice none 0 0, .slice none 0 0, .bool false] 101) = W1 at hblk hb1 hz1 ⊢
 have hI0 : RfO W.heap.size W.heap.size r (.slice none 0 0) (.slice none 0 0) (fun _ => False) [] ⟨s.epoch, ⟨0, []⟩, [], false⟩ W1 :=
  ⟨hblk, ⟨none, 0, rfl, Nat.le_refl _, by decide, fun h => by simp at h⟩, World.ownsRow_nil _ _ _ _, fun y hy => (List.not_mem_nil hy).elim, rfl, fun h => h, fun k e => by simp [Value.ownBlock] at e, fun _ h => h.elim, fun _ h => h.elim, Nat.le_refl _⟩
 replace hlen := Lib.hid hlen
 clear hblk d2 d5
 go_wp2_with fail
 go_loopw [5] (fun i W' => ∃ (k : Nat) (vf : Value) (rp : Nat → Prop), k ≤ 2 ∧ i = .int .i64 (k : Int) ∧ RfO W.heap.size W.heap.size r vf (.slice none 0 0) rp [] ⟨s.epoch, Pl.openK s dec k, [], false⟩ W' ∧ Below W.heap.size W W' ∧ W.heap.size < W'.heap.size) (fun i _ => 2 - (intOf i).toNat)
 case atStart => exact ⟨0, _, _, Nat.zero_le _, rfl, hI0, hb1, by omega⟩
 clear hI0 hb1 hz1
 case round =>
  obtain ⟨k, vf, rp, hk2, rfl, hI, hbr, hzr⟩ := hrel
  obtain ⟨wo, rfl⟩ : ∃ wo : World, wo = wr := ⟨_, rfl⟩
  have hdr := hr.beyond hbr
  by_cases hkl : k < 2
  case neg =>
   obtain rfl : k = 2 := by omega
   have hk2' : ¬ ((2 : Nat) : Int) < 2 := by omega
   have hlow : ∀ z, rp z → W.heap.size ≤ z := hI.low
   have hdj : ∀ z, rfFp W.heap.size (.slice none 0 0) rp z → ¬ fpr z := fun z hz h => by
    have h1 := hr.lt z h
    rcases hz with rfl | hz | hz
    ·omega
    ·simp [Value.ownBlock] at hz
    ·have := hlow z hz; omega
   have hwoz := hbr.size
   have hkW : Keep (fun z => z < W.heap.size) W wo := Keep.of_below hbr (fun _ h _ => h)
   have hmk : (Pl.openK s dec 2).gen ≠ 0 → Pl.May (N : Int) (Pl.openK s dec 2) := fun h0 => (Pl.openK_all (s := s) (dec := dec) (P := fun a => a.gen = 0 ∨ Pl.May (N : Int) a) (.inl rfl) (fun k r0 h => .inr (hmay k r0 h)) 2).resolve_left h0
   obtain ⟨_, _, c2, _⟩ := hI.cells
   simp only at c2
   by_cases hg0 : (Pl.openK s dec 2).gen = 0
   case neg =>
    have hE2 : Hid (E = ((some (Pl.Rf.revertR ⟨s.epoch, Pl.openK s dec 2, [], false⟩ s), s), 0)) := Lib.hid (by rw [hE.out]; unfold Pl.openR; rw [if_neg hg0])
    have PR := Lib.hid (rrevert_any (RfAt.of hI) hdr hdj (Nat.le_of_lt hzr) (by have := hO.wait; omega) (by rw [hlen.out]; exact hN2) (by rw [hlen.out]; exact hmk hg0))
    have hg1 : ((Pl.openK s dec 2).gen : Int) ≠ 0 := by omega
    have hg2 : (((Pl.openK s dec 2).gen : Int) == 0) = false := by simpa using hg1
    generalize Pl.openK s dec 2 = G at *
    clear hI hmk hmay hdec
    go_wp2_with (go_at_call 43; refine PR.out.mono ?_; rintro e w5 ⟨⟨v5, rfl⟩, fp5, hf5, st5⟩)
    go_ret2
    rw [hE2.out]
    refine ⟨fpr, hdr.keep (st5.keep.mono (fun z hz _ h => hdj z h hz)), fun _ h => .inl h, (hkW.mono (fp' := fun z => ¬ fpr z) (fun z _ hl => hl)).trans st5.keep (fun z _ hl h => by
     rcases h with rfl | h | h
     ·omega
     ·simp [Value.ownBlock] at h
     ·exact absurd (hlow z h) (by omega)), W.heap.size, fp5, rfl, hf5, fun z hz h => ?_⟩
    have h1 := hr.lt z h
    rcases st5.new z hz with (rfl | h2 | h2) | h2
    ·omega
    ·simp [Value.ownBlock] at h2
    ·have := hlow z h2; omega
    ·omega
   case pos =>
    have PW := rput_any (vr := .slice none 0 0) (vl := .slice none 0 0) (Bl := W.heap.size) hI hdr hO hk hN1 hN2 hdj (by omega) [] (World.ownsRow_nil _ _ _ _) (by simp) (fun _ h => (List.not_mem_nil h).elim) ⟨1, []⟩ ⟨by decide, fun _ h => (List.not_mem_nil h).elim⟩ ⟨none, 0, rfl, Nat.le_refl _, by decide, fun h => by simp at h⟩ (fun _ h => h) (fun z hz => ⟨hI.lt z hz, hI.low z hz, fun e => hI.nq (e ▸ hz), fun e => by simp [Value.ownBlock] at e⟩)
    have hF2 := Pl.wrRoot_fine hO [] ⟨1, []⟩
    have hX : Pl.Rf.putE ⟨s.epoch, Pl.openK s dec 2, [], false⟩ s [] ⟨1, []⟩ = if (Pl.wrRoot s [] ⟨1, []⟩).2 = 0 then ⟨s.epoch, ⟨1, []⟩, [], false⟩ else ⟨s.epoch, Pl.openK s dec 2, [], false⟩ := rfl
    have hmay1 : (Pl.wrRoot s [] ⟨1, []⟩).2 = 0 → Pl.May (N : Int) ⟨1, []⟩ := fun _ => ⟨Nat.le_refl _, by decide, Nat.zero_le _, fun i h => absurd h (Nat.not_lt_zero _), fun i h => absurd h (Nat.not_lt_zero _)⟩
    have hE2 : E = if (Pl.wrRoot s [] ⟨1, []⟩).2 ≠ 0 then ((none, (Pl.wrRoot s [] ⟨1, []⟩).1), (Pl.wrRoot s [] ⟨1, []⟩).2) else ((some (Pl.Rf.revertR ⟨s.epoch, ⟨1, []⟩, [], false⟩ (Pl.wrRoot s [] ⟨1, []⟩).1), (Pl.wrRoot s [] ⟨1, []⟩).1), 0) := by rw [hE.out]; unfold Pl.openR; rw [if_pos hg0]
    generalize Pl.wrRoot s [] ⟨1, []⟩ = WR at PW hF2 hX hmay1 hE2
    obtain ⟨s2, er⟩ := WR
    simp only at PW hF2 hX hmay1 hE2
    have PW2 : Hid (Calls Tryz.prog 59 #[.pointer (some ⟨W.heap.size, 0, none⟩), .slice none 0 0, .agg #[.int .u64 1, .slice none 0 0]] wo fun e w' => e = .returned (.int .i64 er) ∧ PutEnds W.heap.size Br W.heap.size r (.slice none 0 0) rp fpr [] s2 (Pl.Rf.putE ⟨s.epoch, Pl.openK s dec 2, [], false⟩ s [] ⟨1, []⟩) wo w') := Lib.hid PW
    have hdone := Lib.hid (fun (wP : World) hPe => PutEnds.done (B := W.heap.size) (Br := Br) (q := W.heap.size) (r := r) (vh := .slice none 0 0) (rp := rp) (rp2 := rp) (fpr := fpr) (hh := []) (s := s2) (x := Pl.Rf.putE ⟨s.epoch, Pl.openK s dec 2, [], false⟩ s [] ⟨1, []⟩) (W := wo) (W1 := wo) (W2 := wP) hPe (Keep.refl _ _) (fun z hz => ⟨hI.lt z hz, .inl hz⟩) hzr (fun z e => by simp [Value.ownBlock] at e) hdj)
    have hg1 : (((Pl.openK s dec 2).gen : Int) == 0) = true := by simpa using hg0
    have hg2 : ((Pl.openK s dec 2).gen : Int) = 0 := by omega
    have hend := Lib.hid (fun (wP : World) (fpr' : Nat → Prop) (hst : Step (fun z => rfFp W.heap.size (.slice none 0 0) rp z ∨ fpr z) (fun z => rfFp W.heap.size (.slice none 0 0) rp z ∨ fpr' z) wo wP) => (⟨fun z hz => (by
      rcases hst.new z (.inr hz) with (h | h) | h
      ·right
       rcases h with rfl | h | h
       ·omega
       ·simp [Value.ownBlock] at h
       ·exact hlow z h
      ·exact .inl h
      ·right; omega), (hkW.mono (fp' := fun z => ¬ fpr z) (fun z _ hl => hl)).trans hst.keep (fun z hz hl h => by
      rcases h with (rfl | h | h) | h
      ·omega
      ·simp [Value.ownBlock] at h
      ·exact absurd (hlow z h) (by omega)
      ·exact hz h)⟩ : (∀ z, fpr' z → fpr z ∨ W.heap.size ≤ z) ∧ Keep (fun z => ¬ fpr z) W wP))
    clear PW hI hmk hmay hdec hE hdr
    by_cases her : er = 0
    case neg =>
     rw [if_pos her] at hE2
     have hne : (er != 0) = true := by simpa using her
     replace hE2 := Lib.hid hE2
     clear hX hF2 hmay1
     go_wp2_with (go_at_call 59; refine PW2.out.mono ?_; rintro e wP ⟨rfl, hPe⟩)
     obtain ⟨fpr', hxP, hrP, hdjP, hstP⟩ := hdone.out wP hPe
     go_ret2
     rw [hE2.out]
     exact ⟨fpr', hrP, (hend.out wP fpr' hstP).1, (hend.out wP fpr' hstP).2, rfl⟩
    case pos =>
     subst her
     rw [if_neg (by decide)] at hE2
     rw [if_pos rfl] at hX
     rw [hX] at hdone PW2
     replace hE2 := Lib.hid hE2
     have hwS : s2.wait.length ≤ 9223372036854775807 := by have := hF2.wait; simp only [List.length_nil] at this; omega
     have hNS : s2.safe.length ≤ 16384 := by rw [hF2.len]; exact hN2
     have hmS : Pl.May (s2.safe.length : Int) ⟨1, []⟩ := by rw [hF2.len]; exact hmay1 rfl
     have PR := Lib.hid (fun (wP : World) (fpr' : Nat → Prop) hxP hrP hdjP (hBP : W.heap.size ≤ wP.heap.size) => rrevert_any (B := W.heap.size) (Br := Br) (q := W.heap.size) (r := r) (x := ⟨s.epoch, ⟨1, []⟩, [], false⟩) (s := s2) (fp := rfFp W.heap.size (.slice none 0 0) rp) (fpr := fpr') (W := wP) hxP hrP hdjP hBP hwS hNS hmS)
     clear hX hmS hNS hwS hF2 hmay1
     go_wp2_with (first
      | (go_at_call 59; refine PW2.out.mono ?_; rintro e wP ⟨rfl, hPe⟩; have ⟨fpr', hxP, hrP, hdjP, hstP⟩ := hdone.out wP hPe; have hBP : W.heap.size ≤ wP.heap.size := (by have := hstP.keep.size; omega))
      | (go_at_call 43; refine (PR.out wP fpr' hxP hrP hdjP hBP).mono ?_; rintro e wQ ⟨⟨v, rfl⟩, f2, hx2, hst2⟩))
     go_ret2
     rw [hE2.out]
     obtain ⟨n1, n2⟩ := hend.out wP fpr' hstP
     refine ⟨fpr', hrP.keep (hst2.keep.mono (fun z hz _ h => hdjP z h hz)), n1, n2.trans hst2.keep (fun z _ hl h => by
      rcases h with rfl | h | h
      ·omega
      ·simp [Value.ownBlock] at h
      ·exact absurd (hlow z h) (by omega)), W.heap.size, f2, rfl, hx2, fun z hz h => ?_⟩
     rcases hst2.new z hz with h1 | h1
     ·exact hdjP z h1 h
     ·have := hrP.lt z h; omega
  case pos =>
   have hkk : (0 : Int) ≤ (k : Int) := by omega
   have hkk2 : (k : Int) < 2 := by omega
   have hnx : Hid (Pl.openK s dec (k + 1) = Pl.openStep s dec (Pl.openK s dec k) k) := Lib.hid rfl
   have hpar := Lib.hid (Pl.openK_par s dec k)
   have PR : Hid (∀ (i : Nat) (w : World), i < N → Below W.heap.size W w → Calls Tryz.prog 56 #[.pointer (some ⟨r, 0, none⟩), .int .i64 (i : Int)] w fun e w' => e = .returned (.tuple #[.string (s.read i), .int .i64 0]) ∧ w = w') := Lib.hid (fun i w hi hb => by
    have h := refRead_gen (i : Int) (hr.beyond hb) hO (by omega)
    unfold Pl.Dv.rd at h
    rw [hup, if_neg Bool.false_ne_true, if_pos ⟨by omega, by rw [hlen.out]; omega⟩, Int.toNat_natCast] at h
    exact h)
   obtain ⟨b, hb⟩ : ∃ b, b = k * 16 := ⟨_, rfl⟩
   have hbN : b + 16 ≤ 32 := by omega
   have e1 : IntKind.i64.wrap (16 * (k : Int)) = (b : Int) := by rw [IntWalk.i64_in _ (by omega)]; omega
   have e2 : 16 * (k : Int) = (b : Int) := by omega
   replace hb := Lib.hid hb
   have PD := Lib.hid (hdec k hkl)
   have PR1 := Lib.hid (PR.out b wo (by omega) hbr)
   clear hdec
   go_upto_region 8 with (go_at_call 56; refine PR1.out.mono ?_; rintro e w' ⟨rfl, rfl⟩)
   clear PR1
   have hs0 : Pl.slotN s k 0 = ⟨#[]⟩ := rfl
   have hs0' : Hid ((⟨#[]⟩ : ByteArray) = Pl.slotN s k 0) := Lib.hid rfl
   clear hs0
   obtain ⟨HB0, hHB0⟩ : ∃ HB0, HB0 = s.read b := ⟨_, rfl⟩
   rw [← hHB0]
   replace hHB0 := Lib.hid hHB0
   go_wp2_with fail
   go_loopw [8, 9] (fun s8 i X => ∃ (j : Nat), j ≤ 15 ∧ s8 = .string (Pl.slotN s k j) ∧ i = .int .i64 ((j : Int) + 1) ∧ X = wo) (fun _ i _ => 16 - (intOf i).toNat)
   case atStart => exact ⟨0, Nat.zero_le _, rfl, rfl, rfl⟩
   case round =>
    obtain ⟨j, hj, rfl, rfl, hX⟩ := hrel
    subst hX
    by_cases hjl : j < 15
    case pos =>
     have hj1 : (j : Int) + 1 < 16 := by omega
     have hj2 : IntKind.i64.wrap ((j : Int) + 1 + 1) = (j : Int) + 1 + 1 := IntWalk.i64_in _ (by omega)
     obtain ⟨c, hc⟩ : ∃ c, c = b + (j + 1) := ⟨_, rfl⟩
     have e3 : IntKind.i64.wrap ((b : Int) + ((j : Int) + 1)) = (c : Int) := by rw [IntWalk.i64_in _ (by omega)]; omega
     have e4 : (b : Int) + ((j : Int) + 1) = (c : Int) := by omega
     have PRj := Lib.hid (PR.out c wr (by omega) hbr)
     have hsn : Hid (Pl.slotN s k (j + 1) = Pl.slotN s k j ++ s.read c) := Lib.hid (by rw [Pl.slotN_succ s hjl, hc, hb.out])
     have hz8 : (Pl.slotN s k j).size ≤ 3840 := Pl.slotN_size hwf hkl (by rw [hlen.out]; exact hN1)
     have hzR : (s.read c).size = 256 := hwf.read (by rw [hlen.out]; omega)
     generalize Pl.slotN s k j = SB at *
     generalize s.read c = RB at *
     have g1 : SB.size + RB.size ≤ 9223372036854775807 := by omega
     have g2 : ¬ 9223372036854775807 < SB.size + RB.size := by omega
     replace hzR := Lib.hid hzR
     replace hc := Lib.hid hc
     go_wp2_with (go_at_call 56; refine PRj.out.mono ?_; rintro e w' ⟨rfl, rfl⟩)
     go_roundw
     case rel => exact ⟨j + 1, by omega, by rw [hsn.out], by go_num, by first | rfl | trivial⟩
     case measure => simp [intOf]; omega
    case neg =>
     obtain rfl : j = 15 := by omega
     rw [Pl.slotN_all]
     rw [hlen.out] at d0
     have c0 := hI.cells.1
     have dr0 : wr.cell? ⟨r, 0, none⟩ = some (.slice sa N sc) := (hbr.cell (p := ⟨r, 0, none⟩) hrl).trans d0
     clear PR hs0'
     go_upto_region 15 with (go_at_call 57; refine (PD.out wr).mono ?_; rintro e w7 ⟨b7, gg, va, vn, vc, ee, rfl, hno, hsome⟩)
     have hT := Blk.new w7 #[.int .u64 gg, .slice va vn vc] 71
     have hz7 := b7.size
     have hb8 : Below wr.heap.size wr (w7.alloc (.cells #[.int .u64 gg, .slice va vn vc] 71)) := b7.alloc hz7 _
     have hz8 : (w7.alloc (.cells #[.int .u64 gg, .slice va vn vc] 71)).heap.size = w7.heap.size + 1 := by simp
     have hk78 : Keep (fun q => q < w7.heap.size) w7 (w7.alloc (.cells #[.int .u64 gg, .slice va vn vc] 71)) := Keep.of_below ((Below.refl _ _).alloc (Nat.le_refl _) _) (fun _ h _ => h)
     generalize w7.alloc (.cells #[.int .u64 gg, .slice va vn vc] 71) = w8 at hT hb8 hz8 hk78 ⊢
     have hI8 := hI.beyond hb8
     have hbw8 : Below W.heap.size W w8 := hbr.trans (hb8.mono hbr.size)
     have t0 : w8.cell? ⟨w7.heap.size, 0, none⟩ = some (.int .u64 gg) := by simp [hT.cell]
     have t1 : w8.cell? ⟨w7.heap.size, 1, none⟩ = some (.slice va vn vc) := by simp [hT.cell]
     have q2 : w8.cell? ⟨W.heap.size, 2, none⟩ = some (.int .u64 ((Pl.openK s dec k).gen : Int)) := by simp [hI8.blk.cell]
     have hkw : IntKind.i64.wrap ((k : Int) + 1) = (k : Int) + 1 := IntWalk.i64_in _ (by omega)
     clear c0 dr0 PD
     cases hdk : dec k with
     | none =>
      have hne := hno hdk
      have hne2 : (ee == 0) = false := by simpa using hne
      have hst : Hid (Pl.openK s dec (k + 1) = Pl.openK s dec k) := Lib.hid (by rw [hnx.out]; unfold Pl.openStep; rw [hdk])
      clear hsome hno b7 hT hdr
      go_region
      go_wp2_with fail
      have hb9 := hb8.drew
      go_roundw
      case rel => exact ⟨k + 1, vf, rp, by omega, by go_num, by rw [hst.out]; exact hI.beyond hb9, hbr.trans (hb9.mono hbr.size), by have := hb9.size; omega⟩
      case measure => simp [intOf]; omega
     | some r0 =>
      obtain ⟨rfl, rfl, fl, hfo, hfl⟩ := hsome r0 hdk
      have hgm := (hmay k r0 hdk).g2
      have hmod : ((r0.gen : Int) % 2) = ((r0.gen % 2 : Nat) : Int) := by omega
      clear hsome hno hdr
      by_cases h1 : r0.gen % 2 = k
      case neg =>
       have hst : Hid (Pl.openK s dec (k + 1) = Pl.openK s dec k) := Lib.hid (by rw [hnx.out]; unfold Pl.openStep; rw [hdk]; exact if_pos (.inl h1))
       have h1i : ((r0.gen : Int) % 2 == (k : Int)) = false := by simp; omega
       have h1j : ¬ ((r0.gen : Int) % 2 = (k : Int)) := by omega
       replace hmod := Lib.hid hmod
       clear hfo hfl hT
       go_region
       go_wp2_with fail
       have hb9 := hb8.drew
       go_roundw
       case rel => exact ⟨k + 1, vf, rp, by omega, by go_num, by rw [hst.out]; exact hI.beyond hb9, hbr.trans (hb9.mono hbr.size), by have := hb9.size; omega⟩
       case measure => simp [intOf]; omega
      case pos =>
       have h1i : ((r0.gen : Int) % 2 == (k : Int)) = true := by simp; omega
       have h1j : (r0.gen : Int) % 2 = (k : Int) := by omega
       have htm : IntKind.i64.wrap ((r0.gen : Int).tmod 2) = (k : Int) := by
        have hk01 : k = 0 ∨ k = 1 := by omega
        rw [Int.tmod_eq_emod_of_nonneg (by omega), h1j]
        rcases hk01 with rfl | rfl <;> decide
       have htn : (IntKind.i64.wrap ((r0.gen : Int).tmod 2) == (k : Int)) = true := by rw [htm]; simp
       have PH := Lib.hid (fun (w : World) => refHead_any r0.gen (U64.mk' (by omega)) w)
       replace hmod := Lib.hid hmod
       have hbd := (Below.refl w8.heap.size w8).drew
       have PH1 := Lib.hid (PH.out w8.drew)
       have hcl := Lib.hid (fun (w : World) (hb : Below w8.heap.size w8 w) => (⟨(hb.cell (p := ⟨w7.heap.size, 0, none⟩) (by show w7.heap.size < _; omega)).trans t0, (hb.cell (p := ⟨W.heap.size, 2, none⟩) (by show W.heap.size < _; omega)).trans q2⟩ : w.cell? ⟨w7.heap.size, 0, none⟩ = some (.int .u64 (r0.gen : Int)) ∧ w.cell? ⟨W.heap.size, 2, none⟩ = some (.int .u64 ((Pl.openK s dec k).gen : Int))))
       have hSRb : Hid (HB0 = s.read (k * 16)) := Lib.hid (by rw [hHB0.out, hb.out])
       by_cases h2 : HB0 = Pl.headB r0.gen
       case neg =>
        have hst : Hid (Pl.openK s dec (k + 1) = Pl.openK s dec k) := Lib.hid (by rw [hnx.out]; unfold Pl.openStep; rw [hdk]; exact if_pos (.inr (.inl (by rw [← hSRb.out]; exact h2))))
        obtain ⟨h2a, h2b⟩ := toList_bne h2
        replace h2 := Lib.hid h2
        clear hfo hfl hT
        generalize Pl.headB r0.gen = HB at *
        have h2c : ¬ HB0.toList = HB.toList := by simpa using h2a
        refine wp_region_held_drew (S := fun W' => W'.cell? ⟨w7.heap.size, 0, none⟩ = some (.int .u64 (r0.gen : Int)) ∧ W'.cell? ⟨W.heap.size, 2, none⟩ = some (.int .u64 ((Pl.openK s dec k).gen : Int))) (by kernel_rfl) ⟨t0, q2⟩ (fun hHeld => ?_)
        refine wpAnyH_take (i := 0) (v := ?_) rfl (by kernel_rfl) (by kernel_rfl) (by kernel_rfl) (fun _ _ _ h => h) (Or.inl ⟨by rfl, ?_⟩) (by assumption) ?_
        rotate_left 1
        ·intro w hSw
         try dsimp only at hSw
         obtain ⟨hs1, hs2⟩ := hSw
         go_simp
         try with_reducible rfl
        try simp only [Act.put, List.getElem_toArray, List.getElem_cons_zero, List.getElem_cons_succ, List.setIfInBounds_toArray, List.set_cons_zero, List.set_cons_succ]
        refine wpAnyH_take (i := 1) (v := ?_) rfl (by kernel_rfl) (by kernel_rfl) (by kernel_rfl) (fun _ _ _ h => h) (Or.inl ⟨by rfl, ?_⟩) (by assumption) ?_
        rotate_left 1
        ·intro w hSw
         try dsimp only at hSw
         obtain ⟨hs1, hs2⟩ := hSw
         go_simp
         try with_reducible rfl
        try simp only [Act.put, List.getElem_toArray, List.getElem_cons_zero, List.getElem_cons_succ, List.setIfInBounds_toArray, List.set_cons_zero, List.set_cons_succ]
        refine wpAnyH_take (i := 2) (v := ?_) rfl (by kernel_rfl) (by kernel_rfl) (by kernel_rfl) (fun _ _ _ h => h) (Or.inl ⟨by rfl, ?_⟩) (by assumption) ?_
        rotate_left 1
        ·intro w hSw
         try dsimp only at hSw
         obtain ⟨hs1, hs2⟩ := hSw
         go_simp
         try with_reducible rfl
        try simp only [Act.put, List.getElem_toArray, List.getElem_cons_zero, List.getElem_cons_succ, List.setIfInBounds_toArray, List.set_cons_zero, List.set_cons_succ]
        refine wpAnyH_take (i := 3) (v := ?_) rfl (by kernel_rfl) (by kernel_rfl) (by kernel_rfl) (fun _ _ _ h => h) (Or.inl ⟨by rfl, ?_⟩) (by assumption) ?_
        rotate_left 1
        ·intro w hSw
         try dsimp only at hSw
         obtain ⟨hs1, hs2⟩ := hSw
         go_simp
         try with_reducible rfl
        try simp only [Act.put, List.getElem_toArray, List.getElem_cons_zero, List.getElem_cons_succ, List.setIfInBounds_toArray, List.set_cons_zero, List.set_cons_succ]
        refine wpAnyH_take (i := 4) (v := ?_) rfl (by kernel_rfl) (by kernel_rfl) (by kernel_rfl) (fun _ _ _ h => h) (Or.inl ⟨by rfl, ?_⟩) (by assumption) ?_
        rotate_left 1
        ·intro w hSw
         try dsimp only at hSw
         obtain ⟨hs1, hs2⟩ := hSw
         go_simp
         try with_reducible rfl
        try simp only [Act.put, List.getElem_toArray, List.getElem_cons_zero, List.getElem_cons_succ, List.setIfInBounds_toArray, List.set_cons_zero, List.set_cons_succ]
        refine wpAnyH_take (i := 5) (v := ?_) rfl (by kernel_rfl) (by kernel_rfl) (by kernel_rfl) (fun _ _ _ h => h) (Or.inl ⟨by rfl, ?_⟩) (by assumption) ?_
        rotate_left 1
        ·intro w hSw
         try dsimp only at hSw
         obtain ⟨hs1, hs2⟩ := hSw
         go_simp
         try with_reducible rfl
        try simp only [Act.put, List.getElem_toArray, List.getElem_cons_zero, List.getElem_cons_succ, List.setIfInBounds_toArray, List.set_cons_zero, List.set_cons_succ]
        refine wpAnyH_take (i := 6) (v := ?_) rfl (by kernel_rfl) (by kernel_rfl) (by kernel_rfl) (fun _ _ _ h => h) (Or.inl ⟨by rfl, ?_⟩) (by assumption) ?_
        rotate_left 1
        ·intro w hSw
         try dsimp only at hSw
         obtain ⟨hs1, hs2⟩ := hSw
         go_simp
         try with_reducible rfl
        try simp only [Act.put, List.getElem_toArray, List.getElem_cons_zero, List.getElem_cons_succ, List.setIfInBounds_toArray, List.set_cons_zero, List.set_cons_succ]
        refine wpAnyH_take (i := 7) (v := ?_) rfl (by kernel_rfl) (by kernel_rfl) (by kernel_rfl) (fun _ _ _ h => h) (Or.inl ⟨by rfl, ?_⟩) (by assumption) ?_
        rotate_left 1
        ·intro w hSw
         try dsimp only at hSw
         obtain ⟨hs1, hs2⟩ := hSw
         go_simp
         try with_reducible rfl
        try simp only [Act.put, List.getElem_toArray, List.getElem_cons_zero, List.getElem_cons_succ, List.setIfInBounds_toArray, List.set_cons_zero, List.set_cons_succ]
        refine wpAnyH_take (i := 8) (v := ?_) rfl (by kernel_rfl) (by kernel_rfl) (by kernel_rfl) (fun _ _ _ h => h) (Or.inl ⟨by rfl, ?_⟩) (by assumption) ?_
        rotate_left 1
        ·intro w hSw
         try dsimp only at hSw
         obtain ⟨hs1, hs2⟩ := hSw
         go_simp
         try with_reducible rfl
        try simp only [Act.put, List.getElem_toArray, List.getElem_cons_zero, List.getElem_cons_succ, List.setIfInBounds_toArray, List.set_cons_zero, List.set_cons_succ]
        refine wpAnyH_take (i := 9) (v := ?_) rfl (by kernel_rfl) (by kernel_rfl) (by kernel_rfl) (fun _ _ _ h => h) (Or.inl ⟨by rfl, ?_⟩) (by assumption) ?_
        rotate_left 1
        ·intro w hSw
         try dsimp only at hSw
         obtain ⟨hs1, hs2⟩ := hSw
         go_simp
         try with_reducible rfl
        try simp only [Act.put, List.getElem_toArray, List.getElem_cons_zero, List.getElem_cons_succ, List.setIfInBounds_toArray, List.set_cons_zero, List.set_cons_succ]
        refine wpAnyH_take (i := 10) (v := ?_) rfl (by kernel_rfl) (by kernel_rfl) (by kernel_rfl) (fun _ _ _ h => h) (Or.inl ⟨by rfl, ?_⟩) (by assumption) ?_
        rotate_left 1
        ·intro w hSw
         try dsimp only at hSw
         obtain ⟨hs1, hs2⟩ := hSw
         go_simp
         try with_reducible rfl
        try simp only [Act.put, List.getElem_toArray, List.getElem_cons_zero, List.getElem_cons_succ, List.setIfInBounds_toArray, List.set_cons_zero, List.set_cons_succ]
        refine wpAnyH_take (i := 11) (v := ?_) rfl (by kernel_rfl) (by kernel_rfl) (by kernel_rfl) (fun _ _ _ h => h) (Or.inl ⟨by rfl, ?_⟩) (by assumption) ?_
        rotate_left 1
        ·intro w hSw
         try dsimp only at hSw
         obtain ⟨hs1, hs2⟩ := hSw
         go_simp
         try with_reducible rfl
        try simp only [Act.put, List.getElem_toArray, List.getElem_cons_zero, List.getElem_cons_succ, List.setIfInBounds_toArray, List.set_cons_zero, List.set_cons_succ]
        refine wpAnyH_take (i := 12) (v := ?_) rfl (by kernel_rfl) (by kernel_rfl) (by kernel_rfl) (fun _ _ _ h => h) (Or.inl ⟨by rfl, ?_⟩) (by assumption) ?_
        rotate_left 1
        ·intro w hSw
         try dsimp only at hSw
         obtain ⟨hs1, hs2⟩ := hSw
         go_simp
         try with_reducible rfl
        try simp only [Act.put, List.getElem_toArray, List.getElem_cons_zero, List.getElem_cons_succ, List.setIfInBounds_toArray, List.set_cons_zero, List.set_cons_succ]
        refine wpAnyH_take (i := 13) (v := ?_) rfl (by kernel_rfl) (by kernel_rfl) (by kernel_rfl) (fun _ _ _ h => h) (Or.inl ⟨by rfl, ?_⟩) (by assumption) ?_
        rotate_left 1
        ·intro w hSw
         try dsimp only at hSw
         obtain ⟨hs1, hs2⟩ := hSw
         go_simp
         try with_reducible rfl
        try simp only [Act.put, List.getElem_toArray, List.getElem_cons_zero, List.getElem_cons_succ, List.setIfInBounds_toArray, List.set_cons_zero, List.set_cons_succ]
        refine wpAnyH_ready (rs := [14]) (by kernel_rfl) (by simp) ?_
        refine AllReadyH.cons rfl (fun K hK => ?_) AllReadyH.nil
        go_simp
        go_at_call 58
        refine PH1.out.mono ?_
        rintro e w9 ⟨rfl, b9⟩
        have bA := hbd.trans (b9.mono hbd.size)
        refine hK.out _ _ (hcl.out w9 bA) (fun hHeld2 => ?_)
        clear hK K
        try simp only [Act.put, List.getElem_toArray, List.getElem_cons_zero, List.getElem_cons_succ, List.setIfInBounds_toArray, List.set_cons_zero, List.set_cons_succ]
        refine wpAnyH_take (i := 15) (v := ?_) rfl (by kernel_rfl) (by kernel_rfl) (by kernel_rfl) (fun _ _ _ h => h) (Or.inl ⟨by rfl, ?_⟩) (by assumption) ?_
        rotate_left 1
        ·intro w hSw
         try dsimp only at hSw
         obtain ⟨hs1, hs2⟩ := hSw
         go_simp
         try with_reducible rfl
        try simp only [Act.put, List.getElem_toArray, List.getElem_cons_zero, List.getElem_cons_succ, List.setIfInBounds_toArray, List.set_cons_zero, List.set_cons_succ]
        refine wpAnyH_take (i := 16) (v := ?_) rfl (by kernel_rfl) (by kernel_rfl) (by kernel_rfl) (fun _ _ _ h => h) (Or.inl ⟨by rfl, ?_⟩) (by assumption) ?_
        rotate_left 1
        ·intro w hSw
         try dsimp only at hSw
         obtain ⟨hs1, hs2⟩ := hSw
         go_simp
         try with_reducible rfl
        try simp only [Act.put, List.getElem_toArray, List.getElem_cons_zero, List.getElem_cons_succ, List.setIfInBounds_toArray, List.set_cons_zero, List.set_cons_succ]
        refine wpAnyH_take (i := 17) (v := ?_) rfl (by kernel_rfl) (by kernel_rfl) (by kernel_rfl) (fun _ _ _ h => h) (Or.inl ⟨by rfl, ?_⟩) (by assumption) ?_
        rotate_left 1
        ·intro w hSw
         try dsimp only at hSw
         obtain ⟨hs1, hs2⟩ := hSw
         go_simp
         try with_reducible rfl
        try simp only [Act.put, List.getElem_toArray, List.getElem_cons_zero, List.getElem_cons_succ, List.setIfInBounds_toArray, List.set_cons_zero, List.set_cons_succ]
        refine wpAnyH_take (i := 18) (v := undef) rfl (by kernel_rfl) (by kernel_rfl) (by kernel_rfl) (fun _ _ _ h => h) (Or.inr ⟨by rfl, rfl⟩) (by assumption) ?_
        try simp only [Act.put, List.getElem_toArray, List.getElem_cons_zero, List.getElem_cons_succ, List.setIfInBounds_toArray, List.set_cons_zero, List.set_cons_succ]
        refine wpAnyH_take (i := 19) (v := undef) rfl (by kernel_rfl) (by kernel_rfl) (by kernel_rfl) (fun _ _ _ h => h) (Or.inr ⟨by rfl, rfl⟩) (by assumption) ?_
        try simp only [Act.put, List.getElem_toArray, List.getElem_cons_zero, List.getElem_cons_succ, List.setIfInBounds_toArray, List.set_cons_zero, List.set_cons_succ]
        refine wpAnyH_take (i := 20) (v := undef) rfl (by kernel_rfl) (by kernel_rfl) (by kernel_rfl) (fun _ _ _ h => h) (Or.inr ⟨by rfl, rfl⟩) (by assumption) ?_
        try simp only [Act.put, List.getElem_toArray, List.getElem_cons_zero, List.getElem_cons_succ, List.setIfInBounds_toArray, List.set_cons_zero, List.set_cons_succ]
        refine wpAnyH_take (i := 21) (v := undef) rfl (by kernel_rfl) (by kernel_rfl) (by kernel_rfl) (fun _ _ _ h => h) (Or.inr ⟨by rfl, rfl⟩) (by assumption) ?_
        try simp only [Act.put, List.getElem_toArray, List.getElem_cons_zero, List.getElem_cons_succ, List.setIfInBounds_toArray, List.set_cons_zero, List.set_cons_succ]
        refine wpAnyH_take (i := 22) (v := undef) rfl (by kernel_rfl) (by kernel_rfl) (by kernel_rfl) (fun _ _ _ h => h) (Or.inr ⟨by rfl, rfl⟩) (by assumption) ?_
        try simp only [Act.put, List.getElem_toArray, List.getElem_cons_zero, List.getElem_cons_succ, List.setIfInBounds_toArray, List.set_cons_zero, List.set_cons_succ]
        refine wpAnyH_take (i := 23) (v := undef) rfl (by kernel_rfl) (by kernel_rfl) (by kernel_rfl) (fun _ _ _ h => h) (Or.inr ⟨by rfl, rfl⟩) (by assumption) ?_
        try simp only [Act.put, List.getElem_toArray, List.getElem_cons_zero, List.getElem_cons_succ, List.setIfInBounds_toArray, List.set_cons_zero, List.set_cons_succ]
        refine wpAnyH_take (i := 24) (v := undef) rfl (by kernel_rfl) (by kernel_rfl) (by kernel_rfl) (fun _ _ _ h => h) (Or.inr ⟨by rfl, rfl⟩) (by assumption) ?_
        try simp only [Act.put, List.getElem_toArray, List.getElem_cons_zero, List.getElem_cons_succ, List.setIfInBounds_toArray, List.set_cons_zero, List.set_cons_succ]
        refine wpAnyH_take (i := 25) (v := undef) rfl (by kernel_rfl) (by kernel_rfl) (by kernel_rfl) (fun _ _ _ h => h) (Or.inr ⟨by rfl, rfl⟩) (by assumption) ?_
        try simp only [Act.put, List.getElem_toArray, List.getElem_cons_zero, List.getElem_cons_succ, List.setIfInBounds_toArray, List.set_cons_zero, List.set_cons_succ]
        refine wpAnyH_take (i := 26) (v := ?_) rfl (by kernel_rfl) (by kernel_rfl) (by kernel_rfl) (fun _ _ _ h => h) (Or.inl ⟨by rfl, ?_⟩) (by assumption) ?_
        rotate_left 1
        ·intro w hSw
         try dsimp only at hSw
         obtain ⟨hs1, hs2⟩ := hSw
         go_simp
         try with_reducible rfl
        try simp only [Act.put, List.getElem_toArray, List.getElem_cons_zero, List.getElem_cons_succ, List.setIfInBounds_toArray, List.set_cons_zero, List.set_cons_succ]
        refine wpAnyH_done (by kernel_rfl) ?_ _
        go_wp2_with fail
        have hb9 := hb8.trans (bA.mono hb8.size)
        go_roundw
        case rel => exact ⟨k + 1, vf, rp, by omega, by go_num, by rw [hst.out]; exact hI.beyond hb9, hbr.trans (hb9.mono hbr.size), by have := hb9.size; omega⟩
        case measure => simp [intOf]; omega
       case pos =>
        have h2a : (HB0.toList == (Pl.headB r0.gen).toList) = true := by rw [h2]; simp
        have h2b : (HB0.toList != (Pl.headB r0.gen).toList) = false := by rw [h2]; simp
        replace hfo := Lib.hid hfo
        replace hfl := Lib.hid hfl
        have hgp := (hmay k r0 hdk).g1
        generalize hGK : (Pl.openK s dec k).gen = GK at *
        replace hGK := Lib.hid hGK
        have hGK2 := Lib.hid hGK.out
        by_cases h3 : GK < r0.gen
        case neg =>
         have hst : Hid (Pl.openK s dec (k + 1) = Pl.openK s dec k) := Lib.hid (by
          rw [hnx.out]
          unfold Pl.openStep
          rw [hdk]
          refine if_pos (.inr (.inr ?_))
          rw [hGK.out]
          have h5 := hpar.out
          by_cases h6 : r0.gen = GK
          ·rcases h5 with h5 | h5 <;> omega
          ·omega)
         have h3i : ¬ (GK : Int) < (r0.gen : Int) := by omega
         replace h2 := Lib.hid h2
         generalize Pl.headB r0.gen = HB at *
         have h2c : HB0.toList = HB.toList := by simpa using h2a
         clear h2c hT
         go_region_held3 (fun W' => W'.cell? ⟨w7.heap.size, 0, none⟩ = some (.int .u64 (r0.gen : Int)) ∧ W'.cell? ⟨W.heap.size, 2, none⟩ = some (.int .u64 (GK : Int))) (first | exact kA | exact ⟨t0, q2⟩ | go_keep)
          (first
          | (go_at_call 58; refine PH1.out.mono ?_; rintro e w9 ⟨rfl, b9⟩; have bA := hbd.trans (b9.mono hbd.size); have kA := hcl.out w9 bA))
         go_wp2_with fail
         have hb9 := hb8.trans (bA.mono hb8.size)
         go_roundw
         case rel => exact ⟨k + 1, vf, rp, by omega, by go_num, by rw [hst.out]; exact hI.beyond hb9, hbr.trans (hb9.mono hbr.size), by have := hb9.size; omega⟩
         case measure => simp [intOf]; omega
        case pos =>
         have hst : Hid (Pl.openK s dec (k + 1) = r0) := Lib.hid (by
          rw [hnx.out]
          unfold Pl.openStep
          rw [hdk]
          refine if_neg ?_
          rintro (h | h | h)
          ·exact h h1
          ·exact h (by rw [← hSRb.out]; exact h2)
          ·rw [hGK.out] at h; omega)
         have h3i : (GK : Int) < (r0.gen : Int) := by omega
         replace h2 := Lib.hid h2
         generalize Pl.headB r0.gen = HB at *
         go_region_held3 (fun W' => W'.cell? ⟨w7.heap.size, 0, none⟩ = some (.int .u64 (r0.gen : Int)) ∧ W'.cell? ⟨W.heap.size, 2, none⟩ = some (.int .u64 (GK : Int))) (first | exact kA | exact ⟨t0, q2⟩ | go_keep)
          (first
          | (go_at_call 58; refine PH1.out.mono ?_; rintro e w9 ⟨rfl, b9⟩; have bA := hbd.trans (b9.mono hbd.size); have kA := hcl.out w9 bA))
         have hk9 : Keep (fun q => q < w8.heap.size) w8 w9 := Keep.of_below bA (fun _ h _ => h)
         have hI9 := hI8.beyond bA
         have hT9 := hT.keep hk9 hT.lt
         have hb9 := hb8.trans (bA.mono hb8.size)
         have hbw9 : Below W.heap.size W w9 := hbr.trans (hb9.mono hbr.size)
         have hz9 := bA.size
         have hwo := hbr.size
         have hIw := hI9.wide (rp2 := fun q => rp q ∨ (wr.heap.size ≤ q ∧ q < w7.heap.size)) (fun q h => .inl h) (fun q hq => by
          rcases hq with h | h
          ·exact ⟨hI9.lt q h, hI9.low q h, fun e => hI9.nq (e ▸ h), fun e => by simp [Value.ownBlock] at e⟩
          ·exact ⟨by omega, by omega, by omega, fun e => by simp [Value.ownBlock] at e⟩)
         have hfF : FilesF (fun q => rp q ∨ (wr.heap.size ≤ q ∧ q < w7.heap.size)) w9 (.slice va vn vc) r0.files := by
          have h7 := FilesF.of_row (rp2 := fun q => rp q ∨ (wr.heap.size ≤ q ∧ q < w7.heap.size)) (fz := fun q => wr.heap.size ≤ q ∧ q < w7.heap.size) hfo.out.1 (fun y hy => ⟨IOwn.at (hfo.out.2 y hy), fun _ q e => World.ownsRow.lt (hfo.out.2 y hy) q e⟩) (fun q h => .inr h) (fun q e => .inr (hfo.out.1.lt q e))
          rw [hfl.out] at h7
          refine h7.keep ((hk78.mono (fun q hq _ => ?_)).trans hk9 (fun q hq hl => ?_)) (fun _ h => h)
          ·rcases hq with h | h
           ·have := hI.lt q h; omega
           ·exact h.2
          ·rcases hq with h | h
           ·have := hI.lt q h; omega
           ·omega
         obtain ⟨hIS, hStS⟩ := hIw.setSafe hfF
         have x0 : w9.cell? ⟨w7.heap.size, 0, none⟩ = some (.int .u64 (r0.gen : Int)) := by simp [hT9.cell]
         have x1 : w9.cell? ⟨w7.heap.size, 1, none⟩ = some (.slice va vn vc) := by simp [hT9.cell]
         obtain ⟨_, _, c2, c3, _⟩ := hI9.cells
         have f2 := hI9.blk.frozen 2
         have f3 := hI9.blk.frozen 3
         have hbS := (hbw9.setCell (p := ⟨W.heap.size, 2, none⟩) (Nat.le_refl _) (.int .u64 (r0.gen : Int))).setCell (p := ⟨W.heap.size, 3, none⟩) (Nat.le_refl _) (.slice va vn vc)
         have hSz : W.heap.size < ((w9.setCell ⟨W.heap.size, 2, none⟩ (.int .u64 (r0.gen : Int))).setCell ⟨W.heap.size, 3, none⟩ (.slice va vn vc)).heap.size := by simp [World.setCell]; omega
         have hend := Lib.hid (And.intro hIS (And.intro hbS hSz))
         clear hIS hStS hbS hSz hfF hIw hT9 hk9
         go_wp2_with fail
         go_roundw
         case rel =>
          obtain ⟨e1, e2, e3⟩ := hend.out
          exact ⟨k + 1, _, _, by omega, by go_num, by rw [hst.out]; exact e1, e2, e3⟩
         case measure => simp [intOf]; omega
end
section
open Go.RowKit Go.Maps
attribute [local go_sem] Oper.semAt_some
namespace Pl
def readOld (s : Dv) (y : HF) (a t : Nat) : ByteArray := (bytesOf s y (a / 256) (takesB ((min t y.old : Nat) : Int)).toNat).extract (a - a / 256 * 256) (min (bytesOf s y (a / 256) (takesB ((min t y.old : Nat) : Int)).toNat).size (t - a / 256 * 256))
def readAt (s : Dv) (y : HF) (a t : Nat) : ByteArray := (if a < y.old then readOld s y a t else .empty) ++ (if y.old < t then y.added.extract (a - y.old) (t - y.old) else .empty)
def readY (s : Dv) (y : HF) (fr n : Nat) : ByteArray := readAt s y (min fr y.size) (min fr y.size + min n (y.size - min fr y.size))
theorem bytesOf_size {s : Dv} (h : s.WF) (y : HF) (fr tt : Nat) (h2 : tt ≤ y.blocks.length) (hb : ∀ q ∈ y.blocks, 0 ≤ q ∧ q < (s.safe.length : Int)) : (bytesOf s y fr tt).size = min ((tt - fr) * 256) (y.old - fr * 256) := by
 have hl := bytesL_length h ((y.blocks.take tt).drop fr) (fun q hq => hb q (List.mem_of_mem_take (List.mem_of_mem_drop hq)))
 rw [List.length_drop, List.length_take, Nat.min_eq_left h2] at hl
 unfold bytesOf
 have hs : (⟨(bytesL s ((y.blocks.take tt).drop fr)).toArray⟩ : ByteArray).size = (bytesL s ((y.blocks.take tt).drop fr)).length := by simp [ByteArray.size]
 rw [ByteArray.size_extract, hs, hl]
 omega
theorem takesB_nat (n : Nat) : takesB (n : Int) = (((n + 255) / 256 : Nat) : Int) := by
 unfold takesB
 split <;> omega
end Pl
variable {B Bd f d m : Nat} {vf : Value} {x : Pl.Fs} {s : Pl.Dv} {rp fp fpd : Nat → Prop} {W W' : World}
set_option maxHeartbeats 1600000 in
theorem read_is (h : FsAt B f d x fp W) (hd : DevAt Bd d s fpd W) (hdd : x.dead s = false) (nm : ByteArray) (hs : nm.size ≤ maxLen) (y : Pl.HF) (hg : Pl.hget x.hand nm = some y) (fr n : Nat) (hfr : fr ≤ 9223372036854775807) (hn : n ≤ 9223372036854775807)
  (hold : y.old ≤ 4194304) (hadd : y.added.size ≤ 140737488355328) (hbn : y.blocks.length = (y.old + 255) / 256) (hN : s.safe.length ≤ 16384) (hbk : ∀ q ∈ y.blocks, 0 ≤ q ∧ q < (s.safe.length : Int)) :
  Calls Tryz.prog 20 #[.pointer (some ⟨f, 0, none⟩), .string nm, .int .i64 (fr : Int), .int .i64 (n : Int)] W fun e w' => e = .returned (.tuple #[.string (Pl.readY s y fr n), .int .i64 0]) ∧ Below W.heap.size W w' := by
 obtain ⟨E, hE⟩ : ∃ E, E = Pl.readY s y fr n := ⟨_, rfl⟩
 rw [← hE]
 obtain ⟨m, vf, rp, ho, rfl⟩ := id h
 have PD := Lib.hid (dead_is hdd h hd)
 have hup : Hid (s.down = false) := Lib.hid (by unfold Pl.Fs.dead at hdd; cases hq : s.down; rfl; rw [hq] at hdd; cases hdd)
 have hz : y.old + y.added.size ≤ 9223372036854775807 := by omega
 unfold Pl.readY at hE
 obtain ⟨sz, hsz⟩ : ∃ sz, sz = y.size := ⟨_, rfl⟩
 rw [← hsz] at hE
 unfold Pl.HF.size at hsz
 obtain ⟨a, ha⟩ : ∃ a, a = min fr sz := ⟨_, rfl⟩
 rw [← ha] at hE
 obtain ⟨t, ht⟩ : ∃ t, t = a + min n (sz - a) := ⟨_, rfl⟩
 rw [← ht] at hE
 have hw1 : IntKind.i64.wrap ((y.old : Int) + (y.added.size : Int)) = (sz : Int) := by rw [IntWalk.i64_in _ (by omega)]; omega
 have hmin1 : min (fr : Int) (sz : Int) = (a : Int) := by omega
 have hw2 : IntKind.i64.wrap ((sz : Int) - (a : Int)) = ((sz - a : Nat) : Int) := by rw [IntWalk.i64_in _ (by omega)]; omega
 have hmin2 : min (n : Int) ((sz - a : Nat) : Int) = ((t - a : Nat) : Int) := by omega
 have hw3 : IntKind.i64.wrap ((a : Int) + ((t - a : Nat) : Int)) = (t : Int) := by rw [IntWalk.i64_in _ (by omega)]; omega
 have hszb : sz ≤ 140737500000000 := by omega
 have hat : a ≤ t := by omega
 have htz : t ≤ sz := by omega
 have hfr0 : ¬ (fr : Int) < 0 := by omega
 have hn0 : ¬ (n : Int) < 0 := by omega
 replace hE := Lib.hid hE
 clear hdd
 replace hsz := Lib.hid hsz
 replace ha := Lib.hid ha
 replace ht := Lib.hid ht
 go_enter Tryz.func20, Tryz.ntmps20
 go_wp2_with fail
 refine PD.out.mono ?_
 rintro e w1 ⟨rfl, nq, e1⟩
 have ho1 := ho.keep (keep_drewN e1 _)
 have hb1 : Below W.heap.size W w1 := e1 ▸ below_drewN (Below.refl _ _) nq
 have hd1 := hd.beyond hb1
 clear e1
 obtain ⟨c0, c1, c2, c3, c4, c5⟩ := ho1.cells
 obtain ⟨ua, uc, hrun, hu⟩ := hand_look ho1.hand hs
 rw [hg] at hrun hu
 simp only [Option.getD_some, Option.isSome_some] at hrun hu
 clear PD hg h ho hd
 replace hbn := Lib.hid hbn
 go_upto_if 59 with (fail)
 have hX : Blk (w1.alloc (.cells #[.slice ua y.blocks.length uc, .int .i64 (y.old : Int), .string y.added] 104)) w1.heap.size #[.slice ua y.blocks.length uc, .int .i64 (y.old : Int), .string y.added] 104 := Blk.new _ _ _
 have hb2 : Below w1.heap.size w1 (w1.alloc (.cells #[.slice ua y.blocks.length uc, .int .i64 (y.old : Int), .string y.added] 104)) := (Below.refl _ _).alloc (Nat.le_refl _) _
 generalize w1.alloc (.cells #[.slice ua y.blocks.length uc, .int .i64 (y.old : Int), .string y.added] 104) = W2 at *
 have hbw2 := hb1.trans (hb2.mono hb1.size)
 have ho2 := ho1.beyond hb2
 have hd2 := hd1.beyond hb2
 have hu2 := hu.keep (Keep.of_below (fp := rp) hb2 (fun q hq _ => ho1.lt q hq)) (fun _ h => h)
 have hzz := hX.lt
 clear ho1 hd1 hu hrun c0 c1 c2 c3 c4 c5 hb2 hw1 hw2 hw3 hmin1 hmin2 hfr0 hn0
 have hEs : Hid (E = (if a < y.old then Pl.readOld s y a t else .empty) ++ (if y.old < t then y.added.extract (a - y.old) (t - y.old) else .empty)) := Lib.hid hE.out
 obtain ⟨S1, hS1⟩ : ∃ S1, S1 = if a < y.old then Pl.readOld s y a t else .empty := ⟨_, rfl⟩
 rw [← hS1] at hEs
 go_cut [14] (fun v wx => v = .string S1 ∧ Below W2.heap.size W2 wx)
 case first =>
  have x1 : W2.cell? ⟨w1.heap.size, 1, none⟩ = some (.int .i64 (y.old : Int)) := by simp [hX.cell]
  by_cases hao : a < y.old
  case neg =>
   obtain rfl : S1 = .empty := by rw [hS1, if_neg hao]
   have hao' : ¬ (a : Int) < (y.old : Int) := by omega
   clear hS1 hao
   go_wp2
   go_meet
   exact ⟨rfl, Below.refl _ _⟩
  case pos =>
   rw [if_pos hao] at hS1
   have hao' : (a : Int) < (y.old : Int) := by omega
   obtain ⟨k, hk⟩ : ∃ k, k = a / 256 := ⟨_, rfl⟩
   obtain ⟨mo, hmo⟩ : ∃ k, k = min t y.old := ⟨_, rfl⟩
   obtain ⟨tb, htb⟩ : ∃ k, k = (mo + 255) / 256 := ⟨_, rfl⟩
   unfold Pl.readOld at hS1
   rw [← hk, ← hmo, Pl.takesB_nat, Int.toNat_natCast, ← htb] at hS1
   have hbsz := Pl.bytesOf_size hd2.wf y k tb (by rw [hbn.out]; omega) hbk
   have PBy := Lib.hid (fun (wA : World) (bA : Below W2.heap.size W2 wA) => bytes_any (ho2.beyond bA) (hd2.beyond bA) hup.out y (.slice ua y.blocks.length uc) (hu2.keep (Keep.of_below (fp := rp) bA (fun q hq _ => ho2.lt q hq)) (fun _ h => h)).1 k tb (by omega) (by rw [hbn.out]; omega) (by omega) (by omega) (by rw [hbn.out]; omega) hN hbk)
   have PBl := Lib.hid (fun wA => blocksOf_any (mo : Int) wA (by omega) (by omega))
   rw [Pl.takesB_nat, ← htb] at PBl
   generalize Pl.bytesOf s y k tb = BB at hS1 hbsz PBy
   have x2 : W2.cell? ⟨w1.heap.size, 2, none⟩ = some (.string y.added) := by simp [hX.cell]
   have x0 : W2.cell? ⟨w1.heap.size, 0, none⟩ = some (.slice ua y.blocks.length uc) := by simp [hX.cell]
   have hq1 : (a : Int).tdiv 256 = (k : Int) := by rw [Int.tdiv_eq_ediv_of_nonneg (by omega)]; omega
   have hq2 : IntKind.i64.wrap (k : Int) = (k : Int) := IntWalk.i64_in _ (by omega)
   have hm1 : min (t : Int) (y.old : Int) = (mo : Int) := by omega
   have h1 : IntKind.i64.wrap ((k : Int) * 256) = (k : Int) * 256 := IntWalk.i64_in _ (by omega)
   have h2 : IntKind.i64.wrap ((a : Int) - (k : Int) * 256) = ((a - k * 256 : Nat) : Int) := by rw [IntWalk.i64_in _ (by omega)]; omega
   have h3 : IntKind.i64.wrap ((t : Int) - (k : Int) * 256) = ((t - k * 256 : Nat) : Int) := by rw [IntWalk.i64_in _ (by omega)]; omega
   have h4 : min (BB.size : Int) ((t - k * 256 : Nat) : Int) = ((min BB.size (t - k * 256) : Nat) : Int) := by omega
   have g1 : ((a - k * 256 : Nat) : Int) ≤ ((min BB.size (t - k * 256) : Nat) : Int) := by omega
   have g2 : ((min BB.size (t - k * 256) : Nat) : Int) ≤ (BB.size : Int) := by omega
   replace hk := Lib.hid hk
   replace hmo := Lib.hid hmo
   replace htb := Lib.hid htb
   replace hbsz := Lib.hid hbsz
   replace hS1 := Lib.hid hS1
   go_upto_region 16 with (fail)
   go_cut [14] (fun v wx => v = .string BB ∧ Below W2.heap.size W2 wx)
   case first =>
    go_region_with (first
     | (go_at_call 62; refine (PBl.out _).mono ?_; rintro e wq ⟨rfl, rfl⟩)
     | (go_at_call 61; refine (PBy.out _ (by first | exact Below.refl _ _ | exact (Below.refl _ _).drew)).mono ?_; rintro e w' ⟨rfl, b'⟩; have bb : Below W2.heap.size W2 w' := (by first | exact b' | exact ((Below.refl _ _).drew).trans b')))
    all_goals
     go_wp2_with fail
     go_meet
     exact ⟨rfl, bb⟩
   case rest =>
    obtain ⟨rfl, hb3⟩ := hcut
    obtain rfl := hS1.out
    clear PBy PBl
    go_wp2
    go_meet
    exact ⟨rfl, hb3⟩
 case rest =>
  obtain ⟨rfl, hb3⟩ := hcut
  have hX3 : Blk wc w1.heap.size #[.slice ua y.blocks.length uc, .int .i64 (y.old : Int), .string y.added] 104 := (hb3.block _ hzz).trans hX
  have x1 : wc.cell? ⟨w1.heap.size, 1, none⟩ = some (.int .i64 (y.old : Int)) := by simp [hX3.cell]
  have x2 : wc.cell? ⟨w1.heap.size, 2, none⟩ = some (.string y.added) := by simp [hX3.cell]
  have hS1s : S1.size ≤ 4194304 := by
   rw [hS1]
   split
   ·unfold Pl.readOld
    rw [ByteArray.size_extract, Pl.bytesOf_size hd2.wf y _ _ (by rw [hbn.out, Pl.takesB_nat]; omega) hbk]
    omega
   ·decide
  have hbw3 := hbw2.trans (hb3.mono hbw2.size)
  clear hS1 hX3 hX ho2 hd2 hu2 hbk hN hup
  by_cases hyt : y.old < t
  case neg =>
   rw [if_neg hyt, ByteArray.append_empty] at hEs
   have hyt' : ¬ (y.old : Int) < (t : Int) := by omega
   have PC := Lib.hid (clone_any S1 wc (by omega))
   clear hyt
   go_wp2_with fail
   refine PC.out.mono ?_
   rintro e w4 ⟨rfl, b4⟩
   clear PC
   go_wp2
   go_ret2
   exact ⟨by rw [hEs.out]; rfl, hbw3.trans (b4.mono hbw3.size)⟩
  case pos =>
   rw [if_pos hyt] at hEs
   have hyt' : (y.old : Int) < (t : Int) := by omega
   have h1 : IntKind.i64.wrap ((a : Int) - (y.old : Int)) = (a : Int) - (y.old : Int) := IntWalk.i64_in _ (by omega)
   have h2 : max ((a : Int) - (y.old : Int)) 0 = ((a - y.old : Nat) : Int) := by omega
   have h3 : IntKind.i64.wrap ((t : Int) - (y.old : Int)) = ((t - y.old : Nat) : Int) := by rw [IntWalk.i64_in _ (by omega)]; omega
   have hsz' := hsz.out
   have g1 : ((a - y.old : Nat) : Int) ≤ ((t - y.old : Nat) : Int) := by omega
   have g2 : ((t - y.old : Nat) : Int) ≤ (y.added.size : Int) := by omega
   have hes : (y.added.extract (a - y.old) (t - y.old)).size ≤ y.added.size := by rw [ByteArray.size_extract]; omega
   have g3 : S1.size + (y.added.extract (a - y.old) (t - y.old)).size ≤ 9223372036854775807 := by omega
   have PC := Lib.hid (fun wA => clone_any (S1 ++ y.added.extract (a - y.old) (t - y.old)) wA (by rw [ByteArray.size_append]; omega))
   clear hyt hsz'
   go_wp2_with fail
   refine (PC.out _).mono ?_
   rintro e w4 ⟨rfl, b4⟩
   clear PC
   go_wp2
   go_ret2
   exact ⟨by rw [hEs.out]; rfl, hbw3.trans (b4.mono hbw3.size)⟩
end
end Go.Proofs.YtogblcdefbnbeaaGreat
