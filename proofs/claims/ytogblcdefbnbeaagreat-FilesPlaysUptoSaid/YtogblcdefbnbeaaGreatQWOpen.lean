
/- Walk: a file system opened. Condition: a disk that is up; what its slots' bytes are decoded to. -/
import Derived.Test.YtogblcdefbnbeaaGreatQWNil
import Derived.Test.YtogblcdefbnbeaaGreatQHb
import Derived.Test.YtogblcdefbnbeaaGreatQGk
import Derived.WalkMore
import Derived.Deep.RegionHeld3
set_option maxRecDepth 100000
namespace Go.Proofs.YtogblcdefbnbeaaGreat
section
open Go.RowKit Go.Shelf Go.Maps
attribute [local go_sem] Oper.semAt_some
variable {B Bd f d m : Nat} {vf : Value} {x : Pl.Fs} {s : Pl.Dv} {rp fp fpd : Nat → Prop} {W W' : World}
namespace Pl
def slotB (k : Nat) : List Int := (List.range 15).map fun i => ((k * 16 + (i + 1) : Nat) : Int)
def slotS (s : Dv) (k : Nat) : ByteArray := ⟨(bytesL s (slotB k)).toArray⟩
theorem slotB_length (k : Nat) : (slotB k).length = 15 := by simp [slotB]
theorem slotB_get {k i : Nat} (h : i < 15) : (slotB k)[i]'(by rw [slotB_length]; exact h) = ((k * 16 + (i + 1) : Nat) : Int) := by simp [slotB]
theorem slotB_succ {k i : Nat} (h : i < 15) : (slotB k).take (i + 1) = (slotB k).take i ++ [((k * 16 + (i + 1) : Nat) : Int)] := by
 rw [List.take_succ_eq_append_getElem (by rw [slotB_length]; exact h), slotB_get h]
def openStep (s : Dv) (dec : Nat → Option RootP) (a : RootP) (k : Nat) : RootP :=
 match dec k with
 | none => a
 | some r => if r.gen % 2 ≠ k ∨ s.read (k * 16) ≠ headB r.gen ∨ r.gen < a.gen then a else r
def openK (s : Dv) (dec : Nat → Option RootP) : Nat → RootP
 | 0 => ⟨0, []⟩
 | k + 1 => openStep s dec (openK s dec k) k
noncomputable def openE (s : Dv) (dec : Nat → Option RootP) : (Option Fs × Dv) × Int :=
 if (openK s dec 2).gen = 0 then
  if (wrRoot s [] ⟨1, []⟩).2 ≠ 0 then ((none, (wrRoot s [] ⟨1, []⟩).1), (wrRoot s [] ⟨1, []⟩).2) else ((some (Fs.revert ⟨s.epoch, ⟨1, []⟩, [], false⟩), (wrRoot s [] ⟨1, []⟩).1), 0)
 else ((some (Fs.revert ⟨s.epoch, openK s dec 2, [], false⟩), s), 0)
theorem Dv.syE_up {s : Dv} (h : s.syE.2 = 0) : s.syE.1.down = false ∧ s.syE.1.wait = [] := by
 unfold Dv.syE at *
 split at h
 ·exact absurd (show (4 : Int) = 0 from h) (by decide)
 ·rename_i h0
  rw [if_neg h0]
  split at h
  ·exact absurd (show (4 : Int) = 0 from h) (by decide)
  ·rename_i h1
   rw [if_neg h1]
   have h2 : s.act.down = false := by simpa using h1
   exact ⟨h2, rfl⟩
theorem wrEnd_up {g : Nat} {a : Dv × Int} (h : (wrEnd g a).2 = 0) : (wrEnd g a).1.down = false ∧ (wrEnd g a).1.wait = [] := by
 unfold wrEnd at *
 split at h
 ·rename_i h0; exact absurd h h0
 ·rename_i h0
  rw [if_neg h0]
  split at h
  ·rename_i h1; exact absurd h h1
  ·rename_i h1
   rw [if_neg h1]
   split at h
   ·rename_i h2; exact absurd h h2
   ·rename_i h2
    rw [if_neg h2]
    exact Dv.syE_up h
theorem wrEnd_epoch (g : Nat) (a : Dv × Int) : (wrEnd g a).1.epoch = a.1.epoch := by
 unfold wrEnd
 split
 ·rfl
 ·split
  ·exact Dv.syE_epoch _
  ·split
   ·rw [Dv.wrE_epoch, Dv.syE_epoch]
   ·rw [Dv.syE_epoch, Dv.wrE_epoch, Dv.syE_epoch]
theorem wrRoot_epoch (s : Dv) (l : List (Nat × ByteArray)) (r : RootP) : (wrRoot s l r).1.epoch = s.epoch := by
 unfold wrRoot
 split
 ·rfl
 ·rw [wrEnd_epoch, wrAll_epoch]
theorem wrRoot_up {s : Dv} {l : List (Nat × ByteArray)} {r : RootP} (h : (wrRoot s l r).2 = 0) : (wrRoot s l r).1.down = false ∧ (wrRoot s l r).1.wait = [] := by
 unfold wrRoot at *
 split at h
 ·exact absurd (show (5 : Int) = 0 from h) (by decide)
 ·rename_i h0
  rw [if_neg h0]
  exact wrEnd_up h
theorem openK_all {s : Dv} {dec : Nat → Option RootP} {P : RootP → Prop} (h0 : P ⟨0, []⟩) (h : ∀ k r, dec k = some r → P r) : ∀ k, P (openK s dec k)
 | 0 => h0
 | k + 1 => by
  have ih := openK_all (s := s) h0 h k
  show P (openStep s dec (openK s dec k) k)
  unfold openStep
  cases hd : dec k with
  | none => exact ih
  | some r =>
   simp only
   split
   ·exact ih
   ·exact h k r hd
end Pl
def DecEnds (w : World) (o : Option Pl.RootP) (e : Ending) (w' : World) : Prop :=
 Below w.heap.size w w' ∧ ∃ (g : Int) (va : Option Addr) (vn vc : Nat) (ee : Int), e = .returned (.tuple #[.agg #[.int .u64 g, .slice va vn vc], .int .i64 ee]) ∧ (o = none → ee ≠ 0) ∧
  ∀ r, o = some r → ee = 0 ∧ g = (r.gen : Int) ∧ ∃ fl : List (Pl.FileP × Value), FilesOwn w' w.heap.size (.slice va vn vc) fl ∧ fl.map (·.1) = r.files
def OpenEnds (Bd d : Nat) (fpd : Nat → Prop) (E : (Option Pl.Fs × Pl.Dv) × Int) (W : World) (e : Ending) (W' : World) : Prop :=
 ∃ fpd' : Nat → Prop, DevAt Bd d E.1.2 fpd' W' ∧ (∀ q, fpd' q → fpd q ∨ W.heap.size ≤ q) ∧ Keep (fun q => ¬ fpd q) W W' ∧
  match E.1.1 with
  | none => e = .returned (.tuple #[.pointer none, .int .i64 E.2])
  | some x => ∃ (f : Nat) (fp : Nat → Prop), e = .returned (.tuple #[.pointer (some ⟨f, 0, none⟩), .int .i64 E.2]) ∧ FsAt W.heap.size f d x fp W' ∧ (∀ q, fp q → ¬ fpd' q)
theorem toList_eq' {a b : ByteArray} (h : a.toList = b.toList) : a = b := by
 rw [ByteArray.toList_eq, ByteArray.toList_eq] at h
 cases a
 cases b
 simp only at h
 rw [Array.toList_inj.1 h]
theorem toList_bne {a b : ByteArray} (h : ¬ a = b) : (a.toList == b.toList) = false ∧ (a.toList != b.toList) = true := by
 have h2 : ¬ a.toList = b.toList := fun e => h (toList_eq' e)
 simp [h2]
set_option maxHeartbeats 1000000 in
theorem open_any (hd : DevAt Bd d s fpd W) (hup : s.down = false) (hBd : Bd ≤ W.heap.size) {N kk : Nat} (hO : Pl.Ok N kk s) (hk : kk ≤ 1099511627776) (hN1 : 40 ≤ N) (hN2 : N ≤ 16384) (dec : Nat → Option Pl.RootP)
  (hdec : ∀ k, k < 2 → ∀ w, Calls Tryz.prog 51 #[.string (Pl.slotS s k), .int .i64 (N : Int)] w (DecEnds w (dec k)))
  (hok : ∀ k r, dec k = some r → (∀ y ∈ r.files, y.name.size ≤ maxLen ∧ 0 ≤ y.size) ∧ r.files.length ≤ 1073741824 ∧ r.gen ≤ 4611686018427387904) :
  Calls Tryz.prog 17 #[.pointer (some ⟨d, 0, none⟩)] W (OpenEnds Bd d fpd (Pl.openE s dec) W) := by
 obtain ⟨E, hE⟩ : ∃ E, E = Pl.openE s dec := ⟨_, rfl⟩
 rw [← hE]
 replace hE := Lib.hid hE
 have hlen := hO.len
 have PU := Lib.hid (up_is hd hup)
 have PE := Lib.hid (epoch_any hd)
 have hblk := Blk.new W #[.pointer (some ⟨d, 0, none⟩), .int .i64 (s.epoch : Int), .int .u64 0, .slice none 0 0, .map none, .bool false] 86
 have hb1 : Below W.heap.size W (W.alloc (.cells #[.pointer (some ⟨d, 0, none⟩), .int .i64 (s.epoch : Int), .int .u64 0, .slice none 0 0, .map none, .bool false] 86)) := (Below.refl _ _).alloc (Nat.le_refl _) _
 have hz1 : (W.alloc (.cells #[.pointer (some ⟨d, 0, none⟩), .int .i64 (s.epoch : Int), .int .u64 0, .slice none 0 0, .map none, .bool false] 86)).heap.size = W.heap.size + 1 := by simp
 go_enter Tryz.func17, Tryz.ntmps17
 go_wp2_with fail
 go_step3
 go_upto_region 6 with (first
  | (go_at_call 47; refine PU.out.mono ?_; rintro e w' ⟨rfl, rfl⟩)
  | (go_at_call 49; refine PE.out.mono ?_; rintro e w' ⟨rfl, rfl⟩))
 go_wp2_with fail
 go_step3
 generalize W.alloc (.cells #[.pointer (some ⟨d, 0, none⟩), .int .i64 (s.epoch : Int), .int .u64 0, .slice none 0 0, .map none, .bool false] 86) = W1 at hblk hb1 hz1 ⊢
 have hI0 : FsN W.heap.size W.heap.size d W.heap.size (.slice none 0 0) (fun _ => False) ⟨s.epoch, ⟨0, []⟩, [], false⟩ W1 := ⟨hblk, ⟨none, 0, rfl, Nat.le_refl _, by decide, fun h => by simp at h⟩, rfl, fun h => h, fun _ h => h.elim, fun _ h => h.elim, Nat.le_refl _⟩
 clear hblk PU PE
 go_wp2_with fail
 go_loopw [24] (fun i W' => ∃ (k : Nat) (vf : Value) (rp : Nat → Prop), k ≤ 2 ∧ i = .int .i64 (k : Int) ∧ FsN W.heap.size W.heap.size d W.heap.size vf rp ⟨s.epoch, Pl.openK s dec k, [], false⟩ W' ∧ Below W.heap.size W W' ∧ W.heap.size < W'.heap.size) (fun i _ => 2 - (intOf i).toNat)
 case atStart => exact ⟨0, _, _, Nat.zero_le _, rfl, hI0, hb1, by omega⟩
 case round =>
  obtain ⟨k, vf, rp, hk2, rfl, hI, hbr, hzr⟩ := hrel
  obtain ⟨wo, rfl⟩ : ∃ wo : World, wo = wr := ⟨_, rfl⟩
  by_cases hkl : k < 2
  case neg =>
   obtain rfl : k = 2 := by omega
   have hk2' : ¬ ((2 : Nat) : Int) < 2 := by omega
   have hdr := hd.beyond hbr
   have hall := Pl.openK_all (s := s) (dec := dec) (P := fun r => (∀ y ∈ r.files, y.name.size ≤ maxLen ∧ 0 ≤ y.size) ∧ r.files.length ≤ 1073741824) ⟨fun _ h => (List.not_mem_nil h).elim, Nat.zero_le _⟩ (fun k r h => ⟨(hok k r h).1, (hok k r h).2.1⟩) 2
   have hdj : ∀ q, fsFp W.heap.size W.heap.size rp q → ¬ fpd q := fun q hq h => by
    have h1 := hd.lt q h
    rcases hq with rfl | rfl | hq
    ·omega
    ·omega
    ·have := hI.low q hq; omega
   by_cases hg0 : (Pl.openK s dec 2).gen = 0
   case neg =>
    have hE2 : Hid (E = ((some (Pl.Fs.revert ⟨s.epoch, Pl.openK s dec 2, [], false⟩), s), 0)) := Lib.hid (by rw [hE.out]; unfold Pl.openE; rw [if_neg hg0])
    have PR := Lib.hid (revert_anyN hI hdr (by unfold Pl.Fs.dead; simp [hup]) (Nat.le_of_lt hzr) hall.1 hall.2)
    obtain ⟨_, _, c2, _⟩ := hI.cells
    simp only at c2
    generalize Pl.openK s dec 2 = G at *
    have hg1 : ¬ ((G.gen : Int) = 0) := by omega
    have hlow : ∀ q, rp q → W.heap.size ≤ q := hI.low
    clear hI hall
    go_wp2_with (go_at_call 42; refine PR.out.mono ?_; rintro e w5 ⟨⟨v5, rfl⟩, fp5, hf5, st5⟩)
    rw [Exit.noGoto_ret]
    go_ret2
    have hz5 := st5.keep.size
    have hwo := hbr.size
    rw [hE2.out]
    refine ⟨fpd, hdr.keep (st5.keep.mono (fun q hq _ h => hdj q h hq)), fun _ h => .inl h, (Keep.of_below (fp := fun q => q < W.heap.size) hbr (fun _ h _ => h)).mono (fun q _ hl => hl) |>.trans st5.keep (fun q _ hl h => by
     rcases h with rfl | rfl | h
     ·omega
     ·omega
     ·exact absurd (hlow q h) (by omega)), W.heap.size, fp5, rfl, hf5, fun q hq h => ?_⟩
    have := hd.lt q h
    rcases st5.new q hq with (rfl | rfl | h1) | h1
    ·omega
    ·omega
    ·exact absurd (hlow q h1) (by omega)
    ·omega
   case pos =>
    have hfin : (⟨1, []⟩ : Pl.RootP).fine := ⟨by decide, fun _ h => (List.not_mem_nil h).elim⟩
    have PW := write_rootN (vl := .slice none 0 0) (vr := .slice none 0 0) (rp2 := rp) (Bl := W.heap.size) hI hdr hO hk hN1 hN2 hdj (by omega) (Nat.le_of_lt hzr) [] (World.ownsRow_nil _ _ _ _) (fun q e => by cases e) (by simp) (fun _ h => (List.not_mem_nil h).elim) ⟨1, []⟩ hfin ⟨none, 0, rfl, Nat.le_refl _, by decide, fun h => by simp at h⟩ (fun _ h => h) (fun q hq => ⟨hI.lt q hq, hI.low q hq, fun e => hI.nf (e ▸ hq), fun e => hI.nf (e ▸ hq)⟩)
    obtain ⟨EW, hEW⟩ : ∃ EW, EW = Pl.wrRoot s [] ⟨1, []⟩ := ⟨_, rfl⟩
    rw [← hEW] at PW
    have PW2 : Hid (Calls Tryz.prog 55 #[.pointer (some ⟨W.heap.size, 0, none⟩), .slice none 0 0, .agg #[.int .u64 1, .slice none 0 0]] wo fun e w' => e = .returned (.int .i64 EW.2) ∧ WrEndsN W.heap.size Bd W.heap.size d W.heap.size rp fpd (.slice none 0 0) EW.1 (Pl.Fs.writeE ⟨s.epoch, Pl.openK s dec 2, [], false⟩ s [] ⟨1, []⟩) wo w') := Lib.hid PW
    have hE2 : Hid (E = if EW.2 ≠ 0 then ((none, EW.1), EW.2) else ((some (Pl.Fs.revert ⟨s.epoch, ⟨1, []⟩, [], false⟩), EW.1), 0)) := Lib.hid (by rw [hE.out, hEW]; unfold Pl.openE; rw [if_pos hg0])
    obtain ⟨_, _, c2, _⟩ := hI.cells
    simp only at c2
    rw [hg0] at c2
    replace hEW := Lib.hid hEW
    have hrlt0 : ∀ q, rp q → q < wo.heap.size := hI.lt
    clear PW hI hall hg0
    go_upto_region 24 with (go_at_call 55; refine PW2.out.mono ?_; rintro e w4 ⟨rfl, fpd', vf', hoW, hdW, st, hnew⟩)
    have hzw := hbr.size
    have hz4 := st.keep.size
    have hkW : Keep (fun q => ¬ fpd q) W w4 := ((Keep.of_below (fp := fun q => q < W.heap.size) hbr (fun _ h _ => h)).mono (fp' := fun q => ¬ fpd q) (fun q _ hl => hl)).trans st.keep (fun q hq hl h => by
     rcases h with rfl | h | h
     ·omega
     ·exact hq h
     ·cases h)
    have hd4 : ∀ q, fpd' q → fpd q ∨ W.heap.size ≤ q := fun q hq => (hnew q hq).imp id (fun h => by omega)
    by_cases he : EW.2 = 0
    case neg =>
     have hne : (EW.2 != 0) = true := by simpa using he
     have hEE : Hid (E = ((none, EW.1), EW.2)) := Lib.hid (by rw [hE2.out, if_pos he])
     have hdWh := Lib.hid hdW
     clear hoW hdW st hnew
     go_wp2_with fail
     rw [Exit.noGoto_ret]
     go_ret2
     rw [hEE.out]
     exact ⟨fpd', hdWh.out, hd4, hkW, rfl⟩
    case pos =>
     have hup4 := Pl.wrRoot_up (s := s) (l := []) (r := ⟨1, []⟩) (by rw [← hEW.out]; exact he)
     have hep4 := Pl.wrRoot_epoch s [] ⟨1, []⟩
     rw [← hEW.out] at hup4 hep4
     have hX : Pl.Fs.writeE ⟨s.epoch, Pl.openK s dec 2, [], false⟩ s [] ⟨1, []⟩ = ⟨s.epoch, ⟨1, []⟩, [], false⟩ := by unfold Pl.Fs.writeE; rw [← hEW.out, if_pos he]
     rw [hX] at hoW
     have hEE : Hid (E = ((some (Pl.Fs.revert ⟨s.epoch, ⟨1, []⟩, [], false⟩), EW.1), 0)) := Lib.hid (by rw [hE2.out, if_neg (by rw [he]; decide)])
     have PR := Lib.hid (revert_anyN hoW hdW (by unfold Pl.Fs.dead; simp [hup4.1, hep4]) (by omega) (fun _ h => (List.not_mem_nil h).elim) (Nat.zero_le _))
     have hlow : ∀ q, rp q → W.heap.size ≤ q := hoW.low
     have hrlt : ∀ q, rp q → q < wo.heap.size := hrlt0
     rw [he]
     clear hX hoW hup4 hep4
     go_wp2_with (go_at_call 42; refine PR.out.mono ?_; rintro e w5 ⟨⟨v5, rfl⟩, fp5, hf5, st5⟩)
     rw [Exit.noGoto_ret]
     go_ret2
     rw [hEE.out]
     have hdj4 : ∀ q, fsFp W.heap.size W.heap.size rp q → ¬ fpd' q := fun q hq h => by
      rcases hnew q h with h1 | h1
      ·exact hdj q hq h1
      ·rcases hq with rfl | rfl | h2
       ·omega
       ·omega
       ·have := hrlt q h2; omega
     refine ⟨fpd', hdW.keep (st5.keep.mono (fun q hq _ h => hdj4 q h hq)), hd4, hkW.trans st5.keep (fun q _ hl h => by
      rcases h with rfl | rfl | h
      ·omega
      ·omega
      ·exact absurd (hlow q h) (by omega)), W.heap.size, fp5, rfl, hf5, fun q hq h => ?_⟩
     rcases st5.new q hq with h1 | h1
     ·exact hdj4 q h1 h
     ·have := hdW.lt q h; omega
  case pos =>
   have hdr := hd.beyond hbr
   have hkk : (0 : Int) ≤ (k : Int) := by omega
   have hkk2 : (k : Int) < 2 := by omega
   have hnx : Hid (Pl.openK s dec (k + 1) = Pl.openStep s dec (Pl.openK s dec k) k) := Lib.hid rfl
   have PR0 : Hid (∀ w : World, Below W.heap.size W w → Calls Tryz.prog 15 #[.pointer (some ⟨d, 0, none⟩), .int .i64 ((k : Int) * 16)] w fun e w' => e = .returned (.tuple #[.string (s.read (k * 16)), .int .i64 0]) ∧ w = w') := Lib.hid (fun w hb => by
    have h := read_ok (k * 16) (hd.beyond hb) hup (by rw [hlen]; omega) (by rw [hlen]; omega)
    rw [show ((k * 16 : Nat) : Int) = (k : Int) * 16 by omega] at h
    exact h)
   have PR : Hid (∀ (j : Nat) (w : World), j < 15 → Below W.heap.size W w → Calls Tryz.prog 15 #[.pointer (some ⟨d, 0, none⟩), .int .i64 ((k : Int) * 16 + ((j : Int) + 1))] w fun e w' => e = .returned (.tuple #[.string (s.read (k * 16 + (j + 1))), .int .i64 0]) ∧ w = w') := Lib.hid (fun j w hj hb => by
    have h := read_ok (k * 16 + (j + 1)) (hd.beyond hb) hup (by rw [hlen]; omega) (by rw [hlen]; omega)
    rw [show ((k * 16 + (j + 1) : Nat) : Int) = (k : Int) * 16 + ((j : Int) + 1) by omega] at h
    exact h)
   have PD := Lib.hid (hdec k hkl)
   have PB := Lib.hid (fun (w : World) (hb : Below W.heap.size W w) => blocks_any (hd.beyond hb))
   rw [hlen] at PB
   have PR1 := Lib.hid (PR0.out wo hbr)
   obtain ⟨W2, hW2⟩ : ∃ W2, W2 = wo.alloc (.cells #[.pointer none, .slice none 0 0] 89) := ⟨_, rfl⟩
   have hb2 : Below wo.heap.size wo W2 := by rw [hW2]; exact (Below.refl _ _).alloc (Nat.le_refl _) _
   have hB2 : BldF wo.heap.size (.pointer none) [] (fun k => wo.heap.size ≤ k ∧ k < W2.heap.size) W2 := by rw [hW2]; exact BldF.new wo _ ⟨Nat.le_refl _, by simp⟩
   have hz2 := hb2.size
   replace hlen := Lib.hid hlen
   clear PR0
   go_upto_region 12 with (go_at_call 15; refine PR1.out.mono ?_; rintro e w' ⟨rfl, rfl⟩)
   rw [← hW2]
   clear hW2 PR1
   go_wp2_with fail
   go_loopw [9] (fun i W' => ∃ (j : Nat) (p : Value) (fpb : Nat → Prop), j ≤ 15 ∧ i = .int .i64 ((j : Int) + 1) ∧ Hd wo.heap.size p ∧ BldF wo.heap.size p (Pl.bytesL s ((Pl.slotB k).take j)) fpb W' ∧ (∀ q, fpb q → q < W'.heap.size) ∧ (∀ q, fpb q → wo.heap.size ≤ q) ∧ Below wo.heap.size wo W') (fun i _ => 16 - (intOf i).toNat)
   case atStart => exact ⟨0, _, _, Nat.zero_le _, rfl, .inl rfl, hB2, fun _ h => h.2, fun _ h => h.1, hb2⟩
   case round =>
    obtain ⟨j, p, fpb, hj, rfl, hp, hBr, hltr, hlor, hbr1⟩ := hrel
    have hbw : Below W.heap.size W wr := hbr.trans (hbr1.mono hbr.size)
    by_cases hjl : j < 15
    case pos =>
     have hj1 : (j : Int) + 1 < 16 := by omega
     have PRj := Lib.hid (PR.out j wr hjl hbw)
     have hsn := Lib.hid (show Pl.bytesL s ((Pl.slotB k).take (j + 1)) = Pl.bytesL s ((Pl.slotB k).take j) ++ (s.read (k * 16 + (j + 1))).data.toList by rw [Pl.slotB_succ hjl, Pl.bytesL_snoc]; rfl)
     have hdw := hd.beyond hbw
     have hLn : (Pl.bytesL s ((Pl.slotB k).take j)).length ≤ 4096 := by
      rw [Pl.bytesL_length hdw.wf _ (fun q hq => by
       have h1 := List.mem_of_mem_take hq
       unfold Pl.slotB at h1
       obtain ⟨i, hi, rfl⟩ := List.mem_map.1 h1
       have := List.mem_range.1 hi
       rw [hlen.out]
       omega), List.length_take]
      omega
     have hrs := hdw.wf.read (i := k * 16 + (j + 1)) (by rw [hlen.out]; omega)
     generalize Pl.bytesL s ((Pl.slotB k).take j) = BL at *
     generalize s.read (k * 16 + (j + 1)) = RB at *
     have PW := Lib.hid (writeStringF wo.heap.size p BL RB fpb wr hBr hltr hp (by omega))
     have hlo5 := Lib.hid hlor
     clear hlor hdw hLn hBr hp hltr hrs
     go_wp2_with (first
      | (go_at_call 15; refine PRj.out.mono ?_; rintro e w' ⟨rfl, rfl⟩)
      | (go_at_call 50; refine PW.out.mono ?_; rintro e w5 ⟨rfl, ⟨fp5, hB5, st5, hmo5⟩, hb5⟩))
     go_roundw
     case rel => exact ⟨j + 1, _, fp5, by omega, by go_num, .inr rfl, by rw [hsn.out]; exact hB5, st5.lt, fun q hq => by
      rcases st5.new q hq with h | h
      ·exact hlo5.out q h
      ·have := hbr1.size; omega, hbr1.trans hb5⟩
     case measure => simp [intOf]; omega
    case neg =>
     obtain rfl : j = 15 := by omega
     have PT := Lib.hid (textF wo.heap.size p (Pl.bytesL s ((Pl.slotB k).take 15)) fpb wr hBr)
     rw [List.take_of_length_le (by rw [Pl.slotB_length]; omega)] at PT
     have hse : (⟨(Pl.bytesL s (Pl.slotB k)).toArray⟩ : ByteArray) = Pl.slotS s k := rfl
     rw [hse] at PT
     clear hse hBr hp hltr hlor
     go_upto_region 19 with (first
      | (go_at_call 52; refine PT.out.mono ?_; rintro e w6 ⟨rfl, b6, -⟩; have hb6 := hbw.trans (b6.mono hbr.size); have PB6 := Lib.hid (PB.out w6 hb6))
      | (go_at_call 53; refine PB6.out.mono ?_; rintro e w' ⟨rfl, rfl⟩)
      | (go_at_call 51; refine (PD.out w6).mono ?_; rintro e w7 ⟨b7, gg, va, vn, vc, ee, rfl, hno, hsome⟩))
     have hT := Blk.new w7 #[.int .u64 gg, .slice va vn vc] 71
     have hz6 := (hbr1.trans b6).size
     have hb8 : Below wo.heap.size wo (w7.alloc (.cells #[.int .u64 gg, .slice va vn vc] 71)) := ((hbr1.trans b6).trans (b7.mono hz6)).alloc (Nat.le_trans hz6 b7.size) _
     have hz7 := b7.size
     have hz8 : (w7.alloc (.cells #[.int .u64 gg, .slice va vn vc] 71)).heap.size = w7.heap.size + 1 := by simp
     have hk78 : Keep (fun q => q < w7.heap.size) w7 (w7.alloc (.cells #[.int .u64 gg, .slice va vn vc] 71)) := Keep.of_below ((Below.refl _ _).alloc (Nat.le_refl _) _) (fun _ h _ => h)
     generalize w7.alloc (.cells #[.int .u64 gg, .slice va vn vc] 71) = w8 at hT hb8 hz8 hk78 ⊢
     have hI8 := hI.beyond hb8
     have hbw8 : Below W.heap.size W w8 := hbr.trans (hb8.mono hbr.size)
     have hmk : Hid (((k : Int) + 1) = ((k + 1 : Nat) : Int)) := Lib.hid (by omega)
     have t0 : w8.cell? ⟨w7.heap.size, 0, none⟩ = some (.int .u64 gg) := by simp [hT.cell]
     have t1 : w8.cell? ⟨w7.heap.size, 1, none⟩ = some (.slice va vn vc) := by simp [hT.cell]
     have q2 : w8.cell? ⟨W.heap.size, 2, none⟩ = some (.int .u64 ((Pl.openK s dec k).gen : Int)) := by simp [hI8.blk.cell]
     cases hdk : dec k with
     | none =>
      have hne := hno hdk
      have hne2 : (ee != 0) = true := by simpa using hne
      have hst : Hid (Pl.openK s dec (k + 1) = Pl.openK s dec k) := Lib.hid (by rw [hnx.out]; unfold Pl.openStep; rw [hdk])
      clear hsome hno b6 b7 PD PB PR hT hbr1 hdr hne
      go_region
      go_wp2_with fail
      have hb9 := hb8.drew
      refine ⟨⟨k + 1, vf, rp, by omega, by rw [Int.natCast_add]; rfl, by rw [hst.out]; exact hI.beyond hb9, hbr.trans (hb9.mono hbr.size), by have := hb9.size; omega⟩, by simp [intOf]; omega⟩
     | some r =>
      obtain ⟨rfl, rfl, fl, hfo, hfl⟩ := hsome r hdk
      obtain ⟨_, _, hgm⟩ := hok k r hdk
      have hmod : ((r.gen : Int) % 2) = ((r.gen % 2 : Nat) : Int) := by omega
      clear hsome hno PD PB PR hbr1 hdr b6
      by_cases h1 : r.gen % 2 = k
      case neg =>
       have hst : Hid (Pl.openK s dec (k + 1) = Pl.openK s dec k) := Lib.hid (by rw [hnx.out]; unfold Pl.openStep; rw [hdk]; exact if_pos (.inl h1))
       have h1i : ((r.gen : Int) % 2 != (k : Int)) = true := by simp; omega
       have h1j : ¬ ((r.gen : Int) % 2 = (k : Int)) := by omega
       replace hmod := Lib.hid hmod
       clear hfo hfl hT
       go_region
       go_wp2_with fail
       have hb9 := hb8.drew
       refine ⟨⟨k + 1, vf, rp, by omega, by rw [Int.natCast_add]; rfl, by rw [hst.out]; exact hI.beyond hb9, hbr.trans (hb9.mono hbr.size), by have := hb9.size; omega⟩, by simp [intOf]; omega⟩
      case pos =>
       have h1i : ((r.gen : Int) % 2 != (k : Int)) = false := by simp; omega
       have h1j : (r.gen : Int) % 2 = (k : Int) := by omega
       have htm : IntKind.i64.wrap ((r.gen : Int).tmod 2) = (k : Int) := by
        have hk01 : k = 0 ∨ k = 1 := by omega
        rw [Int.tmod_eq_emod_of_nonneg (by omega), h1j]
        rcases hk01 with rfl | rfl <;> decide
       have htn : (IntKind.i64.wrap ((r.gen : Int).tmod 2) != (k : Int)) = false := by rw [htm]; simp
       have PH := Lib.hid (fun (w : World) => head_any r.gen (by omega) w)
       replace hmod := Lib.hid hmod
       by_cases h2 : s.read (k * 16) = Pl.headB r.gen
       case neg =>
        have hst : Hid (Pl.openK s dec (k + 1) = Pl.openK s dec k) := Lib.hid (by rw [hnx.out]; unfold Pl.openStep; rw [hdk]; exact if_pos (.inr (.inl h2)))
        obtain ⟨h2a, h2b⟩ := toList_bne h2
        replace h2 := Lib.hid h2
        clear hfo hfl hT
        generalize s.read (k * 16) = SR at *
        generalize Pl.headB r.gen = HB at *
        have h2c : ¬ SR.toList = HB.toList := by simpa using h2a
        have hbd := (Below.refl w8.heap.size w8).drew
        have PH1 := Lib.hid (PH.out w8.drew)
        have hcl := Lib.hid (fun (w : World) (hb : Below w8.heap.size w8 w) => (⟨(hb.cell (p := ⟨w7.heap.size, 0, none⟩) (by show w7.heap.size < _; omega)).trans t0, (hb.cell (p := ⟨W.heap.size, 2, none⟩) (by show W.heap.size < _; omega)).trans q2⟩ : w.cell? ⟨w7.heap.size, 0, none⟩ = some (.int .u64 (r.gen : Int)) ∧ w.cell? ⟨W.heap.size, 2, none⟩ = some (.int .u64 ((Pl.openK s dec k).gen : Int))))
        refine wp_region_held_drew (S := fun W' => W'.cell? ⟨w7.heap.size, 0, none⟩ = some (.int .u64 (r.gen : Int)) ∧ W'.cell? ⟨W.heap.size, 2, none⟩ = some (.int .u64 ((Pl.openK s dec k).gen : Int))) (by kernel_rfl) ⟨t0, q2⟩ (fun hHeld => ?_)
        refine wpAnyH_take (i := 0) (v := ?_) rfl (by kernel_rfl) (by kernel_rfl) (by kernel_rfl) (fun _ _ _ h => h) (Or.inl ⟨by rfl, ?_⟩) (by assumption) ?_
        rotate_left 1
        ·intro w hSw
         try dsimp only at hSw
         obtain ⟨hs1, hs2⟩ := hSw
         go_simp
         try with_reducible rfl
        try simp only [Act.put, List.getElem_toArray, List.getElem_cons_zero, List.getElem_cons_succ, List.setIfInBounds_toArray, List.set_cons_zero, List.set_cons_succ]
        refine wpAnyH_take (i := 1) (v := ?_) rfl (by kernel_rfl) (by kernel_rfl) (by kernel_rfl) (fun _ _ _ h => h) (Or.inl ⟨by rfl, ?_⟩) (by assumption) ?_
        rotate_left 1
        ·intro w hSw
         try dsimp only at hSw
         obtain ⟨hs1, hs2⟩ := hSw
         go_simp
         try with_reducible rfl
        try simp only [Act.put, List.getElem_toArray, List.getElem_cons_zero, List.getElem_cons_succ, List.setIfInBounds_toArray, List.set_cons_zero, List.set_cons_succ]
        refine wpAnyH_take (i := 2) (v := ?_) rfl (by kernel_rfl) (by kernel_rfl) (by kernel_rfl) (fun _ _ _ h => h) (Or.inl ⟨by rfl, ?_⟩) (by assumption) ?_
        rotate_left 1
        ·intro w hSw
         try dsimp only at hSw
         obtain ⟨hs1, hs2⟩ := hSw
         go_simp
         try with_reducible rfl
        try simp only [Act.put, List.getElem_toArray, List.getElem_cons_zero, List.getElem_cons_succ, List.setIfInBounds_toArray, List.set_cons_zero, List.set_cons_succ]
        refine wpAnyH_take (i := 3) (v := ?_) rfl (by kernel_rfl) (by kernel_rfl) (by kernel_rfl) (fun _ _ _ h => h) (Or.inl ⟨by rfl, ?_⟩) (by assumption) ?_
        rotate_left 1
        ·intro w hSw
         try dsimp only at hSw
         obtain ⟨hs1, hs2⟩ := hSw
         go_simp
         try with_reducible rfl
        try simp only [Act.put, List.getElem_toArray, List.getElem_cons_zero, List.getElem_cons_succ, List.setIfInBounds_toArray, List.set_cons_zero, List.set_cons_succ]
        refine wpAnyH_take (i := 4) (v := ?_) rfl (by kernel_rfl) (by kernel_rfl) (by kernel_rfl) (fun _ _ _ h => h) (Or.inl ⟨by rfl, ?_⟩) (by assumption) ?_
        rotate_left 1
        ·intro w hSw
         try dsimp only at hSw
         obtain ⟨hs1, hs2⟩ := hSw
         go_simp
         try with_reducible rfl
        try simp only [Act.put, List.getElem_toArray, List.getElem_cons_zero, List.getElem_cons_succ, List.setIfInBounds_toArray, List.set_cons_zero, List.set_cons_succ]
        refine wpAnyH_take (i := 5) (v := ?_) rfl (by kernel_rfl) (by kernel_rfl) (by kernel_rfl) (fun _ _ _ h => h) (Or.inl ⟨by rfl, ?_⟩) (by assumption) ?_
        rotate_left 1
        ·intro w hSw
         try dsimp only at hSw
         obtain ⟨hs1, hs2⟩ := hSw
         go_simp
         try with_reducible rfl
        try simp only [Act.put, List.getElem_toArray, List.getElem_cons_zero, List.getElem_cons_succ, List.setIfInBounds_toArray, List.set_cons_zero, List.set_cons_succ]
        refine wpAnyH_take (i := 6) (v := ?_) rfl (by kernel_rfl) (by kernel_rfl) (by kernel_rfl) (fun _ _ _ h => h) (Or.inl ⟨by rfl, ?_⟩) (by assumption) ?_
        rotate_left 1
        ·intro w hSw
         try dsimp only at hSw
         obtain ⟨hs1, hs2⟩ := hSw
         go_simp
         try with_reducible rfl
        try simp only [Act.put, List.getElem_toArray, List.getElem_cons_zero, List.getElem_cons_succ, List.setIfInBounds_toArray, List.set_cons_zero, List.set_cons_succ]
        refine wpAnyH_take (i := 7) (v := ?_) rfl (by kernel_rfl) (by kernel_rfl) (by kernel_rfl) (fun _ _ _ h => h) (Or.inl ⟨by rfl, ?_⟩) (by assumption) ?_
        rotate_left 1
        ·intro w hSw
         try dsimp only at hSw
         obtain ⟨hs1, hs2⟩ := hSw
         go_simp
         try with_reducible rfl
        try simp only [Act.put, List.getElem_toArray, List.getElem_cons_zero, List.getElem_cons_succ, List.setIfInBounds_toArray, List.set_cons_zero, List.set_cons_succ]
        refine wpAnyH_take (i := 8) (v := ?_) rfl (by kernel_rfl) (by kernel_rfl) (by kernel_rfl) (fun _ _ _ h => h) (Or.inl ⟨by rfl, ?_⟩) (by assumption) ?_
        rotate_left 1
        ·intro w hSw
         try dsimp only at hSw
         obtain ⟨hs1, hs2⟩ := hSw
         go_simp
         try with_reducible rfl
        try simp only [Act.put, List.getElem_toArray, List.getElem_cons_zero, List.getElem_cons_succ, List.setIfInBounds_toArray, List.set_cons_zero, List.set_cons_succ]
        refine wpAnyH_take (i := 9) (v := ?_) rfl (by kernel_rfl) (by kernel_rfl) (by kernel_rfl) (fun _ _ _ h => h) (Or.inl ⟨by rfl, ?_⟩) (by assumption) ?_
        rotate_left 1
        ·intro w hSw
         try dsimp only at hSw
         obtain ⟨hs1, hs2⟩ := hSw
         go_simp
         try with_reducible rfl
        try simp only [Act.put, List.getElem_toArray, List.getElem_cons_zero, List.getElem_cons_succ, List.setIfInBounds_toArray, List.set_cons_zero, List.set_cons_succ]
        refine wpAnyH_take (i := 10) (v := ?_) rfl (by kernel_rfl) (by kernel_rfl) (by kernel_rfl) (fun _ _ _ h => h) (Or.inl ⟨by rfl, ?_⟩) (by assumption) ?_
        rotate_left 1
        ·intro w hSw
         try dsimp only at hSw
         obtain ⟨hs1, hs2⟩ := hSw
         go_simp
         try with_reducible rfl
        try simp only [Act.put, List.getElem_toArray, List.getElem_cons_zero, List.getElem_cons_succ, List.setIfInBounds_toArray, List.set_cons_zero, List.set_cons_succ]
        refine wpAnyH_take (i := 11) (v := ?_) rfl (by kernel_rfl) (by kernel_rfl) (by kernel_rfl) (fun _ _ _ h => h) (Or.inl ⟨by rfl, ?_⟩) (by assumption) ?_
        rotate_left 1
        ·intro w hSw
         try dsimp only at hSw
         obtain ⟨hs1, hs2⟩ := hSw
         go_simp
         try with_reducible rfl
        try simp only [Act.put, List.getElem_toArray, List.getElem_cons_zero, List.getElem_cons_succ, List.setIfInBounds_toArray, List.set_cons_zero, List.set_cons_succ]
        refine wpAnyH_take (i := 12) (v := ?_) rfl (by kernel_rfl) (by kernel_rfl) (by kernel_rfl) (fun _ _ _ h => h) (Or.inl ⟨by rfl, ?_⟩) (by assumption) ?_
        rotate_left 1
        ·intro w hSw
         try dsimp only at hSw
         obtain ⟨hs1, hs2⟩ := hSw
         go_simp
         try with_reducible rfl
        try simp only [Act.put, List.getElem_toArray, List.getElem_cons_zero, List.getElem_cons_succ, List.setIfInBounds_toArray, List.set_cons_zero, List.set_cons_succ]
        refine wpAnyH_take (i := 13) (v := ?_) rfl (by kernel_rfl) (by kernel_rfl) (by kernel_rfl) (fun _ _ _ h => h) (Or.inl ⟨by rfl, ?_⟩) (by assumption) ?_
        rotate_left 1
        ·intro w hSw
         try dsimp only at hSw
         obtain ⟨hs1, hs2⟩ := hSw
         go_simp
         try with_reducible rfl
        try simp only [Act.put, List.getElem_toArray, List.getElem_cons_zero, List.getElem_cons_succ, List.setIfInBounds_toArray, List.set_cons_zero, List.set_cons_succ]
        refine wpAnyH_ready (rs := [14]) (by kernel_rfl) (by simp) ?_
        refine AllReadyH.cons rfl (fun K hK => ?_) AllReadyH.nil
        go_simp
        go_at_call 54
        refine PH1.out.mono ?_
        rintro e w9 ⟨rfl, b9⟩
        have bA := hbd.trans (b9.mono hbd.size)
        refine hK.out _ _ (hcl.out w9 bA) (fun hHeld2 => ?_)
        clear hK K
        try simp only [Act.put, List.getElem_toArray, List.getElem_cons_zero, List.getElem_cons_succ, List.setIfInBounds_toArray, List.set_cons_zero, List.set_cons_succ]
        refine wpAnyH_take (i := 15) (v := ?_) rfl (by kernel_rfl) (by kernel_rfl) (by kernel_rfl) (fun _ _ _ h => h) (Or.inl ⟨by rfl, ?_⟩) (by assumption) ?_
        rotate_left 1
        ·intro w hSw
         try dsimp only at hSw
         obtain ⟨hs1, hs2⟩ := hSw
         go_simp
         try with_reducible rfl
        try simp only [Act.put, List.getElem_toArray, List.getElem_cons_zero, List.getElem_cons_succ, List.setIfInBounds_toArray, List.set_cons_zero, List.set_cons_succ]
        refine wpAnyH_take (i := 16) (v := ?_) rfl (by kernel_rfl) (by kernel_rfl) (by kernel_rfl) (fun _ _ _ h => h) (Or.inl ⟨by rfl, ?_⟩) (by assumption) ?_
        rotate_left 1
        ·intro w hSw
         try dsimp only at hSw
         obtain ⟨hs1, hs2⟩ := hSw
         go_simp
         try with_reducible rfl
        try simp only [Act.put, List.getElem_toArray, List.getElem_cons_zero, List.getElem_cons_succ, List.setIfInBounds_toArray, List.set_cons_zero, List.set_cons_succ]
        refine wpAnyH_take (i := 17) (v := ?_) rfl (by kernel_rfl) (by kernel_rfl) (by kernel_rfl) (fun _ _ _ h => h) (Or.inl ⟨by rfl, ?_⟩) (by assumption) ?_
        rotate_left 1
        ·intro w hSw
         try dsimp only at hSw
         obtain ⟨hs1, hs2⟩ := hSw
         go_simp
         try with_reducible rfl
        try simp only [Act.put, List.getElem_toArray, List.getElem_cons_zero, List.getElem_cons_succ, List.setIfInBounds_toArray, List.set_cons_zero, List.set_cons_succ]
        refine wpAnyH_take (i := 18) (v := undef) rfl (by kernel_rfl) (by kernel_rfl) (by kernel_rfl) (fun _ _ _ h => h) (Or.inr ⟨by rfl, rfl⟩) (by assumption) ?_
        try simp only [Act.put, List.getElem_toArray, List.getElem_cons_zero, List.getElem_cons_succ, List.setIfInBounds_toArray, List.set_cons_zero, List.set_cons_succ]
        refine wpAnyH_take (i := 19) (v := undef) rfl (by kernel_rfl) (by kernel_rfl) (by kernel_rfl) (fun _ _ _ h => h) (Or.inr ⟨by rfl, rfl⟩) (by assumption) ?_
        try simp only [Act.put, List.getElem_toArray, List.getElem_cons_zero, List.getElem_cons_succ, List.setIfInBounds_toArray, List.set_cons_zero, List.set_cons_succ]
        refine wpAnyH_take (i := 20) (v := undef) rfl (by kernel_rfl) (by kernel_rfl) (by kernel_rfl) (fun _ _ _ h => h) (Or.inr ⟨by rfl, rfl⟩) (by assumption) ?_
        try simp only [Act.put, List.getElem_toArray, List.getElem_cons_zero, List.getElem_cons_succ, List.setIfInBounds_toArray, List.set_cons_zero, List.set_cons_succ]
        refine wpAnyH_take (i := 21) (v := undef) rfl (by kernel_rfl) (by kernel_rfl) (by kernel_rfl) (fun _ _ _ h => h) (Or.inr ⟨by rfl, rfl⟩) (by assumption) ?_
        try simp only [Act.put, List.getElem_toArray, List.getElem_cons_zero, List.getElem_cons_succ, List.setIfInBounds_toArray, List.set_cons_zero, List.set_cons_succ]
        refine wpAnyH_take (i := 22) (v := undef) rfl (by kernel_rfl) (by kernel_rfl) (by kernel_rfl) (fun _ _ _ h => h) (Or.inr ⟨by rfl, rfl⟩) (by assumption) ?_
        try simp only [Act.put, List.getElem_toArray, List.getElem_cons_zero, List.getElem_cons_succ, List.setIfInBounds_toArray, List.set_cons_zero, List.set_cons_succ]
        refine wpAnyH_take (i := 23) (v := undef) rfl (by kernel_rfl) (by kernel_rfl) (by kernel_rfl) (fun _ _ _ h => h) (Or.inr ⟨by rfl, rfl⟩) (by assumption) ?_
        try simp only [Act.put, List.getElem_toArray, List.getElem_cons_zero, List.getElem_cons_succ, List.setIfInBounds_toArray, List.set_cons_zero, List.set_cons_succ]
        refine wpAnyH_take (i := 24) (v := undef) rfl (by kernel_rfl) (by kernel_rfl) (by kernel_rfl) (fun _ _ _ h => h) (Or.inr ⟨by rfl, rfl⟩) (by assumption) ?_
        try simp only [Act.put, List.getElem_toArray, List.getElem_cons_zero, List.getElem_cons_succ, List.setIfInBounds_toArray, List.set_cons_zero, List.set_cons_succ]
        refine wpAnyH_take (i := 25) (v := undef) rfl (by kernel_rfl) (by kernel_rfl) (by kernel_rfl) (fun _ _ _ h => h) (Or.inr ⟨by rfl, rfl⟩) (by assumption) ?_
        try simp only [Act.put, List.getElem_toArray, List.getElem_cons_zero, List.getElem_cons_succ, List.setIfInBounds_toArray, List.set_cons_zero, List.set_cons_succ]
        refine wpAnyH_take (i := 26) (v := ?_) rfl (by kernel_rfl) (by kernel_rfl) (by kernel_rfl) (fun _ _ _ h => h) (Or.inl ⟨by rfl, ?_⟩) (by assumption) ?_
        rotate_left 1
        ·intro w hSw
         try dsimp only at hSw
         obtain ⟨hs1, hs2⟩ := hSw
         go_simp
         try with_reducible rfl
        try simp only [Act.put, List.getElem_toArray, List.getElem_cons_zero, List.getElem_cons_succ, List.setIfInBounds_toArray, List.set_cons_zero, List.set_cons_succ]
        refine wpAnyH_done (by kernel_rfl) ?_ _
        go_wp2_with fail
        have hb9 := hb8.trans (bA.mono hb8.size)
        refine ⟨⟨k + 1, vf, rp, by omega, by rw [Int.natCast_add]; rfl, by rw [hst.out]; exact hI.beyond hb9, hbr.trans (hb9.mono hbr.size), by have := hb9.size; omega⟩, by simp [intOf]; omega⟩
       case pos =>
        have h2a : (( s.read (k * 16)).toList == (Pl.headB r.gen).toList) = true := by rw [h2]; simp
        have h2b : (( s.read (k * 16)).toList != (Pl.headB r.gen).toList) = false := by rw [h2]; simp
        have hbd := (Below.refl w8.heap.size w8).drew
        have PH1 := Lib.hid (PH.out w8.drew)
        have hcl := Lib.hid (fun (w : World) (hb : Below w8.heap.size w8 w) => (⟨(hb.cell (p := ⟨w7.heap.size, 0, none⟩) (by show w7.heap.size < _; omega)).trans t0, (hb.cell (p := ⟨W.heap.size, 2, none⟩) (by show W.heap.size < _; omega)).trans q2⟩ : w.cell? ⟨w7.heap.size, 0, none⟩ = some (.int .u64 (r.gen : Int)) ∧ w.cell? ⟨W.heap.size, 2, none⟩ = some (.int .u64 ((Pl.openK s dec k).gen : Int))))
        have hlen3 : r.gen < (Pl.openK s dec k).gen ∨ ¬ r.gen < (Pl.openK s dec k).gen := Decidable.em _
        replace hfo := Lib.hid hfo
        replace hfl := Lib.hid hfl
        generalize hGK : (Pl.openK s dec k).gen = GK at *
        replace hGK := Lib.hid hGK
        by_cases h3 : r.gen < GK
        case pos =>
         have hst : Hid (Pl.openK s dec (k + 1) = Pl.openK s dec k) := Lib.hid (by rw [hnx.out]; unfold Pl.openStep; rw [hdk]; exact if_pos (.inr (.inr (by rw [hGK.out]; exact h3))))
         have h3i : (r.gen : Int) < (GK : Int) := by omega
         replace h2 := Lib.hid h2
         generalize s.read (k * 16) = SR at *
         generalize Pl.headB r.gen = HB at *
         have h2c : SR.toList = HB.toList := by simpa using h2a
         clear h2c hT hlen3
         go_region_held3 (fun W' => W'.cell? ⟨w7.heap.size, 0, none⟩ = some (.int .u64 (r.gen : Int)) ∧ W'.cell? ⟨W.heap.size, 2, none⟩ = some (.int .u64 (GK : Int))) (first | exact kA | exact ⟨t0, q2⟩ | go_keep)
          (first
          | (go_at_call 54; refine PH1.out.mono ?_; rintro e w9 ⟨rfl, b9⟩; have bA := hbd.trans (b9.mono hbd.size); have kA := hcl.out w9 bA))
         go_wp2_with fail
         have hb9 := hb8.trans (bA.mono hb8.size)
         refine ⟨⟨k + 1, vf, rp, by omega, by rw [Int.natCast_add]; rfl, by rw [hst.out]; exact hI.beyond hb9, hbr.trans (hb9.mono hbr.size), by have := hb9.size; omega⟩, by simp [intOf]; omega⟩
        case neg =>
         have hst : Hid (Pl.openK s dec (k + 1) = r) := Lib.hid (by
          rw [hnx.out]
          unfold Pl.openStep
          rw [hdk]
          refine if_neg ?_
          rintro (h | h | h)
          ·exact h h1
          ·exact h h2
          ·rw [hGK.out] at h; exact h3 h)
         have h3i : ¬ (r.gen : Int) < (GK : Int) := by omega
         replace h2 := Lib.hid h2
         generalize s.read (k * 16) = SR at *
         generalize Pl.headB r.gen = HB at *
         clear hlen3
         go_region_held3 (fun W' => W'.cell? ⟨w7.heap.size, 0, none⟩ = some (.int .u64 (r.gen : Int)) ∧ W'.cell? ⟨W.heap.size, 2, none⟩ = some (.int .u64 (GK : Int))) (first | exact kA | exact ⟨t0, q2⟩ | go_keep)
          (first
          | (go_at_call 54; refine PH1.out.mono ?_; rintro e w9 ⟨rfl, b9⟩; have bA := hbd.trans (b9.mono hbd.size); have kA := hcl.out w9 bA))
         have hk9 : Keep (fun q => q < w8.heap.size) w8 w9 := Keep.of_below bA (fun _ h _ => h)
         have hI9 := hI8.beyond bA
         have hT9 := hT.keep hk9 hT.lt
         have hb9 := hb8.trans (bA.mono hb8.size)
         have hbw9 : Below W.heap.size W w9 := hbr.trans (hb9.mono hbr.size)
         have hz9 := bA.size
         have hzo := hb6.size
         have hIw := hI9.wide (rp2 := fun q => rp q ∨ (w6.heap.size ≤ q ∧ q < w7.heap.size)) (fun q h => .inl h) (fun q hq => by
          rcases hq with h | h
          ·exact ⟨hI9.lt q h, hI9.low q h, fun e => hI9.nf (e ▸ h), fun e => hI9.nf (e ▸ h)⟩
          ·exact ⟨by omega, by omega, by omega, by omega⟩)
         have hfF : FilesF (fun q => rp q ∨ (w6.heap.size ≤ q ∧ q < w7.heap.size)) w9 (.slice va vn vc) r.files := by
          have h7 := FilesF.of_row (rp2 := fun q => rp q ∨ (w6.heap.size ≤ q ∧ q < w7.heap.size)) (fz := fun q => w6.heap.size ≤ q ∧ q < w7.heap.size) hfo.out.1 (fun y hy => ⟨IOwn.at (hfo.out.2 y hy), fun _ q e => World.ownsRow.lt (hfo.out.2 y hy) q e⟩) (fun q h => .inr h) (fun q e => .inr (hfo.out.1.lt q e))
          rw [hfl.out] at h7
          refine h7.keep ((hk78.mono (fun q hq _ => ?_)).trans hk9 (fun q hq hl => ?_)) (fun _ h => h)
          ·rcases hq with h | h
           ·have := hI.lt q h; omega
           ·exact h.2
          ·rcases hq with h | h
           ·have := hI.lt q h; omega
           ·omega
         obtain ⟨hIS, hStS⟩ := hIw.setSafe hfF
         have x0 : w9.cell? ⟨w7.heap.size, 0, none⟩ = some (.int .u64 (r.gen : Int)) := by simp [hT9.cell]
         have x1 : w9.cell? ⟨w7.heap.size, 1, none⟩ = some (.slice va vn vc) := by simp [hT9.cell]
         obtain ⟨_, _, c2, c3, _⟩ := hI9.cells
         have f2 := hI9.blk.frozen 2
         have f3 := hI9.blk.frozen 3
         have hbS := (hbw9.setCell (p := ⟨W.heap.size, 2, none⟩) (Nat.le_refl _) (.int .u64 (r.gen : Int))).setCell (p := ⟨W.heap.size, 3, none⟩) (Nat.le_refl _) (.slice va vn vc)
         have hSz : W.heap.size < ((w9.setCell ⟨W.heap.size, 2, none⟩ (.int .u64 (r.gen : Int))).setCell ⟨W.heap.size, 3, none⟩ (.slice va vn vc)).heap.size := by simp [World.setCell]; omega
         have hend := Lib.hid (And.intro hIS (And.intro hbS hSz))
         clear hIS hStS hbS hSz hfF hIw hT9 hk9
         go_wp2_with fail
         obtain ⟨e1, e2, e3⟩ := hend.out
         refine ⟨⟨k + 1, _, _, by omega, by rw [Int.natCast_add]; rfl, by rw [hst.out]; exact e1, e2, e3⟩, by simp [intOf]; omega⟩
end
end Go.Proofs.YtogblcdefbnbeaaGreat
