
/- Walk: the document's DecodeRoot, on whatever bytes. Condition: lengths that memory lets. -/
import Derived.Test.YtogblcdefbnbeaaGreatQPd
import Derived.Test.YtogblcdefbnbeaaGreatQHb
import Derived.Test.YtogblcdefbnbeaaGreatQGo
set_option maxRecDepth 100000
namespace Go.Proofs.YtogblcdefbnbeaaGreat
section
open Go.RowKit
variable {D R B0 B1 : Nat} {gen : Int} {W X0 X X' w1 : World} {v : Value} {bl : List Int} {fl : List (Pl.FileP × Value)} {o o' : Option (List UInt8)} {l : List UInt8}
theorem dU (most : Nat) (R : Nat) (o : Option (List UInt8)) (w : World) {a : Nat} {oa : Option (List UInt8)} (hp : (a, oa) = Pl.dUint most o) (h : RdA w R o) (hm : most ≤ 4611686018427387904) {mi : Int} (hmi : mi = (most : Int)) :
  Calls Tryz.prog 88 #[.pointer (some ⟨R, 0, none⟩), .int .u64 mi] w fun e w' => e = .returned (.int .u64 (a : Int)) ∧ RdA w' R oa ∧ Keep (fun q => q ≠ R) w w' := by
 subst hmi
 have h0 := duint_any R most o w h hm
 rw [← hp] at h0
 exact h0
theorem dT (R : Nat) (o : Option (List UInt8)) (w : World) {a : ByteArray} {oa : Option (List UInt8)} (hp : (a, oa) = Pl.dText o) (h : RdA w R o) :
  Calls Tryz.prog 89 #[.pointer (some ⟨R, 0, none⟩), .int .i64 32] w fun e w' => e = .returned (.string a) ∧ RdA w' R oa ∧ Keep (fun q => q ≠ R) w w' := by
 have h0 := dtext_any R o w h
 rw [← hp] at h0
 exact h0
structure DcL (D R : Nat) (X0 : World) (v : Value) (bl : List Int) (o : Option (List UInt8)) (X : World) : Prop where
 own : IOwn X D v bl
 rd : RdA X R o
 keep : Keep (fun q => q < D ∧ q ≠ R) X0 X
theorem DcL.call (h : DcL D R X0 v bl o X) (hR : R < D) (hk : Keep (fun q => q ≠ R) X X') (hr : RdA X' R o') : DcL D R X0 v bl o' X' :=
 ⟨hk.ownsRow h.own (fun q e => by have := (World.ownsRow.lt h.own q e).1; omega), hr, h.keep.trans hk (fun q hq _ => hq.2)⟩
theorem DcL.app (h : DcL D R X0 v bl (some l) X) (hR : R < D) {b : Int} {tmp : Obj} {g cap : Nat}
  (hown : w1.ownsRow D 3 1 (.slice (some ⟨g, 0, none⟩) (bl.length + 1) cap) (bl.length + 1) (icells4 bl ++ (#[.int .i64 b] : Array Value).toList)) (hgrow : (X.alloc tmp).grownBy w1 v.ownBlock) :
  ∃ S, Blk w1 R #[.string S, .bool false] 144 ∧ ∀ t : Bool, DcL D R X0 (.slice (some ⟨g, 0, none⟩) (bl.length + 1) cap) (bl ++ [b]) (if t then none else some l) (w1.setCell ⟨R, 1, none⟩ (.bool t)) := by
 have kg : Keep (fun q => v.ownBlock ≠ some q) X w1 := keep_app hgrow
 obtain ⟨S, hb, hs, hl⟩ := h.rd
 have b1 : Blk w1 R #[.string S, .bool false] 144 := hb.keep kg (fun e => by have := (World.ownsRow.lt h.own R e).1; omega)
 refine ⟨S, b1, fun t => ?_⟩
 have k := keep_set w1 R 1 (.bool t)
 have b2 := b1.set 1 (.bool t)
 refine ⟨?_, ⟨S, ?_, hs, ?_⟩, h.keep.trans (((kg.mono (fp' := fun q => q ≠ R ∧ v.ownBlock ≠ some q) (fun q hq _ => hq.2)).trans k (fun q hq _ => hq.1)).mono (fp' := fun q => q < D ∧ q ≠ R) (fun q hq _ => ⟨hq.2, fun e => by have := (World.ownsRow.lt h.own q e).1; omega⟩)) (fun q hq _ => hq)⟩
 ·have := k.ownsRow hown (fun q e => by have := (World.ownsRow.lt hown q e).1; omega)
  unfold IOwn
  rw [icells4_snoc] at this
  rw [List.length_append, List.length_singleton]
  exact this
 ·cases t
  ·exact b2
  ·exact b2
 ·cases t
  ·exact hl
  ·exact fun l h => by cases h
theorem RoI.beside {v : Value} (h : RoI W B0 B1 gen v fl X) (hk : Keep (fun q => q ≠ R) X X') (h0 : W.heap.size ≤ R) (h1 : B0 ≠ R) (h2 : R < B1) : RoI W B0 B1 gen v fl X' :=
 ⟨h.res.keep hk h1, h.out.keep hk (by omega), h.own.keep hk (fun q hq _ => by omega), hk.below h.low (Nat.le_refl _) (fun k h => by omega)⟩
theorem RoI.beyond {v : Value} (h : RoI W B0 B1 gen v fl X) (hk : Keep (fun q => q < X.heap.size ∧ q ≠ R) X X') (h0 : W.heap.size ≤ R) (h1 : B0 ≠ R) (h2 : R < B1) : RoI W B0 B1 gen v fl X' :=
 ⟨h.res.keep hk ⟨h.res.lt, h1⟩, h.out.keep hk ⟨h.out.lt, by omega⟩, h.own.keep hk (fun q hq hl => ⟨hl, by omega⟩), hk.below h.low (Nat.le_refl _) (fun k hk => by have := h.low.size; omega)⟩
theorem results_rdec {fn : Func} (h : fn.results = #[.cell 4 71, .tmp 5]) {tmps : Array Value} {b : Nat} {g n : Int} {v : Value} {w : World} (h4 : tmps.getD 4 undef = .pointer (some ⟨b, 0, none⟩)) (h5 : tmps.getD 5 undef = .int .i64 n)
  (hb : Blk w b #[.int .u64 g, v] 71) :
  (results fn tmps).run Tryz.prog w = .ok (.tuple #[.agg #[.int .u64 g, v], .int .i64 n]) w := by
 have h4' : tmps[4]?.getD undef = .pointer (some ⟨b, 0, none⟩) := by simpa using h4
 have h5' : tmps[5]?.getD undef = .int .i64 n := by simpa using h5
 simp [results, h, h4', h5', asAddr, root_loadVar hb, Result.andThen]
set_option maxHeartbeats 4000000 in
theorem rdecode_any (S : ByteArray) (N0 : Int) (w : World) (hS : S.size ≤ 1000000000) (hN1 : -9223372036854775808 ≤ N0) (hN2 : N0 ≤ 9223372036854775807) :
  Calls Tryz.prog 57 #[.string S, .int .i64 N0] w (DecEnds w (Pl.decRt N0 S)) := by
 rw [← Pl.dRt_eq]
 obtain ⟨OE, hOE⟩ : ∃ OE, OE = Pl.dRt N0 S := ⟨_, rfl⟩
 rw [← hOE]
 unfold Pl.dRt at hOE
 have P1 := Lib.hid (fun w => refTakeFrame_any S w (by omega))
 have hld := Pl.takeFrame_len S.data.toList
 have hnl := Pl.takeFrame_end S.data.toList
 rw [show S.data.toList.length = S.size from Array.length_toList] at hld hnl
 obtain ⟨SL, hSL⟩ : ∃ SL, SL = S.data.toList := ⟨_, rfl⟩
 have hEq : ∀ n, S.extract 0 n = ⟨(SL.take n).toArray⟩ := by
  intro n
  rw [hSL]
  apply ByteArray.ext
  apply Array.ext'
  simp [ByteArray.data_extract, Array.toList_extract]
 rw [← hSL] at hld hnl hOE P1
 clear hSL
 generalize Pl.takeFrame SL = t at P1 hOE hld hnl
 obtain ⟨⟨kd, ld⟩, n, E⟩ := t
 unfold tupF at P1
 simp only at P1 hOE hld hnl
 replace hOE := Lib.hid hOE
 replace hEq := Lib.hid (hEq n)
 obtain ⟨LD, hLD⟩ : ∃ LD, LD = ByteArray.mk ld.toArray := ⟨_, rfl⟩
 rw [← hLD] at P1
 have hLDl : LD.data.toList = ld := by rw [hLD]
 have hLDs : LD.size = ld.length := by rw [← hLDl]; exact Array.length_toList.symm
 replace hLD := Lib.hid hLD
 have hb0 : Below w.heap.size w (w.alloc (.cells #[.int .u64 0, .slice none 0 0] 71)) := (Below.refl _ _).alloc (Nat.le_refl _) _
 have hR0 := Blk.new w #[.int .u64 0, .slice none 0 0] 71
 have hz0 := hb0.size
 go_enter Tryz.func57, Tryz.ntmps57
 go_upto_region 2 with (go_at_call 87; refine (P1.out _).mono ?_; rintro e w1 ⟨rfl, b1⟩)
 have hb2 : Below w.heap.size w w1 := hb0.trans (b1.mono hz0)
 have hR1 : Blk w1 w.heap.size #[.int .u64 0, .slice none 0 0] 71 := (b1.block w.heap.size hR0.lt).trans hR0
 have hb3 := hb2.alloc hb2.size (.cells #[.int .u8 (kd.toNat : Int), .string LD] 128)
 have hR2 := hR1.alloc (.cells #[.int .u8 (kd.toNat : Int), .string LD] 128)
 have hF2 := Blk.new w1 #[.int .u8 (kd.toNat : Int), .string LD] 128
 have hz1 : w.heap.size < w1.heap.size := hR1.lt
 have hz2 : (w1.alloc (.cells #[.int .u8 (kd.toNat : Int), .string LD] 128)).heap.size = w1.heap.size + 1 := by simp
 generalize w1.alloc (.cells #[.int .u8 (kd.toNat : Int), .string LD] 128) = w2 at hb3 hR2 hF2 hz2 ⊢
 have c0 : w2.cell? ⟨w.heap.size, 0, none⟩ = some (.int .u64 0) := by simp [hR2.cell]
 have c1 : w2.cell? ⟨w.heap.size, 1, none⟩ = some (.slice none 0 0) := by simp [hR2.cell]
 have f0 := hR2.frozen 0
 have f1 := hR2.frozen 1
 have k0 : w2.cell? ⟨w1.heap.size, 0, none⟩ = some (.int .u8 (kd.toNat : Int)) := by simp [hF2.cell]
 have k1 : w2.cell? ⟨w1.heap.size, 1, none⟩ = some (.string LD) := by simp [hF2.cell]
 clear hb0 hb2 hR1 hR0 b1 P1
 by_cases hbad : E = 0 ∧ ¬ 3840 < n ∧ kd = 1
 case neg =>
  have hon : OE = none := by
   rw [hOE.out, if_pos]
   by_cases h1 : E = 0
   ·by_cases h2 : 3840 < n
    ·exact .inr (.inl h2)
    ·exact .inr (.inr (fun h3 => hbad ⟨h1, h2, h3⟩))
   ·exact .inl h1
  subst hon
  have hways : (((E : Int) != 0) = true) ∨ (E = 0 ∧ (3840 : Int) < (n : Int)) ∨ (E = 0 ∧ ¬ (3840 : Int) < (n : Int) ∧ ((kd.toNat : Int) != 1) = true) := by
   by_cases h1 : E = 0
   ·by_cases h2 : 3840 < n
    ·exact .inr (.inl ⟨h1, by omega⟩)
    ·have hkq : kd.toNat ≠ 1 := fun h => hbad ⟨h1, h2, UInt8.toNat_inj.1 h⟩
     exact .inr (.inr ⟨h1, by omega, by simp; omega⟩)
   ·left; simpa using h1
  have hR3 := (hR2.set 0 (.int .u64 0)).set 1 (.slice none 0 0)
  have hb4 := (hb3.setCell (p := ⟨w.heap.size, 0, none⟩) (Nat.le_refl _) (.int .u64 0)).setCell (p := ⟨w.heap.size, 1, none⟩) (Nat.le_refl _) (.slice none 0 0)
  have hend := Lib.hid (And.intro hR3 hb4)
  clear hR3 hb4 hb3 hR2 hF2 hOE hbad hEq hLDl hLDs hLD
  rcases hways with h1 | ⟨h0, h1⟩ | ⟨h0, h1, h2⟩
  case' inr.inl => subst h0
  case' inr.inr => subst h0
  all_goals
   go_wp2
   obtain ⟨h1, h3⟩ := hend.out
   exact bodyPost_ret (results_rdec rfl rfl rfl h1) rfl (dec_none _ _ h3)
 case pos =>
  obtain ⟨he, hn0, hk0⟩ := hbad
  subst he hk0
  have hn1 : ¬ (3840 : Int) < (n : Int) := by omega
  have hOr : Hid (OE = (Pl.dRootR (Pl.dLim N0) ld).bind fun r => if (Pl.encRt (min N0 16384) r).2 ≠ 0 ∨ (Pl.encRt (min N0 16384) r).1 ≠ SL.take n then none else some r) := Lib.hid (by rw [hOE.out, if_neg (by rintro (h | h | h); exact h rfl; exact hn0 h; exact h rfl)])
  clear hOE
  have hnS : (n : Int) ≤ (S.size : Int) := by omega
  obtain ⟨lim, hlim⟩ : ∃ lim, lim = Pl.dLim N0 := ⟨_, rfl⟩
  rw [← hlim] at hOr
  have hlimI : min (max N0 0) 16384 = (lim : Int) := by rw [hlim]; unfold Pl.dLim; omega
  have hlim2 : lim ≤ 16384 := by rw [hlim]; unfold Pl.dLim; omega
  clear hlim
  go_upto_region 5 with (fail)
  have hb5 := hb3.alloc hb3.size (.cells #[.string LD, .bool false] 144)
  have hR5 := hR2.alloc (.cells #[.string LD, .bool false] 144)
  have hRr : RdA (w2.alloc (.cells #[.string LD, .bool false] 144)) w2.heap.size (some ld) := ⟨LD, Blk.new _ _ _, by omega, fun l h => by rw [← Option.some.inj h]; exact hLDl⟩
  generalize w2.alloc (.cells #[.string LD, .bool false] 144) = w3 at hb5 hR5 hRr ⊢
  obtain ⟨R, hR⟩ : ∃ R, R = w1.heap.size + 1 := ⟨_, rfl⟩
  rw [hz2, ← hR] at hRr
  rw [← hR]
  have hWR : w.heap.size < R := by omega
  clear hR c0 c1 f0 f1 k0 k1 hb3 hR2 hF2 hz2 hz1 hz0
  obtain ⟨⟨g, o1⟩, h1⟩ : ∃ p, p = Pl.dUint 4611686018427387904 (some ld) := ⟨_, rfl⟩
  go_upto_region 6 with (go_at_call 88; refine (dU 4611686018427387904 R (some ld) w3 h1 hRr (Nat.le_refl _) rfl).mono ?_; rintro e w4 ⟨rfl, hR4, hk4⟩)
  have hb4 := hk4.below hb5 (Nat.le_refl _) (fun k h => by omega)
  have hres4 := hR5.keep hk4 (by omega)
  have hRl4 := hR4.lt
  have hkA : Keep (fun q => q < w4.heap.size) w4 (w4.alloc (.cells #[.int .u64 (g : Int), .slice none 0 0] 71)) := (Keep.refl _ _).alloc _
  have hO5 : RoI w w.heap.size w4.heap.size (g : Int) (.slice none 0 0) [] (w4.alloc (.cells #[.int .u64 (g : Int), .slice none 0 0] 71)) :=
   ⟨hres4.alloc _, Blk.new _ _ _, ⟨World.ownsRow_nil _ _ _ _, fun y hy => (List.not_mem_nil hy).elim⟩, hb4.alloc hb4.size _⟩
  have hRd5 := hR4.keep hkA hR4.lt
  generalize w4.alloc (.cells #[.int .u64 (g : Int), .slice none 0 0] 71) = w5 at hO5 hRd5 ⊢
  obtain ⟨B1, hB1⟩ : ∃ B1, B1 = w4.heap.size := ⟨_, rfl⟩
  rw [← hB1] at hO5 hRl4 ⊢
  clear hB1 hkA hb4 hres4 hR4 hk4 hb5 hR5 hRr
  obtain ⟨⟨c, o2⟩, h2⟩ : ∃ p, p = Pl.dUint 64 o1 := ⟨_, rfl⟩
  have hc64 : c ≤ 64 := by have := Pl.dUint_le 64 o1; rw [← h2] at this; exact this
  go_upto_region 7 with (go_at_call 88; refine (dU 64 R o1 w5 h2 hRd5 (by omega) rfl).mono ?_; rintro e w6 ⟨rfl, hR6, hk6⟩)
  have hO6 := hO5.beside hk6 (by omega) (by omega) hRl4
  clear hO5 hRd5 hk6
  go_wp2_with fail
  go_loopw [12] (fun i12 X => ∃ (i : Nat) (oR : Option (List UInt8)) (v : Value) (fl : List (Pl.FileP × Value)), i ≤ c ∧ i12 = .int .u64 (i : Int) ∧ RoI w w.heap.size B1 (g : Int) v fl X ∧ RdA X R oR ∧ fl.length = i ∧ o2.bind (Pl.dFilesK lim i) = oR.map fun r => (fl.map (·.1), r)) (fun i12 _ => c - (intOf i12).toNat)
  case atStart => exact ⟨0, o2, _, [], Nat.zero_le _, rfl, hO6, hR6, rfl, by cases o2 <;> rfl⟩
  clear hO6 hR6
  case round =>
   obtain ⟨i, oR, v, fl, hi, rfl, hO, hRd, hfl, hsp⟩ := hrel
   obtain ⟨SX, hRb, hSs, hSl⟩ := id hRd
   have r1 : wr.cell? ⟨R, 1, none⟩ = some (.bool oR.isNone) := by simp [hRb.cell]
   by_cases hgo : i < c ∧ oR.isSome = true
   case pos =>
    obtain ⟨hic, hos⟩ := hgo
    obtain ⟨l, rfl⟩ := Option.isSome_iff_exists.1 hos
    simp only [Option.isNone_some] at r1
    have hic2 : (i : Int) < (c : Int) := by omega
    obtain ⟨⟨nm, o1'⟩, h1'⟩ : ∃ p, p = Pl.dText (some l) := ⟨_, rfl⟩
    obtain ⟨⟨sz, o2'⟩, h2'⟩ : ∃ p, p = Pl.dUint 1073741824 o1' := ⟨_, rfl⟩
    obtain ⟨⟨cn, o3'⟩, h3'⟩ : ∃ p, p = Pl.dUint 1048576 o2' := ⟨_, rfl⟩
    have hsz : sz ≤ 1073741824 := by have := Pl.dUint_le 1073741824 o1'; rw [← h2'] at this; exact this
    have hcn : cn ≤ 1048576 := by have := Pl.dUint_le 1048576 o2'; rw [← h3'] at this; exact this
    clear hRb hSs hSl hos
    replace hfl := Lib.hid hfl
    go_upto_region 11 with (go_at_call 89; refine (dT R (some l) wr h1' hRd).mono ?_; rintro e wa ⟨rfl, hRa, hka⟩)
    have hOa := hO.beside hka (by omega) (by omega) hRl4
    clear hO hka hRd r1
    go_upto_region 12 with (go_at_call 88; refine (dU 1073741824 R o1' wa h2' hRa (by omega) rfl).mono ?_; rintro e wb ⟨rfl, hRb, hkb⟩)
    have hOb := hOa.beside hkb (by omega) (by omega) hRl4
    clear hOa hkb hRa
    go_upto_region 13 with (go_at_call 88; refine (dU 1048576 R o2' wb h3' hRb (by omega) rfl).mono ?_; rintro e wc ⟨rfl, hRc, hkc⟩)
    have hOc := hOb.beside hkc (by omega) (by omega) hRl4
    clear hOb hkc hRb
    have hRD : R < wc.heap.size := hRc.lt
    have hL0 : DcL wc.heap.size R wc (.slice none 0 0) [] o3' wc := ⟨World.ownsRow_nil _ _ _ _, hRc, Keep.refl _ _⟩
    go_wp2_with fail
    go_loopw [16, 17] (fun v16 k17 X => ∃ (k : Nat) (bl : List Int) (oR : Option (List UInt8)), k ≤ cn ∧ k17 = .int .u64 (k : Int) ∧ DcL wc.heap.size R wc v16 bl oR X ∧ bl.length ≤ lim + 1 ∧ o3'.bind (Pl.dRunsK lim k) = oR.map fun r => (bl, r)) (fun _ k17 _ => cn - (intOf k17).toNat)
    case atStart => exact ⟨0, [], o3', Nat.zero_le _, rfl, hL0, Nat.zero_le _, by cases o3' <;> rfl⟩
    clear hL0 hRc
    case round =>
     obtain ⟨k, bl, oR, hk, rfl, hL, hbl, hsr⟩ := hrel
     obtain ⟨SX, hRb, hSs, hSl⟩ := id hL.rd
     have r1 : wr.cell? ⟨R, 1, none⟩ = some (.bool oR.isNone) := by simp [hRb.cell]
     clear hRb hSs hSl
     by_cases hgo : k < cn ∧ oR.isSome = true
     case pos =>
      obtain ⟨hkc, hos⟩ := hgo
      obtain ⟨lR, rfl⟩ := Option.isSome_iff_exists.1 hos
      simp only [Option.isNone_some] at r1
      have hkc2 : (k : Int) < (cn : Int) := by omega
      have hbl2 : bl.length ≤ lim := by
       obtain ⟨l3, _, h3⟩ := Option.bind_eq_some_iff.1 hsr
       exact (Pl.dRunsK_len k h3).1
      obtain ⟨⟨a, oa⟩, ha⟩ : ∃ p, p = Pl.dUint 1048576 (some lR) := ⟨_, rfl⟩
      obtain ⟨⟨m, om⟩, hm⟩ : ∃ p, p = Pl.dUint 1048576 oa := ⟨_, rfl⟩
      have hal : a ≤ 1048576 := by have := Pl.dUint_le 1048576 (some lR); rw [← ha] at this; exact this
      have hml : m ≤ 1048576 := by have := Pl.dUint_le 1048576 oa; rw [← hm] at this; exact this
      go_upto_region 18 with (go_at_call 88; refine (dU 1048576 R (some lR) wr ha hL.rd (by omega) rfl).mono ?_; rintro e wd ⟨rfl, hRd, hkd⟩)
      have hLd := hL.call hRD hkd hRd
      clear hL hkd hRd r1
      go_upto_region 19 with (go_at_call 88; refine (dU 1048576 R oa wd hm hLd.rd (by omega) rfl).mono ?_; rintro e we ⟨rfl, hRe, hke⟩)
      have hLe := hLd.call hRD hke hRe
      clear hLd hke hRe
      go_wp2_with fail
      go_loopw [16, 20] (fun v16 j20 X => ∃ (j : Nat), j ≤ m ∧ j20 = .int .u64 (j : Int) ∧ DcL wc.heap.size R wc v16 (bl ++ (List.range j).map (fun i => ((a + i : Nat) : Int))) (if bl.length + j ≤ lim ∨ j = 0 then om else none) X ∧ bl.length + j ≤ lim + 1) (fun _ j20 _ => m - (intOf j20).toNat)
      case atStart => exact ⟨0, Nat.zero_le _, rfl, by rw [if_pos (.inr rfl)]; simpa using hLe, by omega⟩
      clear hLe
      case round =>
       obtain ⟨j, hj, rfl, hL, hbj⟩ := hrel
       obtain ⟨oJ, hoJ⟩ : ∃ oJ, oJ = if bl.length + j ≤ lim ∨ j = 0 then om else none := ⟨_, rfl⟩
       rw [← hoJ] at hL
       obtain ⟨SX, hRb, hSs, hSl⟩ := id hL.rd
       have r1 : wr.cell? ⟨R, 1, none⟩ = some (.bool oJ.isNone) := by simp [hRb.cell]
       clear hRb hSs hSl
       by_cases hgo : j < m ∧ oJ.isSome = true
       case pos =>
        obtain ⟨hjm, hos⟩ := hgo
        obtain ⟨l3, rfl⟩ := Option.isSome_iff_exists.1 hos
        simp only [Option.isNone_some] at r1
        have hjm2 : (j : Int) < (m : Int) := by omega
        have hom : om = some l3 := by
         split at hoJ
         ·exact hoJ.symm
         ·cases hoJ
        have hcj : bl.length + j ≤ lim := by
         split at hoJ
         ·rename_i h
          omega
         ·cases hoJ
        clear hoJ hos
        obtain ⟨BL, hBL⟩ : ∃ BL, BL = bl ++ (List.range j).map (fun i => ((a + i : Nat) : Int)) := ⟨_, rfl⟩
        have hBLl : BL.length = bl.length + j := by rw [hBL, List.length_append, List.length_map, List.length_range]
        rw [← hBL] at hL
        have hBL2 : Hid (bl ++ (List.range (j + 1)).map (fun i => ((a + i : Nat) : Int)) = BL ++ [((a + j : Nat) : Int)]) := Lib.hid (by rw [hBL, List.range_succ, List.map_append, List.append_assoc]; rfl)
        clear hBL
        obtain ⟨aj, haj⟩ : ∃ aj, aj = a + j := ⟨_, rfl⟩
        rw [← haj] at hBL2
        have ew1 : IntKind.u64.wrap ((a : Int) + (j : Int)) = (aj : Int) := by rw [IntWalk.u64_in _ (by omega)]; omega
        have ew2 : IntKind.i64.wrap (aj : Int) = (aj : Int) := IntWalk.i64_in _ (by omega)
        have ew3 : (a : Int) + (j : Int) = (aj : Int) := by omega
        have ew4 : IntKind.u64.wrap ((j : Int) + 1) = (j : Int) + 1 := IntWalk.u64_in _ (by omega)
        have hap := fun (w1 : World) (tmp : Obj) (g cap : Nat) => hL.app (w1 := w1) hRD (b := (aj : Int)) (tmp := tmp) (g := g) (cap := cap)
        obtain ⟨bn, hbn⟩ : ∃ bn, bn = BL.length := ⟨_, rfl⟩
        have hown : wr.ownsRow wc.heap.size 3 1 u16 bn (icells4 BL) := by have := hL.own; unfold IOwn at this; rw [← hbn] at this; exact this
        simp only [← hbn] at hap
        replace hap := Lib.hid hap
        have hbn2 : bn = bl.length + j := by omega
        have hbn3 : (bn + 1) * 8 ≤ 140737488355328 := by omega
        have hwcs : wc.heap.size ≤ wr.heap.size := hL.keep.size
        replace hbn := Lib.hid hbn
        replace hBLl := Lib.hid hBLl
        replace haj := Lib.hid haj
        replace hom := Lib.hid hom
        clear hL
        by_cases hov : lim < bn + 1
        ·have hov2 : (lim : Int) < (bn : Int) + 1 := by omega
         replace hbn2 := Lib.hid hbn2
         go_wp2_with (at_builtin; go_must (refine wpList_app1 (by rfl) _ _ 74 (by rfl) wc.heap.size 3 (.int .i64 0) 1 8 Tryz.underlying74 info_int4 rfl (by decide) _ bn (icells4 BL) _ hown hwcs (by rfl) #[.int .i64 (aj : Int)] 3 (by rfl) rfl (by simp [Value.oneCell']) hbn3 (by decide) ?_; intro g cap w1 hown' hgrow hat hg; have ⟨SY, hB1, hL1⟩ := hap.out w1 _ g cap hown' hgrow; have f1 := hB1.frozen 1; have l1 := hB1.lt; have d1 : w1.cell? ⟨R, 1, none⟩ = some (.bool false) := (by simp [hB1.cell])))
         go_roundw
         case rel =>
          have h9 := hbn2.out
          refine ⟨j + 1, by omega, by go_num, ?_, by omega⟩
          rw [hBL2.out, if_neg (by omega)]
          exact hL1 true
         case measure => simp [intOf]; omega
        ·have hov2 : ¬ (lim : Int) < (bn : Int) + 1 := by omega
         replace hbn2 := Lib.hid hbn2
         go_wp2_with (at_builtin; go_must (refine wpList_app1 (by rfl) _ _ 74 (by rfl) wc.heap.size 3 (.int .i64 0) 1 8 Tryz.underlying74 info_int4 rfl (by decide) _ bn (icells4 BL) _ hown hwcs (by rfl) #[.int .i64 (aj : Int)] 3 (by rfl) rfl (by simp [Value.oneCell']) hbn3 (by decide) ?_; intro g cap w1 hown' hgrow hat hg; have ⟨SY, hB1, hL1⟩ := hap.out w1 _ g cap hown' hgrow; have f1 := hB1.frozen 1; have l1 := hB1.lt; have d1 : w1.cell? ⟨R, 1, none⟩ = some (.bool false) := (by simp [hB1.cell])))
         go_roundw
         case rel =>
          have h9 := hbn2.out
          refine ⟨j + 1, by omega, by go_num, ?_, by omega⟩
          rw [hBL2.out, if_pos (.inl (by omega)), hom.out]
          exact hL1 false
         case measure => simp [intOf]; omega
       case neg =>
        have hways : (j < m ∧ oJ = none) ∨ m ≤ j := by
         by_cases h1 : j < m
         ·left
          refine ⟨h1, ?_⟩
          cases oJ with
          | none => rfl
          | some l => exact absurd ⟨h1, rfl⟩ hgo
         ·right; omega
        have hx : j = m ∨ ¬ (bl.length + j ≤ lim ∨ j = 0) := by
         rcases hways with ⟨h1, h2⟩ | h1
         ·rw [h2] at hoJ
          split at hoJ
          ·have := Pl.dUint_none (most := 1048576) (o := oa) (by rw [← hm]; exact hoJ.symm)
           rw [← hm] at this
           simp only at this
           omega
          ·right; assumption
         ·left; omega
        have hfin := Lib.hid (Pl.dRun_exit hsr ha hm hj hx)
        rw [← hoJ] at hfin
        have hlen2 : (bl ++ (List.range j).map (fun i => ((a + i : Nat) : Int))).length ≤ lim + 1 := by
         rw [List.length_append, List.length_map, List.length_range]; exact hbj
        generalize bl ++ (List.range j).map (fun i => ((a + i : Nat) : Int)) = BL at hL hfin hlen2
        have ew : IntKind.u64.wrap ((k : Int) + 1) = (k : Int) + 1 := IntWalk.u64_in _ (by omega)
        clear hoJ hgo hx
        replace hlen2 := Lib.hid hlen2
        rcases hways with ⟨h1, h2⟩ | h1
        ·have h3 : (j : Int) < (m : Int) := by omega
         subst h2
         simp only [Option.isNone_none] at r1
         go_wp2_with fail
         go_roundw
         case rel => exact ⟨k + 1, BL, _, by omega, by go_num, hL, hlen2.out, hfin.out⟩
         case measure => simp [intOf]; omega
        ·have h3 : ¬ (j : Int) < (m : Int) := by omega
         go_wp2_with fail
         go_roundw
         case rel => exact ⟨k + 1, BL, _, by omega, by go_num, hL, hlen2.out, hfin.out⟩
         case measure => simp [intOf]; omega
     case neg =>
      have hways : (k < cn ∧ oR = none) ∨ cn ≤ k := by
       by_cases h1 : k < cn
       ·left
        refine ⟨h1, ?_⟩
        cases oR with
        | none => rfl
        | some l => exact absurd ⟨h1, rfl⟩ hgo
       ·right; omega
      have hfin := Lib.hid (Pl.dFile_exit hsp h1' h2' h3' hk (by rcases hways with ⟨_, h⟩ | h; exact .inr h; left; omega) hsr)
      have hOX := hOc.beyond (hL.keep) (by omega) (by omega) hRl4
      have hRX := hL.rd
      have hyX : IOwn wr (B1 + 1) u16 bl := row_base hL.own (by have := hOc.out.lt; omega)
      obtain ⟨ba, bc, rfl⟩ := ownsRow_form (show wr.ownsRow (B1 + 1) 3 1 u16 bl.length (icells4 bl) from hyX)
      obtain ⟨bn, hbn⟩ : ∃ bn, bn = bl.length := ⟨_, rfl⟩
      rw [← hbn] at hyX ⊢
      replace hbn := Lib.hid hbn
      obtain ⟨va, vc, rfl⟩ := ownsRow_form hOX.own.1
      have m1 : wr.cell? ⟨B1, 1, none⟩ = some (.slice va fl.length vc) := by simp [hOX.out.cell]
      have hfr := hOX.own.1
      have hap := Lib.hid (fun (w1 : World) (ob : Obj) (gn cp : Nat) hown hgrow hat => hOX.app (w1 := w1) (tmp := ob) (g := gn) (cap := cp) (Nat.le_refl _) (by omega) ⟨nm, (sz : Int), bl⟩ (.slice ba bn bc) hyX hown hgrow hat)
      have hB1l : B1 + 1 ≤ wr.heap.size := hOX.out.lt
      have hfl2 : (fl.length + 1) * 48 ≤ 140737488355328 := by have := hfl.out; omega
      have ew : IntKind.u64.wrap ((i : Int) + 1) = (i : Int) + 1 := IntWalk.u64_in _ (by omega)
      have ew2 : IntKind.i64.wrap (sz : Int) = (sz : Int) := IntWalk.i64_in _ (by omega)
      have hRk := Lib.hid (fun (w5 : World) (hk5 : Keep (fun z => z < B1 + 1 ∧ z ≠ B1) wr w5) => hRX.keep hk5 ⟨by omega, by omega⟩)
      clear hL hOX hyX hRX hOc
      rcases hways with ⟨h1, h2⟩ | h1
      case' inl =>
       have h3 : (k : Int) < (cn : Int) := by omega
       subst h2
       simp only [Option.isNone_none] at r1
      case' inr =>
       have h3 : ¬ (k : Int) < (cn : Int) := by omega
      all_goals
       go_wp2_with (at_builtin; go_must (refine wpList_app1 (by rfl) _ _ 69 (by rfl) (B1 + 1) 76 (.agg #[.string .empty, .int .i64 0, .slice none 0 0]) 3 48 Tryz.underlying69 info_file4 rfl (by decide) (.slice va fl.length vc) fl.length (fcells4 fl) wr hfr hB1l (by rfl) #[.string nm, .int .i64 (sz : Int), .slice ba bn bc] 76 (by rfl) rfl (by simp [Value.oneCell']) hfl2 (by decide) ?_; intro g6 cap6 w6 hown6 hgrow6 hat6 hg6; have ⟨hB6, hC6⟩ := hap.out w6 _ g6 cap6 hown6 hgrow6 hat6; have f6 := hB6.frozen 1; have l6 := hB6.lt; have m6 : w6.cell? ⟨B1, 1, none⟩ = some (.slice va fl.length vc) := (by simp [hB6.cell])))
       go_roundw
       case rel =>
        have kg : Keep (fun z => (Value.slice va fl.length vc).ownBlock ≠ some z) wr w6 := keep_app hgrow6
        refine ⟨i + 1, _, _, _, by omega, by go_num, hC6 _ rfl, hRk.out _ ?_, by rw [List.length_append, List.length_singleton]; have := hfl.out; omega, by rw [List.map_append]; exact hfin.out⟩
        exact Keep.trans (kg.mono (fun z hz _ e => by have := (hfr.lt z e).1; omega)) (keep_set w6 B1 1 (.slice (some ⟨g6, 0, none⟩) (fl.length + 1) cap6)) (fun z hz _ => hz.2)
       case measure => simp [intOf]; omega
   case neg =>
    have hways : (i < c ∧ oR = none) ∨ c ≤ i := by
     by_cases h1 : i < c
     ·left
      refine ⟨h1, ?_⟩
      cases oR with
      | none => rfl
      | some l => exact absurd ⟨h1, rfl⟩ hgo
     ·right; omega
    have hfin := Pl.dRoot_exit h1 h2 hi (by rcases hways with ⟨_, h⟩ | h; exact .inr h; left; omega) hsp
    have q0 : wr.cell? ⟨R, 0, none⟩ = some (.string SX) := by simp [hRb.cell]
    have c0 : wr.cell? ⟨w.heap.size, 0, none⟩ = some (.int .u64 0) := by simp [hO.res.cell]
    have c1 : wr.cell? ⟨w.heap.size, 1, none⟩ = some (.slice none 0 0) := by simp [hO.res.cell]
    have f0 := hO.res.frozen 0
    have f1 := hO.res.frozen 1
    have lf := hO.res.lt
    have hR3 := (hO.res.set 0 (.int .u64 0)).set 1 (.slice none 0 0)
    have hb4 := (hO.low.setCell (p := ⟨w.heap.size, 0, none⟩) (Nat.le_refl _) (.int .u64 0)).setCell (p := ⟨w.heap.size, 1, none⟩) (Nat.le_refl _) (.slice none 0 0)
    have hbad := Lib.hid (And.intro hR3 hb4)
    clear hR3 hb4
    have hno : ∀ r, oR = some r → r ≠ [] → OE = none := by
     intro r hr hne
     rw [hOr.out, hfin, hr, Option.bind_some, if_neg hne]
     rfl
    have hno2 : oR = none → OE = none := by
     intro hr
     rw [hOr.out, hfin, hr]
     rfl
    cases oR with
    | none =>
     have hon := hno2 rfl
     subst hon
     simp only [Option.isNone_none] at r1
     clear hO hRd hRb hOr hfin hno hno2 hsp hSl hways
     by_cases h3' : i < c
     case' pos => have h3 : (i : Int) < (c : Int) := by omega
     case' neg => have h3 : ¬ (i : Int) < (c : Int) := by omega
     all_goals
      clear h3'
      go_wp2
      obtain ⟨h1, h3⟩ := hbad.out
      exact bodyPost_ret (results_rdec rfl rfl rfl h1) rfl (dec_none _ _ h3)
    | some r =>
     have h3 : ¬ (i : Int) < (c : Int) := by
      rcases hways with ⟨_, h⟩ | h
      ·cases h
      ·omega
     simp only [Option.isNone_some] at r1
     have hSr : SX.data.toList = r := hSl r rfl
     by_cases hr : r = []
     case neg =>
      have hon := hno r rfl hr
      subst hon
      have he1 : SX.toList.isEmpty = false := by
       rw [ByteArray.toList_eq, hSr]
       cases r with
       | nil => exact absurd rfl hr
       | cons a b => rfl
      clear hO hRd hRb hOr hfin hno hno2 hsp hSl hways
      go_wp2
      obtain ⟨h1, h3⟩ := hbad.out
      exact bodyPost_ret (results_rdec rfl rfl rfl h1) rfl (dec_none _ _ h3)
     case pos =>
      subst hr
      have he1 : SX.toList.isEmpty = true := by rw [ByteArray.toList_eq, hSr]; rfl
      obtain ⟨va, vc, rfl⟩ := ownsRow_form hO.own.1
      obtain ⟨fs, hfs⟩ : ∃ fs, fs = fl.map (·.1) := ⟨_, rfl⟩
      have hfsl : fs.length = fl.length := by rw [hfs, List.length_map]
      have hfa : FilesAt wr (.slice va fl.length vc) fs := by rw [hfs]; exact hO.own.at
      rw [← hfs] at hfin hsp
      have hfine : (⟨g, fs⟩ : Pl.RootP).fine := ⟨by have := Pl.dUint_le 4611686018427387904 (some ld); rw [← h1] at this; simp only at this ⊢; omega, fun x hx => by
       obtain ⟨l2, _, h⟩ := Option.bind_eq_some_iff.1 hsp
       exact Pl.dFilesK_fine i h x hx⟩
      rw [← hfsl] at hfa
      have m0 : wr.cell? ⟨B1, 0, none⟩ = some (.int .u64 (g : Int)) := by simp [hO.out.cell]
      have m1 : wr.cell? ⟨B1, 1, none⟩ = some (.slice va fs.length vc) := by simp [hO.out.cell, hfsl]
      have PE := Lib.hid (refEncRt_any ⟨g, fs⟩ va vc N0 wr hfine hfa hN1 hN2)
      obtain ⟨A, hA⟩ : ∃ A, A = Pl.encRt (min N0 16384) ⟨g, fs⟩ := ⟨_, rfl⟩
      have hOr2 : Hid (OE = if A.2 ≠ 0 ∨ A.1 ≠ SL.take n then none else some ⟨g, fs⟩) := Lib.hid (by rw [hOr.out, hfin, Option.bind_some, if_pos rfl, Option.bind_some, ← hA])
      rw [← hA] at PE
      obtain ⟨Al, Ae⟩ := A
      simp only at PE hOr2
      clear hA
      obtain ⟨AS, hAS⟩ : ∃ AS, AS = ByteArray.mk Al.toArray := ⟨_, rfl⟩
      have hAq : AS = S.extract 0 n ↔ Al = SL.take n := by
       rw [hEq.out, hAS]
       exact ⟨fun h => List.toArray_inj (congrArg ByteArray.data h), fun h => by rw [h]⟩
      rw [← hAS] at PE
      replace hfsl := Lib.hid hfsl
      replace hfs := Lib.hid hfs
      have hlow := hO.low
      have hkeepO := Lib.hid (fun (w4 : World) (b4 : Below wr.heap.size wr w4) => hO.keepAll (Keep.of_below (fp := fun q => q < wr.heap.size) b4 (fun _ h _ => h)))
      clear hAS hRd hRb hOr hfin hno hno2 hsp hSl hways hfa hSr hbad hO c0 c1 f0 f1 lf
      go_upto_region 28 with (go_at_call 76; refine PE.out.mono ?_; rintro e w4 ⟨rfl, b4⟩)
      have hO := hkeepO.out w4 b4
      have c0 : w4.cell? ⟨w.heap.size, 0, none⟩ = some (.int .u64 0) := by simp [hO.res.cell]
      have c1 : w4.cell? ⟨w.heap.size, 1, none⟩ = some (.slice none 0 0) := by simp [hO.res.cell]
      have f0 := hO.res.frozen 0
      have f1 := hO.res.frozen 1
      have lf := hO.res.lt
      have m0 : w4.cell? ⟨B1, 0, none⟩ = some (.int .u64 (g : Int)) := by simp [hO.out.cell]
      have m1 : w4.cell? ⟨B1, 1, none⟩ = some (.slice va fs.length vc) := by simp [hO.out.cell, hfsl.out]
      have hR3 := (hO.res.set 0 (.int .u64 0)).set 1 (.slice none 0 0)
      have hb4 := (hO.low.setCell (p := ⟨w.heap.size, 0, none⟩) (Nat.le_refl _) (.int .u64 0)).setCell (p := ⟨w.heap.size, 1, none⟩) (Nat.le_refl _) (.slice none 0 0)
      have hbad := Lib.hid (And.intro hR3 hb4)
      clear hR3 hb4 PE b4
      by_cases hAe : Ae = 0
      case neg =>
       have hne : ((Ae : Int) != 0) = true := by simp; omega
       have hon : OE = none := hOr2.out.trans (if_pos (.inl hAe))
       subst hon
       clear hOr2 hAe hAq hEq hO
       go_wp2
       obtain ⟨h1, h3⟩ := hbad.out
       exact bodyPost_ret (results_rdec rfl rfl rfl h1) rfl (dec_none _ _ h3)
      subst hAe
      by_cases hq : AS = S.extract 0 n
      case neg =>
       obtain ⟨q1, q2⟩ := toList_bne hq
       have hon : OE = none := hOr2.out.trans (if_pos (.inr (fun h => hq (hAq.2 h))))
       subst hon
       clear hOr2 hAq hEq hO
       go_wp2
       obtain ⟨h1, h3⟩ := hbad.out
       exact bodyPost_ret (results_rdec rfl rfl rfl h1) rfl (dec_none _ _ h3)
      have hon : OE = some ⟨g, fs⟩ := hOr2.out.trans (if_neg (fun h => h.elim (fun h => h rfl) (fun h => h (hAq.1 hq))))
      subst hon hq
      have hR5 := (hO.res.set 0 (.int .u64 (g : Int))).set 1 (.slice va fs.length vc)
      have hb5 := (hO.low.setCell (p := ⟨w.heap.size, 0, none⟩) (Nat.le_refl _) (.int .u64 (g : Int))).setCell (p := ⟨w.heap.size, 1, none⟩) (Nat.le_refl _) (.slice va fs.length vc)
      have hk5 : Keep (fun q => q ≠ w.heap.size) w4 ((w4.setCell ⟨w.heap.size, 0, none⟩ (.int .u64 (g : Int))).setCell ⟨w.heap.size, 1, none⟩ (.slice va fs.length vc)) := ((Keep.refl _ w4).setCell _ _ _ (fun h _ => h rfl)).setCell _ _ _ (fun h _ => h rfl)
      have hf := hO.own.keep hk5 (fun q h _ => by omega)
      have hend := Lib.hid (And.intro hR5 (And.intro hb5 hf))
      clear hOr2 hAq hEq hO hR5 hb5 hk5 hf hbad
      go_wp2
      obtain ⟨h1, h2, h3⟩ := hend.out
      refine bodyPost_ret (results_rdec rfl rfl rfl h1) rfl ⟨h2, _, va, _, vc, 0, rfl, fun h => (by cases h), ?_⟩
      intro r' hr'
      obtain rfl := Option.some.inj hr'
      rw [hfsl.out] at h3 ⊢
      exact ⟨rfl, rfl, fl, ⟨row_base h3.1 (by omega), fun y hy => row_base (h3.2 y hy) (by omega)⟩, hfs.out.symm⟩
end
end Go.Proofs.YtogblcdefbnbeaaGreat
