
/- Plain: any bytes read as a root. Condition: none. -/
import Derived.Test.YtogblcdefbnbeaaGreatQGm
set_option maxRecDepth 100000
namespace Go.Proofs.YtogblcdefbnbeaaGreat
namespace Pl
def uintR (most : Nat) (l : List UInt8) : Option (Nat × List UInt8) := if (takeUint l).2.2 ≠ 0 ∨ most < (takeUint l).1 then none else some ((takeUint l).1, l.drop (takeUint l).2.1)
def textR (l : List UInt8) : Option (ByteArray × List UInt8) := if (takeText l 32).2.2 ≠ 0 then none else some (⟨(takeText l 32).1.toArray⟩, l.drop (takeText l 32).2.1)
theorem uintR_le {most n : Nat} {l r : List UInt8} (h : uintR most l = some (n, r)) : n ≤ most ∧ r.length ≤ l.length := by
  unfold uintR at h
  split at h
  · cases h
  · rename_i h0
    obtain ⟨rfl, rfl⟩ := Prod.mk.inj (Option.some.inj h)
    exact ⟨by omega, by rw [List.length_drop]; omega⟩
theorem textR_le {n : ByteArray} {l r : List UInt8} (h : textR l = some (n, r)) : r.length ≤ l.length := by
  unfold textR at h
  split at h
  · cases h
  · obtain ⟨_, rfl⟩ := Prod.mk.inj (Option.some.inj h)
    rw [List.length_drop]
    omega
def runStep (st : Option (List Int × List UInt8)) : Option (List Int × List UInt8) :=
  st.bind fun st => (uintR 16384 st.2).bind fun a => (uintR 16384 a.2).bind fun b => if st.1.length + b.1 ≤ 16384 then some (st.1 ++ (List.range b.1).map (fun k => ((a.1 + k : Nat) : Int)), b.2) else none
def runsK : Nat → List UInt8 → Option (List Int × List UInt8)
  | 0, l => some ([], l)
  | k + 1, l => runStep (runsK k l)
theorem runsK_none {l : List UInt8} {k : Nat} (h : runsK k l = none) : ∀ n, k ≤ n → runsK n l = none
  | 0, hn => by obtain rfl : k = 0 := by omega
                exact h
  | n + 1, hn => by
    by_cases e : k = n + 1
    · rw [← e]; exact h
    · show runStep (runsK n l) = none
      rw [runsK_none h n (by omega)]
      rfl
def fileR (l : List UInt8) : Option (FileP × List UInt8) :=
  (textR l).bind fun nm => (uintR 4194304 nm.2).bind fun sz => (uintR 16384 sz.2).bind fun c => (runsK c.1 c.2).bind fun b => some (⟨nm.1, (sz.1 : Int), b.1⟩, b.2)
def fileStep (st : Option (List FileP × List UInt8)) : Option (List FileP × List UInt8) := st.bind fun st => (fileR st.2).bind fun y => some (st.1 ++ [y.1], y.2)
def filesK : Nat → List UInt8 → Option (List FileP × List UInt8)
  | 0, l => some ([], l)
  | k + 1, l => fileStep (filesK k l)
theorem filesK_none {l : List UInt8} {k : Nat} (h : filesK k l = none) : ∀ n, k ≤ n → filesK n l = none
  | 0, hn => by obtain rfl : k = 0 := by omega
                exact h
  | n + 1, hn => by
    by_cases e : k = n + 1
    · rw [← e]; exact h
    · show fileStep (filesK n l) = none
      rw [filesK_none h n (by omega)]
      rfl
def rootR (l : List UInt8) : Option RootP :=
  (uintR 4611686018427387904 l).bind fun g => (uintR 64 g.2).bind fun c => (filesK c.1 c.2).bind fun fs => if fs.2 = [] then some ⟨g.1, fs.1⟩ else none
noncomputable def decRt (N : Int) (S : ByteArray) : Option RootP :=
  if (takeFrame S.data.toList).2.2 ≠ 0 ∨ 3840 < (takeFrame S.data.toList).2.1 ∨ (takeFrame S.data.toList).1.1 ≠ 1 then none else
    (rootR (takeFrame S.data.toList).1.2).bind fun r => if (encRt (min N 16384) r).2 ≠ 0 ∨ (encRt (min N 16384) r).1 ≠ S.data.toList.take (takeFrame S.data.toList).2.1 then none else some r
theorem runsK_len {l : List UInt8} : ∀ (k : Nat) {bl : List Int} {r : List UInt8}, runsK k l = some (bl, r) → bl.length ≤ 16384 ∧ r.length ≤ l.length ∧ ∀ b ∈ bl, 0 ≤ b ∧ b ≤ 32768
  | 0, bl, r, h => by
    obtain ⟨rfl, rfl⟩ := Prod.mk.inj (Option.some.inj h)
    exact ⟨Nat.zero_le _, Nat.le_refl _, fun _ h => (List.not_mem_nil h).elim⟩
  | k + 1, bl, r, h => by
    have h0 : runStep (runsK k l) = some (bl, r) := h
    cases hk : runsK k l with
    | none => rw [hk] at h0; cases h0
    | some st =>
      obtain ⟨b0, r0⟩ := st
      obtain ⟨i1, i2, i3⟩ := runsK_len k hk
      rw [hk] at h0
      unfold runStep at h0
      simp only [Option.bind_some] at h0
      cases ha : uintR 16384 r0 with
      | none => rw [ha] at h0; cases h0
      | some a =>
        rw [ha, Option.bind_some] at h0
        cases hb : uintR 16384 a.2 with
        | none => rw [hb] at h0; cases h0
        | some b =>
          rw [hb, Option.bind_some] at h0
          have a1 := uintR_le (n := a.1) (r := a.2) ha
          have b1 := uintR_le (n := b.1) (r := b.2) hb
          split at h0
          · obtain ⟨rfl, rfl⟩ := Prod.mk.inj (Option.some.inj h0)
            refine ⟨by simpa using (by assumption), by omega, fun q hq => ?_⟩
            rcases List.mem_append.1 hq with hq | hq
            · exact i3 q hq
            · obtain ⟨j, hj, rfl⟩ := List.mem_map.1 hq
              have := List.mem_range.1 hj
              omega
          · cases h0
end Pl
section
open Go.RowKit
attribute [local go_sem] Oper.semAt_some
def brokenE : Ending := .panicked [{ v := .iface 132 (.agg #[]), recovered := false }]
def UintEnds (R : Nat) (w : World) (o : Option (Nat × List UInt8)) (e : Ending) (w' : World) : Prop :=
 Keep (fun q => q ≠ R) w w' ∧ match o with
 | none => e = brokenE
 | some (n, r) => e = .returned (.int .u64 (n : Int)) ∧ RdAt w' R r
def TextEnds (R : Nat) (w : World) (o : Option (ByteArray × List UInt8)) (e : Ending) (w' : World) : Prop :=
 Keep (fun q => q ≠ R) w w' ∧ match o with
 | none => e = brokenE
 | some (n, r) => e = .returned (.string n) ∧ RdAt w' R r
theorem extract_mk (l : List UInt8) (k : Nat) : (ByteArray.mk l.toArray).extract k l.length = ⟨(l.drop k).toArray⟩ := by
 apply ByteArray.ext
 apply Array.ext'
 simp [ByteArray.data_extract, Array.toList_extract]
 exact List.take_of_length_le (by rw [List.length_drop]; exact Nat.le_refl _)
set_option maxHeartbeats 400000 in
theorem uint_any (R most : Nat) (l : List UInt8) (w : World) (h : RdAt w R l) (hm : most ≤ 18446744073709551615) (hs : l.length ≤ 9223372036854775000) :
  Calls Tryz.prog 108 #[.pointer (some ⟨R, 0, none⟩), .int .u64 (most : Int)] w (UintEnds R w (Pl.uintR most l)) := by
 have c0 : w.cell? ⟨R, 0, none⟩ = some (.string ⟨l.toArray⟩) := by simp [World.cell?, show w.heap[R]? = _ from h]
 have f0 : w.frozen? ⟨R, 0, none⟩ = false := by simp [World.frozen?, show w.heap[R]? = _ from h]
 have hz := size_mk l
 have P := Lib.hid (takeUint_any ⟨l.toArray⟩ w (by rw [hz]; omega))
 rw [show (ByteArray.mk l.toArray).data.toList = l by simp] at P
 unfold tup3 at P
 obtain ⟨b1, b2, b3⟩ := Pl.takeUint_bound l
 obtain ⟨E, hE⟩ : ∃ E, E = Pl.uintR most l := ⟨_, rfl⟩
 rw [← hE]
 unfold Pl.uintR at hE
 have hext := extract_mk l (Pl.takeUint l).2.1
 generalize Pl.takeUint l = t at *
 obtain ⟨n, k, e⟩ := t
 simp only at P hE b1 b2 hext
 have hset := Lib.hid (h.set (l' := l.drop k))
 have hlt := h.lt
 obtain ⟨S, hS⟩ : ∃ S, S = ByteArray.mk l.toArray := ⟨_, rfl⟩
 rw [← hS] at c0 P hz hext
 have hle2 : k ≤ S.size := by rw [hz]; exact b2
 replace hext := Lib.hid hext
 replace hE := Lib.hid hE
 clear hS h
 go_enter Tryz.func108, Tryz.ntmps108
 go_wp2_with fail
 refine P.out.mono ?_
 rintro e' w' ⟨rfl, rfl⟩
 by_cases he : e = 0
 case neg =>
  have hne : ((e : Int) != 0) = true := by simp; omega
  replace hE := Lib.hid (hE.out.trans (if_pos (.inl he)))
  clear P hset
  go_wp2
  rw [hE.out]
  exact ⟨rfl, Keep.refl _ _, rfl⟩
 subst he
 by_cases hn : most < n
 ·have hni : (most : Int) < (n : Int) := by omega
  replace hE := Lib.hid (hE.out.trans (if_pos (.inr hn)))
  clear P hset hn
  go_wp2
  rw [hE.out]
  exact ⟨rfl, Keep.refl _ _, rfl⟩
 ·have hni : ¬ (most : Int) < (n : Int) := by omega
  replace hE := Lib.hid (hE.out.trans (if_neg (by omega)))
  clear P hn
  go_wp2_with fail
  go_ret
  rw [hE.out]
  refine ⟨(Keep.refl _ _).setCell _ _ _ (fun h _ => h rfl), rfl, ?_⟩
  rw [hext.out]
  exact hset.out
set_option maxHeartbeats 400000 in
theorem text_any (R : Nat) (l : List UInt8) (w : World) (h : RdAt w R l) (hs : l.length ≤ 9223372036854775000) :
  Calls Tryz.prog 109 #[.pointer (some ⟨R, 0, none⟩)] w (TextEnds R w (Pl.textR l)) := by
 have c0 : w.cell? ⟨R, 0, none⟩ = some (.string ⟨l.toArray⟩) := by simp [World.cell?, show w.heap[R]? = _ from h]
 have hz := size_mk l
 have P := Lib.hid (takeText_big ⟨l.toArray⟩ 32 w (by rw [hz]; omega) (.inr (by omega)) (by omega) (by omega))
 rw [show (ByteArray.mk l.toArray).data.toList = l by simp] at P
 rw [show (32 : Int).toNat = 32 from rfl] at P
 unfold tupS at P
 have b2 := Pl.takeText_fits l 32
 obtain ⟨E, hE⟩ : ∃ E, E = Pl.textR l := ⟨_, rfl⟩
 rw [← hE]
 unfold Pl.textR at hE
 have hext := extract_mk l (Pl.takeText l 32).2.1
 generalize Pl.takeText l 32 = t at *
 obtain ⟨tx, k, e⟩ := t
 simp only at P hE b2 hext
 have hh := Lib.hid h
 have hlt := h.lt
 obtain ⟨S, hS⟩ : ∃ S, S = ByteArray.mk l.toArray := ⟨_, rfl⟩
 rw [← hS] at c0 P hz hext
 have hle2 : k ≤ S.size := by rw [hz]; exact b2
 replace hext := Lib.hid hext
 replace hE := Lib.hid hE
 generalize (⟨tx.toArray⟩ : ByteArray) = T at *
 clear hS h
 go_enter Tryz.func109, Tryz.ntmps109
 go_wp2_with fail
 refine P.out.mono ?_
 rintro e' w1 ⟨rfl, b1⟩
 have hR1 := hh.out.below b1
 have c1 : w1.cell? ⟨R, 0, none⟩ = some (.string S) := (b1.cell (p := ⟨R, 0, none⟩) hlt).trans c0
 have f1 : w1.frozen? ⟨R, 0, none⟩ = false := by simp [World.frozen?, show w1.heap[R]? = _ from hR1]
 have hk1 : Keep (fun q => q ≠ R) w w1 := Keep.of_below b1 (fun _ h _ => by assumption)
 by_cases he : e = 0
 case neg =>
  have hne : ((e : Int) != 0) = true := by simp; omega
  replace hE := Lib.hid (hE.out.trans (if_pos he))
  clear P hR1 hh
  go_wp2
  rw [hE.out]
  exact ⟨rfl, hk1, rfl⟩
 subst he
 replace hE := Lib.hid (hE.out.trans (if_neg (by omega)))
 have hset := Lib.hid (hR1.set (l' := l.drop k))
 have hlt1 := hR1.lt
 clear P hR1 c0 hh
 go_wp2_with fail
 go_ret
 rw [hE.out]
 refine ⟨hk1.setCell _ _ _ (fun h _ => h rfl), rfl, ?_⟩
 rw [hext.out]
 exact hset.out
end
section
open Go.RowKit
attribute [local go_sem] Oper.semAt_some
def RootREnds (R : Nat) (w : World) (o : Option Pl.RootP) (e : Ending) (w' : World) : Prop :=
 Keep (fun q => q ≠ R) w w' ∧ match o with
 | none => e = brokenE
 | some r => ∃ (va : Option Addr) (vn vc : Nat) (fl : List (Pl.FileP × Value)), e = .returned (.agg #[.int .u64 (r.gen : Int), .slice va vn vc]) ∧ FilesOwn w' w.heap.size (.slice va vn vc) fl ∧ fl.map (·.1) = r.files
set_option maxHeartbeats 4000000 in
theorem rootR_any (R : Nat) (l0 : List UInt8) (w : World) (hR : RdAt w R l0) (hs : l0.length ≤ 1000000000) :
  Calls Tryz.prog 81 #[.pointer (some ⟨R, 0, none⟩)] w (RootREnds R w (Pl.rootR l0)) := by
 obtain ⟨OE, hOE⟩ : ∃ OE, OE = Pl.rootR l0 := ⟨_, rfl⟩
 rw [← hOE]
 unfold Pl.rootR at hOE
 replace hOE := Lib.hid hOE
 have hbk : Hid (∀ W' : World, OE = none → Keep (fun q => q ≠ R) w W' → RootREnds R w OE brokenE W') := Lib.hid (fun W' h1 h2 => ⟨h2, by rw [h1]⟩)
 obtain ⟨W0, hW0⟩ : ∃ W0, w.alloc (.cells #[.int .u64 0, .slice none 0 0] 71) = W0 := ⟨_, rfl⟩
 have hb0 : Below w.heap.size w W0 := by rw [← hW0]; exact (Below.refl _ _).alloc (Nat.le_refl _) _
 have hB0 : W0.heap[w.heap.size]? = some (.cells #[.int .u64 0, .slice none 0 0] 71 (0, 0)) := by rw [← hW0]; exact World.alloc_heap_new _ _
 have hRl := hR.lt
 have hk0 : Keep (fun q => q ≠ R ∧ q < w.heap.size) w W0 := Keep.of_below hb0 (fun _ h _ => h.2)
 have P1 := Lib.hid (uint_any R 4611686018427387904 l0 W0 (hR.below hb0) (by omega) (by omega))
 go_enter Tryz.func81, Tryz.ntmps81
 go_wp2_with fail
 clear hW0
 refine P1.out.mono ?_
 rintro e w1 ⟨hk1, h1⟩
 clear P1
 have hkw1 : Keep (fun q => q ≠ R) w w1 := (hk0.trans hk1 (fun q h _ => h.1)).mono (fun q h hl => ⟨h, hl⟩)
 cases hu1 : Pl.uintR 4611686018427387904 l0 with
 | none =>
  rw [hu1] at h1
  obtain rfl := h1
  have hend := Lib.hid (hbk.out w1 (by rw [hOE.out, hu1]; rfl) hkw1)
  unfold brokenE at hend ⊢
  clear hbk
  go_wp2
  exact ⟨rfl, hend.out⟩
 | some a1 =>
  obtain ⟨gen, l1⟩ := a1
  rw [hu1] at h1
  obtain ⟨rfl, hR1⟩ := h1
  obtain ⟨hgen, hl1⟩ := Pl.uintR_le hu1
  replace hOE := Lib.hid (hOE.out.trans (by rw [hu1]; rfl : _ = (Pl.uintR 64 l1).bind fun c => (Pl.filesK c.1 c.2).bind fun fs => if fs.2 = [] then some (⟨gen, fs.1⟩ : Pl.RootP) else none))
  have hz0 : w.heap.size < W0.heap.size := (Array.getElem?_eq_some_iff.1 hB0).1
  have hB1 := (hk1.block w.heap.size (by omega) hz0).trans hB0
  have hb1 : Below w1.heap.size w1 (w1.alloc (.cells #[.int .u64 (gen : Int), .slice none 0 0] 71)) := (Below.refl _ _).alloc (Nat.le_refl _) _
  have hO1 : (w1.alloc (.cells #[.int .u64 (gen : Int), .slice none 0 0] 71)).heap[w1.heap.size]? = some (.cells #[.int .u64 (gen : Int), .slice none 0 0] 71 (0, 0)) := World.alloc_heap_new _ _
  clear hu1
  go_wp2_with fail
  generalize w1.alloc (.cells #[.int .u64 (gen : Int), .slice none 0 0] 71) = W1 at hb1 hO1 ⊢
  refine (uint_any R 64 l1 W1 (hR1.below hb1) (by omega) (by omega)).mono ?_
  rintro e w2 ⟨hk2, h2⟩
  have hz1 : w1.heap.size < W1.heap.size := (Array.getElem?_eq_some_iff.1 hO1).1
  have hRw1 := hR1.lt
  have hO2 := (hk2.block w1.heap.size (show w1.heap.size ≠ R by omega) hz1).trans hO1
  have hk02 : Keep (fun q => q ≠ R) W0 w2 := (hk1.trans (Keep.of_below (fp := fun q => q ≠ R ∧ q < w1.heap.size) hb1 (fun _ h _ => h.2)) (fun q h hq => ⟨h, Nat.lt_of_lt_of_le hq hk1.size⟩)).trans hk2 (fun q h _ => h)
  have hB2 := (hk02.block w.heap.size (show w.heap.size ≠ R by omega) hz0).trans hB0
  have hkw2 : Keep (fun q => q ≠ R) w w2 := (hk0.trans hk02 (fun q h _ => h.1)).mono (fun q h hq => ⟨h, hq⟩)
  have hz02 := hk1.size
  have hz12 := hk2.size
  clear hB0 hB1 hO1 hk1 hk2 hR1 hb1 hR hkw1
  cases hu2 : Pl.uintR 64 l1 with
  | none =>
   rw [hu2] at h2
   obtain rfl := h2
   have hend := Lib.hid (hbk.out w2 (by rw [hOE.out, hu2]; rfl) hkw2)
   unfold brokenE at hend ⊢
   clear hbk
   go_wp2
   exact ⟨rfl, hend.out⟩
  | some a2 =>
   obtain ⟨c, l2⟩ := a2
   rw [hu2] at h2
   obtain ⟨rfl, hR2⟩ := h2
   obtain ⟨hc64, hl2⟩ := Pl.uintR_le hu2
   replace hOE := Lib.hid (hOE.out.trans (by rw [hu2]; rfl : _ = (Pl.filesK c l2).bind fun fs => if fs.2 = [] then some (⟨gen, fs.1⟩ : Pl.RootP) else none))
   have hRt0 : RtW w R w.heap.size w1.heap.size gen (.slice none 0 0) [] l2 w2 :=
    ⟨hR2, hB2, hO2, World.ownsRow_nil _ _ _ _, (fun x hx => (List.not_mem_nil hx).elim), hkw2⟩
   clear hu2
   go_wp2_with fail
   clear hR2 hB2 hO2 hk02 hkw2
   go_loopw [12] (fun ix W' => ∃ (i : Nat) (l : List (Pl.FileP × Value)) (vf : Value) (rest : List UInt8), i ≤ c ∧ ix = .int .u64 (i : Int) ∧ Pl.filesK i l2 = some (l.map (·.1), rest) ∧ l.length = i ∧ rest.length ≤ 1000000000 ∧ RtW w R w.heap.size w1.heap.size gen vf l rest W') (fun ix _ => c - (intOf ix).toNat)
   case atStart => exact ⟨0, [], _, l2, Nat.zero_le _, rfl, rfl, rfl, by omega, hRt0⟩
   clear hRt0
   case round =>
    obtain ⟨i, l, vf, rest, hi, rfl, hfk, hll, hrl, hRt⟩ := hrel
    by_cases hil : i < c
    case neg =>
     obtain rfl : i = c := by omega
     have hOE2 : OE = if rest = [] then some (⟨gen, l.map (·.1)⟩ : Pl.RootP) else none := hOE.out.trans (by rw [hfk]; rfl)
     replace hll := Lib.hid hll
     replace hfk := Lib.hid hfk
     have c0 : wr.cell? ⟨R, 0, none⟩ = some (.string ⟨rest.toArray⟩) := by simp [World.cell?, show wr.heap[R]? = _ from hRt.rd]
     by_cases hre : rest = []
     case neg =>
      have hS : (⟨rest.toArray⟩ : ByteArray).toList.isEmpty = false := by rw [ByteArray.toList_mk]; exact List.isEmpty_eq_false_iff.2 hre
      have hS2 : ¬ (⟨rest.toArray⟩ : ByteArray).toList = [] := by intro h; rw [h] at hS; cases hS
      have hend := Lib.hid (hbk.out wr (by rw [hOE2, if_neg hre]) hRt.old)
      unfold brokenE at hend
      replace hOE2 := Lib.hid hOE2
      generalize (⟨rest.toArray⟩ : ByteArray) = S at *
      clear hbk hRt hre
      go_wp2
      exact ⟨rfl, hend.out⟩
     subst hre
     rw [if_pos rfl] at hOE2
     have o0 : wr.cell? ⟨w1.heap.size, 0, none⟩ = some (.int .u64 (gen : Int)) := by simp [World.cell?, hRt.out]
     obtain ⟨fg, fcap, hvf⟩ : ∃ g cap, vf = .slice g l.length cap := by
      obtain ⟨ao, cap, e, _⟩ := hRt.files
      rw [List.length_map] at e
      exact ⟨ao, cap, e⟩
     subst hvf
     have o1 : wr.cell? ⟨w1.heap.size, 1, none⟩ = some (.slice fg l.length fcap) := by simp [World.cell?, hRt.out]
     have s0 : wr.cell? ⟨w.heap.size, 0, none⟩ = some (.int .u64 0) := by simp [World.cell?, hRt.res]
     have s1 : wr.cell? ⟨w.heap.size, 1, none⟩ = some (.slice none 0 0) := by simp [World.cell?, hRt.res]
     have t0 : wr.frozen? ⟨w.heap.size, 0, none⟩ = false := by simp [World.frozen?, hRt.res]
     have t1 : wr.frozen? ⟨w.heap.size, 1, none⟩ = false := by simp [World.frozen?, hRt.res]
     have hE := Lib.hid (heap_two (u := .int .u64 (gen : Int)) (v := .slice fg l.length fcap) hRt.res)
     have hK := Lib.hid hRt.old
     have hrt := Lib.hid hRt
     replace hOE2 := Lib.hid hOE2
     clear hRt
     go_wp2
     refine bodyPost_ret (results_root rfl rfl hE.out) rfl ?_
     rw [hOE2.out]
     refine ⟨(hK.out.setCell _ _ _ (fun _ h => by omega)).setCell _ _ _ (fun _ h => by omega), _, _, _, l, rfl, ?_, rfl⟩
     have hks : Keep (fun q => q ≠ w.heap.size) wr ((wr.setCell ⟨w.heap.size, 0, none⟩ (.int .u64 (gen : Int))).setCell ⟨w.heap.size, 1, none⟩ (.slice fg l.length fcap)) := ((Keep.refl _ wr).setCell _ _ _ (fun h _ => h rfl)).setCell _ _ _ (fun h _ => h rfl)
     have hf := FilesOwn.keep (base := w1.heap.size + 1) ⟨hrt.out.row, hrt.out.ints⟩ hks (fun q h1 _ => by omega)
     exact ⟨row_base hf.1 (by omega), fun y hy => row_base (hf.2 y hy) (by omega)⟩
    case pos =>
     have hnx : Hid (Pl.filesK (i + 1) l2 = (Pl.fileR rest).bind fun y => some (l.map (·.1) ++ [y.1], y.2)) := Lib.hid (by show Pl.fileStep (Pl.filesK i l2) = _; rw [hfk]; rfl)
     have hfn : Hid (Pl.fileR rest = none → OE = none) := Lib.hid (fun h => hOE.out.trans (by rw [Pl.filesK_none (k := i + 1) (by rw [hnx.out, h]; rfl) c (by omega)]; rfl))
     have hi0 : (i : Int) < (c : Int) := by omega
     have hrt := Lib.hid hRt
     obtain ⟨ll1, ll2, ll3⟩ := hRt.lt
     have hrd := hRt.rd
     have hold := hRt.old
     replace hfk := Lib.hid hfk
     replace hll := Lib.hid hll
     clear hRt
     go_wp2_with fail
     refine (text_any R rest wr hrd (by omega)).mono ?_
     rintro e wa ⟨hka, ha⟩
     cases hu3 : Pl.textR rest with
     | none =>
      rw [hu3] at ha
      obtain rfl := ha
      have hend := Lib.hid (hbk.out wa (hfn.out (by unfold Pl.fileR; rw [hu3]; rfl)) (hold.trans hka (fun q h _ => h)))
      unfold brokenE at hend ⊢
      clear hbk hrd
      go_wp2
      exact ⟨rfl, hend.out⟩
     | some a3 =>
      obtain ⟨nm, r1⟩ := a3
      rw [hu3] at ha
      obtain ⟨rfl, hRa⟩ := ha
      have hr1 := Pl.textR_le hu3
      go_wp2_with fail
      refine (uint_any R 4194304 r1 wa hRa (by omega) (by omega)).mono ?_
      rintro e wb ⟨hkb, hb⟩
      have hkab : Keep (fun q => q ≠ R) wr wb := hka.trans hkb (fun _ h _ => h)
      cases hu4 : Pl.uintR 4194304 r1 with
      | none =>
       rw [hu4] at hb
       obtain rfl := hb
       have hend := Lib.hid (hbk.out wb (hfn.out (by unfold Pl.fileR; rw [hu3, Option.bind_some]; simp only; rw [hu4]; rfl)) (hold.trans hkab (fun q h _ => h)))
       unfold brokenE at hend ⊢
       clear hbk hrd
       go_wp2
       exact ⟨rfl, hend.out⟩
      | some a4 =>
       obtain ⟨szn, r2⟩ := a4
       rw [hu4] at hb
       obtain ⟨rfl, hRb⟩ := hb
       obtain ⟨hszn, hr2⟩ := Pl.uintR_le hu4
       have hwi : IntKind.i64.wrap (szn : Int) = (szn : Int) := IntWalk.i64_in _ (by omega)
       have hbf : Below wb.heap.size wb (wb.alloc (.cells #[.string nm, .int .i64 (szn : Int), .slice none 0 0] 76)) := (Below.refl _ _).alloc (Nat.le_refl _) _
       have hFf : (wb.alloc (.cells #[.string nm, .int .i64 (szn : Int), .slice none 0 0] 76)).heap[wb.heap.size]? = some (.cells #[.string nm, .int .i64 (szn : Int), .slice none 0 0] 76 (0, 0)) := World.alloc_heap_new _ _
       go_wp2_with fail
       generalize wb.alloc (.cells #[.string nm, .int .i64 (szn : Int), .slice none 0 0] 76) = wf at hbf hFf ⊢
       refine (uint_any R 16384 r2 wf (hRb.below hbf) (by omega) (by omega)).mono ?_
       rintro e wg ⟨hkg, hg⟩
       have hRbl := hRb.lt
       have hfl : wb.heap.size < wf.heap.size := (Array.getElem?_eq_some_iff.1 hFf).1
       have hFg := (hkg.block wb.heap.size (show wb.heap.size ≠ R by omega) hfl).trans hFf
       have hkfg : Keep (fun q => q < wb.heap.size ∧ q ≠ R) wr wg := (hkab.mono (fun q h _ => h.2)).trans ((Keep.of_below (fp := fun q => q < wb.heap.size ∧ q ≠ R) hbf (fun q h _ => h.1)).trans hkg (fun q h _ => h.2)) (fun q h _ => h)
       have hzb := hkab.size
       have hzg := hkg.size
       clear hFf hbf hkg hRb hka hkb hRa
       cases hu5 : Pl.uintR 16384 r2 with
       | none =>
        rw [hu5] at hg
        obtain rfl := hg
        have hend := Lib.hid (hbk.out wg (hfn.out (by unfold Pl.fileR; rw [hu3, Option.bind_some]; simp only; rw [hu4, Option.bind_some]; simp only; rw [hu5]; rfl)) (hold.trans hkfg (fun q h hl => ⟨by omega, h⟩)))
        unfold brokenE at hend ⊢
        clear hbk hrd
        go_wp2
        exact ⟨rfl, hend.out⟩
       | some a5 =>
        obtain ⟨cnt, r3⟩ := a5
        rw [hu5] at hg
        obtain ⟨rfl, hRg⟩ := hg
        obtain ⟨hcnt, hr3⟩ := Pl.uintR_le hu5
        have hFR : Hid (Pl.fileR rest = (Pl.runsK cnt r3).bind fun b => some (⟨nm, (szn : Int), b.1⟩, b.2)) := Lib.hid (by unfold Pl.fileR; rw [hu3, Option.bind_some]; simp only; rw [hu4, Option.bind_some]; simp only; rw [hu5, Option.bind_some])
        have hrn : Hid (Pl.runsK cnt r3 = none → OE = none) := Lib.hid (fun h => hfn.out (by rw [hFR.out, h]; rfl))
        have hFl0 : FlW wr R wb.heap.size nm szn (.slice none 0 0) [] r3 wg := ⟨hRg, hFg, World.ownsRow_nil _ _ _ _, hkfg⟩
        have hRB : R < wb.heap.size := by omega
        clear hRg hFg hkfg hu3 hu4 hu5 hrd hkab hfn
        go_wp2_with fail
        generalize wb.heap.size = B2 at *
        obtain ⟨wo, rfl⟩ : ∃ wo : World, wo = wr := ⟨_, rfl⟩
        go_loopw [22] (fun ix W' => ∃ (t : Nat) (vb : Value) (bl : List Int) (rs : List UInt8), t ≤ cnt ∧ ix = .int .u64 (t : Int) ∧ Pl.runsK t r3 = some (bl, rs) ∧ FlW wo R B2 nm szn vb bl rs W') (fun ix _ => cnt - (intOf ix).toNat)
        case atStart => exact ⟨0, _, _, _, Nat.zero_le _, rfl, rfl, hFl0⟩
        clear hFl0
        case round =>
         obtain ⟨t, vb, bl, rs, ht, rfl, hrk, hFl⟩ := hrel
         obtain ⟨hbl, hrs, hbb⟩ := Pl.runsK_len t hrk
         by_cases htl : t < cnt
         case neg =>
          obtain rfl : t = cnt := by omega
          have hy : Pl.fileR rest = some (⟨nm, (szn : Int), bl⟩, rs) := hFR.out.trans (by rw [hrk]; rfl)
          have hfk1 := Lib.hid (hnx.out.trans (by rw [hy]; rfl : _ = some (l.map (·.1) ++ [(⟨nm, (szn : Int), bl⟩ : Pl.FileP)], rs)))
          have hrsl : rs.length ≤ 1000000000 := by omega
          replace hrk := Lib.hid hrk
          clear hy
          have hRt2 := hrt.out.keep hFl.old hzb (by omega) (by omega) (by omega) hFl.rd
          obtain ⟨fg, fcap, hvf⟩ : ∃ g cap, vf = .slice g l.length cap := by
           obtain ⟨ao, cap, e, _⟩ := hRt2.files
           rw [List.length_map] at e
           exact ⟨ao, cap, e⟩
          subst hvf
          obtain ⟨bg, bcap, hvb⟩ : ∃ g cap, vb = .slice g bl.length cap := by
           obtain ⟨ao, cap, e, _⟩ := hFl.row.at
           exact ⟨ao, cap, e⟩
          subst hvb
          have c0 : wr.cell? ⟨B2, 0, none⟩ = some (.string nm) := by simp [World.cell?, hFl.box]
          have c1 : wr.cell? ⟨B2, 1, none⟩ = some (.int .i64 (szn : Int)) := by simp [World.cell?, hFl.box]
          have c2 : wr.cell? ⟨B2, 2, none⟩ = some (.slice bg bl.length bcap) := by simp [World.cell?, hFl.box]
          have o1 : wr.cell? ⟨w1.heap.size, 1, none⟩ = some (.slice fg l.length fcap) := by simp [World.cell?, hRt2.out]
          have hrow := hRt2.row
          have hBl := (Array.getElem?_eq_some_iff.1 hFl.box).1
          have hlk : (l.length + 1) * 48 ≤ 140737488355328 := by have := hll.out; omega
          have hwk1 : IntKind.u64.wrap ((i : Int) + 1) = (i : Int) + 1 := IntWalk.u64_in _ (by omega)
          have hA := Lib.hid (fun (w3 : World) (g cap : Nat) (o : Obj) h1 (h2 : (wr.alloc o).grownBy w3 (Value.slice fg l.length fcap).ownBlock) => hRt2.app (w1 := w3) (x := ⟨nm, (szn : Int), bl⟩) (vb := .slice bg bl.length bcap) (B2 := B2) (g := g) (cap := cap) (o := o) (by omega) (by omega) (by omega) (by omega) hFl.row h1 h2)
          have hB3 : w1.heap.size + 1 ≤ wr.heap.size := by omega
          clear hFl hRt2 hbl hrs hbb
          go_wp2_with (at_builtin; go_must (refine wpList_app1 (by rfl) _ _ 69 (by rfl) (w1.heap.size + 1) 76 (.agg #[.string .empty, .int .i64 0, .slice none 0 0]) 3 48 Tryz.underlying69 info_file4 rfl (by decide) (.slice fg l.length fcap) l.length (fcells4 l) wr hrow hB3 (by rfl) #[.string nm, .int .i64 (szn : Int), .slice bg bl.length bcap] 76 (by rfl) rfl (by simp [Value.oneCell']) hlk (by decide) ?_; intro g cap w3 hown' hgrow hat hg; have ⟨z1, q1, y1, hF⟩ := hA.out w3 g cap _ hown' hgrow; replace hF := Lib.hid hF))
          refine ⟨⟨i + 1, l ++ [(⟨nm, (szn : Int), bl⟩, .slice bg bl.length bcap)], .slice (some ⟨g, 0, none⟩) (l.length + 1) cap, rs, by omega, by go_num, ?_, ?_, hrsl, hF.out⟩, by simp [intOf]; omega⟩
          ·rw [List.map_append]; exact hfk1.out
          ·rw [List.length_append, List.length_singleton, hll.out]
         case pos =>
          have ht0 : (t : Int) < (cnt : Int) := by omega
          have hsx : Hid (Pl.runsK (t + 1) r3 = (Pl.uintR 16384 rs).bind fun a => (Pl.uintR 16384 a.2).bind fun b => if bl.length + b.1 ≤ 16384 then some (bl ++ (List.range b.1).map (fun k => ((a.1 + k : Nat) : Int)), b.2) else none) := Lib.hid (by show Pl.runStep (Pl.runsK t r3) = _; rw [hrk]; rfl)
          have hsn : Hid (Pl.runsK (t + 1) r3 = none → OE = none) := Lib.hid (fun h => hrn.out (Pl.runsK_none h cnt (by omega)))
          have hfl := Lib.hid hFl
          have hFrd := hFl.rd
          have hFold := hFl.old
          replace hrk := Lib.hid hrk
          replace hbb := Lib.hid hbb
          clear hFl
          go_wp2_with fail
          refine (uint_any R 16384 rs wr hFrd (by omega) (by omega)).mono ?_
          rintro e wa ⟨hka, ha⟩
          cases hu6 : Pl.uintR 16384 rs with
          | none =>
           rw [hu6] at ha
           obtain rfl := ha
           have hend := Lib.hid (hbk.out wa (hsn.out (by rw [hsx.out, hu6]; rfl)) (hold.trans (hFold.trans hka (fun q h _ => h.2)) (fun q h hl => ⟨by omega, h⟩)))
           unfold brokenE at hend ⊢
           clear hbk hFrd
           go_wp2
           exact ⟨rfl, hend.out⟩
          | some a6 =>
           obtain ⟨an, rs1⟩ := a6
           rw [hu6] at ha
           obtain ⟨rfl, hRa⟩ := ha
           obtain ⟨han, hrs1⟩ := Pl.uintR_le hu6
           have hwa : IntKind.i64.wrap (an : Int) = (an : Int) := IntWalk.i64_in _ (by omega)
           go_wp2_with fail
           refine (uint_any R 16384 rs1 wa hRa (by omega) (by omega)).mono ?_
           rintro e wb ⟨hkb, hb⟩
           cases hu7 : Pl.uintR 16384 rs1 with
           | none =>
            rw [hu7] at hb
            obtain rfl := hb
            have hend := Lib.hid (hbk.out wb (hsn.out (by rw [hsx.out, hu6, Option.bind_some]; simp only; rw [hu7]; rfl)) (hold.trans (hFold.trans (hka.trans hkb (fun _ h _ => h)) (fun q h _ => h.2)) (fun q h hl => ⟨by omega, h⟩)))
            unfold brokenE at hend ⊢
            clear hbk hFrd
            go_wp2
            exact ⟨rfl, hend.out⟩
           | some a7 =>
            obtain ⟨ny, RST2⟩ := a7
            rw [hu7] at hb
            obtain ⟨rfl, hRb⟩ := hb
            obtain ⟨hny, hrs2⟩ := Pl.uintR_le hu7
            have hwn : IntKind.i64.wrap (ny : Int) = (ny : Int) := IntWalk.i64_in _ (by omega)
            have hsx2 : Hid (Pl.runsK (t + 1) r3 = if bl.length + ny ≤ 16384 then some (bl ++ (List.range ny).map (fun k => ((an + k : Nat) : Int)), RST2) else none) := Lib.hid (hsx.out.trans (by rw [hu6, Option.bind_some]; simp only; rw [hu7, Option.bind_some]))
            have hFl1 := hfl.out.keepR (hka.trans hkb (fun _ h _ => h)) hRB hRb
            clear hRa hRb hka hkb hu6 hu7 hFrd hsx
            go_wp2_with fail
            go_loopw [30] (fun ix W' => ∃ (k : Nat) (vb : Value), k ≤ ny ∧ ix = .int .i64 (k : Int) ∧ bl.length + k ≤ 16384 ∧ FlW wo R B2 nm szn vb (bl ++ (List.range k).map (fun k => ((an + k : Nat) : Int))) RST2 W') (fun ix _ => ny - (intOf ix).toNat)
            case atStart => exact ⟨0, _, Nat.zero_le _, rfl, by omega, by simpa using hFl1⟩
            clear hFl1
            case round =>
             obtain ⟨k, vb, hk, rfl, hbk2, hFl⟩ := hrel
             by_cases hkn : k < ny
             case neg =>
              obtain rfl : k = ny := by omega
              have hsx3 := Lib.hid (hsx2.out.trans (if_pos hbk2))
              replace hFl := Lib.hid hFl
              go_wp2_with fail
              exact ⟨⟨t + 1, vb, _, _, by omega, by go_num, hsx3.out, hFl.out⟩, by simp [intOf]; omega⟩
             have hkn0 : (k : Int) < (ny : Int) := by omega
             have hLl : (bl ++ (List.range k).map (fun k => ((an + k : Nat) : Int))).length = bl.length + k := by simp
             have hsucc := Lib.hid (show bl ++ (List.range (k + 1)).map (fun k => ((an + k : Nat) : Int)) = (bl ++ (List.range k).map (fun k => ((an + k : Nat) : Int))) ++ [((an + k : Nat) : Int)] by rw [List.range_succ, List.map_append, ← List.append_assoc]; rfl)
             generalize hL : bl ++ (List.range k).map (fun k => ((an + k : Nat) : Int)) = L at hFl hLl
             replace hL := Lib.hid hL
             obtain ⟨fg, fcap, hvf⟩ : ∃ g cap, vb = .slice g L.length cap := by
              obtain ⟨ao, cap, e, _⟩ := hFl.row.at
              exact ⟨ao, cap, e⟩
             subst hvf
             have c2 : wr.cell? ⟨B2, 2, none⟩ = some (.slice fg L.length fcap) := by simp [World.cell?, hFl.box]
             by_cases hfull : bl.length + k = 16384
             case pos =>
              have hL1 : ((L.length : Int) == 16384) = true := by simp; omega
              have hL2 : (L.length : Int) = 16384 := by omega
              replace hLl := Lib.hid hLl
              have hend := Lib.hid (hbk.out wr (hsn.out (hsx2.out.trans (if_neg (by omega)))) (hold.trans hFl.old (fun q h hl => ⟨by omega, h⟩)))
              unfold brokenE at hend
              clear hbk hFl
              go_wp2
              exact ⟨rfl, hend.out⟩
             case neg =>
              have hL1 : ((L.length : Int) == 16384) = false := by simp; omega
              have hwk : IntKind.i64.wrap ((an : Int) + (k : Int)) = (an : Int) + (k : Int) := IntWalk.i64_in _ (by omega)
              have hwk1 : IntKind.i64.wrap ((k : Int) + 1) = (k : Int) + 1 := IntWalk.i64_in _ (by omega)
              have hBl := (Array.getElem?_eq_some_iff.1 hFl.box).1
              have hrow : wr.ownsRow (B2 + 1) 3 1 (.slice fg L.length fcap) L.length (icells4 L) := hFl.row
              have hlk : (L.length + 1) * 8 ≤ 140737488355328 := by omega
              replace hLl := Lib.hid hLl
              have hA := Lib.hid (fun (w1 : World) (g cap : Nat) (o : Obj) h1 (h2 : (wr.alloc o).grownBy w1 (Value.slice fg L.length fcap).ownBlock) => hFl.app (w1 := w1) (b := (an : Int) + (k : Int)) (g := g) (cap := cap) (o := o) hRB (by omega) h1 h2)
              have hB3 : B2 + 1 ≤ wr.heap.size := hBl
              clear hFl
              go_wp2_with (at_builtin; go_must (refine wpList_app1 (by rfl) _ _ 74 (by rfl) (B2 + 1) 3 (.int .i64 0) 1 8 Tryz.underlying74 info_int4 rfl (by decide) (.slice fg L.length fcap) L.length (icells4 L) wr hrow hB3 (by rfl) #[.int .i64 ((an : Int) + (k : Int))] 3 (by rfl) rfl (by simp [Value.oneCell']) hlk (by decide) ?_; intro g cap w1 hown' hgrow hat hg; have ⟨z1, q1, y1, hF⟩ := hA.out w1 g cap _ hown' hgrow; replace hF := Lib.hid hF))
              refine ⟨⟨k + 1, .slice (some ⟨g, 0, none⟩) (L.length + 1) cap, by omega, by go_num, by omega, ?_⟩, by simp [intOf]; omega⟩
              rw [hsucc.out, hL.out]
              exact hF.out
end
section
open Go.RowKit Go.Shelf
attribute [local go_sem] Oper.semAt_some
theorem under_broken : Tryz.prog.underlying 132 = some (.struct #[]) := by kernel_rfl
theorem assert_broken (v : Value) (t : TypeId) (w : World) : (Instr.typeAssert (.iface 132 v) t 132 true).run Tryz.prog w = .ok (.tuple #[v, .bool true]) w := by
 simp [Instr.typeAssert, run_underlying under_broken]
def DecGone (b c : Nat) (w w' : World) : Prop := Blk w' b #[.int .u64 0, .slice none 0 0] 71 ∧ Blk w' c #[.int .i64 3] 25 ∧ Keep (fun q => q ≠ b ∧ q ≠ c) w w'
set_option maxHeartbeats 1000000 in
theorem dec_strikes (b c : Nat) (g n : Int) (v : Value) (older : List PanicEntry) (w : World) (hb : Blk w b #[.int .u64 g, v] 71) (hc : Blk w c #[.int .i64 n] 25) (hne : b ≠ c) :
  CallsD Tryz.prog 80 #[.pointer (some ⟨b, 0, none⟩), .pointer (some ⟨c, 0, none⟩)] (.panicking ({ v := .iface 132 (.agg #[]), recovered := false } :: older)) w fun e u' w' =>
   e = .returned (.tuple #[]) ∧ u' = .panicking ({ v := .iface 132 (.agg #[]), recovered := true } :: older) ∧ DecGone b c w w' := by
 have hkA : Keep (fun q => q ≠ b ∧ q ≠ c) w (w.alloc (.cells #[] 132)) := (Keep.refl _ w).alloc _
 have hbA := hb.alloc (.cells #[] 132)
 have hcA := hc.alloc (.cells #[] 132)
 have hTE := hb.lt
 refine callsD_of_wpS Tryz.func80 rfl fun c₀ cs hu => ?_
 apply wpS_seq
 apply wpS_region
 simp [wpOpsS, go_sem, recoverD, hu, Tryz.ntmps80, Exit.thenS]
 apply wpS_seq
 apply wpS_region
 simp [wpOpsS, go_sem, Exit.thenS]
 refine wpS_cond (t := true) (by simp [Act.eval, Array.replicate]) ?_
 simp only [if_true]
 refine wpS_of_wp ?_
 have hta := assert_broken (.agg #[]) 20
 show Code.wp _ _ _ ⟨#[.pointer (some ⟨b, 0, none⟩), .pointer (some ⟨c, 0, none⟩), .iface 132 (.agg #[]), undef, undef, .iface 132 (.agg #[]), .iface 132 (.agg #[]), .bool true, undef, undef, undef, undef, undef, undef, undef, undef, undef], []⟩ _
 go_upto_region 5 with (fail)
 clear hta
 generalize w.alloc (.cells #[] 132) = W at *
 have c0 : W.cell? ⟨b, 0, none⟩ = some (.int .u64 g) := by simp [hbA.cell]
 have c1 : W.cell? ⟨b, 1, none⟩ = some v := by simp [hbA.cell]
 have f0 := hbA.frozen 0
 have f1 := hbA.frozen 1
 have d0 : W.cell? ⟨c, 0, none⟩ = some (.int .i64 n) := by simp [hcA.cell]
 have g0 := hcA.frozen 0
 have hR3 := ((hbA.set 0 (.int .u64 0)).set 1 (.slice none 0 0)).keep (keep_set _ c 0 (.int .i64 3)) hne
 have hE3 := ((hcA.keep (keep_set _ b 0 (.int .u64 0)) hne.symm).keep (keep_set _ b 1 (.slice none 0 0)) hne.symm).set 0 (.int .i64 3)
 have hk3 : Keep (fun q => q ≠ b ∧ q ≠ c) w (((W.setCell ⟨b, 0, none⟩ (.int .u64 0)).setCell ⟨b, 1, none⟩ (.slice none 0 0)).setCell ⟨c, 0, none⟩ (.int .i64 3)) := ((hkA.setCell _ _ _ (fun h _ => h.1 rfl)).setCell _ _ _ (fun h _ => h.1 rfl)).setCell _ _ _ (fun h _ => h.2 rfl)
 have hend : Hid (DecGone b c w (((W.setCell ⟨b, 0, none⟩ (.int .u64 0)).setCell ⟨b, 1, none⟩ (.slice none 0 0)).setCell ⟨c, 0, none⟩ (.int .i64 3))) := Lib.hid ⟨hR3, hE3, hk3⟩
 clear hR3 hE3 hk3 hb hc hkA hbA hcA
 go_wp2
 have he := hend.out
 clear hend
 generalize ((W.setCell ⟨b, 0, none⟩ (.int .u64 0)).setCell ⟨b, 1, none⟩ (.slice none 0 0)).setCell ⟨c, 0, none⟩ (.int .i64 3) = W3 at he ⊢
 clear c0 c1 f0 f1 d0 g0
 cases c₀
 simp_all [bodyPostS, results, Tryz.results80]
end
section
open Go.RowKit Go.Shelf
attribute [local go_sem] Oper.semAt_some
set_option maxHeartbeats 1600000 in
theorem decode_long (S : ByteArray) (N0 : Int) (w : World) (hS : S.size ≤ 9223372036854775000) (he : (Pl.takeFrame S.data.toList).2.2 = 0) (hor : 3840 < (Pl.takeFrame S.data.toList).2.1) :
  Calls Tryz.prog 51 #[.string S, .int .i64 N0] w (DecEnds w none) := by
 have P1 := Lib.hid (fun w => takeFrame_big S w hS)
 generalize Pl.takeFrame S.data.toList = t at P1 he hor
 obtain ⟨⟨kd, ld⟩, n, E⟩ := t
 unfold tupF at P1
 simp only at P1 he hor
 subst he
 have hn : (3840 : Int) < (n : Int) := by omega
 clear hor
 have hb0 : Below w.heap.size w ((w.alloc (.cells #[.int .u64 0, .slice none 0 0] 71)).alloc (.cells #[.int .i64 0] 25)) := ((Below.refl _ _).alloc (Nat.le_refl _) _).alloc (by rw [World.size_alloc]; omega) _
 have hR0 : ((w.alloc (.cells #[.int .u64 0, .slice none 0 0] 71)).alloc (.cells #[.int .i64 0] 25)).heap[w.heap.size]? = some (.cells #[.int .u64 0, .slice none 0 0] 71 (0, 0)) := by
  exact (((Below.refl _ (w.alloc (.cells #[.int .u64 0, .slice none 0 0] 71))).alloc (Nat.le_refl _) _).block w.heap.size (by rw [World.size_alloc]; omega)).trans (World.alloc_heap_new _ _)
 have hE0 : ((w.alloc (.cells #[.int .u64 0, .slice none 0 0] 71)).alloc (.cells #[.int .i64 0] 25)).heap[w.heap.size + 1]? = some (.cells #[.int .i64 0] 25 (0, 0)) := by
  have := World.alloc_heap_new (w.alloc (.cells #[.int .u64 0, .slice none 0 0] 71)) (.cells #[.int .i64 0] 25)
  rwa [World.size_alloc] at this
 go_enter_defers Tryz.func51, Tryz.ntmps51
 go_wp2_with fail
 generalize ((w.alloc (.cells #[.int .u64 0, .slice none 0 0] 71)).alloc (.cells #[.int .i64 0] 25)) = W0 at *
 refine (P1.out W0).mono ?_
 rintro e w1 ⟨rfl, b1⟩
 have hz1 := (Array.getElem?_eq_some_iff.1 hE0).1
 have hR1 := (b1.block w.heap.size (by omega)).trans hR0
 have hE1 := (b1.block (w.heap.size + 1) (by omega)).trans hE0
 clear hR0 hE0
 go_upto_region 3 with (fail)
 have hb2 : Below w.heap.size w w1 := hb0.trans (b1.mono (by omega))
 have hb3 := hb2.alloc hb2.size (.cells #[.int .u8 (kd.toNat : Int), .string ⟨ld.toArray⟩] 128)
 have hR2 := (show Blk w1 w.heap.size #[.int .u64 0, .slice none 0 0] 71 from hR1).alloc (.cells #[.int .u8 (kd.toNat : Int), .string ⟨ld.toArray⟩] 128)
 have hE2 := (show Blk w1 (w.heap.size + 1) #[.int .i64 0] 25 from hE1).alloc (.cells #[.int .u8 (kd.toNat : Int), .string ⟨ld.toArray⟩] 128)
 clear hb0 hb2 hR1 hE1 b1 hz1 P1
 generalize w1.alloc (.cells #[.int .u8 (kd.toNat : Int), .string ⟨ld.toArray⟩] 128) = w2 at hb3 hR2 hE2 ⊢
 have c0 : w2.cell? ⟨w.heap.size, 0, none⟩ = some (.int .u64 0) := by simp [hR2.cell]
 have c1 : w2.cell? ⟨w.heap.size, 1, none⟩ = some (.slice none 0 0) := by simp [hR2.cell]
 have f0 := hR2.frozen 0
 have f1 := hR2.frozen 1
 have d0 : w2.cell? ⟨w.heap.size + 1, 0, none⟩ = some (.int .i64 0) := by simp [hE2.cell]
 have g0 := hE2.frozen 0
 have hR3 := ((hR2.set 0 (.int .u64 0)).set 1 (.slice none 0 0)).keep (keep_set _ (w.heap.size + 1) 0 (.int .i64 3)) (by omega)
 have hE3 := (((hE2.keep (keep_set w2 w.heap.size 0 (.int .u64 0)) (by omega)).keep (keep_set _ w.heap.size 1 (.slice none 0 0)) (by omega))).set 0 (.int .i64 3)
 have hb4 := ((hb3.setCell (p := ⟨w.heap.size, 0, none⟩) (Nat.le_refl _) (.int .u64 0)).setCell (p := ⟨w.heap.size, 1, none⟩) (Nat.le_refl _) (.slice none 0 0)).setCell (p := ⟨w.heap.size + 1, 0, none⟩) (Nat.le_succ _) (.int .i64 3)
 have hend := Lib.hid (And.intro hR3 (And.intro hE3 hb4))
 clear hR3 hE3 hb4 hb3 hR2 hE2
 go_wp2_with fail
 obtain ⟨h1, h2, h3⟩ := hend.out
 unfold bodyPostD
 simp only [Leaves, settle]
 exact ⟨_, results_dec rfl rfl rfl h1 h2, h3, 0, none, 0, 0, 3, rfl, fun _ => by decide, fun r h => by cases h⟩
set_option maxHeartbeats 1600000 in
theorem decode_kind (S : ByteArray) (N0 : Int) (w : World) (hS : S.size ≤ 9223372036854775000) (he : (Pl.takeFrame S.data.toList).2.2 = 0) (hor : ¬ 3840 < (Pl.takeFrame S.data.toList).2.1 ∧ (Pl.takeFrame S.data.toList).1.1 ≠ 1) :
  Calls Tryz.prog 51 #[.string S, .int .i64 N0] w (DecEnds w none) := by
 have P1 := Lib.hid (fun w => takeFrame_big S w hS)
 generalize Pl.takeFrame S.data.toList = t at P1 he hor
 obtain ⟨⟨kd, ld⟩, n, E⟩ := t
 unfold tupF at P1
 simp only at P1 he hor
 subst he
 obtain ⟨hn0, hkn⟩ := hor
 have hn : ¬ (3840 : Int) < (n : Int) := by omega
 have hkq : kd.toNat ≠ 1 := fun h => hkn (UInt8.toNat_inj.1 h)
 have hk1 : ((kd.toNat : Int) != 1) = true := by simp; omega
 clear hkq hkn hn0
 have hb0 : Below w.heap.size w ((w.alloc (.cells #[.int .u64 0, .slice none 0 0] 71)).alloc (.cells #[.int .i64 0] 25)) := ((Below.refl _ _).alloc (Nat.le_refl _) _).alloc (by rw [World.size_alloc]; omega) _
 have hR0 : ((w.alloc (.cells #[.int .u64 0, .slice none 0 0] 71)).alloc (.cells #[.int .i64 0] 25)).heap[w.heap.size]? = some (.cells #[.int .u64 0, .slice none 0 0] 71 (0, 0)) := by
  exact (((Below.refl _ (w.alloc (.cells #[.int .u64 0, .slice none 0 0] 71))).alloc (Nat.le_refl _) _).block w.heap.size (by rw [World.size_alloc]; omega)).trans (World.alloc_heap_new _ _)
 have hE0 : ((w.alloc (.cells #[.int .u64 0, .slice none 0 0] 71)).alloc (.cells #[.int .i64 0] 25)).heap[w.heap.size + 1]? = some (.cells #[.int .i64 0] 25 (0, 0)) := by
  have := World.alloc_heap_new (w.alloc (.cells #[.int .u64 0, .slice none 0 0] 71)) (.cells #[.int .i64 0] 25)
  rwa [World.size_alloc] at this
 go_enter_defers Tryz.func51, Tryz.ntmps51
 go_wp2_with fail
 generalize ((w.alloc (.cells #[.int .u64 0, .slice none 0 0] 71)).alloc (.cells #[.int .i64 0] 25)) = W0 at *
 refine (P1.out W0).mono ?_
 rintro e w1 ⟨rfl, b1⟩
 have hz1 := (Array.getElem?_eq_some_iff.1 hE0).1
 have hR1 := (b1.block w.heap.size (by omega)).trans hR0
 have hE1 := (b1.block (w.heap.size + 1) (by omega)).trans hE0
 clear hR0 hE0
 go_upto_region 3 with (fail)
 have hb2 : Below w.heap.size w w1 := hb0.trans (b1.mono (by omega))
 have hb3 := hb2.alloc hb2.size (.cells #[.int .u8 (kd.toNat : Int), .string ⟨ld.toArray⟩] 128)
 have hR2 := (show Blk w1 w.heap.size #[.int .u64 0, .slice none 0 0] 71 from hR1).alloc (.cells #[.int .u8 (kd.toNat : Int), .string ⟨ld.toArray⟩] 128)
 have hE2 := (show Blk w1 (w.heap.size + 1) #[.int .i64 0] 25 from hE1).alloc (.cells #[.int .u8 (kd.toNat : Int), .string ⟨ld.toArray⟩] 128)
 clear hb0 hb2 hR1 hE1 b1 hz1 P1
 generalize w1.alloc (.cells #[.int .u8 (kd.toNat : Int), .string ⟨ld.toArray⟩] 128) = w2 at hb3 hR2 hE2 ⊢
 have c0 : w2.cell? ⟨w.heap.size, 0, none⟩ = some (.int .u64 0) := by simp [hR2.cell]
 have c1 : w2.cell? ⟨w.heap.size, 1, none⟩ = some (.slice none 0 0) := by simp [hR2.cell]
 have f0 := hR2.frozen 0
 have f1 := hR2.frozen 1
 have d0 : w2.cell? ⟨w.heap.size + 1, 0, none⟩ = some (.int .i64 0) := by simp [hE2.cell]
 have g0 := hE2.frozen 0
 have hR3 := ((hR2.set 0 (.int .u64 0)).set 1 (.slice none 0 0)).keep (keep_set _ (w.heap.size + 1) 0 (.int .i64 3)) (by omega)
 have hE3 := (((hE2.keep (keep_set w2 w.heap.size 0 (.int .u64 0)) (by omega)).keep (keep_set _ w.heap.size 1 (.slice none 0 0)) (by omega))).set 0 (.int .i64 3)
 have hb4 := ((hb3.setCell (p := ⟨w.heap.size, 0, none⟩) (Nat.le_refl _) (.int .u64 0)).setCell (p := ⟨w.heap.size, 1, none⟩) (Nat.le_refl _) (.slice none 0 0)).setCell (p := ⟨w.heap.size + 1, 0, none⟩) (Nat.le_succ _) (.int .i64 3)
 have hend := Lib.hid (And.intro hR3 (And.intro hE3 hb4))
 clear hR3 hE3 hb4 hb3 hR2 hE2
 go_wp2_with fail
 obtain ⟨h1, h2, h3⟩ := hend.out
 unfold bodyPostD
 simp only [Leaves, settle]
 exact ⟨_, results_dec rfl rfl rfl h1 h2, h3, 0, none, 0, 0, 3, rfl, fun _ => by decide, fun r h => by cases h⟩
theorem Pl.takeText_len (l : List UInt8) (m : Nat) : (Pl.takeText l m).1.length ≤ l.length := by
 unfold Pl.takeText
 repeat' split
 all_goals simp
 all_goals omega
theorem Pl.takeFrame_len (l : List UInt8) : (Pl.takeFrame l).1.2.length ≤ l.length := by
 unfold Pl.takeFrame
 repeat' split
 all_goals simp
 have := Pl.takeText_len (l.drop 5) 262144
 rw [List.length_drop] at this
 omega
theorem Pl.takeFrame_end (l : List UInt8) : (Pl.takeFrame l).2.1 ≤ l.length := by
 unfold Pl.takeFrame
 repeat' split
 all_goals simp
 have := Pl.takeText_fits (l.drop 5) 262144
 rw [List.length_drop] at this
 omega
theorem Pl.fileR_fine {l rest : List UInt8} {y : Pl.FileP} (h : Pl.fileR l = some (y, rest)) : y.fine := by
 unfold Pl.fileR at h
 cases h1 : Pl.textR l with
 | none => rw [h1] at h; cases h
 | some a =>
  rw [h1, Option.bind_some] at h
  cases h2 : Pl.uintR 4194304 a.2 with
  | none => rw [h2] at h; cases h
  | some b =>
   rw [h2, Option.bind_some] at h
   cases h3 : Pl.uintR 16384 b.2 with
   | none => rw [h3] at h; cases h
   | some c =>
    rw [h3, Option.bind_some] at h
    cases h4 : Pl.runsK c.1 c.2 with
    | none => rw [h4] at h; cases h
    | some d =>
     rw [h4, Option.bind_some] at h
     obtain ⟨rfl, _⟩ := Prod.mk.inj (Option.some.inj h)
     have e1 := (Pl.uintR_le (n := b.1) (r := b.2) h2).1
     have e2 := (Pl.runsK_len c.1 (bl := d.1) (r := d.2) h4).2.2
     exact ⟨⟨by show _ ≤ (b.1 : Int); omega, by show (b.1 : Int) ≤ _; omega⟩, fun q hq => by have := e2 q hq; omega⟩
theorem Pl.filesK_fine {l : List UInt8} : ∀ (k : Nat) {fs : List Pl.FileP} {r : List UInt8}, Pl.filesK k l = some (fs, r) → ∀ x ∈ fs, x.fine
 | 0, fs, r, h => by
  obtain ⟨rfl, _⟩ := Prod.mk.inj (Option.some.inj h)
  exact fun _ h => (List.not_mem_nil h).elim
 | k + 1, fs, r, h => by
  have h0 : Pl.fileStep (Pl.filesK k l) = some (fs, r) := h
  cases hk : Pl.filesK k l with
  | none => rw [hk] at h0; cases h0
  | some st =>
   have ih := Pl.filesK_fine k (fs := st.1) (r := st.2) hk
   rw [hk] at h0
   unfold Pl.fileStep at h0
   simp only [Option.bind_some] at h0
   cases ha : Pl.fileR st.2 with
   | none => rw [ha] at h0; cases h0
   | some y =>
    rw [ha, Option.bind_some] at h0
    obtain ⟨rfl, _⟩ := Prod.mk.inj (Option.some.inj h0)
    intro x hx
    rcases List.mem_append.1 hx with hx | hx
    ·exact ih x hx
    ·obtain rfl := List.mem_singleton.1 hx
     exact Pl.fileR_fine (y := y.1) (rest := y.2) ha
theorem Pl.rootR_fine {l : List UInt8} {r : Pl.RootP} (h : Pl.rootR l = some r) : r.fine ∧ r.gen ≤ 4611686018427387904 := by
 unfold Pl.rootR at h
 cases h1 : Pl.uintR 4611686018427387904 l with
 | none => rw [h1] at h; cases h
 | some a =>
  rw [h1, Option.bind_some] at h
  cases h2 : Pl.uintR 64 a.2 with
  | none => rw [h2] at h; cases h
  | some b =>
   rw [h2, Option.bind_some] at h
   cases h3 : Pl.filesK b.1 b.2 with
   | none => rw [h3] at h; cases h
   | some c =>
    rw [h3, Option.bind_some] at h
    split at h
    ·obtain rfl := Option.some.inj h
     have e1 := (Pl.uintR_le (n := a.1) (r := a.2) h1).1
     exact ⟨⟨by show a.1 ≤ _; omega, fun x hx => Pl.filesK_fine b.1 (fs := c.1) (r := c.2) h3 x hx⟩, e1⟩
    ·cases h
theorem dec_none (w w' : World) (hb : Below w.heap.size w w') : DecEnds w none (.returned (.tuple #[.agg #[.int .u64 0, .slice none 0 0], .int .i64 3])) w' :=
 ⟨hb, 0, none, 0, 0, 3, rfl, fun _ => by decide, fun r h => by cases h⟩
set_option maxHeartbeats 1600000 in
theorem decode_any (S : ByteArray) (N0 : Int) (w : World) (hS : S.size ≤ 1000000000) (hN1 : -9223372036854775808 ≤ N0) (hN2 : N0 ≤ 9223372036854775807) :
  Calls Tryz.prog 51 #[.string S, .int .i64 N0] w (DecEnds w (Pl.decRt N0 S)) := by
 obtain ⟨OE, hOE⟩ : ∃ OE, OE = Pl.decRt N0 S := ⟨_, rfl⟩
 rw [← hOE]
 unfold Pl.decRt at hOE
 by_cases he : (Pl.takeFrame S.data.toList).2.2 = 0
 case neg =>
  rw [hOE, if_pos (.inl he)]
  exact decode_refused S N0 w (by omega) he
 by_cases hn0 : 3840 < (Pl.takeFrame S.data.toList).2.1
 ·rw [hOE, if_pos (.inr (.inl hn0))]
  exact decode_long S N0 w (by omega) he hn0
 by_cases hk0 : (Pl.takeFrame S.data.toList).1.1 = 1
 case neg =>
  rw [hOE, if_pos (.inr (.inr hk0))]
  exact decode_kind S N0 w (by omega) he ⟨hn0, hk0⟩
 rw [if_neg (fun h => h.elim (fun h => h he) (fun h => h.elim hn0 (fun h => h hk0)))] at hOE
 have P1 := Lib.hid (fun w => takeFrame_big S w (by omega))
 have hld := Pl.takeFrame_len S.data.toList
 have hnl := Pl.takeFrame_end S.data.toList
 rw [show S.data.toList.length = S.size from Array.length_toList] at hld hnl
 obtain ⟨SL, hSL⟩ : ∃ SL, SL = S.data.toList := ⟨_, rfl⟩
 have hEq : ∀ n, S.extract 0 n = ⟨(SL.take n).toArray⟩ := by
  intro n
  rw [hSL]
  apply ByteArray.ext
  apply Array.ext'
  simp [ByteArray.data_extract, Array.toList_extract]
 rw [← hSL] at hld hnl hOE P1 he hn0 hk0
 generalize Pl.takeFrame SL = t at P1 he hOE hn0 hk0 hld hnl
 obtain ⟨⟨kd, ld⟩, n, E⟩ := t
 unfold tupF at P1
 simp only at P1 he hOE hn0 hk0 hld hnl
 subst he hk0
 replace hOE := Lib.hid hOE
 replace hEq := Lib.hid (hEq n)
 have hmf : ∀ (fn : Fn) (first cap : Array Value) (w : World), (Instr.makeFunc fn first cap).run Tryz.prog w = .ok (.func fn first cap) w := fun _ _ _ _ => rfl
 have hn1 : ¬ (3840 : Int) < (n : Int) := by omega
 have hb0 : Below w.heap.size w ((w.alloc (.cells #[.int .u64 0, .slice none 0 0] 71)).alloc (.cells #[.int .i64 0] 25)) := ((Below.refl _ _).alloc (Nat.le_refl _) _).alloc (by rw [World.size_alloc]; omega) _
 have hR0 : ((w.alloc (.cells #[.int .u64 0, .slice none 0 0] 71)).alloc (.cells #[.int .i64 0] 25)).heap[w.heap.size]? = some (.cells #[.int .u64 0, .slice none 0 0] 71 (0, 0)) := by
  exact (((Below.refl _ (w.alloc (.cells #[.int .u64 0, .slice none 0 0] 71))).alloc (Nat.le_refl _) _).block w.heap.size (by rw [World.size_alloc]; omega)).trans (World.alloc_heap_new _ _)
 have hE0 : ((w.alloc (.cells #[.int .u64 0, .slice none 0 0] 71)).alloc (.cells #[.int .i64 0] 25)).heap[w.heap.size + 1]? = some (.cells #[.int .i64 0] 25 (0, 0)) := by
  have := World.alloc_heap_new (w.alloc (.cells #[.int .u64 0, .slice none 0 0] 71)) (.cells #[.int .i64 0] 25)
  rwa [World.size_alloc] at this
 go_enter_defers Tryz.func51, Tryz.ntmps51
 go_wp2_with fail
 generalize ((w.alloc (.cells #[.int .u64 0, .slice none 0 0] 71)).alloc (.cells #[.int .i64 0] 25)) = W0 at *
 refine (P1.out W0).mono ?_
 rintro e w1 ⟨rfl, b1⟩
 have hz1 := (Array.getElem?_eq_some_iff.1 hE0).1
 have hR1 := (b1.block w.heap.size (by omega)).trans hR0
 have hE1 := (b1.block (w.heap.size + 1) (by omega)).trans hE0
 clear hR0 hE0
 go_wp2_with fail
 have hb2 : Below w1.heap.size w1 ((w1.alloc (.cells #[.int .u8 1, .string ⟨ld.toArray⟩] 128)).alloc (.cells #[.string ⟨ld.toArray⟩] 136)) := ((Below.refl _ _).alloc (Nat.le_refl _) _).alloc (by rw [World.size_alloc]; omega) _
 have hRd : RdAt ((w1.alloc (.cells #[.int .u8 1, .string ⟨ld.toArray⟩] 128)).alloc (.cells #[.string ⟨ld.toArray⟩] 136)) (w1.heap.size + 1) ld := by
  have := World.alloc_heap_new (w1.alloc (.cells #[.int .u8 1, .string ⟨ld.toArray⟩] 128)) (.cells #[.string ⟨ld.toArray⟩] 136)
  rw [World.size_alloc] at this
  exact this
 generalize ((w1.alloc (.cells #[.int .u8 1, .string ⟨ld.toArray⟩] 128)).alloc (.cells #[.string ⟨ld.toArray⟩] 136)) = W2 at *
 refine (rootR_any (w1.heap.size + 1) ld W2 hRd (by omega)).mono ?_
 rintro e w2 ⟨hk2, h2⟩
 have hz2 := b1.size
 have hz3 := hb2.size
 have hz4 := hk2.size
 have hR2 := (hk2.block w.heap.size (show w.heap.size ≠ w1.heap.size + 1 by omega) (by omega)).trans ((hb2.block w.heap.size (by omega)).trans hR1)
 have hE2 := (hk2.block (w.heap.size + 1) (show w.heap.size + 1 ≠ w1.heap.size + 1 by omega) (by omega)).trans ((hb2.block (w.heap.size + 1) (by omega)).trans hE1)
 have hbw2 : Below w.heap.size w w2 := hk2.below ((hb0.trans (b1.mono (by omega))).trans (hb2.mono (by omega))) (Nat.le_refl _) (fun k h => by omega)
 clear hR1 hE1 P1 hRd hb2 b1 hb0 hk2
 cases hrr : Pl.rootR ld with
 | none =>
  rw [hrr] at h2
  obtain rfl := h2
  have hon : OE = none := hOE.out.trans (by rw [hrr]; rfl)
  subst hon
  unfold brokenE
  go_wp2
  unfold bodyPostD
  refine leaves_cons (f := 80) (args := #[.pointer (some ⟨w.heap.size, 0, none⟩), .pointer (some ⟨w.heap.size + 1, 0, none⟩)]) (by simp) (by simp [go_sem]) ?_
  refine (dec_strikes w.heap.size (w.heap.size + 1) 0 0 (.slice none 0 0) [] _ hR2 hE2 (by omega)).mono ?_
  rintro e u' w'' ⟨rfl, rfl, h1, h2, h3⟩
  simp only [Leaves, settle, List.dropWhile_nil]
  exact ⟨_, results_dec rfl rfl rfl h1 h2, dec_none _ _ (h3.below hbw2 (Nat.le_refl _) (fun k h => by omega))⟩
 | some r =>
  rw [hrr] at h2
  obtain ⟨va, vn, vc, fl, rfl, hfo, hfl⟩ := h2
  obtain ⟨hfi, hgen⟩ := Pl.rootR_fine hrr
  have hOr : Hid (OE = if (Pl.encRt (min N0 16384) r).2 ≠ 0 ∨ (Pl.encRt (min N0 16384) r).1 ≠ SL.take n then none else some r) := Lib.hid (hOE.out.trans (by rw [hrr]; rfl))
  clear hOE hrr
  have c0 : w2.cell? ⟨w.heap.size, 0, none⟩ = some (.int .u64 0) := by simp [World.cell?, hR2]
  have c1 : w2.cell? ⟨w.heap.size, 1, none⟩ = some (.slice none 0 0) := by simp [World.cell?, hR2]
  have f0 : w2.frozen? ⟨w.heap.size, 0, none⟩ = false := by simp [World.frozen?, hR2]
  have f1 : w2.frozen? ⟨w.heap.size, 1, none⟩ = false := by simp [World.frozen?, hR2]
  replace hfo := Lib.hid hfo
  replace hfl := Lib.hid hfl
  go_wp2_with fail
  have hR3 := heap_two (u := .int .u64 (r.gen : Int)) (v := .slice va vn vc) hR2
  have hk3 : Keep (fun q => q ≠ w.heap.size) w2 ((w2.setCell ⟨w.heap.size, 0, none⟩ (.int .u64 (r.gen : Int))).setCell ⟨w.heap.size, 1, none⟩ (.slice va vn vc)) := ((Keep.refl _ _).setCell _ _ _ (fun h _ => h rfl)).setCell _ _ _ (fun h _ => h rfl)
  generalize (w2.setCell ⟨w.heap.size, 0, none⟩ (.int .u64 (r.gen : Int))).setCell ⟨w.heap.size, 1, none⟩ (.slice va vn vc) = w3 at *
  have hfo3 := hfo.out.keep hk3 (fun q h _ => by omega)
  have hE3 := (hk3.block (w.heap.size + 1) (show w.heap.size + 1 ≠ w.heap.size by omega) (Array.getElem?_eq_some_iff.1 hE2).1).trans hE2
  have hbw3 := hk3.below hbw2 (Nat.le_refl _) (fun k h => by omega)
  have hfa : FilesAt w3 (.slice va vn vc) r.files := by rw [← hfl.out]; exact hfo3.at
  obtain ⟨ao, cap, hae, _⟩ := id hfa
  obtain ⟨rfl, rfl, rfl⟩ : va = ao ∧ vn = r.files.length ∧ vc = cap := by simpa using hae
  have P3 := Lib.hid (encRt_any r va vc N0 w3 hfi hfa hN1 hN2)
  replace hfo3 := Lib.hid hfo3
  clear hfa hae hfo hfi hR2 hE2 c0 c1 f0 f1 hk3 hbw2
  obtain ⟨A, hA⟩ : ∃ A, A = Pl.encRt (min N0 16384) r := ⟨_, rfl⟩
  rw [← hA] at P3 hOr
  obtain ⟨Al, Ae⟩ := A
  simp only at P3 hOr
  clear hA
  obtain ⟨AS, hAS⟩ : ∃ AS, AS = ByteArray.mk Al.toArray := ⟨_, rfl⟩
  have hAq : AS = S.extract 0 n ↔ Al = SL.take n := by
   rw [hEq.out, hAS]
   exact ⟨fun h => List.toArray_inj (congrArg ByteArray.data h), fun h => by rw [h]⟩
  rw [← hAS] at P3
  clear hAS
  refine P3.out.mono ?_
  rintro e w4 ⟨rfl, b4⟩
  clear P3
  have hR4 := (b4.block w.heap.size (Array.getElem?_eq_some_iff.1 hR3).1).trans hR3
  have hE4 := (b4.block (w.heap.size + 1) (Array.getElem?_eq_some_iff.1 hE3).1).trans hE3
  have hbw4 := hbw3.trans (b4.mono hbw3.size)
  have c0 : w4.cell? ⟨w.heap.size, 0, none⟩ = some (.int .u64 (r.gen : Int)) := by simp [World.cell?, hR4]
  have c1 : w4.cell? ⟨w.heap.size, 1, none⟩ = some (.slice va r.files.length vc) := by simp [World.cell?, hR4]
  have f0 : w4.frozen? ⟨w.heap.size, 0, none⟩ = false := by simp [World.frozen?, hR4]
  have f1 : w4.frozen? ⟨w.heap.size, 1, none⟩ = false := by simp [World.frozen?, hR4]
  have d0 : w4.cell? ⟨w.heap.size + 1, 0, none⟩ = some (.int .i64 0) := by simp [World.cell?, hE4]
  have g0 : w4.frozen? ⟨w.heap.size + 1, 0, none⟩ = false := by simp [World.frozen?, hE4]
  have hR3e := ((((show Blk w4 w.heap.size #[.int .u64 (r.gen : Int), .slice va r.files.length vc] 71 from hR4).set 0 (.int .u64 0)).set 1 (.slice none 0 0)).keep (keep_set _ (w.heap.size + 1) 0 (.int .i64 3)) (by omega))
  have hE3e := ((((show Blk w4 (w.heap.size + 1) #[.int .i64 0] 25 from hE4).keep (keep_set w4 w.heap.size 0 (.int .u64 0)) (by omega)).keep (keep_set _ w.heap.size 1 (.slice none 0 0)) (by omega))).set 0 (.int .i64 3)
  have hb4e := ((hbw4.setCell (p := ⟨w.heap.size, 0, none⟩) (Nat.le_refl _) (.int .u64 0)).setCell (p := ⟨w.heap.size, 1, none⟩) (Nat.le_refl _) (.slice none 0 0)).setCell (p := ⟨w.heap.size + 1, 0, none⟩) (Nat.le_succ _) (.int .i64 3)
  have hend := Lib.hid (And.intro hR3e (And.intro hE3e hb4e))
  clear hR3e hE3e hb4e
  by_cases hAe : Ae = 0
  case neg =>
   have hne : ((Ae : Int) != 0) = true := by simp; omega
   have hon : OE = none := hOr.out.trans (if_pos (.inl hAe))
   subst hon
   clear hOr hAe hR4 hE4 hR3 hE3 hAq hEq
   go_wp2_with fail
   obtain ⟨h1, h2, h3⟩ := hend.out
   refine leaves_cons (f := 80) (args := #[.pointer (some ⟨w.heap.size, 0, none⟩), .pointer (some ⟨w.heap.size + 1, 0, none⟩)]) (by simp) (by simp [go_sem]) ?_
   refine (dec_idle _ _ _).mono ?_
   rintro e u' w'' ⟨rfl, rfl, rfl⟩
   simp only [Leaves, settle]
   exact ⟨_, results_dec rfl rfl rfl h1 h2, dec_none _ _ h3⟩
  subst hAe
  by_cases hq : AS = S.extract 0 n
  case neg =>
   obtain ⟨q1, q2⟩ := toList_bne hq
   have hon : OE = none := hOr.out.trans (if_pos (.inr (fun h => hq (hAq.2 h))))
   subst hon
   clear hOr hR4 hE4 hR3 hE3 hAq hEq
   go_wp2_with fail
   obtain ⟨h1, h2, h3⟩ := hend.out
   refine leaves_cons (f := 80) (args := #[.pointer (some ⟨w.heap.size, 0, none⟩), .pointer (some ⟨w.heap.size + 1, 0, none⟩)]) (by simp) (by simp [go_sem]) ?_
   refine (dec_idle _ _ _).mono ?_
   rintro e u' w'' ⟨rfl, rfl, rfl⟩
   simp only [Leaves, settle]
   exact ⟨_, results_dec rfl rfl rfl h1 h2, dec_none _ _ h3⟩
  have hon : OE = some r := hOr.out.trans (if_neg (fun h => h.elim (fun h => h rfl) (fun h => h (hAq.1 hq))))
  subst hon hq
  clear hOr hAq hEq hR3 hE3 hend
  go_wp2_with fail
  have hR5 := ((((show Blk w4 w.heap.size #[.int .u64 (r.gen : Int), .slice va r.files.length vc] 71 from hR4).set 0 (.int .u64 (r.gen : Int))).set 1 (.slice va r.files.length vc)).keep (keep_set _ (w.heap.size + 1) 0 (.int .i64 0)) (by omega))
  have hE5 := ((((show Blk w4 (w.heap.size + 1) #[.int .i64 0] 25 from hE4).keep (keep_set w4 w.heap.size 0 (.int .u64 (r.gen : Int))) (by omega)).keep (keep_set _ w.heap.size 1 (.slice va r.files.length vc)) (by omega))).set 0 (.int .i64 0)
  have hb5 := ((hbw4.setCell (p := ⟨w.heap.size, 0, none⟩) (Nat.le_refl _) (.int .u64 (r.gen : Int))).setCell (p := ⟨w.heap.size, 1, none⟩) (Nat.le_refl _) (.slice va r.files.length vc)).setCell (p := ⟨w.heap.size + 1, 0, none⟩) (Nat.le_succ _) (.int .i64 0)
  have hk5 : Keep (fun q => q ≠ w.heap.size ∧ q ≠ w.heap.size + 1) w4 (((w4.setCell ⟨w.heap.size, 0, none⟩ (.int .u64 (r.gen : Int))).setCell ⟨w.heap.size, 1, none⟩ (.slice va r.files.length vc)).setCell ⟨w.heap.size + 1, 0, none⟩ (.int .i64 0)) := (((Keep.refl _ w4).setCell _ _ _ (fun h _ => h.1 rfl)).setCell _ _ _ (fun h _ => h.1 rfl)).setCell _ _ _ (fun h _ => h.2 rfl)
  have hf := (hfo3.out.keep (Keep.of_below (fp := fun q => q < w3.heap.size) b4 (fun _ h _ => h)) (fun q _ h => h)).keep hk5 (fun q h _ => by omega)
  refine leaves_cons (f := 80) (args := #[.pointer (some ⟨w.heap.size, 0, none⟩), .pointer (some ⟨w.heap.size + 1, 0, none⟩)]) (by simp) (by simp [go_sem]) ?_
  refine (dec_idle _ _ _).mono ?_
  rintro e u' w'' ⟨rfl, rfl, rfl⟩
  simp only [Leaves, settle]
  refine ⟨_, results_dec rfl rfl rfl hR5 hE5, hb5, _, va, _, vc, 0, rfl, fun h => (by cases h), ?_⟩
  intro r' hr'
  obtain rfl := Option.some.inj hr'
  exact ⟨rfl, rfl, fl, ⟨row_base hf.1 (by omega), fun y hy => row_base (hf.2 y hy) (by omega)⟩, hfl.out⟩
end
end Go.Proofs.YtogblcdefbnbeaaGreat
