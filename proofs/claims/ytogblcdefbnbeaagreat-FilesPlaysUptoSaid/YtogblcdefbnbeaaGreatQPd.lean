
/- Walks: the document's reader, on whatever bytes. Condition: lengths that memory lets. -/
import Derived.Test.YtogblcdefbnbeaaGreatQPa
import Derived.Test.YtogblcdefbnbeaaGreatQPk
import Derived.Test.YtogblcdefbnbeaaGreatQGy
set_option maxRecDepth 100000
namespace Go.Proofs.YtogblcdefbnbeaaGreat
section
open Go.RowKit
namespace Pl
def dUint (most : Nat) (o : Option (List UInt8)) : Nat × Option (List UInt8) := match o.bind (uintR most) with | none => (0, none) | some (n, r) => (n, some r)
def dText (o : Option (List UInt8)) : ByteArray × Option (List UInt8) := match o.bind textR with | none => (.empty, none) | some (t, r) => (t, some r)
end Pl
def RdA (W : World) (R : Nat) (o : Option (List UInt8)) : Prop := ∃ S : ByteArray, Blk W R #[.string S, .bool o.isNone] 144 ∧ S.size ≤ 281474976710656 ∧ ∀ l, o = some l → S.data.toList = l
theorem RdA.lt {W : World} {R : Nat} {o : Option (List UInt8)} (h : RdA W R o) : R < W.heap.size := by obtain ⟨S, h, _⟩ := h; exact h.lt
theorem RdA.keep {W W' : World} {R : Nat} {o : Option (List UInt8)} {fp : Nat → Prop} (h : RdA W R o) (hk : Keep fp W W') (hf : fp R) : RdA W' R o := by
 obtain ⟨S, h, h2, h3⟩ := h
 exact ⟨S, h.keep hk hf, h2, h3⟩
theorem ext_list (S : ByteArray) (k : Nat) : (S.extract k S.size).data.toList = S.data.toList.drop k := by
 have e2 : (S.extract k S.size).data.toList = (S.data.toList.drop k).take (S.size - k) := by
  simp [ByteArray.data_extract, Array.toList_extract, List.extract_eq_take_drop]
 rw [e2, List.take_of_length_le]
 rw [List.length_drop]
 simp
set_option maxHeartbeats 1000000 in
theorem duint_any (R most : Nat) (o : Option (List UInt8)) (w : World) (h : RdA w R o) (hm : most ≤ 4611686018427387904) :
  Calls Tryz.prog 88 #[.pointer (some ⟨R, 0, none⟩), .int .u64 (most : Int)] w fun e w' => e = .returned (.int .u64 ((Pl.dUint most o).1 : Int)) ∧ RdA w' R (Pl.dUint most o).2 ∧ Keep (fun q => q ≠ R) w w' := by
 obtain ⟨D, hD⟩ : ∃ D, D = Pl.dUint most o := ⟨_, rfl⟩
 rw [← hD]
 obtain ⟨S, hb, hs, hl⟩ := h
 have c0 : w.cell? ⟨R, 0, none⟩ = some (.string S) := by simp [hb.cell]
 have c1 : w.cell? ⟨R, 1, none⟩ = some (.bool o.isNone) := by simp [hb.cell]
 have f0 := hb.frozen 0
 have f1 := hb.frozen 1
 have hlt := hb.lt
 have P := Lib.hid (refTakeUint_any S w (by omega))
 unfold tup3 at P
 obtain ⟨t1, t2, _⟩ := Pl.takeUint_bound S.data.toList
 have hsz : S.data.toList.length = S.size := by simp
 rw [hsz] at t2
 have hset0 : Hid (∀ X : ByteArray, Blk (w.setCell ⟨R, 0, none⟩ (.string X)) R #[.string X, .bool o.isNone] 144) := Lib.hid (fun X => hb.set 0 (.string X))
 have hset1 : Hid (Blk (w.setCell ⟨R, 1, none⟩ (.bool true)) R #[.string S, .bool true] 144) := Lib.hid (hb.set 1 (.bool true))
 have hk0 : Hid (∀ X : ByteArray, Keep (fun q => q ≠ R) w (w.setCell ⟨R, 0, none⟩ (.string X))) := Lib.hid (fun X => keep_set w R 0 _)
 have hk1 : Hid (Keep (fun q => q ≠ R) w (w.setCell ⟨R, 1, none⟩ (.bool true))) := Lib.hid (keep_set w R 1 _)
 cases o with
 | none =>
  obtain rfl : D = (0, none) := hD
  have hfin : Hid (RdA (w.setCell ⟨R, 1, none⟩ (.bool true)) R none) := Lib.hid ⟨S, hset1.out, hs, fun l h => by cases h⟩
  simp only [Option.isNone_none] at c1
  clear hb hl hset0 hset1 hk0
  generalize (Pl.takeUint S.data.toList).1 = n at *
  generalize (Pl.takeUint S.data.toList).2.1 = k at *
  generalize (Pl.takeUint S.data.toList).2.2 = e0 at *
  go_enter Tryz.func88, Tryz.ntmps88
  go_wp2_with (go_at_call 122; refine P.out.mono ?_; rintro e w' ⟨rfl, rfl⟩)
  go_ret
  exact ⟨rfl, hfin.out, hk1.out⟩
 | some l =>
  simp only [Option.isNone_some] at c1 hset0
  have hll := hl l rfl
  by_cases he : (Pl.takeUint S.data.toList).2.2 = 0
  ·by_cases hn : most < (Pl.takeUint S.data.toList).1
   ·obtain rfl : D = (0, none) := by
     rw [hD]
     unfold Pl.dUint
     rw [Option.bind_some]
     unfold Pl.uintR
     rw [← hll, if_pos (.inr hn)]
    have hfin : Hid (RdA (w.setCell ⟨R, 1, none⟩ (.bool true)) R none) := Lib.hid ⟨S, hset1.out, hs, fun l h => by cases h⟩
    rw [he] at P
    clear hD hb hl hset0 hset1 hk0 hll he
    generalize (Pl.takeUint S.data.toList).1 = n at *
    generalize (Pl.takeUint S.data.toList).2.1 = k at *
    have hn2 : (n : Int) > (most : Int) := by omega
    go_enter Tryz.func88, Tryz.ntmps88
    go_wp2_with (go_at_call 122; refine P.out.mono ?_; rintro e w' ⟨rfl, rfl⟩)
    go_ret
    exact ⟨rfl, hfin.out, hk1.out⟩
   ·obtain rfl : D = ((Pl.takeUint S.data.toList).1, some (S.data.toList.drop (Pl.takeUint S.data.toList).2.1)) := by
     rw [hD]
     unfold Pl.dUint
     rw [Option.bind_some]
     unfold Pl.uintR
     rw [← hll, if_neg (by rintro (h | h); exact h he; exact hn h)]
    have hfin : Hid (RdA (w.setCell ⟨R, 0, none⟩ (.string (S.extract (Pl.takeUint S.data.toList).2.1 S.size))) R (some (S.data.toList.drop (Pl.takeUint S.data.toList).2.1))) := Lib.hid ⟨_, hset0.out _, by rw [ByteArray.size_extract]; omega, fun l h => by rw [← Option.some.inj h]; exact ext_list S _⟩
    rw [he] at P
    clear hD hb hl hset0 hset1 hk1 hll he
    generalize (Pl.takeUint S.data.toList).1 = n at *
    generalize (Pl.takeUint S.data.toList).2.1 = k at *
    have hn2 : ¬ ((n : Int) > (most : Int)) := by omega
    have hk2 : (k : Int) ≤ (S.size : Int) := by omega
    have hk3 : (0 : Int) ≤ (k : Int) := by omega
    go_enter Tryz.func88, Tryz.ntmps88
    go_wp2_with (go_at_call 122; refine P.out.mono ?_; rintro e w' ⟨rfl, rfl⟩)
    go_ret
    exact ⟨rfl, hfin.out, hk0.out _⟩
  ·obtain rfl : D = (0, none) := by
    rw [hD]
    unfold Pl.dUint
    rw [Option.bind_some]
    unfold Pl.uintR
    rw [← hll, if_pos (.inl he)]
   have hfin : Hid (RdA (w.setCell ⟨R, 1, none⟩ (.bool true)) R none) := Lib.hid ⟨S, hset1.out, hs, fun l h => by cases h⟩
   clear hD hb hl hset0 hset1 hk0 hll
   generalize (Pl.takeUint S.data.toList).1 = n at *
   generalize (Pl.takeUint S.data.toList).2.1 = k at *
   generalize (Pl.takeUint S.data.toList).2.2 = e0 at *
   have he2 : ¬ ((e0 : Int) = 0) := by omega
   have he3 : ((e0 : Int) != 0) = true := by simpa using he
   go_enter Tryz.func88, Tryz.ntmps88
   go_wp2_with (go_at_call 122; refine P.out.mono ?_; rintro e w' ⟨rfl, rfl⟩)
   go_ret
   exact ⟨rfl, hfin.out, hk1.out⟩
set_option maxHeartbeats 1000000 in
theorem dtext_any (R : Nat) (o : Option (List UInt8)) (w : World) (h : RdA w R o) :
  Calls Tryz.prog 89 #[.pointer (some ⟨R, 0, none⟩), .int .i64 32] w fun e w' => e = .returned (.string (Pl.dText o).1) ∧ RdA w' R (Pl.dText o).2 ∧ Keep (fun q => q ≠ R) w w' := by
 obtain ⟨D, hD⟩ : ∃ D, D = Pl.dText o := ⟨_, rfl⟩
 rw [← hD]
 obtain ⟨S, hb, hs, hl⟩ := h
 have c0 : w.cell? ⟨R, 0, none⟩ = some (.string S) := by simp [hb.cell]
 have c1 : w.cell? ⟨R, 1, none⟩ = some (.bool o.isNone) := by simp [hb.cell]
 have hlt := hb.lt
 have P := Lib.hid (refTakeText_below S 32 w hs (by omega) (by omega))
 unfold tupS at P
 rw [show Int.toNat 32 = 32 from rfl] at P
 have t2 := Pl.takeText_fits S.data.toList 32
 have hsz : S.data.toList.length = S.size := by simp
 rw [hsz] at t2
 have hset0 : Hid (∀ (w1 : World) (X : ByteArray), Below w.heap.size w w1 → Blk (w1.setCell ⟨R, 0, none⟩ (.string X)) R #[.string X, .bool o.isNone] 144 ∧ Keep (fun q => q ≠ R) w (w1.setCell ⟨R, 0, none⟩ (.string X))) := Lib.hid (fun w1 X b => ⟨Blk.set (show Blk w1 R #[.string S, .bool o.isNone] 144 from (b.block R hlt).trans hb) 0 (.string X), (Keep.of_below (fp := fun q => q ≠ R) b (fun _ _ h => h)).trans (keep_set w1 R 0 _) (fun q h _ => h)⟩)
 have hset1 : Hid (∀ (w1 : World), Below w.heap.size w w1 → Blk (w1.setCell ⟨R, 1, none⟩ (.bool true)) R #[.string S, .bool true] 144 ∧ Keep (fun q => q ≠ R) w (w1.setCell ⟨R, 1, none⟩ (.bool true))) := Lib.hid (fun w1 b => ⟨Blk.set (show Blk w1 R #[.string S, .bool o.isNone] 144 from (b.block R hlt).trans hb) 1 (.bool true), (Keep.of_below (fp := fun q => q ≠ R) b (fun _ _ h => h)).trans (keep_set w1 R 1 _) (fun q h _ => h)⟩)
 have hcel : Hid (∀ (w1 : World), Below w.heap.size w w1 → w1.cell? ⟨R, 0, none⟩ = some (.string S) ∧ w1.cell? ⟨R, 1, none⟩ = some (.bool o.isNone) ∧ w1.frozen? ⟨R, 0, none⟩ = false ∧ w1.frozen? ⟨R, 1, none⟩ = false ∧ R < w1.heap.size) := Lib.hid (fun w1 b => by
  have hb1 : Blk w1 R _ _ := (b.block R hlt).trans hb
  exact ⟨by simp [hb1.cell], by simp [hb1.cell], hb1.frozen 0, hb1.frozen 1, hb1.lt⟩)
 cases o with
 | none =>
  obtain rfl : D = (.empty, none) := hD
  have hfin : Hid (∀ (w1 : World), Below w.heap.size w w1 → RdA (w1.setCell ⟨R, 1, none⟩ (.bool true)) R none ∧ Keep (fun q => q ≠ R) w (w1.setCell ⟨R, 1, none⟩ (.bool true))) := Lib.hid (fun w1 b => ⟨⟨S, (hset1.out w1 b).1, hs, fun l h => by cases h⟩, (hset1.out w1 b).2⟩)
  simp only [Option.isNone_none] at c1 hcel
  clear hb hl hset0 hset1
  generalize (Pl.takeText S.data.toList 32).1 = n at *
  generalize (Pl.takeText S.data.toList 32).2.1 = k at *
  generalize (Pl.takeText S.data.toList 32).2.2 = e0 at *
  go_enter Tryz.func89, Tryz.ntmps89
  go_wp2_with (go_at_call 119; refine P.out.mono ?_; rintro e w1 ⟨rfl, b1⟩; have ⟨d0, d1, f0, f1, hlt1⟩ := hcel.out w1 b1; have hF := Lib.hid (hfin.out w1 b1); clear hfin hcel)
  go_ret
  exact ⟨rfl, hF.out.1, hF.out.2⟩
 | some l =>
  simp only [Option.isNone_some] at c1 hset0 hcel
  have hll := hl l rfl
  by_cases he : (Pl.takeText S.data.toList 32).2.2 = 0
  ·obtain rfl : D = (⟨(Pl.takeText S.data.toList 32).1.toArray⟩, some (S.data.toList.drop (Pl.takeText S.data.toList 32).2.1)) := by
    rw [hD]
    unfold Pl.dText
    rw [Option.bind_some]
    unfold Pl.textR
    rw [← hll, if_neg (by intro h; exact h he)]
   have hfin : Hid (∀ (w1 : World), Below w.heap.size w w1 → RdA (w1.setCell ⟨R, 0, none⟩ (.string (S.extract (Pl.takeText S.data.toList 32).2.1 S.size))) R (some (S.data.toList.drop (Pl.takeText S.data.toList 32).2.1)) ∧ Keep (fun q => q ≠ R) w (w1.setCell ⟨R, 0, none⟩ (.string (S.extract (Pl.takeText S.data.toList 32).2.1 S.size)))) := Lib.hid (fun w1 b => ⟨⟨_, (hset0.out w1 _ b).1, by rw [ByteArray.size_extract]; omega, fun l h => by rw [← Option.some.inj h]; exact ext_list S _⟩, (hset0.out w1 _ b).2⟩)
   rw [he] at P
   clear hD hb hl hset0 hset1 hll he
   generalize (Pl.takeText S.data.toList 32).1 = n at *
   generalize (Pl.takeText S.data.toList 32).2.1 = k at *
   have hk2 : (k : Int) ≤ (S.size : Int) := by omega
   have hk3 : (0 : Int) ≤ (k : Int) := by omega
   go_enter Tryz.func89, Tryz.ntmps89
   go_wp2_with (go_at_call 119; refine P.out.mono ?_; rintro e w1 ⟨rfl, b1⟩; have ⟨d0, d1, f0, f1, hlt1⟩ := hcel.out w1 b1; have hF := Lib.hid (hfin.out w1 b1); clear hfin hcel)
   go_ret
   exact ⟨rfl, hF.out.1, hF.out.2⟩
  ·obtain rfl : D = (.empty, none) := by
    rw [hD]
    unfold Pl.dText
    rw [Option.bind_some]
    unfold Pl.textR
    rw [← hll, if_pos he]
   have hfin : Hid (∀ (w1 : World), Below w.heap.size w w1 → RdA (w1.setCell ⟨R, 1, none⟩ (.bool true)) R none ∧ Keep (fun q => q ≠ R) w (w1.setCell ⟨R, 1, none⟩ (.bool true))) := Lib.hid (fun w1 b => ⟨⟨S, (hset1.out w1 b).1, hs, fun l h => by cases h⟩, (hset1.out w1 b).2⟩)
   clear hD hb hl hset0 hset1 hll
   generalize (Pl.takeText S.data.toList 32).1 = n at *
   generalize (Pl.takeText S.data.toList 32).2.1 = k at *
   generalize (Pl.takeText S.data.toList 32).2.2 = e0 at *
   have he2 : ¬ ((e0 : Int) = 0) := by omega
   have he3 : ((e0 : Int) != 0) = true := by simpa using he
   go_enter Tryz.func89, Tryz.ntmps89
   go_wp2_with (go_at_call 119; refine P.out.mono ?_; rintro e w1 ⟨rfl, b1⟩; have ⟨d0, d1, f0, f1, hlt1⟩ := hcel.out w1 b1; have hF := Lib.hid (hfin.out w1 b1); clear hfin hcel)
   go_ret
   exact ⟨rfl, hF.out.1, hF.out.2⟩
end
namespace Pl
theorem dUint_le (most : Nat) (o : Option (List UInt8)) : (dUint most o).1 ≤ most := by
 unfold dUint
 cases h : o.bind (uintR most) with
 | none => exact Nat.zero_le _
 | some p =>
  obtain ⟨l, rfl, hl⟩ := Option.bind_eq_some_iff.1 h
  exact (uintR_le (n := p.1) (r := p.2) hl).1
theorem dUint_none {most : Nat} {o : Option (List UInt8)} (h : (dUint most o).2 = none) : (dUint most o).1 = 0 := by
 unfold dUint at *
 cases h2 : o.bind (uintR most) with
 | none => rfl
 | some p => rw [h2] at h; cases h
theorem dUint_bind {A : Type} (most : Nat) (o : Option (List UInt8)) (f : Nat × List UInt8 → Option A) : (o.bind fun l => (uintR most l).bind f) = (dUint most o).2.bind fun l => f ((dUint most o).1, l) := by
 unfold dUint
 cases o with
 | none => rfl
 | some l =>
  rw [Option.bind_some, Option.bind_some]
  cases uintR most l with
  | none => rfl
  | some p => rfl
theorem dText_bind {A : Type} (o : Option (List UInt8)) (f : ByteArray × List UInt8 → Option A) : (o.bind fun l => (textR l).bind f) = (dText o).2.bind fun l => f ((dText o).1, l) := by
 unfold dText
 cases o with
 | none => rfl
 | some l =>
  rw [Option.bind_some, Option.bind_some]
  cases textR l with
  | none => rfl
  | some p => rfl
theorem dRun_exit {lim k j a m : Nat} {oc oa om : Option (List UInt8)} {bl0 : List Int} {lR : List UInt8} (h : oc.bind (dRunsK lim k) = some (bl0, lR)) (ha : (a, oa) = dUint 1048576 (some lR)) (hm : (m, om) = dUint 1048576 oa) (hj : j ≤ m) (hx : j = m ∨ ¬ (bl0.length + j ≤ lim ∨ j = 0)) :
  oc.bind (dRunsK lim (k + 1)) = (if bl0.length + j ≤ lim ∨ j = 0 then om else none).map fun r => (bl0 ++ (List.range j).map (fun i => ((a + i : Nat) : Int)), r) := by
 obtain ⟨l, rfl, hl⟩ := Option.bind_eq_some_iff.1 h
 show dRunStep lim (dRunsK lim k l) = _
 rw [hl]
 unfold dRunStep
 rw [Option.bind_some]
 have e1 := dUint_bind 1048576 (some lR) (fun a => (uintR 1048576 a.2).bind fun b => if bl0.length + b.1 ≤ lim ∨ b.1 = 0 then some (bl0 ++ (List.range b.1).map (fun k => ((a.1 + k : Nat) : Int)), b.2) else none)
 rw [Option.bind_some] at e1
 rw [← ha] at e1
 simp only at e1 ⊢
 rw [e1, dUint_bind 1048576 oa (fun b => if bl0.length + b.1 ≤ lim ∨ b.1 = 0 then some (bl0 ++ (List.range b.1).map (fun k => ((a + k : Nat) : Int)), b.2) else none), ← hm]
 simp only
 cases om with
 | none => simp
 | some r =>
  rw [Option.bind_some]
  rcases hx with rfl | hx
  ·by_cases hc : bl0.length + j ≤ lim ∨ j = 0
   ·rw [if_pos hc, if_pos hc]; rfl
   ·rw [if_neg hc, if_neg hc]; rfl
  ·rw [if_neg hx, if_neg (by omega)]; rfl
theorem dFile_exit {lim i k sz cnt : Nat} {o2 o1' o2' o3' oR' : Option (List UInt8)} {fs : List FileP} {l : List UInt8} {nm : ByteArray} {bl : List Int} (h : o2.bind (dFilesK lim i) = some (fs, l)) (h1 : (nm, o1') = dText (some l)) (h2 : (sz, o2') = dUint 1073741824 o1') (h3 : (cnt, o3') = dUint 1048576 o2')
  (hk : k ≤ cnt) (hx : k = cnt ∨ oR' = none) (hs : o3'.bind (dRunsK lim k) = oR'.map fun r => (bl, r)) :
  o2.bind (dFilesK lim (i + 1)) = oR'.map fun r => (fs ++ [⟨nm, (sz : Int), bl⟩], r) := by
 obtain ⟨l0, rfl, hl⟩ := Option.bind_eq_some_iff.1 h
 show dFileStep lim (dFilesK lim i l0) = _
 rw [hl]
 unfold dFileStep
 rw [Option.bind_some]
 have hE : dFileR lim l = oR'.map fun r => (⟨nm, (sz : Int), bl⟩, r) := by
  unfold dFileR
  have e1 := dText_bind (some l) (fun nm => (uintR 1073741824 nm.2).bind fun sz => (uintR 1048576 sz.2).bind fun c => (dRunsK lim c.1 c.2).bind fun b => some ((⟨nm.1, (sz.1 : Int), b.1⟩ : FileP), b.2))
  rw [Option.bind_some] at e1
  rw [e1, ← h1]
  simp only
  rw [dUint_bind 1073741824 o1' (fun sz => (uintR 1048576 sz.2).bind fun c => (dRunsK lim c.1 c.2).bind fun b => some ((⟨nm, (sz.1 : Int), b.1⟩ : FileP), b.2)), ← h2]
  simp only
  rw [dUint_bind 1048576 o2' (fun c => (dRunsK lim c.1 c.2).bind fun b => some ((⟨nm, (sz : Int), b.1⟩ : FileP), b.2)), ← h3]
  simp only
  cases o3' with
  | none =>
   cases oR' with
   | none => rfl
   | some r => cases hs
  | some l3 =>
   rw [Option.bind_some] at hs ⊢
   rcases hx with rfl | rfl
   ·rw [hs]
    cases oR' with
    | none => rfl
    | some r => rfl
   ·rw [dRunsK_none (k := k) hs cnt hk]
    rfl
 simp only
 rw [hE]
 cases oR' with
 | none => rfl
 | some r => rfl
theorem dRoot_exit {lim i g c : Nat} {o1 o2 oR : Option (List UInt8)} {fs : List FileP} {L : List UInt8} (h1 : (g, o1) = dUint 4611686018427387904 (some L)) (h2 : (c, o2) = dUint 64 o1) (hi : i ≤ c) (hx : i = c ∨ oR = none) (hs : o2.bind (dFilesK lim i) = oR.map fun r => (fs, r)) :
  dRootR lim L = oR.bind fun r => if r = [] then some ⟨g, fs⟩ else none := by
 unfold dRootR
 have e1 := dUint_bind 4611686018427387904 (some L) (fun g => (uintR 64 g.2).bind fun c => (dFilesK lim c.1 c.2).bind fun fs => if fs.2 = [] then some (⟨g.1, fs.1⟩ : RootP) else none)
 rw [Option.bind_some] at e1
 rw [e1, ← h1]
 simp only
 rw [dUint_bind 64 o1 (fun c => (dFilesK lim c.1 c.2).bind fun fs => if fs.2 = [] then some (⟨g, fs.1⟩ : RootP) else none), ← h2]
 simp only
 cases o2 with
 | none =>
  cases oR with
  | none => rfl
  | some r => cases hs
 | some l2 =>
  rw [Option.bind_some] at hs ⊢
  rcases hx with rfl | rfl
  ·rw [hs]
   cases oR with
   | none => rfl
   | some r => rfl
  ·rw [dFilesK_none (k := i) hs c hi]
   rfl
theorem dRunsK_len {lim : Nat} {l : List UInt8} : ∀ (k : Nat) {bl : List Int} {r : List UInt8}, dRunsK lim k l = some (bl, r) → bl.length ≤ lim ∧ ∀ b ∈ bl, 0 ≤ b ∧ b ≤ 2097152
 | 0, bl, r, h => by
  obtain ⟨rfl, rfl⟩ := Prod.mk.inj (Option.some.inj h)
  exact ⟨Nat.zero_le _, fun _ h => (List.not_mem_nil h).elim⟩
 | k + 1, bl, r, h => by
  have h0 : dRunStep lim (dRunsK lim k l) = some (bl, r) := h
  cases hk : dRunsK lim k l with
  | none => rw [hk] at h0; cases h0
  | some st =>
   obtain ⟨b0, r0⟩ := st
   obtain ⟨i1, i3⟩ := dRunsK_len k hk
   rw [hk] at h0
   unfold dRunStep at h0
   simp only [Option.bind_some] at h0
   cases ha : uintR 1048576 r0 with
   | none => rw [ha] at h0; cases h0
   | some a =>
    rw [ha, Option.bind_some] at h0
    cases hb : uintR 1048576 a.2 with
    | none => rw [hb] at h0; cases h0
    | some b =>
     rw [hb, Option.bind_some] at h0
     have a1 := uintR_le (n := a.1) (r := a.2) ha
     have b1 := uintR_le (n := b.1) (r := b.2) hb
     split at h0
     ·rename_i hc
      obtain ⟨rfl, rfl⟩ := Prod.mk.inj (Option.some.inj h0)
      refine ⟨by rw [List.length_append, List.length_map, List.length_range]; omega, fun q hq => ?_⟩
      rcases List.mem_append.1 hq with hq | hq
      ·exact i3 q hq
      ·obtain ⟨j, hj, rfl⟩ := List.mem_map.1 hq
       have := List.mem_range.1 hj
       omega
     ·cases h0
theorem dFileR_fine {lim : Nat} {l rest : List UInt8} {y : FileP} (h : dFileR lim l = some (y, rest)) : y.fine := by
 unfold dFileR at h
 cases h1 : textR l with
 | none => rw [h1] at h; cases h
 | some a =>
  rw [h1, Option.bind_some] at h
  cases h2 : uintR 1073741824 a.2 with
  | none => rw [h2] at h; cases h
  | some b =>
   rw [h2, Option.bind_some] at h
   cases h3 : uintR 1048576 b.2 with
   | none => rw [h3] at h; cases h
   | some c =>
    rw [h3, Option.bind_some] at h
    cases h4 : dRunsK lim c.1 c.2 with
    | none => rw [h4] at h; cases h
    | some d =>
     rw [h4, Option.bind_some] at h
     obtain ⟨rfl, _⟩ := Prod.mk.inj (Option.some.inj h)
     have e1 := (uintR_le (n := b.1) (r := b.2) h2).1
     have e2 := (dRunsK_len c.1 (bl := d.1) (r := d.2) h4).2
     exact ⟨⟨by show _ ≤ (b.1 : Int); omega, by show (b.1 : Int) ≤ _; omega⟩, fun q hq => by have := e2 q hq; omega⟩
theorem dFilesK_fine {lim : Nat} {l : List UInt8} : ∀ (k : Nat) {fs : List FileP} {r : List UInt8}, dFilesK lim k l = some (fs, r) → ∀ x ∈ fs, x.fine
 | 0, fs, r, h => by
  obtain ⟨rfl, _⟩ := Prod.mk.inj (Option.some.inj h)
  exact fun _ h => (List.not_mem_nil h).elim
 | k + 1, fs, r, h => by
  have h0 : dFileStep lim (dFilesK lim k l) = some (fs, r) := h
  cases hk : dFilesK lim k l with
  | none => rw [hk] at h0; cases h0
  | some st =>
   have ih := dFilesK_fine k (fs := st.1) (r := st.2) hk
   rw [hk] at h0
   unfold dFileStep at h0
   simp only [Option.bind_some] at h0
   cases ha : dFileR lim st.2 with
   | none => rw [ha] at h0; cases h0
   | some y =>
    rw [ha, Option.bind_some] at h0
    obtain ⟨rfl, _⟩ := Prod.mk.inj (Option.some.inj h0)
    intro x hx
    rcases List.mem_append.1 hx with hx | hx
    ·exact ih x hx
    ·obtain rfl := List.mem_singleton.1 hx
     exact dFileR_fine (y := y.1) (rest := y.2) ha
end Pl
end Go.Proofs.YtogblcdefbnbeaaGreat
