
/- Walks: the tables that have keys from .. to .. Condition: the row is short enough. -/
import Derived.Test.YtekfaodjadinnaaWSp
import Derived.Deep.DeepCutAuto
namespace Go.Proofs.Ytekfaodjadinnaa
open Go.RowKit

namespace Pl
def overs (l : List Tb) (lo hi : ByteArray) : List Tb := l.filter fun x => overB x lo hi
theorem overs_succ (l : List Tb) (lo hi : ByteArray) (k : Nat) (h : k < l.length) : overs (l.take (k + 1)) lo hi = overs (l.take k) lo hi ++ (if overB l[k] lo hi = true then [l[k]] else []) := by
  unfold overs
  rw [List.take_succ_eq_append_getElem h, List.filter_append]
  congr 1
  by_cases h1 : overB l[k] lo hi = true
  · simp [h1]
  · simp [h1]
theorem overs_length (l : List Tb) (lo hi : ByteArray) : (overs l lo hi).length ≤ l.length := List.length_filter_le _ _
end Pl
/-- behind an append of a table to an own row -/
theorem tab_app {B : Nat} {w W w3 : World} {v : Value} {xs : List Pl.Tb} {x : Pl.Tb} {g cap : Nat} {o : Obj} (hr : TOwn W B v xs) (hb : Below B w W) (hB : B ≤ W.heap.size)
    (h1 : w3.ownsRow B 40 6 (.slice (some ⟨g, 0, none⟩) (xs.length + 1) cap) (xs.length + 1) (tcells xs ++ (#[Value.int .u64 (x.num : Int), .int .i64 x.level, .int .i64 x.size, .int .i64 x.count, .string x.least, .string x.greatest] : Array Value).toList)) (h2 : (W.alloc o).grownBy w3 v.ownBlock) :
    TOwn w3 B (.slice (some ⟨g, 0, none⟩) (xs.length + 1) cap) (xs ++ [x]) ∧ Below B w w3 :=
  ⟨by rw [tcells_one_app] at h1; unfold TOwn; rw [List.length_append, List.length_singleton]; exact h1, (hb.alloc hB o).grown h2 (by simp; omega) (fun k e => (World.ownsRow.lt hr k e).1)⟩

set_option maxRecDepth 100000 in
set_option maxHeartbeats 4000000 in
theorem overlapping_any (l : List Pl.Tb) (lo hi : ByteArray) (u : Value) (w : World) (hu : TbsAt w u l) (hlen : l.length ≤ 1073741824) :
    Calls Try.prog 25 #[u, .string lo, .string hi] w fun e w' => ∃ v, e = .returned v ∧ TOwn w' w.heap.size v (Pl.overs l lo hi) ∧ Below w.heap.size w w' := by
  obtain ⟨ao, cap, rfl, h1, h2, hn, hc⟩ := hu
  go_enter Try.func25, Try.ntmps25
  go_wp2_with fail
  go_loopw [7, 12] (fun v i W' => ∃ k : Nat, k ≤ l.length ∧ i = .int .i64 (k : Int) ∧ TOwn W' w.heap.size v (Pl.overs (l.take k) lo hi) ∧ Below w.heap.size w W') (fun _ i _ => l.length - (intOf i).toNat)
  case atStart => exact ⟨0, Nat.zero_le _, rfl, World.ownsRow_nil _ _ _ _, Below.refl _ _⟩
  case round =>
    obtain ⟨k, hk, rfl, hown, hbr⟩ := hrel
    by_cases hkl : k < l.length
    case neg =>
      obtain rfl : k = l.length := by omega
      rw [List.take_of_length_le (Nat.le_refl _)] at hown
      go_wp2
      go_ret
      exact ⟨_, rfl, hown, hbr⟩
    obtain ⟨b, off, rfl, hbl, hx⟩ := hc (by omega)
    have hxx := (hx k hkl).block (hbr.block b hbl)
    have hsn := Lib.hid (Pl.overs_succ l lo hi k hkl)
    have hol : (Pl.overs (l.take k) lo hi).length ≤ 1073741824 := by
      have := Pl.overs_length (l.take k) lo hi
      rw [List.length_take] at this
      omega
    clear hx hc
    generalize l[k] = x at *
    generalize Pl.overs (l.take k) lo hi = xs at *
    obtain ⟨y0, y1, y2, y3, y4, y5⟩ := hxx
    go_upto_region 5 with (fail)
    have hT : TBox (wr.alloc (.cells #[.int .u64 (x.num : Int), .int .i64 x.level, .int .i64 x.size, .int .i64 x.count, .string x.least, .string x.greatest] 40)) wr.heap.size x := World.alloc_heap_new _ _
    have hbT : Below w.heap.size w (wr.alloc (.cells #[.int .u64 (x.num : Int), .int .i64 x.level, .int .i64 x.size, .int .i64 x.count, .string x.least, .string x.greatest] 40)) := hbr.alloc hbr.size _
    have hoT := hown.alloc (.cells #[.int .u64 (x.num : Int), .int .i64 x.level, .int .i64 x.size, .int .i64 x.count, .string x.least, .string x.greatest] 40)
    generalize wr.alloc (.cells #[.int .u64 (x.num : Int), .int .i64 x.level, .int .i64 x.size, .int .i64 x.count, .string x.least, .string x.greatest] 40) = wt at hT hbT hoT ⊢
    obtain ⟨t0, t1, t2, t3, t4, t5⟩ := hT.cells
    have htl := hT.lt
    clear y0 y1 y2 y3 y4 y5 hown hbr
    go_cut [25] (fun v wx => v = .bool (Pl.overB x lo hi) ∧ wx = wt)
    case first =>
      go_wp2
      · rename_i h
        go_meet
        exact ⟨congrArg Value.bool (by simp [Pl.overB, Pl.leS, h]), rfl⟩
      · rename_i h
        go_meet
        have h' : Op.bytesLess x.greatest.toList lo.toList = false := by simpa using h
        exact ⟨congrArg Value.bool (by rw [Pl.leS_or]; simp [Pl.overB, Pl.leS, h']), rfl⟩
    case rest =>
    obtain ⟨rfl, rfl⟩ := hcut
    obtain ⟨bo, hbo⟩ : ∃ b, b = Pl.overB x lo hi := ⟨_, rfl⟩
    rw [← hbo] at hsn ⊢
    replace hbo := Lib.hid hbo
    have hB : w.heap.size ≤ wc.heap.size := hbT.size
    cases bo
    case false =>
      have hsn' := Lib.hid (show TOwn wc w.heap.size u7 (Pl.overs (l.take (k + 1)) lo hi) by rw [hsn.out]; simp only [Bool.false_eq_true, if_false, List.append_nil]; exact hoT)
      clear hoT
      go_wp2
      go_roundw
      case rel => exact ⟨k + 1, by omega, by go_num, hsn'.out, hbT⟩
      case measure => simp [intOf]; omega
    have hrow : wc.ownsRow w.heap.size 40 6 u7 xs.length (tcells xs) := hoT
    have hA := Lib.hid (fun (w3 : World) (g cap : Nat) (o : Obj) h1 (h2 : (wc.alloc o).grownBy w3 u7.ownBlock) => tab_app (w := w) (W := wc) (w3 := w3) (x := x) (g := g) (cap := cap) (o := o) hoT hbT hB h1 h2)
    have hlk : (xs.length + 1) * 64 ≤ 140737488355328 := by omega
    clear hoT
    go_wp2_with (at_builtin; go_must (refine wpList_app1 (by rfl) _ _ 27 (by rfl) w.heap.size 40 (.agg #[.int .u64 0, .int .i64 0, .int .i64 0, .int .i64 0, .string .empty, .string .empty]) 6 64 Try.underlying27 info_table rfl (by decide) u7 xs.length (tcells xs) wc hrow hB (by rfl) #[.int .u64 (x.num : Int), .int .i64 x.level, .int .i64 x.size, .int .i64 x.count, .string x.least, .string x.greatest] 40 (by rfl) rfl (by simp [Value.oneCell']) hlk (by decide) ?_; intro g cap w3 hown' hgrow hat hg; have hF := Lib.hid (hA.out w3 g cap _ hown' hgrow)))
    go_roundw
    case rel => exact ⟨k + 1, by omega, by go_num, by rw [hsn.out]; exact hF.out.1, hF.out.2⟩
    case measure => simp [intOf]; omega

set_option maxRecDepth 100000 in
set_option maxHeartbeats 4000000 in
theorem refOverlapping_any (l : List Pl.Tb) (lo hi : ByteArray) (u : Value) (w : World) (hu : TbsAt w u l) (hlen : l.length ≤ 1073741824) :
    Calls Try.prog 27 #[u, .string lo, .string hi] w fun e w' => ∃ v, e = .returned v ∧ TOwn w' w.heap.size v (Pl.overs l lo hi) ∧ Below w.heap.size w w' := by
  obtain ⟨ao, cap, rfl, h1, h2, hn, hc⟩ := hu
  go_enter Try.func27, Try.ntmps27
  go_wp2_with fail
  go_loopw [7, 8, 9] (fun v i _ W' => ∃ k : Nat, k ≤ l.length ∧ i = .int .i64 (k : Int) ∧ TOwn W' w.heap.size v (Pl.overs (l.take k) lo hi) ∧ Below w.heap.size w W') (fun _ i _ _ => l.length - (intOf i).toNat)
  case atStart => exact ⟨0, Nat.zero_le _, rfl, World.ownsRow_nil _ _ _ _, Below.refl _ _⟩
  case round =>
    obtain ⟨k, hk, rfl, hown, hbr⟩ := hrel
    by_cases hkl : k < l.length
    case neg =>
      obtain rfl : k = l.length := by omega
      rw [List.take_of_length_le (Nat.le_refl _)] at hown
      go_wp2
      go_ret
      exact ⟨_, rfl, hown, hbr⟩
    obtain ⟨b, off, rfl, hbl, hx⟩ := hc (by omega)
    have hxr := Lib.hid (fun (W : World) (h : Below w.heap.size w W) => (hx k hkl).block (h.block b hbl))
    have hsn := Lib.hid (Pl.overs_succ l lo hi k hkl)
    have hol : (Pl.overs (l.take k) lo hi).length ≤ 1073741824 := by
      have := Pl.overs_length (l.take k) lo hi
      rw [List.length_take] at this
      omega
    clear hx hc
    generalize l[k] = x at *
    generalize Pl.overs (l.take k) lo hi = xs at *
    obtain ⟨y0, y1, y2, y3, y4, y5⟩ := hxr.out wr hbr
    have PO := Lib.hid (fun W => overlap_any x lo hi W)
    have hbw : b < wr.heap.size := Nat.lt_of_lt_of_le hbl hbr.size
    go_wp2_with fail
    refine (PO.out _).mono ?_
    rintro e w1 ⟨rfl, b1⟩
    have hbT := hbr.trans (b1.mono hbr.size)
    have hoT : TOwn w1 w.heap.size u7 xs := (Keep.of_below (fp := fun q => q < wr.heap.size) b1 (fun _ h _ => h)).ownsRow hown (fun q e => (World.ownsRow.lt hown q e).2)
    obtain ⟨z0, z1, z2, z3, z4, z5⟩ := hxr.out w1 hbT
    clear y0 y1 y2 y3 y4 y5 hown hbr PO b1
    obtain ⟨bo, hbo⟩ : ∃ b, b = Pl.overB x lo hi := ⟨_, rfl⟩
    rw [← hbo] at hsn ⊢
    replace hbo := Lib.hid hbo
    have hB : w.heap.size ≤ w1.heap.size := hbT.size
    cases bo
    case false =>
      have hsn' := Lib.hid (show TOwn w1 w.heap.size u7 (Pl.overs (l.take (k + 1)) lo hi) by rw [hsn.out]; simp only [Bool.false_eq_true, if_false, List.append_nil]; exact hoT)
      clear hoT
      go_wp2
      go_roundw
      case rel => exact ⟨k + 1, by omega, by go_num, hsn'.out, hbT⟩
      case measure => simp [intOf]; omega
    have hrow : w1.ownsRow w.heap.size 40 6 u7 xs.length (tcells xs) := hoT
    have hA := Lib.hid (fun (w3 : World) (g cap : Nat) (o : Obj) h1 (h2 : (w1.alloc o).grownBy w3 u7.ownBlock) => tab_app (w := w) (W := w1) (w3 := w3) (x := x) (g := g) (cap := cap) (o := o) hoT hbT hB h1 h2)
    have hlk : (xs.length + 1) * 64 ≤ 140737488355328 := by omega
    clear hoT
    go_wp2_with (at_builtin; go_must (refine wpList_app1 (by rfl) _ _ 27 (by rfl) w.heap.size 40 (.agg #[.int .u64 0, .int .i64 0, .int .i64 0, .int .i64 0, .string .empty, .string .empty]) 6 64 Try.underlying27 info_table rfl (by decide) u7 xs.length (tcells xs) w1 hrow hB (by rfl) #[.int .u64 (x.num : Int), .int .i64 x.level, .int .i64 x.size, .int .i64 x.count, .string x.least, .string x.greatest] 40 (by rfl) rfl (by simp [Value.oneCell']) hlk (by decide) ?_; intro g cap w3 hown' hgrow hat hg; have hF := Lib.hid (hA.out w3 g cap _ hown' hgrow)))
    go_roundw
    case rel => exact ⟨k + 1, by omega, by go_num, by rw [hsn.out]; exact hF.out.1, hF.out.2⟩
    case measure => simp [intOf]; omega
end Go.Proofs.Ytekfaodjadinnaa
