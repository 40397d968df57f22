
/- Walks: copies of slices of tables; two slices of tables compared. Condition: the rows are short enough. -/
import Derived.Test.YtekfaodjadinnaaWOv
namespace Go.Proofs.Ytekfaodjadinnaa
open Go.RowKit

set_option maxRecDepth 100000 in
set_option maxHeartbeats 4000000 in
theorem clone_any (l : List Pl.Tb) (u : Value) (w : World) (hu : TbsAt w u l) (hlen : l.length ≤ 1073741824) :
    Calls Try.prog 21 #[u] w fun e w' => ∃ v, e = .returned v ∧ TOwn w' w.heap.size v l ∧ Below w.heap.size w w' := by
  have hu0 := hu
  obtain ⟨ao, cap, rfl, h1, h2, hn, hc⟩ := hu
  have q27 : ∀ (w : World) (a : Option Addr) (n c n' c' : Nat), (binOp .eql 27 (.slice a n c) (.slice none n' c')).run Try.prog w = .ok (.bool a.isNone) w := fun w a n c n' c' => Lib.run_eql_slice_nil w _ _ a n c n' c' Try.underlying27
  rcases hn with ⟨rfl, rfl⟩ | ⟨b, off, rfl⟩
  · obtain rfl : l = [] := List.eq_nil_of_length_eq_zero (by omega)
    go_enter Try.func21, Try.ntmps21
    go_wp2
    go_ret
    exact ⟨_, rfl, World.ownsRow_nil _ _ _ _, Below.refl _ _⟩
  · have hown0 : (w.alloc (.cells #[] 40)).ownsRow w.heap.size 40 6 (.slice (some ⟨w.heap.size, 0, none⟩) 0 0) 0 [] := World.ownsRow_made w #[] 0 (Nat.le_refl _) (Nat.zero_le _) rfl
    have hb1 : Below w.heap.size w (w.alloc (.cells #[] 40)) := (Below.refl _ _).alloc (Nat.le_refl _) _
    have hu1 := hu0.below hb1
    have hlk : (([] : List Pl.Tb).length + l.length) * 64 ≤ 140737488355328 := by simp; omega
    have hlk' := Lib.hid hlk
    have hB : w.heap.size ≤ (w.alloc (.cells #[] 40)).heap.size := hb1.size
    have hA := Lib.hid (fun (w3 : World) (v3 : Value) (h1 : TOwn w3 w.heap.size v3 ([] ++ l)) (h2 : (w.alloc (.cells #[] 40)).grownBy w3 (Value.slice (some ⟨w.heap.size, 0, none⟩) 0 0).ownBlock) => (⟨h1, hb1.grown h2 (by simp) (fun k e => by simp [Value.ownBlock] at e; omega)⟩ : TOwn w3 w.heap.size v3 l ∧ Below w.heap.size w w3))
    clear hlk hc hu0
    go_enter Try.func21, Try.ntmps21
    go_wp2_with (at_builtin; go_must (refine wpList_appT (by rfl) _ _ (by rfl) w.heap.size (.slice (some ⟨w.heap.size, 0, none⟩) 0 0) _ [] l _ hown0 hB (by rfl) hu1 (by rfl) hlk'.out ?_; intro v3 w3 hown3 hgr3; have hF := Lib.hid (hA.out w3 v3 hown3 hgr3)))
    go_ret
    exact ⟨_, rfl, hF.out.1, hF.out.2⟩

set_option maxRecDepth 100000 in
set_option maxHeartbeats 4000000 in
theorem all_any (l1 l2 : List Pl.Tb) (u1 u2 : Value) (w : World) (hu1 : TbsAt w u1 l1) (hu2 : TbsAt w u2 l2) (hl1 : l1.length ≤ 1073741824) (hl2 : l2.length ≤ 1073741824) :
    Calls Try.prog 13 #[u1, u2] w fun e w' => ∃ v, e = .returned v ∧ TOwn w' w.heap.size v (l1 ++ l2) ∧ Below w.heap.size w w' := by
  obtain ⟨a1, cap1, rfl, h1, h2, _, hc1⟩ := hu1
  obtain ⟨a2, cap2, rfl, h3, h4, _, hc2⟩ := hu2
  go_enter Try.func13, Try.ntmps13
  go_wp2_with fail
  go_loopw [5, 6] (fun v i W' => ∃ k : Nat, k ≤ l1.length ∧ i = .int .i64 (k : Int) ∧ TOwn W' w.heap.size v (l1.take k) ∧ Below w.heap.size w W') (fun _ i _ => l1.length - (intOf i).toNat)
  case atStart => exact ⟨0, Nat.zero_le _, rfl, World.ownsRow_nil _ _ _ _, Below.refl _ _⟩
  case round =>
    obtain ⟨k, hk, rfl, hown, hbr⟩ := hrel
    by_cases hkl : k < l1.length
    case pos =>
      obtain ⟨b, off, rfl, hbl, hx⟩ := hc1 (by omega)
      obtain ⟨y0, y1, y2, y3, y4, y5⟩ := (hx k hkl).block (hbr.block b hbl)
      have hsn := Lib.hid (List.take_succ_eq_append_getElem hkl)
      have hol : (l1.take k).length ≤ 1073741824 := by rw [List.length_take]; omega
      clear hx hc1
      generalize l1[k] = x at *
      generalize l1.take k = xs at *
      have hB : w.heap.size ≤ wr.heap.size := hbr.size
      have hrow : wr.ownsRow w.heap.size 40 6 u5 xs.length (tcells xs) := hown
      have hA := Lib.hid (fun (w3 : World) (g cap : Nat) (o : Obj) h1 (h2 : (wr.alloc o).grownBy w3 u5.ownBlock) => tab_app (w := w) (W := wr) (w3 := w3) (x := x) (g := g) (cap := cap) (o := o) hown hbr hB h1 h2)
      have hlk : (xs.length + 1) * 64 ≤ 140737488355328 := by omega
      clear hown
      go_wp2_with (at_builtin; go_must (refine wpList_app1 (by rfl) _ _ 27 (by rfl) w.heap.size 40 (.agg #[.int .u64 0, .int .i64 0, .int .i64 0, .int .i64 0, .string .empty, .string .empty]) 6 64 Try.underlying27 info_table rfl (by decide) u5 xs.length (tcells xs) wr hrow hB (by rfl) #[.int .u64 (x.num : Int), .int .i64 x.level, .int .i64 x.size, .int .i64 x.count, .string x.least, .string x.greatest] 40 (by rfl) rfl (by simp [Value.oneCell']) hlk (by decide) ?_; intro g cap w3 hown' hgrow hat hg; have hF := Lib.hid (hA.out w3 g cap _ hown' hgrow)))
      go_roundw
      case rel => exact ⟨k + 1, by omega, by go_num, by rw [hsn.out]; exact hF.out.1, hF.out.2⟩
      case measure => simp [intOf]; omega
    obtain rfl : k = l1.length := by omega
    rw [List.take_of_length_le (Nat.le_refl _)] at hown
    obtain ⟨wo, rfl⟩ : ∃ wo : World, wo = wr := ⟨_, rfl⟩
    go_wp2_with fail
    go_loopw [5, 7] (fun v i W' => ∃ k : Nat, k ≤ l2.length ∧ i = .int .i64 (k : Int) ∧ TOwn W' w.heap.size v (l1 ++ l2.take k) ∧ Below w.heap.size w W') (fun _ i _ => l2.length - (intOf i).toNat)
    case atStart => exact ⟨0, Nat.zero_le _, rfl, by simpa using hown, hbr⟩
    clear hown hbr
    case round =>
      obtain ⟨k, hk, rfl, hown, hbr⟩ := hrel
      by_cases hkl : k < l2.length
      case pos =>
        obtain ⟨b, off, rfl, hbl, hx⟩ := hc2 (by omega)
        obtain ⟨y0, y1, y2, y3, y4, y5⟩ := (hx k hkl).block (hbr.block b hbl)
        have hsn := Lib.hid (show l1 ++ l2.take (k + 1) = l1 ++ l2.take k ++ [l2[k]] by rw [List.take_succ_eq_append_getElem hkl, List.append_assoc])
        have hol : (l1 ++ l2.take k).length ≤ 2147483648 := by rw [List.length_append, List.length_take]; omega
        clear hx hc2
        generalize l2[k] = x at *
        generalize l1 ++ l2.take k = xs at *
        have hB : w.heap.size ≤ wr.heap.size := hbr.size
        have hrow : wr.ownsRow w.heap.size 40 6 u5 xs.length (tcells xs) := hown
        have hA := Lib.hid (fun (w3 : World) (g cap : Nat) (o : Obj) h1 (h2 : (wr.alloc o).grownBy w3 u5.ownBlock) => tab_app (w := w) (W := wr) (w3 := w3) (x := x) (g := g) (cap := cap) (o := o) hown hbr hB h1 h2)
        have hlk : (xs.length + 1) * 64 ≤ 140737488355328 := by omega
        clear hown
        go_wp2_with (at_builtin; go_must (refine wpList_app1 (by rfl) _ _ 27 (by rfl) w.heap.size 40 (.agg #[.int .u64 0, .int .i64 0, .int .i64 0, .int .i64 0, .string .empty, .string .empty]) 6 64 Try.underlying27 info_table rfl (by decide) u5 xs.length (tcells xs) wr hrow hB (by rfl) #[.int .u64 (x.num : Int), .int .i64 x.level, .int .i64 x.size, .int .i64 x.count, .string x.least, .string x.greatest] 40 (by rfl) rfl (by simp [Value.oneCell']) hlk (by decide) ?_; intro g cap w3 hown' hgrow hat hg; have hF := Lib.hid (hA.out w3 g cap _ hown' hgrow)))
        go_roundw
        case rel => exact ⟨k + 1, by omega, by go_num, by rw [hsn.out]; exact hF.out.1, hF.out.2⟩
        case measure => simp [intOf]; omega
      obtain rfl : k = l2.length := by omega
      rw [List.take_of_length_le (Nat.le_refl _)] at hown
      go_wp2
      go_ret
      exact ⟨_, rfl, hown, hbr⟩
end Go.Proofs.Ytekfaodjadinnaa
