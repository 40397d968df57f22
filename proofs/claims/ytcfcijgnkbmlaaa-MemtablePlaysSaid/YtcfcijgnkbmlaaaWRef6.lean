
/- Walks: what the document answers of versions in order. Condition: rows whose bytes fit. -/
import Derived.Test.YtcfcijgnkbmlaaaPlainNw
import Derived.Test.YtcfcijgnkbmlaaaPlainLv
namespace Go.Proofs.Ytcfcijgnkbmlaaa
open Go.RowKit Go.Shelf

set_option maxRecDepth 100000 in
set_option maxHeartbeats 1600000 in
theorem refNewest_any (v : Value) (xs : List Ver) (key : ByteArray) (sq : Nat) (w : World) (hv : VersAt w v xs) (hr : Pl.Ris xs) (hx : xs.length ≤ 2932031007316) :
    Calls Try.prog 49 #[v, .string key, .int .u64 (sq : Int)] w fun e w' =>
      e = .returned (.tuple #[.agg #[.string (Pl.getT xs key sq).1.key, .int .u64 ((Pl.getT xs key sq).1.seq : Int), .bool (Pl.getT xs key sq).1.del, .string (Pl.getT xs key sq).1.val], .bool (Pl.getT xs key sq).2]) ∧ Below w.heap.size w w' := by
  obtain ⟨ao, cap, rfl, c1, c2, hrow⟩ := hv
  obtain ⟨W0, hW0⟩ : ∃ W0, w.alloc (.cells #[.string ⟨#[]⟩, .int .u64 0, .bool false, .string ⟨#[]⟩] 24) = W0 := ⟨_, rfl⟩
  have hb0 : Below w.heap.size w W0 := by rw [← hW0]; exact (Below.refl _ _).alloc (Nat.le_refl _) _
  have hG0 : W0.heap[w.heap.size]? = some (.cells #[.string ⟨#[]⟩, .int .u64 0, .bool false, .string ⟨#[]⟩] 24 (0, 0)) := by rw [← hW0]; exact World.alloc_heap_new _ _
  obtain ⟨r, hr0⟩ : ∃ r, r = Pl.getT xs key sq := ⟨_, rfl⟩
  rw [← hr0]
  replace hr0 := Lib.hid hr0
  replace hr := Lib.hid hr
  have g0 : W0.cell? ⟨w.heap.size, 0, none⟩ = some (.string ⟨#[]⟩) := (cell_of hG0).trans rfl
  have g1 : W0.cell? ⟨w.heap.size, 1, none⟩ = some (.int .u64 0) := (cell_of hG0).trans rfl
  have g2 : W0.cell? ⟨w.heap.size, 2, none⟩ = some (.bool false) := (cell_of hG0).trans rfl
  have g3 : W0.cell? ⟨w.heap.size, 3, none⟩ = some (.string ⟨#[]⟩) := (cell_of hG0).trans rfl
  have z0 := frozen_of hG0 (o := 0)
  have z1 := frozen_of hG0 (o := 1)
  have z2 := frozen_of hG0 (o := 2)
  have z3 := frozen_of hG0 (o := 3)
  have hge : w.heap.size ≤ w.heap.size := Nat.le_refl _
  replace hG0 := Lib.hid hG0
  go_enter Try.func49, Try.ntmps49
  go_wp2
  clear hW0
  go_loopw [8] (fun i W' => ∃ k : Nat, k ≤ xs.length ∧ i = .int .i64 k ∧ Hid (∀ j (h : j < xs.length), j < k → Pl.nwOk key sq xs[j] = false) ∧ W' = W0) (fun i _ => xs.length - (intOf i).toNat)
  case atStart => exact ⟨0, by omega, rfl, Lib.hid (fun j _ h => by omega), rfl⟩
  case round =>
    obtain ⟨k, hk, rfl, hall, rfl⟩ := hrel
    by_cases h1 : k < xs.length
    · obtain ⟨b, off, rfl, hrw⟩ := hrow (by omega)
      obtain ⟨x0, x1, x2, x3⟩ := (hrw.below hb0).2 k h1
      have hnx : Hid (Pl.nwOk key sq xs[k] = false → ∀ j (h : j < xs.length), j < k + 1 → Pl.nwOk key sq xs[j] = false) := Lib.hid (fun h j hj hj2 => by
        by_cases e : j = k
        · subst e; exact h
        · exact hall.out j hj (by omega))
      clear hrow hrw
      cases hke : xs[k].key.toList == key.toList
      · have h2 := Lib.hid (hnx.out (by unfold Pl.nwOk; rw [hke]; rfl))
        go_wp2
        go_roundw
        case rel => exact ⟨k + 1, by omega, by go_num, h2, by trivial⟩
        case measure => simp [intOf]; omega
      · by_cases hs : xs[k].seq ≤ sq
        · have hge2 := Lib.hid (hr0.out.trans (Pl.newest_hit hr.out h1 (by unfold Pl.nwOk; rw [hke]; simp [hs]) hall.out))
          have hds : decide ((xs[k].seq : Int) ≤ (sq : Int)) = true := by simp; omega
          go_wp2
          refine bodyPost_ret (results_ver rfl rfl (over4 hG0.out xs[k].key (xs[k].seq : Int) xs[k].del xs[k].val)) rfl ⟨?_, ?_⟩
          · rw [hge2.out]; rfl
          · exact (((hb0.setCell (p := ⟨w.heap.size, 0, none⟩) hge _).setCell (p := ⟨w.heap.size, 1, none⟩) hge _).setCell (p := ⟨w.heap.size, 2, none⟩) hge _).setCell (p := ⟨w.heap.size, 3, none⟩) hge _
        · have h2 := Lib.hid (hnx.out (by unfold Pl.nwOk; rw [hke]; simp; omega))
          have hds : decide ((xs[k].seq : Int) ≤ (sq : Int)) = false := by simp; omega
          go_wp2
          go_roundw
          case rel => exact ⟨k + 1, by omega, by go_num, h2, by trivial⟩
          case measure => simp [intOf]; omega
    · obtain rfl : k = xs.length := by omega
      have hge2 := Lib.hid (hr0.out.trans (Pl.newest_none hr.out (fun j h => hall.out j h h)))
      go_wp2
      refine bodyPost_ret (results_ver rfl rfl (over4 hG0.out ⟨#[]⟩ 0 false ⟨#[]⟩)) rfl ⟨?_, ?_⟩
      · rw [hge2.out]; rfl
      · exact (((hb0.setCell (p := ⟨w.heap.size, 0, none⟩) hge _).setCell (p := ⟨w.heap.size, 1, none⟩) hge _).setCell (p := ⟨w.heap.size, 2, none⟩) hge _).setCell (p := ⟨w.heap.size, 3, none⟩) hge _

theorem take_drop_succ {xs : List Ver} {k b : Nat} (h : k < xs.length) (hb : b ≤ k) : (xs.take (k + 1)).drop b = (xs.take k).drop b ++ [xs[k]] := by
  rw [List.take_succ_eq_append_getElem h, List.drop_append_of_le_length (by rw [List.length_take]; omega)]
theorem take_drop_none {xs : List Ver} {k b : Nat} (hb : k ≤ b) : (xs.take k).drop b = [] := List.drop_eq_nil_of_le (by rw [List.length_take]; omega)

set_option maxRecDepth 100000 in
set_option maxHeartbeats 1600000 in
theorem refFrom_any (v : Value) (xs : List Ver) (key : ByteArray) (w : World) (hv : VersAt w v xs) (hr : Pl.Ris xs) (hx : xs.length ≤ 2932031007316) :
    Calls Try.prog 50 #[v, .string key] w fun e w' => ∃ v', e = .returned v' ∧ w'.ownsRow w.heap.size 24 4 v' (xs.drop (Pl.bOf xs key)).length (vcells (xs.drop (Pl.bOf xs key))) ∧ Below w.heap.size w w' := by
  obtain ⟨ao, cap, rfl, c1, c2, hrow⟩ := hv
  have hA := Pl.ahead_key hr key
  generalize Pl.bOf xs key = b0 at *
  have hb0x := hA.le
  replace hA := Lib.hid hA
  go_enter Try.func50, Try.ntmps50
  go_wp2
  go_loopw [5, 6] (fun o i W' => ∃ k : Nat, k ≤ xs.length ∧ i = .int .i64 k ∧ W'.ownsRow w.heap.size 24 4 o ((xs.take k).drop b0).length (vcells ((xs.take k).drop b0)) ∧ Below w.heap.size w W') (fun _ i _ => xs.length - (intOf i).toNat)
  case atStart => exact ⟨0, by omega, rfl, by rw [take_drop_none (by omega)]; exact World.ownsRow_nil _ _ _ _, Below.refl _ _⟩
  case round =>
    obtain ⟨k, hk, rfl, hown, hbi⟩ := hrel
    by_cases h1 : k < xs.length
    · obtain ⟨b, off, rfl, hrw⟩ := hrow (by omega)
      obtain ⟨x0, x1, x2, x3⟩ := (hrw.below hbi).2 k h1
      have hres : Hid (Op.bytesLess xs[k].key.toList key.toList = decide (k < b0)) := Lib.hid (by
        by_cases h2 : k < b0
        · rw [hA.out.yes k h1 h2]; simp [h2]
        · rw [hA.out.no k h1 (by omega)]; simp [h2])
      by_cases h2 : k < b0
      · have hr2 : Op.bytesLess xs[k].key.toList key.toList = true := by rw [hres.out]; simp [h2]
        have e1 : (xs.take (k + 1)).drop b0 = (xs.take k).drop b0 := by rw [take_drop_none (by omega), take_drop_none (by omega)]
        rw [← e1] at hown
        clear e1 hrow hrw
        go_wp2
        go_roundw
        case rel => exact ⟨k + 1, by omega, by go_num, hown, hbi⟩
        case measure => simp [intOf]; omega
      · have hr2 : Op.bytesLess xs[k].key.toList key.toList = false := by rw [hres.out]; simp [h2]
        have e1 := Lib.hid (take_drop_succ (xs := xs) h1 (show b0 ≤ k by omega))
        obtain ⟨q, hq⟩ : ∃ q, ((xs.take k).drop b0).length = q := ⟨_, rfl⟩
        have hql : q ≤ k := by rw [← hq, List.length_drop, List.length_take]; omega
        rw [hq] at hown
        replace hq := Lib.hid hq
        have hlk : (q + 1) * 48 ≤ 140737488355328 := by omega
        have hB3 : w.heap.size ≤ wr.heap.size := hbi.size
        have hPut : Hid (∀ w1 : World, (wr.alloc (.cells #[.string xs[k].key, .int .u64 (xs[k].seq : Int), .bool xs[k].del, .string xs[k].val] 24)).grownBy w1 u5.ownBlock → Below w.heap.size w w1) := Lib.hid (fun w1 hgr => (hbi.alloc hB3 _).grown hgr (by simp; omega) (fun k e => (hown.lt k e).1))
        clear hrow hrw
        go_wp2_with (at_builtin; go_must (refine wpList_app1 (by rfl) _ _ 45 (by rfl) w.heap.size 24 (.agg #[.string .empty, .int .u64 0, .bool false, .string .empty]) 4 48 Try.underlying45 info_version rfl (by decide) u5 q (vcells ((xs.take k).drop b0)) wr hown hB3 (by rfl) #[.string xs[k].key, .int .u64 (xs[k].seq : Int), .bool xs[k].del, .string xs[k].val] 24 (by rfl) rfl (by simp [Value.oneCell']) hlk (by decide) ?_; intro g cap w1 hown' hgrow hat hg; have b1 := hPut.out w1 hgrow))
        go_roundw
        case rel =>
          refine ⟨k + 1, by omega, by go_num, ?_, b1⟩
          rw [e1.out, List.length_append, vcells_append, hq.out]
          exact hown'
        case measure => simp [intOf]; omega
    · obtain rfl : k = xs.length := by omega
      rw [List.take_length] at hown
      go_wp2
      go_ret
      exact ⟨_, rfl, hown, hbi⟩

set_option maxRecDepth 100000 in
set_option maxHeartbeats 1600000 in
theorem refBytes_any (v : Value) (xs : List Ver) (w : World) (hv : VersAt w v xs) (hx : xs.length ≤ 8796093022208) (hm : ∀ x ∈ xs, Pl.mayM x.key x.seq x.del x.val = true) :
    Calls Try.prog 51 #[v] w fun e w' => e = .returned (.int .i64 (Pl.bytesOf xs : Nat)) ∧ Below w.heap.size w w' := by
  obtain ⟨ao, cap, rfl, c1, c2, hrow⟩ := hv
  have hbs : Hid (∀ k, k ≤ xs.length → Pl.bytesOf (xs.take k) ≤ k * 16496) := Lib.hid (fun k hk => by
    induction k with
    | zero => simp [Pl.bytesOf]
    | succ k ih =>
      rw [List.take_succ_eq_append_getElem (by omega), Pl.bytesOf_append]
      have h1 := ih (by omega)
      have h2 := Pl.may_size (hm _ (List.getElem_mem (show k < xs.length by omega)))
      have h3 : Pl.bytesOf [xs[k]'(by omega)] = (xs[k]'(by omega)).key.size + (xs[k]'(by omega)).val.size + 16 := by simp [Pl.bytesOf]
      omega)
  replace hm := Lib.hid hm
  go_enter Try.func51, Try.ntmps51
  go_wp2
  go_loopw [3, 4] (fun n i W' => ∃ k : Nat, k ≤ xs.length ∧ i = .int .i64 k ∧ n = .int .i64 (Pl.bytesOf (xs.take k) : Nat) ∧ Below w.heap.size w W') (fun _ i _ => xs.length - (intOf i).toNat)
  case atStart => exact ⟨0, by omega, rfl, rfl, Below.refl _ _⟩
  case round =>
    obtain ⟨k, hk, rfl, rfl, hbi⟩ := hrel
    by_cases h1 : k < xs.length
    · obtain ⟨b, off, rfl, hrw⟩ := hrow (by omega)
      obtain ⟨x0, x1, x2, x3⟩ := (hrw.below hbi).2 k h1
      have hs := Pl.may_size (hm.out _ (List.getElem_mem h1))
      have hk1 := hbs.out k hk
      have e1 : Pl.bytesOf (xs.take (k + 1)) = Pl.bytesOf (xs.take k) + xs[k].key.size + xs[k].val.size + 16 := by
        rw [List.take_succ_eq_append_getElem h1, Pl.bytesOf_append]
        have h3 : Pl.bytesOf [xs[k]] = xs[k].key.size + xs[k].val.size + 16 := by simp [Pl.bytesOf]
        omega
      replace e1 := Lib.hid e1
      generalize Pl.bytesOf (xs.take k) = yb at *
      have s1 : IntKind.i64.wrap ((yb : Int) + (xs[k].key.size : Int)) = (yb : Int) + (xs[k].key.size : Int) := IntWalk.i64_in _ (by omega)
      have s2 : IntKind.i64.wrap ((yb : Int) + (xs[k].key.size : Int) + (xs[k].val.size : Int)) = (yb : Int) + (xs[k].key.size : Int) + (xs[k].val.size : Int) := IntWalk.i64_in _ (by omega)
      have s3 : IntKind.i64.wrap ((yb : Int) + (xs[k].key.size : Int) + (xs[k].val.size : Int) + 16) = (yb : Int) + (xs[k].key.size : Int) + (xs[k].val.size : Int) + 16 := IntWalk.i64_in _ (by omega)
      clear hrow hrw
      go_wp2
      go_quiet (fail)
      go_wp2
      go_roundw
      case rel => exact ⟨k + 1, by omega, by go_num, by rw [e1.out]; go_num, below_drewN hbi nq⟩
      case measure => simp [intOf]; omega
    · obtain rfl : k = xs.length := by omega
      go_wp2
      go_ret
      exact ⟨ret_int (by rw [List.take_length]), hbi⟩
end Go.Proofs.Ytcfcijgnkbmlaaa
