/- Walk: one act, done by a table and by the document's one, is answered alike. Condition: rows whose bytes fit. -/
import Derived.Test.YtcfcijgnkbmlaaaWOne6
import Derived.StillTailTactics
import Derived.Deep.RegionHeld3
import Derived.Deep.DeepCutAuto
import Derived.Deep.RegionWith
namespace Go.Proofs.Ytcfcijgnkbmlaaa
open Go.RowKit Go.Shelf

set_option maxRecDepth 100000 in
set_option maxHeartbeats 1600000 in
theorem one_get (T R : Nat) (xs : List Ver) (hs bs : List Nat) (n : Int) (v : Ver) (w : World) (hT : TblAt w T xs hs bs) (hR : RtAt w R xs hs) (hx : xs.length ≤ 2932031007316) :
    Calls Try.prog 38 #[.pointer (some ⟨T, 0, none⟩), .pointer (some ⟨R, 0, none⟩), .agg #[.int .i64 1, .int .i64 n, .string v.key, .int .u64 (v.seq : Int), .bool v.del, .string v.val]] w fun e w' =>
      e = .returned (.bool true) ∧ Left6 w T R xs.length bs w' := by
  obtain ⟨W0, hW0⟩ : ∃ W0, w.alloc (.cells #[.int .i64 1, .int .i64 n, .string v.key, .int .u64 (v.seq : Int), .bool v.del, .string v.val] 44) = W0 := ⟨_, rfl⟩
  have hb0 : Below w.heap.size w W0 := by rw [← hW0]; exact (Below.refl _ _).alloc (Nat.le_refl _) _
  have hA0 : W0.heap[w.heap.size]? = some (.cells #[.int .i64 1, .int .i64 n, .string v.key, .int .u64 (v.seq : Int), .bool v.del, .string v.val] 44 (0, 0)) := by rw [← hW0]; exact World.alloc_heap_new _ _
  have hT0 := hT.below hb0
  have hR0 := hR.below hb0
  have hAB : w.heap.size < W0.heap.size := (Array.getElem?_eq_some_iff.1 hA0).1
  have a0 : W0.cell? ⟨w.heap.size, 0, none⟩ = some (.int .i64 1) := (cell_of hA0).trans rfl
  have a1 : W0.cell? ⟨w.heap.size, 1, none⟩ = some (.int .i64 n) := (cell_of hA0).trans rfl
  have a2 : W0.cell? ⟨w.heap.size, 2, none⟩ = some (.string v.key) := (cell_of hA0).trans rfl
  have a3 : W0.cell? ⟨w.heap.size, 3, none⟩ = some (.int .u64 (v.seq : Int)) := (cell_of hA0).trans rfl
  obtain ⟨L, cL0, hL0⟩ := hR0.rows
  obtain ⟨g, cap, rfl⟩ : ∃ g cap, L = .slice g xs.length cap := by
    obtain ⟨ao, cap, rfl, _⟩ := hL0
    exact ⟨ao, cap, rfl⟩
  have hRw : R < W0.heap.size := by
    obtain ⟨_, _, hg, _⟩ := hR0
    exact (Array.getElem?_eq_some_iff.1 hg).1
  have AT := Lib.hid (fun (W : World) (hb : Below W0.heap.size W0 W) => And.intro ((hb.cell (p := ⟨w.heap.size, 0, none⟩) hAB).trans a0) (And.intro ((hb.cell (p := ⟨w.heap.size, 1, none⟩) hAB).trans a1) (And.intro ((hb.cell (p := ⟨w.heap.size, 2, none⟩) hAB).trans a2) (And.intro ((hb.cell (p := ⟨w.heap.size, 3, none⟩) hAB).trans a3) ((hb.cell (p := ⟨R, 0, none⟩) hRw).trans cL0)))))
  have FIN := Lib.hid (fun (W : World) (hb : Below W0.heap.size W0 W) => Left6.below hT hR (hb0.trans (hb.mono hb0.size)))
  have P1 := Lib.hid (fun (W : World) (hb : Below W0.heap.size W0 W) => tbl_get T xs hs bs v.key v.seq W (hT0.below hb))
  have P2 := Lib.hid (fun (W : World) (hb : Below W0.heap.size W0 W) => refNewest_any (.slice g xs.length cap) xs v.key v.seq W (hL0.below hb) hT.good.ris hx)
  obtain ⟨r, hr⟩ : ∃ r, Pl.getT xs v.key v.seq = r := ⟨_, rfl⟩
  rw [hr] at P1 P2
  obtain ⟨⟨rk, rs, rd, rv⟩, ri⟩ := r
  simp only at P1 P2
  clear hr hA0
  go_enter Try.func38, Try.ntmps38
  go_wp2_with fail
  clear hW0
  refine (P1.out W0 (Below.refl _ _)).mono ?_
  rintro e w1 ⟨rfl, b1⟩
  have bx1 := b1.alloc b1.size (.cells #[.string rk, .int .u64 (rs : Int), .bool rd, .string rv] 24)
  have v1 := VrAt.new w1 rk (rs : Int) rd rv 24
  clear P1 a0 a1 a2 a3
  go_wp2_with fail
  generalize w1.alloc (.cells #[.string rk, .int .u64 (rs : Int), .bool rd, .string rv] 24) = w1' at bx1 v1 ⊢
  obtain ⟨a0, a1, a2, a3, cL⟩ := AT.out w1' bx1
  have hz : W0.heap.size ≤ w1'.heap.size := bx1.size
  have hvz := v1.2.2.2.2
  generalize hvb : w1.heap.size = vb at v1 hvz ⊢
  have lA : w.heap.size < w1'.heap.size := by omega
  have lR : R < w1'.heap.size := by omega
  go_cut [11, 12] (fun p z wx => ∃ vc, p = .pointer (some ⟨vc, 0, none⟩) ∧ z = .bool ri ∧ VrAt vc rk (rs : Int) rd rv wx ∧ VrAt vb rk (rs : Int) rd rv wx ∧ Below W0.heap.size W0 wx)
  case first =>
    have hkp0 : Hid (∀ wn w2 : World, w1'.heap.size ≤ wn.heap.size → (∀ b o, b < w1'.heap.size → wn.cell? ⟨b, o, none⟩ = w1'.cell? ⟨b, o, none⟩) → Below wn.heap.size wn w2 → w2.cell? ⟨R, 0, none⟩ = some (.slice g xs.length cap) ∧ w2.cell? ⟨w.heap.size, 2, none⟩ = some (.string v.key) ∧ w2.cell? ⟨w.heap.size, 3, none⟩ = some (.int .u64 (v.seq : Int))) := Lib.hid (fun wn w2 hs hc hb => ⟨(hb.cell (p := ⟨R, 0, none⟩) (Nat.lt_of_lt_of_le lR hs)).trans ((hc R 0 lR).trans cL), (hb.cell (p := ⟨w.heap.size, 2, none⟩) (Nat.lt_of_lt_of_le lA hs)).trans ((hc _ 2 lA).trans a2), (hb.cell (p := ⟨w.heap.size, 3, none⟩) (Nat.lt_of_lt_of_le lA hs)).trans ((hc _ 3 lA).trans a3)⟩)
    have q1 := World.new_ne w1' _ cL
    have q2 := World.new_ne w1' _ a2
    have q3 := World.new_ne w1' _ a3
    go_region_held3 (fun w' => w'.cell? ⟨R, 0, none⟩ = some (.slice g xs.length cap) ∧ w'.cell? ⟨w.heap.size, 2, none⟩ = some (.string v.key) ∧ w'.cell? ⟨w.heap.size, 3, none⟩ = some (.int .u64 (v.seq : Int))) (first | exact ⟨cL, a2, a3⟩ | exact hkp | go_keep)
      (first | (go_at_call 49; refine (P2.out _ (by first | exact bx1.drew | exact (bx1.drew).alloc hz _ | exact (bx1.alloc hz _).drew)).mono ?_; rintro e w2 ⟨rfl, b2⟩; have hkp := hkp0.out _ w2 (by simp) (fun b o hb => (by first | rfl | exact World.cell?_alloc_lt w1' _ (a := ⟨b, o, none⟩) hb)) b2; (try (have hn : w2.heap[w1'.heap.size]? = some (.cells #[.string ⟨#[]⟩, .int .u64 0, .bool false, .string ⟨#[]⟩] 24 (0, 0)) := (by exact (b2.block w1'.heap.size (by simp)).trans (World.alloc_heap_new w1' _)); have n0 : w2.cell? ⟨w1'.heap.size, 0, none⟩ = some (.string ⟨#[]⟩) := (cell_of hn).trans rfl; have n1 : w2.cell? ⟨w1'.heap.size, 1, none⟩ = some (.int .u64 0) := (cell_of hn).trans rfl; have n2 : w2.cell? ⟨w1'.heap.size, 2, none⟩ = some (.bool false) := (cell_of hn).trans rfl; have n3 : w2.cell? ⟨w1'.heap.size, 3, none⟩ = some (.string ⟨#[]⟩) := (cell_of hn).trans rfl; have m0 := frozen_of (o := 0) hn; have m1 := frozen_of (o := 1) hn; have m2 := frozen_of (o := 2) hn; have m3 := frozen_of (o := 3) hn))))
    all_goals
      go_wp2_with fail
      go_meet
      first
        | exact ⟨_, rfl, rfl, VrAt.new w2 _ _ _ _ _, (v1.kept ((Below.refl _ w1').drew.trans (b2.mono (Nat.le_refl _)))).alloc _, (bx1.drew.trans (b2.mono hz)).alloc (Nat.le_trans hz b2.size) _⟩
        | (have h4 := heap_set4m (heap_set4m (heap_set4m (heap_set4m hn 0 (.string rk)) 1 (.int .u64 (rs : Int))) 2 (.bool rd)) 3 (.string rv)
           have hbl := ((((((Below.refl _ w1').alloc (Nat.le_refl _) _).drew.trans (b2.mono (by simp))).setCell (p := ⟨w1'.heap.size, 0, none⟩) (Nat.le_refl _) (.string rk)).setCell (p := ⟨w1'.heap.size, 1, none⟩) (Nat.le_refl _) (.int .u64 (rs : Int))).setCell (p := ⟨w1'.heap.size, 2, none⟩) (Nat.le_refl _) (.bool rd)).setCell (p := ⟨w1'.heap.size, 3, none⟩) (Nat.le_refl _) (.string rv)
           exact ⟨_, rfl, rfl, ⟨(cell_of h4).trans rfl, (cell_of h4).trans rfl, (cell_of h4).trans rfl, (cell_of h4).trans rfl, (Array.getElem?_eq_some_iff.1 h4).1⟩, v1.kept hbl, bx1.trans (hbl.mono hz)⟩)
  case rest =>
  obtain ⟨vc, rfl, rfl, v2, v1', bx2⟩ := hcut
  clear cL0
  obtain ⟨p0, p1, p2, p3, pB⟩ := v1'
  obtain ⟨q0, q1, q2, q3, qB⟩ := v2
  go_wp2_with fail
  go_ret
  exact ⟨bool_end (by first | rfl | simp), FIN.out _ bx2⟩

set_option maxRecDepth 100000 in
set_option maxHeartbeats 1600000 in
theorem one_len (T R : Nat) (xs : List Ver) (hs bs : List Nat) (n : Int) (v : Ver) (w : World) (hT : TblAt w T xs hs bs) (hR : RtAt w R xs hs) (hx : xs.length ≤ 2932031007316) :
    Calls Try.prog 38 #[.pointer (some ⟨T, 0, none⟩), .pointer (some ⟨R, 0, none⟩), .agg #[.int .i64 3, .int .i64 n, .string v.key, .int .u64 (v.seq : Int), .bool v.del, .string v.val]] w fun e w' =>
      e = .returned (.bool true) ∧ Left6 w T R xs.length bs w' := by
  obtain ⟨W0, hW0⟩ : ∃ W0, w.alloc (.cells #[.int .i64 3, .int .i64 n, .string v.key, .int .u64 (v.seq : Int), .bool v.del, .string v.val] 44) = W0 := ⟨_, rfl⟩
  have hb0 : Below w.heap.size w W0 := by rw [← hW0]; exact (Below.refl _ _).alloc (Nat.le_refl _) _
  have hA0 : W0.heap[w.heap.size]? = some (.cells #[.int .i64 3, .int .i64 n, .string v.key, .int .u64 (v.seq : Int), .bool v.del, .string v.val] 44 (0, 0)) := by rw [← hW0]; exact World.alloc_heap_new _ _
  have hT0 := hT.below hb0
  have hR0 := hR.below hb0
  have hAB : w.heap.size < W0.heap.size := (Array.getElem?_eq_some_iff.1 hA0).1
  have a0 : W0.cell? ⟨w.heap.size, 0, none⟩ = some (.int .i64 3) := (cell_of hA0).trans rfl
  have a1 : W0.cell? ⟨w.heap.size, 1, none⟩ = some (.int .i64 n) := (cell_of hA0).trans rfl
  have a2 : W0.cell? ⟨w.heap.size, 2, none⟩ = some (.string v.key) := (cell_of hA0).trans rfl
  have a3 : W0.cell? ⟨w.heap.size, 3, none⟩ = some (.int .u64 (v.seq : Int)) := (cell_of hA0).trans rfl
  obtain ⟨L, cL0, hL0⟩ := hR0.rows
  obtain ⟨g, cap, rfl⟩ : ∃ g cap, L = .slice g xs.length cap := by
    obtain ⟨ao, cap, rfl, _⟩ := hL0
    exact ⟨ao, cap, rfl⟩
  have hRw : R < W0.heap.size := by
    obtain ⟨_, _, hg, _⟩ := hR0
    exact (Array.getElem?_eq_some_iff.1 hg).1
  have AT := Lib.hid (fun (W : World) (hb : Below W0.heap.size W0 W) => And.intro ((hb.cell (p := ⟨w.heap.size, 0, none⟩) hAB).trans a0) (And.intro ((hb.cell (p := ⟨w.heap.size, 1, none⟩) hAB).trans a1) (And.intro ((hb.cell (p := ⟨w.heap.size, 2, none⟩) hAB).trans a2) (And.intro ((hb.cell (p := ⟨w.heap.size, 3, none⟩) hAB).trans a3) ((hb.cell (p := ⟨R, 0, none⟩) hRw).trans cL0)))))
  have FIN := Lib.hid (fun (W : World) (hb : Below W0.heap.size W0 W) => Left6.below hT hR (hb0.trans (hb.mono hb0.size)))
  have P1 := Lib.hid (fun (W : World) (hb : Below W0.heap.size W0 W) => tbl_len T xs hs bs W (hT0.below hb))
  have P2 := Lib.hid (fun (W : World) (hb : Below W0.heap.size W0 W) => tbl_bytes T xs hs bs W (hT0.below hb))
  have P3 := Lib.hid (fun (W : World) (hb : Below W0.heap.size W0 W) => refBytes_any (.slice g xs.length cap) xs W (hL0.below hb) (by omega) hT.good.may)
  have hle : ((xs.length : Int) == (xs.length : Int)) = true := by simp
  generalize Pl.bytesOf xs = yb at *
  clear hA0
  go_enter Try.func38, Try.ntmps38
  go_wp2_with fail
  clear hW0
  refine (P1.out W0 (Below.refl _ _)).mono ?_
  rintro e w1 ⟨rfl, he⟩
  obtain rfl : W0 = w1 := he.symm
  go_wp2_with fail
  refine (P2.out W0 (Below.refl _ _)).mono ?_
  rintro e w1 ⟨rfl, he⟩
  obtain rfl : W0 = w1 := he.symm
  go_wp2_with fail
  refine (P3.out W0 (Below.refl _ _)).mono ?_
  rintro e w1 ⟨rfl, b1⟩
  clear P1 P2 P3 cL0 a0 a1 a2 a3
  go_wp2_with fail
  go_ret
  exact ⟨bool_end (by first | rfl | simp), FIN.out _ b1⟩

set_option maxRecDepth 100000 in
set_option maxHeartbeats 1600000 in
theorem one_steps (T R : Nat) (xs : List Ver) (hs bs : List Nat) (n : Int) (v : Ver) (w : World) (hT : TblAt w T xs hs bs) (hR : RtAt w R xs hs) (hx : xs.length ≤ 2932031007316) (kd : Int) (h0 : (kd == 0) = false) (h1 : (kd == 1) = false) (h2 : (kd == 2) = false) (h3 : (kd == 3) = false) (h4 : (kd == 4) = false) :
    Calls Try.prog 38 #[.pointer (some ⟨T, 0, none⟩), .pointer (some ⟨R, 0, none⟩), .agg #[.int .i64 kd, .int .i64 n, .string v.key, .int .u64 (v.seq : Int), .bool v.del, .string v.val]] w fun e w' =>
      e = .returned (.bool true) ∧ Left6 w T R xs.length bs w' := by
  obtain ⟨W0, hW0⟩ : ∃ W0, w.alloc (.cells #[.int .i64 kd, .int .i64 n, .string v.key, .int .u64 (v.seq : Int), .bool v.del, .string v.val] 44) = W0 := ⟨_, rfl⟩
  have hb0 : Below w.heap.size w W0 := by rw [← hW0]; exact (Below.refl _ _).alloc (Nat.le_refl _) _
  have hA0 : W0.heap[w.heap.size]? = some (.cells #[.int .i64 kd, .int .i64 n, .string v.key, .int .u64 (v.seq : Int), .bool v.del, .string v.val] 44 (0, 0)) := by rw [← hW0]; exact World.alloc_heap_new _ _
  have hT0 := hT.below hb0
  have hR0 := hR.below hb0
  have hAB : w.heap.size < W0.heap.size := (Array.getElem?_eq_some_iff.1 hA0).1
  have a0 : W0.cell? ⟨w.heap.size, 0, none⟩ = some (.int .i64 kd) := (cell_of hA0).trans rfl
  have a1 : W0.cell? ⟨w.heap.size, 1, none⟩ = some (.int .i64 n) := (cell_of hA0).trans rfl
  have a2 : W0.cell? ⟨w.heap.size, 2, none⟩ = some (.string v.key) := (cell_of hA0).trans rfl
  have a3 : W0.cell? ⟨w.heap.size, 3, none⟩ = some (.int .u64 (v.seq : Int)) := (cell_of hA0).trans rfl
  obtain ⟨L, cL0, hL0⟩ := hR0.rows
  obtain ⟨g, cap, rfl⟩ : ∃ g cap, L = .slice g xs.length cap := by
    obtain ⟨ao, cap, rfl, _⟩ := hL0
    exact ⟨ao, cap, rfl⟩
  have hRw : R < W0.heap.size := by
    obtain ⟨_, _, hg, _⟩ := hR0
    exact (Array.getElem?_eq_some_iff.1 hg).1
  have AT := Lib.hid (fun (W : World) (hb : Below W0.heap.size W0 W) => And.intro ((hb.cell (p := ⟨w.heap.size, 0, none⟩) hAB).trans a0) (And.intro ((hb.cell (p := ⟨w.heap.size, 1, none⟩) hAB).trans a1) (And.intro ((hb.cell (p := ⟨w.heap.size, 2, none⟩) hAB).trans a2) (And.intro ((hb.cell (p := ⟨w.heap.size, 3, none⟩) hAB).trans a3) ((hb.cell (p := ⟨R, 0, none⟩) hRw).trans cL0)))))
  have FIN := Lib.hid (fun (W : World) (hb : Below W0.heap.size W0 W) => Left6.below hT hR (hb0.trans (hb.mono hb0.size)))
  have P1 := Lib.hid (fun (W : World) (hb : Below W0.heap.size W0 W) => tbl_steps T xs hs bs v.key W (hT0.below hb) (by omega))
  have P2 := Lib.hid (fun (W : World) (hb : Below W0.heap.size W0 W) => refSteps_any R xs hs v.key W (hR0.below hb) hT.good hx)
  generalize Pl.stp hs (Pl.bOf xs v.key) 8 0 = yb at *
  clear hA0
  go_enter Try.func38, Try.ntmps38
  go_wp2_with fail
  clear hW0
  refine (P1.out W0 (Below.refl _ _)).mono ?_
  rintro e w1 ⟨rfl, b1⟩
  clear P1 a0 a1 a2 a3
  obtain ⟨a0, a1, a2, a3, cL⟩ := AT.out w1 b1
  go_wp2_with fail
  refine (P2.out w1 b1).mono ?_
  rintro e w2 ⟨rfl, b2⟩
  clear P2 cL0 a0 a1 a2 a3 cL
  go_wp2_with fail
  go_ret
  exact ⟨bool_end (by first | rfl | simp), FIN.out _ (b1.trans (b2.mono b1.size))⟩

set_option maxRecDepth 100000 in
set_option maxHeartbeats 1600000 in
theorem one_level (T R : Nat) (xs : List Ver) (hs bs : List Nat) (n : Int) (v : Ver) (w : World) (hT : TblAt w T xs hs bs) (hR : RtAt w R xs hs) (hx : xs.length ≤ 2932031007316) :
    Calls Try.prog 38 #[.pointer (some ⟨T, 0, none⟩), .pointer (some ⟨R, 0, none⟩), .agg #[.int .i64 4, .int .i64 n, .string v.key, .int .u64 (v.seq : Int), .bool v.del, .string v.val]] w fun e w' =>
      e = .returned (.bool true) ∧ Left6 w T R xs.length bs w' := by
  obtain ⟨W0, hW0⟩ : ∃ W0, w.alloc (.cells #[.int .i64 4, .int .i64 n, .string v.key, .int .u64 (v.seq : Int), .bool v.del, .string v.val] 44) = W0 := ⟨_, rfl⟩
  have hb0 : Below w.heap.size w W0 := by rw [← hW0]; exact (Below.refl _ _).alloc (Nat.le_refl _) _
  have hA0 : W0.heap[w.heap.size]? = some (.cells #[.int .i64 4, .int .i64 n, .string v.key, .int .u64 (v.seq : Int), .bool v.del, .string v.val] 44 (0, 0)) := by rw [← hW0]; exact World.alloc_heap_new _ _
  have hT0 := hT.below hb0
  have hR0 := hR.below hb0
  have hAB : w.heap.size < W0.heap.size := (Array.getElem?_eq_some_iff.1 hA0).1
  have a0 : W0.cell? ⟨w.heap.size, 0, none⟩ = some (.int .i64 4) := (cell_of hA0).trans rfl
  have a1 : W0.cell? ⟨w.heap.size, 1, none⟩ = some (.int .i64 n) := (cell_of hA0).trans rfl
  have a2 : W0.cell? ⟨w.heap.size, 2, none⟩ = some (.string v.key) := (cell_of hA0).trans rfl
  have a3 : W0.cell? ⟨w.heap.size, 3, none⟩ = some (.int .u64 (v.seq : Int)) := (cell_of hA0).trans rfl
  obtain ⟨L, cL0, hL0⟩ := hR0.rows
  obtain ⟨g, cap, rfl⟩ : ∃ g cap, L = .slice g xs.length cap := by
    obtain ⟨ao, cap, rfl, _⟩ := hL0
    exact ⟨ao, cap, rfl⟩
  have hRw : R < W0.heap.size := by
    obtain ⟨_, _, hg, _⟩ := hR0
    exact (Array.getElem?_eq_some_iff.1 hg).1
  have AT := Lib.hid (fun (W : World) (hb : Below W0.heap.size W0 W) => And.intro ((hb.cell (p := ⟨w.heap.size, 0, none⟩) hAB).trans a0) (And.intro ((hb.cell (p := ⟨w.heap.size, 1, none⟩) hAB).trans a1) (And.intro ((hb.cell (p := ⟨w.heap.size, 2, none⟩) hAB).trans a2) (And.intro ((hb.cell (p := ⟨w.heap.size, 3, none⟩) hAB).trans a3) ((hb.cell (p := ⟨R, 0, none⟩) hRw).trans cL0)))))
  have FIN := Lib.hid (fun (W : World) (hb : Below W0.heap.size W0 W) => Left6.below hT hR (hb0.trans (hb.mono hb0.size)))
  have P1 : Hid (∀ W, Below W0.heap.size W0 W → Calls Try.prog 36 #[.pointer (some ⟨T, 0, none⟩), .int .i64 n] W fun e w' => ∃ u, e = .returned u ∧ VersAt w' u (if 0 ≤ n then Pl.lvlN xs hs n.toNat xs.length else []) ∧ Below W.heap.size W w') := Lib.hid (fun W hb => by
    by_cases h1 : 0 ≤ n ∧ n < 8
    · obtain ⟨k, rfl⟩ := Int.eq_ofNat_of_zero_le h1.1
      rw [if_pos h1.1, Int.toNat_natCast]
      refine (tbl_level_in T xs hs bs k W (hT0.below hb) (by omega) hx).mono ?_
      rintro e w' ⟨u, rfl, ho, hbb⟩
      exact ⟨u, rfl, own_vers ho, hbb⟩
    · refine (tbl_level_out T n W (by omega)).mono ?_
      rintro e w' ⟨rfl, rfl⟩
      refine ⟨_, rfl, ?_, Below.refl _ _⟩
      have e0 : (if 0 ≤ n then Pl.lvlN xs hs n.toNat xs.length else []) = [] := by
        split
        · exact lvl_high hT.good (by omega) _ (Nat.le_refl _)
        · rfl
      rw [e0]
      exact ⟨none, 0, rfl, Nat.le_refl _, by omega, fun h => absurd h (by simp)⟩)
  have P2 : Hid (∀ W, Below W0.heap.size W0 W → Calls Try.prog 52 #[.pointer (some ⟨R, 0, none⟩), .int .i64 n] W fun e w' => ∃ u, e = .returned u ∧ VersAt w' u (if 0 ≤ n then Pl.lvlN xs hs n.toNat xs.length else []) ∧ Below W.heap.size W w') := Lib.hid (fun W hb => by
    refine (refLevel_any R xs hs n W (hR0.below hb) hT.good.hl hx).mono ?_
    rintro e w' ⟨u, rfl, ho, hbb⟩
    exact ⟨u, rfl, own_vers ho, hbb⟩)
  generalize (if 0 ≤ n then Pl.lvlN xs hs n.toNat xs.length else []) = ys at P1 P2
  clear hA0
  go_enter Try.func38, Try.ntmps38
  go_wp2_with fail
  clear hW0
  refine (P1.out W0 (Below.refl _ _)).mono ?_
  rintro e w1 ⟨u1, rfl, hu1, b1⟩
  clear P1 a0 a1 a2 a3
  obtain ⟨a0, a1, a2, a3, cL⟩ := AT.out w1 b1
  go_wp2_with fail
  refine (P2.out w1 b1).mono ?_
  rintro e w2 ⟨u2, rfl, hu2, b2⟩
  clear P2 cL0 a0 a1 a2 a3 cL
  have b12 := b1.trans (b2.mono b1.size)
  have P3 := Lib.hid (same_same u1 u2 ys w2 (hu1.below b2) hu2)
  go_wp2_with fail
  refine P3.out.mono ?_
  rintro e w3 ⟨rfl, hq⟩
  have b3 := hq.below w2.heap.size
  go_wp2_with fail
  go_ret
  exact ⟨bool_end (by first | rfl | simp), FIN.out _ (b12.trans (b3.mono b12.size))⟩

set_option maxRecDepth 100000 in
set_option maxHeartbeats 1600000 in
theorem one_from (T R : Nat) (xs : List Ver) (hs bs : List Nat) (n : Int) (v : Ver) (w : World) (hT : TblAt w T xs hs bs) (hR : RtAt w R xs hs) (hx : xs.length ≤ 2932031007316) (hn : n ≤ 9223372036854775807) :
    Calls Try.prog 38 #[.pointer (some ⟨T, 0, none⟩), .pointer (some ⟨R, 0, none⟩), .agg #[.int .i64 2, .int .i64 n, .string v.key, .int .u64 (v.seq : Int), .bool v.del, .string v.val]] w fun e w' =>
      e = .returned (.bool true) ∧ Left6 w T R xs.length bs w' := by
  obtain ⟨W0, hW0⟩ : ∃ W0, w.alloc (.cells #[.int .i64 2, .int .i64 n, .string v.key, .int .u64 (v.seq : Int), .bool v.del, .string v.val] 44) = W0 := ⟨_, rfl⟩
  have hb0 : Below w.heap.size w W0 := by rw [← hW0]; exact (Below.refl _ _).alloc (Nat.le_refl _) _
  have hA0 : W0.heap[w.heap.size]? = some (.cells #[.int .i64 2, .int .i64 n, .string v.key, .int .u64 (v.seq : Int), .bool v.del, .string v.val] 44 (0, 0)) := by rw [← hW0]; exact World.alloc_heap_new _ _
  have hT0 := hT.below hb0
  have hR0 := hR.below hb0
  have hAB : w.heap.size < W0.heap.size := (Array.getElem?_eq_some_iff.1 hA0).1
  have a0 : W0.cell? ⟨w.heap.size, 0, none⟩ = some (.int .i64 2) := (cell_of hA0).trans rfl
  have a1 : W0.cell? ⟨w.heap.size, 1, none⟩ = some (.int .i64 n) := (cell_of hA0).trans rfl
  have a2 : W0.cell? ⟨w.heap.size, 2, none⟩ = some (.string v.key) := (cell_of hA0).trans rfl
  have a3 : W0.cell? ⟨w.heap.size, 3, none⟩ = some (.int .u64 (v.seq : Int)) := (cell_of hA0).trans rfl
  obtain ⟨L, cL0, hL0⟩ := hR0.rows
  obtain ⟨g, cap, rfl⟩ : ∃ g cap, L = .slice g xs.length cap := by
    obtain ⟨ao, cap, rfl, _⟩ := hL0
    exact ⟨ao, cap, rfl⟩
  have hRw : R < W0.heap.size := by
    obtain ⟨_, _, hg, _⟩ := hR0
    exact (Array.getElem?_eq_some_iff.1 hg).1
  have AT := Lib.hid (fun (W : World) (hb : Below W0.heap.size W0 W) => And.intro ((hb.cell (p := ⟨w.heap.size, 0, none⟩) hAB).trans a0) (And.intro ((hb.cell (p := ⟨w.heap.size, 1, none⟩) hAB).trans a1) (And.intro ((hb.cell (p := ⟨w.heap.size, 2, none⟩) hAB).trans a2) (And.intro ((hb.cell (p := ⟨w.heap.size, 3, none⟩) hAB).trans a3) ((hb.cell (p := ⟨R, 0, none⟩) hRw).trans cL0)))))
  have FIN := Lib.hid (fun (W : World) (hb : Below W0.heap.size W0 W) => Left6.below hT hR (hb0.trans (hb.mono hb0.size)))
  have P1 : Hid (∀ W, Below W0.heap.size W0 W → Calls Try.prog 29 #[.pointer (some ⟨T, 0, none⟩), .string v.key, .int .i64 n] W fun e w' => ∃ u, e = .returned u ∧ VersAt w' u (heads (xs.drop (Pl.bOf xs v.key)) n) ∧ Below W.heap.size W w') := Lib.hid (fun W hb => by
    refine (tbl_from T xs hs bs v.key n W (hT0.below hb) hx).mono ?_
    rintro e w' ⟨u, rfl, ho, hbb⟩
    exact ⟨u, rfl, own_vers ho, hbb⟩)
  have P2 : Hid (∀ W, Below W0.heap.size W0 W → Calls Try.prog 50 #[.slice g xs.length cap, .string v.key] W fun e w' => ∃ gu cu, e = .returned (.slice gu (xs.drop (Pl.bOf xs v.key)).length cu) ∧ VersAt w' (.slice gu (xs.drop (Pl.bOf xs v.key)).length cu) (xs.drop (Pl.bOf xs v.key)) ∧ Below W.heap.size W w') := Lib.hid (fun W hb => by
    refine (refFrom_any (.slice g xs.length cap) xs v.key W (hL0.below hb) hT.good.ris hx).mono ?_
    rintro e w' ⟨u, rfl, ho, hbb⟩
    have hu := own_vers ho
    obtain ⟨gu, cu, rfl⟩ : ∃ gu cu, u = .slice gu (xs.drop (Pl.bOf xs v.key)).length cu := by
      obtain ⟨ao, cap, rfl, _⟩ := hu
      exact ⟨ao, cap, rfl⟩
    exact ⟨gu, cu, rfl, hu, hbb⟩)
  have hyl : (xs.drop (Pl.bOf xs v.key)).length ≤ xs.length := by simp
  generalize xs.drop (Pl.bOf xs v.key) = ys at P1 P2 hyl
  clear hA0
  go_enter Try.func38, Try.ntmps38
  go_wp2_with fail
  clear hW0
  refine (P1.out W0 (Below.refl _ _)).mono ?_
  rintro e w1 ⟨u1, rfl, hu1, b1⟩
  clear P1 a0 a1 a2 a3
  obtain ⟨a0, a1, a2, a3, cL⟩ := AT.out w1 b1
  have bd : Below W0.heap.size W0 w1.drew := b1.drew
  have PP := Lib.hid (P2.out w1.drew bd)
  clear P2
  go_wp2_with fail
  go_still_tail 7, (by kernel_rfl)
  change wpList _ _ _ _ _ w1.drew
  go_wp2_with fail
  refine PP.out.mono ?_
  rintro e w2 ⟨gu, cu, rfl, hu2, b2⟩
  have b12 := bd.trans (b2.mono bd.size)
  have hu1' := hu1.below ((Below.refl _ w1).drew.trans (b2.mono (Nat.le_refl _)))
  clear PP a0 a1 a2 a3 cL cL0
  obtain ⟨a0, a1, a2, a3, cL⟩ := AT.out w2 b12
  by_cases hn0 : 0 < n ∧ n < ys.length
  · obtain ⟨hp, hlt⟩ := hn0
    obtain ⟨k, rfl⟩ := Int.eq_ofNat_of_zero_le (by omega : 0 ≤ n)
    have hkl : k < ys.length := by omega
    have hcu : k ≤ cu := by
      obtain ⟨_, _, e, hh, _⟩ := hu2
      injection e with _ _ e
      subst e
      omega
    have hk0 : 0 < k := by omega
    have e1 : heads ys (k : Int) = ys.take k := by unfold heads; rw [if_pos ⟨hp, by omega⟩, Int.toNat_natCast]
    rw [e1] at hu1'
    have P3 := Lib.hid (fun W (hb : Below w2.heap.size w2 W) => same_same u1 (.slice gu k cu) (ys.take k) W (hu1'.below hb) ((hu2.front k (by omega)).below hb))
    clear hu1 e1
    go_wp2_with fail
    refine (P3.out w2 (Below.refl _ _)).mono ?_
    rintro e w3 ⟨rfl, hq⟩
    have b3 := hq.below w2.heap.size
    go_wp2_with fail
    go_ret
    exact ⟨bool_end (by first | rfl | simp), FIN.out _ (b12.trans (b3.mono b12.size))⟩
  · have e1 : heads ys n = ys := by
      unfold heads
      split
      · rw [List.take_of_length_le (by omega)]
      · rfl
    rw [e1] at hu1'
    have P3 := Lib.hid (same_same u1 (.slice gu ys.length cu) ys w2 hu1' hu2)
    have hlt : n ≤ 0 ∨ (0 < n ∧ ¬ n < ys.length) := by omega
    clear hn0 e1 hu1
    rcases hlt with hlt | ⟨hp, hlt⟩
    all_goals
      go_wp2_with fail
      refine P3.out.mono ?_
      rintro e w3 ⟨rfl, hq⟩
      have b3 := hq.below w2.heap.size
      go_wp2_with fail
      go_ret
      exact ⟨bool_end (by first | rfl | simp), FIN.out _ (b12.trans (b3.mono b12.size))⟩

theorem one_any (T R : Nat) (xs : List Ver) (hs bs : List Nat) (a : MAct) (w : World) (hT : TblAt w T xs hs bs) (hR : RtAt w R xs hs) (hx : xs.length ≤ 2932031007316) (hn : a.n ≤ 9223372036854775807) :
    Calls Try.prog 38 #[.pointer (some ⟨T, 0, none⟩), .pointer (some ⟨R, 0, none⟩), .agg #[.int .i64 a.kind, .int .i64 a.n, .string a.v.key, .int .u64 (a.v.seq : Int), .bool a.v.del, .string a.v.val]] w fun e w' =>
      e = .returned (.bool true) ∧ Left6 w T R xs.length bs w' := by
  obtain ⟨kd, n, v⟩ := a
  by_cases h0 : kd = 0
  · subst h0; exact one_add T R xs hs bs n v w hT hR hx
  by_cases h1 : kd = 1
  · subst h1; exact one_get T R xs hs bs n v w hT hR hx
  by_cases h2 : kd = 2
  · subst h2; exact one_from T R xs hs bs n v w hT hR hx hn
  by_cases h3 : kd = 3
  · subst h3; exact one_len T R xs hs bs n v w hT hR hx
  by_cases h4 : kd = 4
  · subst h4; exact one_level T R xs hs bs n v w hT hR hx
  exact one_steps T R xs hs bs n v w hT hR hx kd (by simpa using h0) (by simpa using h1) (by simpa using h2) (by simpa using h3) (by simpa using h4)
end Go.Proofs.Ytcfcijgnkbmlaaa
