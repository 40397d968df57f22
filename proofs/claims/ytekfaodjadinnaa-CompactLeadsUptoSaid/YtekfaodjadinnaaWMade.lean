/- Walk: what edits make of nothing. Condition: they add few tables. -/
import Derived.Test.YtekfaodjadinnaaWAp2
import Derived.Deep.RegionWith
namespace Go.Proofs.Ytekfaodjadinnaa
open Go.RowKit

namespace Pl
noncomputable def madeOne (L : Lv) (e : Ed) : Lv := match apply L e with
  | some L' => L'
  | none => L
noncomputable def made (l : List Ed) : Lv := l.foldl madeOne Lv.zero
def adds (l : List Ed) : Nat := (l.map fun e => e.add.length).sum
theorem adds_snoc (l : List Ed) (e : Ed) : adds (l ++ [e]) = adds l + e.add.length := by simp [adds]
theorem addAll_length {nx : Nat} : ∀ {r : List Tb} {o o' : Lv}, addAll nx o r = some o' → ∀ k, (o'.t k).length ≤ (o.t k).length + r.length
  | [], o, o', h, k => by
    simp only [addAll, Option.some.injEq] at h
    subst h; simp
  | x :: r, o, o', h, k => by
    simp only [addAll] at h
    cases h1 : addOne nx o x with
    | none => rw [h1] at h; cases h
    | some o2 =>
      rw [h1] at h
      have ih := addAll_length (o := o2) h k
      have h2 : (o2.t k).length ≤ (o.t k).length + 1 := by
        unfold addOne at h1
        split at h1
        · cases h1
        · split at h1
          · cases h1
          · simp only [Option.some.injEq] at h1
            subst h1
            show (if k = x.level.toNat then put (o.t k) x else o.t k).length ≤ _
            split
            · rw [put_length]; omega
            · omega
      simp only [List.length_cons]
      omega
theorem apply_length {L L' : Lv} {e : Ed} (h : apply L e = some L') (N : Nat) (hN : ∀ k, k < 4 → (L.t k).length ≤ N) : ∀ k, k < 4 → (L'.t k).length ≤ N + e.add.length := by
  intro k hk
  unfold apply at h
  split at h
  · cases h
  · split at h
    · cases h
    · split at h
      · cases h
      · have h1 := addAll_length h k
        have h2 := tK_length L e.drop 4 0 k N (by omega) hk hN
        simp only at h1
        omega
theorem made_length (l : List Ed) : ∀ i, i ≤ l.length → ∀ k, k < 4 → ((made (l.take i)).t k).length ≤ adds (l.take i)
  | 0, _, k, _ => by simp [made, Lv.zero, adds]
  | i + 1, hi, k, hk => by
    rw [List.take_succ_eq_append_getElem (by omega : i < l.length), adds_snoc]
    unfold made
    rw [List.foldl_append]
    show ((madeOne (made (l.take i)) l[i]).t k).length ≤ _
    have ih := made_length l i (by omega)
    unfold madeOne
    cases h : apply (made (l.take i)) l[i] with
    | none => have := ih k hk; simp only; omega
    | some L' => exact apply_length h _ ih k hk
theorem made_succ (l : List Ed) (i : Nat) (h : i < l.length) : made (l.take (i + 1)) = madeOne (made (l.take i)) l[i] := by
  unfold made
  rw [List.take_succ_eq_append_getElem h, List.foldl_append]; rfl
theorem adds_take (l : List Ed) (i : Nat) : adds (l.take i) ≤ adds l := by
  unfold adds
  conv => rhs; rw [← List.take_append_drop i l, List.map_append, List.sum_append]
  omega
end Pl

theorem lvCells_nostr (L : Pl.Lv) (a : Nat → Option Addr) (c : Nat → Nat) (i : Nat) (s : ByteArray) : (lvCells L a c)[i]? ≠ some (.string s) := by
  rcases i with _ | _ | _ | _ | _ | _ | _ | i
  all_goals simp [lvCells]
/-- a box of live tables holds no table -/
theorem LvBox.apart {W : World} {b : Nat} {L : Pl.Lv} {a : Nat → Option Addr} {c : Nat → Nat} {v : Value} {l : List Pl.Tb} (h : LvBox W b L a c) (ht : TbsAt W v l) (h0 : 0 < l.length) : v.ownBlock ≠ some b := by
  obtain ⟨ao, cap, rfl, _, _, _, hc⟩ := ht
  obtain ⟨b', off, rfl, _, hx⟩ := hc h0
  intro e
  have e' : b' = b := by simpa [Value.ownBlock] using e
  subst e'
  have := (hx 0 h0).c4
  unfold LvBox at h
  simp only [World.cell?, h] at this
  exact lvCells_nostr L a c _ _ (by simpa using this)
theorem LvAt.aside {W W' : World} {b : Nat} {L L' : Pl.Lv} {a a' : Nat → Option Addr} {c c' : Nat → Nat} (h : LvAt W L a c) (hb : LvBox W b L' a' c') (hk : Keep (fun q => q ≠ b) W W') : LvAt W' L a c := fun k hk4 =>
  (h k hk4).kept hk.size (fun h0 q hq e => hk.block q (fun e2 => hb.apart (h k hk4) h0 (by rw [e, e2])) hq)

set_option maxRecDepth 100000 in
set_option maxHeartbeats 3200000 in
theorem made_any (l : List Pl.Ed) (u : Value) (w : World) (hu : EdsAt w u l) (hs : Pl.adds l ≤ 536870912) :
    Calls Try.prog 6 #[u] w fun e w' => ∃ a c, e = .returned (lvV (Pl.made l) a c) ∧ LvAt w' (Pl.made l) a c ∧ Below w.heap.size w w' := by
  obtain ⟨ao, cap, rfl, h1, h2, hc⟩ := hu
  go_enter Try.func6, Try.ntmps6
  go_wp2_with fail
  obtain ⟨W0, hW0⟩ : ∃ W0, (w.alloc (.cells #[.int .u64 0, .int .u64 0, .int .u64 0, .slice none 0 0, .slice none 0 0, .slice none 0 0, .slice none 0 0] 30)).alloc (.cells #[.int .u64 0, .int .u64 0, .int .u64 0, .slice none 0 0, .slice none 0 0, .slice none 0 0, .slice none 0 0] 30) = W0 := ⟨_, rfl⟩
  have hb0 : Below w.heap.size w W0 := by rw [← hW0]; exact ((Below.refl _ _).alloc (Nat.le_refl _) _).alloc (by simp) _
  have hB0 : LvBox W0 w.heap.size Pl.Lv.zero (fun _ => none) (fun _ => 0) := by
    rw [← hW0]
    exact (show LvBox (w.alloc (.cells #[.int .u64 0, .int .u64 0, .int .u64 0, .slice none 0 0, .slice none 0 0, .slice none 0 0, .slice none 0 0] 30)) w.heap.size Pl.Lv.zero (fun _ => none) (fun _ => 0) from World.alloc_heap_new _ _).below ((Below.refl _ _).alloc (Nat.le_refl _) _)
  have hB1 : LvBox W0 (w.heap.size + 1) Pl.Lv.zero (fun _ => none) (fun _ => 0) := by
    rw [← hW0]
    have h2 := World.alloc_heap_new (w.alloc (.cells #[.int .u64 0, .int .u64 0, .int .u64 0, .slice none 0 0, .slice none 0 0, .slice none 0 0, .slice none 0 0] 30)) (.cells #[.int .u64 0, .int .u64 0, .int .u64 0, .slice none 0 0, .slice none 0 0, .slice none 0 0, .slice none 0 0] 30)
    rw [World.size_alloc] at h2
    exact h2
  rw [hW0]
  clear hW0
  go_loopw [4, 5, 6] (fun i _ _ W' => ∃ (k : Nat) (a : Nat → Option Addr) (c : Nat → Nat), k ≤ l.length ∧ i = .int .i64 (k : Int) ∧ LvBox W' w.heap.size Pl.Lv.zero (fun _ => none) (fun _ => 0) ∧ LvBox W' (w.heap.size + 1) (Pl.made (l.take k)) a c ∧ LvAt W' (Pl.made (l.take k)) a c ∧ Below w.heap.size w W') (fun i _ _ _ => l.length - (intOf i).toNat)
  case atStart => exact ⟨0, _, _, Nat.zero_le _, rfl, hB0, hB1, LvAt.zero _, hb0⟩
  case round =>
    obtain ⟨k, a, c, hk, rfl, hR, hB, hL, hb⟩ := hrel
    obtain ⟨d0, d1, d2, d3, d4, d5, d6⟩ := hB.cells
    have hzB := hB.lt
    by_cases hkl : k < l.length
    case neg =>
      obtain rfl : k = l.length := by omega
      rw [List.take_of_length_le (Nat.le_refl _)] at hB hL d0 d1 d2 d3 d4 d5 d6
      obtain ⟨c0, c1, c2, c3, c4, c5, c6⟩ := hR.cells
      have f1 := hR.frz
      have hRh := Lib.hid hR
      have hLh := Lib.hid hL
      have hbh := Lib.hid hb
      obtain ⟨M, hM⟩ : ∃ M, M = Pl.made l := ⟨_, rfl⟩
      rw [← hM] at hB hL hLh d0 d1 d2 d3 d4 d5 d6
      replace hM := Lib.hid hM
      go_wp2
      have hks := keep_seven wr w.heap.size (.int .u64 (M.next : Int)) (.int .u64 (M.seq : Int)) (.int .u64 (M.log : Int)) (.slice (a 0) (M.t 0).length (c 0)) (.slice (a 1) (M.t 1).length (c 1)) (.slice (a 2) (M.t 2).length (c 2)) (.slice (a 3) (M.t 3).length (c 3))
      refine bodyPost_ret (results_live (L := M) (a := a) (c := c) rfl rfl (heap_seven hRh.out _ _ _ _ _ _ _)) rfl ?_
      rw [← hM.out]
      exact ⟨a, c, rfl, hLh.out.aside hRh.out hks, hks.below hbh.out (Nat.le_refl _) (fun q hq => by omega)⟩
    obtain ⟨b, off, rfl, hbl, hx⟩ := hc (by omega)
    obtain ⟨x0, x1, x2, ⟨ua, x3, hua⟩, ud, x4, hud⟩ := (hx k hkl).below hbl hb
    have hms := Lib.hid (Pl.made_succ l k hkl)
    have hml := Pl.made_length l k hk
    have hma := Pl.adds_take l k
    generalize Pl.made (l.take k) = M at *
    clear hx
    generalize l[k] = e at *
    have hz := hR.lt
    have hua0 := Lib.hid hua
    have hud0 := Lib.hid hud
    obtain ⟨aa, ca, rfl, _, _, _⟩ := hua
    obtain ⟨ad, cd, rfl, _, _, _⟩ := hud
    have hbr : b < wr.heap.size := Nat.lt_of_lt_of_le hbl hb.size
    have PA := Lib.hid (fun (W : World) (h : Below wr.heap.size wr W) => apply_any M a c e _ _ W (hL.below h) (hua0.out.below h) (hud0.out.below h) (fun j hj => by have := hml j hj; omega))
    unfold lvV at PA
    have hB1 : Below wr.heap.size wr wr.drew := (Below.refl _ _).drew
    have hB2 : Below wr.heap.size wr (wr.drew.alloc (.cells #[.int .u64 0, .int .u64 0, .int .u64 0, .slice none 0 0, .slice none 0 0, .slice none 0 0, .slice none 0 0] 30)) := hB1.alloc (Nat.le_refl _) _
    have hZ := Lib.hid (show LvBox (wr.drew.alloc (.cells #[.int .u64 0, .int .u64 0, .int .u64 0, .slice none 0 0, .slice none 0 0, .slice none 0 0, .slice none 0 0] 30)) wr.heap.size Pl.Lv.zero (fun _ => none) (fun _ => 0) from World.alloc_heap_new _ _)
    have hRh := Lib.hid hR
    have hBh := Lib.hid hB
    have hbh := Lib.hid hb
    go_wp2
    go_cut [5, 6] (fun v5 v6 wx => ∃ (B5 : Nat) (L2 : Pl.Lv) (a2 : Nat → Option Addr) (c2 : Nat → Nat) (n : Int), v5 = .pointer (some ⟨B5, 0, none⟩) ∧ v6 = .int .i64 n ∧ LvBox wx B5 L2 a2 c2 ∧ LvAt wx L2 a2 c2 ∧ Below wr.heap.size wr wx ∧ ((n = 0 ∧ Pl.apply M e = some L2) ∨ (n ≠ 0 ∧ Pl.apply M e = none)))
    case first =>
      go_region_with (first
        | (go_at_call 17; refine (PA.out _ hB1).mono ?_; rintro ex wz ⟨L2, a2, c2, n, rfl, hL2, hb2, hres⟩; unfold lvV; have hb2' := hB1.trans (hb2.mono (Nat.le_refl _)))
        | (go_at_call 17; refine (PA.out _ hB2).mono ?_; rintro ex wz ⟨L2, a2, c2, n, rfl, hL2, hb2, hres⟩; unfold lvV; have hb2' := hB2.trans (hb2.mono hB2.size); have hzz := hZ.out.below hb2; have ⟨m0, m1, m2, m3, m4, m5, m6⟩ := hzz.cells; have mf := hzz.frz; have ml := hzz.lt; replace hzz := Lib.hid hzz))
      all_goals
        go_wp2
        go_meet
        first
          | exact ⟨wr.heap.size, L2, a2, c2, n, rfl, rfl, heap_seven hzz.out _ _ _ _ _ _ _, hL2.aside hzz.out (keep_seven _ _ _ _ _ _ _ _ _), (keep_seven _ _ _ _ _ _ _ _ _).below hb2' (Nat.le_refl _) (fun q hq => by omega), hres⟩
          | exact ⟨wz.heap.size, L2, a2, c2, n, rfl, rfl, LvBox.new wz L2 a2 c2, hL2.below ((Below.refl _ _).alloc (Nat.le_refl _) _), hb2'.alloc hb2'.size _, hres⟩
    case rest =>
    obtain ⟨B5, L2, a2, c2, n, rfl, rfl, hB5, hL2, hbc, hres⟩ := hcut
    have hBc := hBh.out.below hbc
    have hRc := hRh.out.below hbc
    have hbwc := hbh.out.trans (hbc.mono hbh.out.size)
    have hLc := hL.below hbc
    clear hB1 hB2 hZ PA hBh hRh hbh hb hR hB hL d0 d1 d2 d3 d4 d5 d6 x0 x1 x2 x3 x4 hzB hz hbr
    rcases hres with ⟨rfl, hap⟩ | ⟨hn, hap⟩
    · obtain ⟨d0, d1, d2, d3, d4, d5, d6⟩ := hB5.cells
      obtain ⟨y0, y1, y2, y3, y4, y5, y6⟩ := hBc.cells
      have f1 := hBc.frz
      have l5 := hB5.lt
      have lB := hBc.lt
      have hks := keep_seven wc (w.heap.size + 1) (.int .u64 (L2.next : Int)) (.int .u64 (L2.seq : Int)) (.int .u64 (L2.log : Int)) (.slice (a2 0) (L2.t 0).length (c2 0)) (.slice (a2 1) (L2.t 1).length (c2 1)) (.slice (a2 2) (L2.t 2).length (c2 2)) (.slice (a2 3) (L2.t 3).length (c2 3))
      have hfin := Lib.hid (show LvBox _ w.heap.size Pl.Lv.zero (fun _ => none) (fun _ => 0) ∧ LvBox _ (w.heap.size + 1) L2 a2 c2 ∧ LvAt _ L2 a2 c2 ∧ Below w.heap.size w _ from ⟨hRc.keep hks (show w.heap.size ≠ w.heap.size + 1 by omega), heap_seven hBc _ _ _ _ _ _ _, hL2.aside hBc hks, hks.below hbwc (Nat.le_refl _) (fun q hq => by omega)⟩)
      have hmm : Hid (Pl.made (l.take (k + 1)) = L2) := Lib.hid (by rw [hms.out]; unfold Pl.madeOne; rw [hap])
      clear hks hBc hRc hL2 hB5 hap hms hbwc hLc hbc
      go_wp2
      go_roundw
      case rel => exact ⟨k + 1, a2, c2, by omega, by go_num, hfin.out.1, by rw [hmm.out]; exact hfin.out.2.1, by rw [hmm.out]; exact hfin.out.2.2.1, hfin.out.2.2.2⟩
      case measure => simp [intOf]; omega
    · have hne : (n == 0) = false := by simpa using hn
      have hmm : Hid (Pl.made (l.take (k + 1)) = M) := Lib.hid (by rw [hms.out]; unfold Pl.madeOne; rw [hap])
      have hfin := Lib.hid (show LvBox wc w.heap.size Pl.Lv.zero (fun _ => none) (fun _ => 0) ∧ LvBox wc (w.heap.size + 1) M a c ∧ LvAt wc M a c ∧ Below w.heap.size w wc from ⟨hRc, hBc, hLc, hbwc⟩)
      clear hBc hRc hL2 hB5 hap hms hbwc hLc hbc
      go_wp2
      go_roundw
      case rel => exact ⟨k + 1, a, c, by omega, by go_num, hfin.out.1, by rw [hmm.out]; exact hfin.out.2.1, by rw [hmm.out]; exact hfin.out.2.2.1, hfin.out.2.2.2⟩
      case measure => simp [intOf]; omega
end Go.Proofs.Ytekfaodjadinnaa
