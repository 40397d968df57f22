
/- Walk: may an edit be? Condition: none. -/
import Derived.Test.YtekfaodjadinnaaWTb2
namespace Go.Proofs.Ytekfaodjadinnaa
open Go.RowKit

namespace Pl
def mayE (e : Ed) : Bool := decide (e.next ≤ 4611686018427387904 ∧ e.seq ≤ 4611686018427387904 ∧ e.log ≤ 4611686018427387904 ∧ e.add.length ≤ 1000 ∧ e.drop.length ≤ 1000 ∧ (∀ x ∈ e.add, mayT x = true) ∧ ∀ n ∈ e.drop, 1 ≤ n ∧ n ≤ 4611686018427387904)
end Pl
theorem tab_vals {W : World} {b o : Nat} {x : Pl.Tb} (h : TbIn W b o x) : ∃ n lv sz ct p q, x = ⟨n, lv, sz, ct, p, q⟩ := ⟨_, _, _, _, _, _, rfl⟩

set_option maxRecDepth 100000 in
set_option maxHeartbeats 1600000 in
theorem mayEdit_any (x : Pl.Ed) (ua ud : Value) (w : World) (ha : TbsIn w ua x.add) (hd : NumsAt w ud x.drop) :
    Calls Try.prog 37 #[.agg #[.int .u64 (x.next : Int), .int .u64 (x.seq : Int), .int .u64 (x.log : Int), ua, ud]] w fun e w' => e = .returned (.bool (Pl.mayE x)) ∧ Below w.heap.size w w' := by
  obtain ⟨next, seq, log, add, drop⟩ := x
  simp only at ha hd ⊢
  obtain ⟨res, hres⟩ : ∃ res, res = Pl.mayE ⟨next, seq, log, add, drop⟩ := ⟨_, rfl⟩
  rw [← hres]
  obtain ⟨aa, ca, rfl, a1, a2, hac⟩ := ha
  obtain ⟨ad, cd, rfl, d1, d2, hdc⟩ := hd
  have hno : Hid (¬ (next ≤ 4611686018427387904 ∧ seq ≤ 4611686018427387904 ∧ log ≤ 4611686018427387904 ∧ add.length ≤ 1000 ∧ drop.length ≤ 1000 ∧ (∀ x ∈ add, Pl.mayT x = true) ∧ ∀ n ∈ drop, 1 ≤ n ∧ n ≤ 4611686018427387904) → res = false) := Lib.hid (fun h => by rw [hres]; exact decide_eq_false h)
  have hyes : Hid ((next ≤ 4611686018427387904 ∧ seq ≤ 4611686018427387904 ∧ log ≤ 4611686018427387904 ∧ add.length ≤ 1000 ∧ drop.length ≤ 1000 ∧ (∀ x ∈ add, Pl.mayT x = true) ∧ ∀ n ∈ drop, 1 ≤ n ∧ n ≤ 4611686018427387904) → res = true) := Lib.hid (fun h => by rw [hres]; exact decide_eq_true h)
  clear hres
  obtain ⟨W0, hW0⟩ : ∃ W0, w.alloc (.cells #[.int .u64 (next : Int), .int .u64 (seq : Int), .int .u64 (log : Int), .slice aa add.length ca, .slice ad drop.length cd] 57) = W0 := ⟨_, rfl⟩
  have hb0 : Below w.heap.size w W0 := by rw [← hW0]; exact (Below.refl _ _).alloc (Nat.le_refl _) _
  have hR0 : W0.heap[w.heap.size]? = some (.cells #[.int .u64 (next : Int), .int .u64 (seq : Int), .int .u64 (log : Int), .slice aa add.length ca, .slice ad drop.length cd] 57 (0, 0)) := by rw [← hW0]; exact World.alloc_heap_new _ _
  have hRlt : w.heap.size < W0.heap.size := (Array.getElem?_eq_some_iff.1 hR0).1
  have r0 : W0.cell? ⟨w.heap.size, 0, none⟩ = some (.int .u64 (next : Int)) := by simp [World.cell?, hR0]
  have r1 : W0.cell? ⟨w.heap.size, 1, none⟩ = some (.int .u64 (seq : Int)) := by simp [World.cell?, hR0]
  have r2 : W0.cell? ⟨w.heap.size, 2, none⟩ = some (.int .u64 (log : Int)) := by simp [World.cell?, hR0]
  have r3 : W0.cell? ⟨w.heap.size, 3, none⟩ = some (.slice aa add.length ca) := by simp [World.cell?, hR0]
  have r4 : W0.cell? ⟨w.heap.size, 4, none⟩ = some (.slice ad drop.length cd) := by simp [World.cell?, hR0]
  replace hR0 := Lib.hid hR0
  have hh : (4611686018427387904 < next) ∨ (next ≤ 4611686018427387904 ∧ 4611686018427387904 < seq) ∨ (next ≤ 4611686018427387904 ∧ seq ≤ 4611686018427387904 ∧ 4611686018427387904 < log) ∨ (next ≤ 4611686018427387904 ∧ seq ≤ 4611686018427387904 ∧ log ≤ 4611686018427387904 ∧ 1000 < add.length) ∨ (next ≤ 4611686018427387904 ∧ seq ≤ 4611686018427387904 ∧ log ≤ 4611686018427387904 ∧ add.length ≤ 1000 ∧ 1000 < drop.length) ∨ (next ≤ 4611686018427387904 ∧ seq ≤ 4611686018427387904 ∧ log ≤ 4611686018427387904 ∧ add.length ≤ 1000 ∧ drop.length ≤ 1000) := by omega
  rcases hh with k1 | ⟨k1, k2⟩ | ⟨k1, k2, k3⟩ | ⟨k1, k2, k3, k4⟩ | ⟨k1, k2, k3, k4, k5⟩ | ⟨k1, k2, k3, k4, k5⟩
  iterate 5
    · have hr : res = false := hno.out (fun h => by omega)
      subst hr
      go_enter Try.func37, Try.ntmps37
      go_wp2
      go_ret
      exact ⟨rfl, hb0⟩
  have hks := Lib.hid (show next ≤ 4611686018427387904 ∧ seq ≤ 4611686018427387904 ∧ log ≤ 4611686018427387904 ∧ add.length ≤ 1000 ∧ drop.length ≤ 1000 from ⟨k1, k2, k3, k4, k5⟩)
  go_enter Try.func37, Try.ntmps37
  go_wp2
  go_loopw [3, 4] (fun i _ W' => ∃ k : Nat, k ≤ add.length ∧ i = .int .i64 (k : Int) ∧ Below W0.heap.size W0 W' ∧ ∀ j (hj : j < add.length), j < k → Pl.mayT add[j] = true) (fun i _ _ => add.length - (intOf i).toNat)
  case atStart => exact ⟨0, Nat.zero_le _, rfl, Below.refl _ _, fun j _ h => absurd h (Nat.not_lt_zero _)⟩
  case round =>
    obtain ⟨k, hk, rfl, hbr, hall⟩ := hrel
    have hbw : Below w.heap.size w wr := hb0.trans (hbr.mono (by omega))
    have q3 := (hbr.cell (p := ⟨w.heap.size, 3, none⟩) hRlt).trans r3
    have q4 := (hbr.cell (p := ⟨w.heap.size, 4, none⟩) hRlt).trans r4
    by_cases hkl : k < add.length
    case neg =>
      obtain rfl : k = add.length := by omega
      have hall' : Hid (∀ x ∈ add, Pl.mayT x = true) := Lib.hid (fun x hx => by
        obtain ⟨i, hi, rfl⟩ := List.mem_iff_getElem.1 hx
        exact hall i hi hi)
      clear hall hac r0 r1 r2 r3 r4
      have hRr : w.heap.size < wr.heap.size := Nat.lt_of_lt_of_le hRlt hbr.size
      obtain ⟨wo, rfl⟩ : ∃ wo : World, wo = wr := ⟨_, rfl⟩
      go_wp2
      go_loopw [5] (fun i W' => ∃ k : Nat, k ≤ drop.length ∧ i = .int .i64 (k : Int) ∧ W' = wo ∧ ∀ j (hj : j < drop.length), j < k → 1 ≤ drop[j] ∧ drop[j] ≤ 4611686018427387904) (fun i _ => drop.length - (intOf i).toNat)
      case atStart => exact ⟨0, Nat.zero_le _, rfl, rfl, fun j _ h => absurd h (Nat.not_lt_zero _)⟩
      case round =>
        obtain ⟨k, hk, rfl, rfl, hall⟩ := hrel
        by_cases hkl : k < drop.length
        case neg =>
          obtain rfl : k = drop.length := by omega
          have hr : res = true := hyes.out ⟨hks.out.1, hks.out.2.1, hks.out.2.2.1, hks.out.2.2.2.1, hks.out.2.2.2.2, hall'.out, fun x hx => by
            obtain ⟨i, hi, rfl⟩ := List.mem_iff_getElem.1 hx
            exact hall i hi hi⟩
          subst hr
          clear hall
          go_wp2
          go_ret
          exact ⟨rfl, hbw⟩
        obtain ⟨b, off, rfl, hbl, hx⟩ := hdc (by omega)
        have hcx := (hbw.cell (p := ⟨b, off + k, none⟩) hbl).trans (hx k hkl)
        have hbad : Hid (¬ (1 ≤ drop[k] ∧ drop[k] ≤ 4611686018427387904) → res = false) := Lib.hid (fun h => hno.out (fun h' => h (h'.2.2.2.2.2.2 _ (List.getElem_mem hkl))))
        have hnx : Hid (1 ≤ drop[k] ∧ drop[k] ≤ 4611686018427387904 → ∀ j (hj : j < drop.length), j < k + 1 → 1 ≤ drop[j] ∧ drop[j] ≤ 4611686018427387904) := Lib.hid (fun h j hj hjk => by
          rcases Nat.lt_succ_iff_lt_or_eq.1 hjk with h3 | rfl
          · exact hall j hj h3
          · exact h)
        clear hall hx
        generalize drop[k] = m at hcx hbad hnx
        have hm : m < 1 ∨ (1 ≤ m ∧ 4611686018427387904 < m) ∨ (1 ≤ m ∧ m ≤ 4611686018427387904) := by omega
        rcases hm with m1 | ⟨m1, m2⟩ | ⟨m1, m2⟩
        · have hr : res = false := hbad.out (by omega)
          subst hr
          go_wp2
          go_ret
          exact ⟨rfl, hbw⟩
        · have hr : res = false := hbad.out (by omega)
          subst hr
          go_wp2
          go_ret
          exact ⟨rfl, hbw⟩
        · have hnx' := Lib.hid (hnx.out ⟨m1, m2⟩)
          go_wp2
          go_roundw
          case rel => exact ⟨k + 1, by omega, by go_num, trivial, hnx'.out⟩
          case measure => simp [intOf]; omega
    obtain ⟨b, off, rfl, hbl, hx⟩ := hac (by omega)
    have ht := (hx k hkl).block (hbw.block b hbl)
    have hbad : Hid (Pl.mayT add[k] = false → res = false) := Lib.hid (fun h => hno.out (fun h' => by have := h'.2.2.2.2.2.1 _ (List.getElem_mem hkl); rw [h] at this; cases this))
    have hnx : Hid (Pl.mayT add[k] = true → ∀ j (hj : j < add.length), j < k + 1 → Pl.mayT add[j] = true) := Lib.hid (fun h j hj hjk => by
      rcases Nat.lt_succ_iff_lt_or_eq.1 hjk with h3 | rfl
      · exact hall j hj h3
      · exact h)
    clear hall hx r0 r1 r2 r3 r4
    generalize add[k] = x at ht hbad hnx
    have PT := Lib.hid (fun W => mayTable_any x W)
    obtain ⟨x0, x1, x2, x3, x4, x5⟩ := ht
    obtain ⟨res1, hres1⟩ : ∃ r, r = Pl.mayT x := ⟨_, rfl⟩
    rw [← hres1] at PT hbad hnx
    clear hres1
    cases res1
    · have hr : res = false := hbad.out rfl
      subst hr
      go_wp2_with (go_at_call 71; refine (PT.out _).mono ?_; rintro e w1 ⟨rfl, b1⟩)
      go_ret
      exact ⟨rfl, hbw.trans (b1.mono hbw.size)⟩
    · have hnx' := Lib.hid (hnx.out rfl)
      go_wp2_with (go_at_call 71; refine (PT.out _).mono ?_; rintro e w1 ⟨rfl, b1⟩)
      go_roundw
      case rel => exact ⟨k + 1, by omega, by go_num, hbr.trans (b1.mono hbr.size), hnx'.out⟩
      case measure => simp [intOf]; omega
end Go.Proofs.Ytekfaodjadinnaa
