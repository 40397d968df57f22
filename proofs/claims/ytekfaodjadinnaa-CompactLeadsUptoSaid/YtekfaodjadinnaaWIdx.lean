
/- Walks: the first table behind a key. Condition: none. -/
import Derived.Test.YtekfaodjadinnaaWSame11
import Derived.Laws.EntriesVeiled
namespace Go.Proofs.Ytekfaodjadinnaa
open Go.RowKit

namespace Pl
/-- the place of the first table with a key behind a text -/
def behindI (l : List Tb) (s : ByteArray) : Option Nat := l.findIdx? fun x => Op.bytesLess s.toList x.greatest.toList
theorem behindI_some {l : List Tb} {s : ByteArray} {k : Nat} (h : k < l.length) (h1 : Op.bytesLess s.toList l[k].greatest.toList = true) (h2 : ∀ j (hj : j < l.length), j < k → Op.bytesLess s.toList l[j].greatest.toList = false) : behindI l s = some k := by
  unfold behindI
  rw [List.findIdx?_eq_some_iff_getElem]
  exact ⟨h, h1, fun j hj => by rw [h2 j (by omega) hj]; decide⟩
theorem behindI_none {l : List Tb} {s : ByteArray} (h2 : ∀ j (hj : j < l.length), Op.bytesLess s.toList l[j].greatest.toList = false) : behindI l s = none := by
  unfold behindI
  rw [List.findIdx?_eq_none_iff]
  intro x hx
  obtain ⟨j, hj, rfl⟩ := List.mem_iff_getElem.1 hx
  exact h2 j hj
theorem behindI_lt {l : List Tb} {s : ByteArray} {k : Nat} (h : behindI l s = some k) : k < l.length := by
  unfold behindI at h
  rw [List.findIdx?_eq_some_iff_getElem] at h
  exact h.1
end Pl

theorem gtr_less (p q : ByteArray) : (!Op.bytesLess p.toList q.toList && !p.toList == q.toList) = Op.bytesLess q.toList p.toList := by
  have h := Pl.leS_or p q
  unfold Pl.leS at h
  rw [← Bool.not_or, h, Bool.not_not]

set_option maxRecDepth 100000 in
set_option maxHeartbeats 4000000 in
theorem pickPred_any (x : Pl.Tb) (A B lv : Nat) (s : ByteArray) (w : World) (hlv : lv < 4) (hA : w.cell? ⟨A, lv, none⟩ = some (.string s)) (hB : w.cell? ⟨B, 0, none⟩ = some (.int .i64 (lv : Int))) (hAl : A < w.heap.size) (hBl : B < w.heap.size) :
    Calls Try.prog 23 #[.agg #[.int .u64 (x.num : Int), .int .i64 x.level, .int .i64 x.size, .int .i64 x.count, .string x.least, .string x.greatest], .pointer (some ⟨A, 0, none⟩), .pointer (some ⟨B, 0, none⟩)] w fun e w' => e = .returned (.bool (Op.bytesLess s.toList x.greatest.toList)) ∧ Below w.heap.size w w' := by
  have hI : (0 : Int) ≤ (lv : Int) := by omega
  have hI4 : (lv : Int) < 4 := by omega
  have hT : TBox (w.alloc (.cells #[.int .u64 (x.num : Int), .int .i64 x.level, .int .i64 x.size, .int .i64 x.count, .string x.least, .string x.greatest] 40)) w.heap.size x := World.alloc_heap_new _ _
  have hbT : Below w.heap.size w (w.alloc (.cells #[.int .u64 (x.num : Int), .int .i64 x.level, .int .i64 x.size, .int .i64 x.count, .string x.least, .string x.greatest] 40)) := (Below.refl _ _).alloc (Nat.le_refl _) _
  go_enter Try.func23, Try.ntmps23
  go_upto_region 1 with (fail)
  generalize w.alloc (.cells #[.int .u64 (x.num : Int), .int .i64 x.level, .int .i64 x.size, .int .i64 x.count, .string x.least, .string x.greatest] 40) = wt at hT hbT ⊢
  obtain ⟨t0, t1, t2, t3, t4, t5⟩ := hT.cells
  have htl := hT.lt
  have hA' := (hbT.cell (p := ⟨A, lv, none⟩) hAl).trans hA
  have hB' := (hbT.cell (p := ⟨B, 0, none⟩) hBl).trans hB
  have hAl' := Nat.lt_of_lt_of_le hAl hbT.size
  have hBl' := Nat.lt_of_lt_of_le hBl hbT.size
  clear hA hB
  go_quiet (fail)
  go_wp2
  go_ret
  exact ⟨congrArg (fun b => Ending.returned (Value.bool b)) (gtr_less x.greatest s), below_drewN hbT _⟩

set_option maxRecDepth 100000 in
set_option maxHeartbeats 4000000 in
theorem indexFunc_any (l : List Pl.Tb) (u : Value) (A B lv : Nat) (s : ByteArray) (w : World) (hu : TbsAt w u l) (hlv : lv < 4) (hA : w.cell? ⟨A, lv, none⟩ = some (.string s)) (hB : w.cell? ⟨B, 0, none⟩ = some (.int .i64 (lv : Int))) (hAl : A < w.heap.size) (hBl : B < w.heap.size) :
    Calls Try.prog 22 #[u, .func (.func 23) #[] #[.pointer (some ⟨A, 0, none⟩), .pointer (some ⟨B, 0, none⟩)]] w fun e w' => e = .returned (.int .i64 (match Pl.behindI l s with | some k => (k : Int) | none => -1)) ∧ Below w.heap.size w w' := by
  obtain ⟨ao, cap, rfl, h1, h2, _, hc⟩ := hu
  obtain ⟨R, hR⟩ : ∃ R : Int, R = (match Pl.behindI l s with | some k => (k : Int) | none => -1) := ⟨_, rfl⟩
  rw [← hR]
  replace hR := Lib.hid hR
  have hPr := Lib.hid (fun (W : World) (x : Pl.Tb) (h : Below w.heap.size w W) => pickPred_any x A B lv s W hlv ((h.cell (p := ⟨A, lv, none⟩) hAl).trans hA) ((h.cell (p := ⟨B, 0, none⟩) hBl).trans hB) (Nat.lt_of_lt_of_le hAl h.size) (Nat.lt_of_lt_of_le hBl h.size))
  clear hA hB
  go_enter Try.func22, Try.ntmps22
  go_wp2_with fail
  go_loopw [5, 8] (fun _ i W' => ∃ k : Nat, k ≤ l.length ∧ i = .int .i64 (k : Int) ∧ Below w.heap.size w W' ∧ ∀ j (hj : j < l.length), j < k → Op.bytesLess s.toList l[j].greatest.toList = false) (fun _ i _ => l.length - (intOf i).toNat)
  case atStart => exact ⟨0, Nat.zero_le _, rfl, Below.refl _ _, fun j _ h => absurd h (Nat.not_lt_zero _)⟩
  case round =>
    obtain ⟨k, hk, rfl, hbr, hall⟩ := hrel
    by_cases hkl : k < l.length
    case neg =>
      obtain rfl : k = l.length := by omega
      have hr : R = -1 := by rw [hR.out, Pl.behindI_none (fun j hj => hall j hj hj)]
      subst hr
      clear hall
      go_wp2
      go_ret
      exact ⟨rfl, hbr⟩
    obtain ⟨b, off, rfl, hbl, hx⟩ := hc (by omega)
    obtain ⟨x0, x1, x2, x3, x4, x5⟩ := (hx k hkl).block (hbr.block b hbl)
    have hyes : Hid (Op.bytesLess s.toList l[k].greatest.toList = true → R = (k : Int)) := Lib.hid (fun h => by rw [hR.out, Pl.behindI_some hkl h hall])
    have hnx : Hid (Op.bytesLess s.toList l[k].greatest.toList = false → ∀ j (hj : j < l.length), j < k + 1 → Op.bytesLess s.toList l[j].greatest.toList = false) := Lib.hid (fun h j hj hjk => by
      rcases Nat.lt_succ_iff_lt_or_eq.1 hjk with h3 | rfl
      · exact hall j hj h3
      · exact h)
    clear hall hx hc
    generalize l[k] = x at *
    have P := Lib.hid (hPr.out wr x hbr)
    obtain ⟨r, hr⟩ : ∃ r, r = Op.bytesLess s.toList x.greatest.toList := ⟨_, rfl⟩
    rw [← hr] at P hyes hnx
    clear hr
    cases r
    · have hnx' := Lib.hid (hnx.out rfl)
      go_wp2_with (go_at_call 23; refine P.out.mono ?_; rintro e w1 ⟨rfl, b1⟩)
      go_roundw
      case rel => exact ⟨k + 1, by omega, by go_num, hbr.trans (b1.mono hbr.size), hnx'.out⟩
      case measure => simp [intOf]; omega
    · have hr := hyes.out rfl
      subst hr
      go_wp2_with (go_at_call 23; refine P.out.mono ?_; rintro e w1 ⟨rfl, b1⟩)
      go_ret
      exact ⟨rfl, hbr.trans (b1.mono hbr.size)⟩
end Go.Proofs.Ytekfaodjadinnaa
