
/- Walks: the sequence of a text's bytes, with what is put between them. Condition: lengths that are ints. -/
import Derived.Test.YtiogjebekadmcaaWMisc
import Derived.Test.YtiogjebekadmcaaWTake
import Derived.Test.YtiogjebekadmcaaPlainH
import Derived.RangeFuncNested
import Derived.RangeFuncBound
import Derived.RangeFuncCalls
import Derived.RangeFuncLeaves
import Derived.RangeFuncBox
import Derived.Shelf.Abstract
import Derived.OwnWalkIn
import Derived.TacticsInMore
import Derived.LoopNIn
import Derived.LoopIn
namespace Go.Proofs.Ytiogjebekadmcaa
open Go.RowKit Go.Shelf

attribute [local go_sem] Oper.semAt_some

/-- a block is as it was -/
def KpB (b : Nat) (W W' : World) : Prop := W'.heap[b]? = W.heap[b]?
theorem kpB_t {b : Nat} {A B C : World} (h : KpB b A B) (k : KpB b B C) : KpB b A C := k.trans h
theorem kpB_b {b : Nat} {w : World} (hb : b < w.heap.size) (W : World) (l : Nat) (o o' : Obj) (hl : w.heap.size ≤ l) (h : W.heap[l]? = some o) (_ : o.isCells = false) (_ : o.isWalk = false) : KpB b W (W.putObj l o') :=
  (grownBy_putObj' W l o').block b (by have := (Array.getElem?_eq_some_iff.1 h).1; omega) (by intro e; cases e; omega)
theorem KpB.cell {b : Nat} {W W' : World} (h : KpB b W W') {o : Nat} {v : Value} (hc : W.cell? ⟨b, o, none⟩ = some v) : W'.cell? ⟨b, o, none⟩ = some v :=
  (World.cell?_of_block (a := ⟨b, o, none⟩) h).trans hc

theorem esc_take {l : List UInt8} {k : Nat} (h : k < l.length) : Pl.esc (l.take (k + 1)) = Pl.esc (l.take k) ++ (if l[k] = 0 then [0, 255] else [l[k]]) := by
  have happ : ∀ a b : List UInt8, Pl.esc (a ++ b) = Pl.esc a ++ Pl.esc b := by
    intro a b
    induction a with
    | nil => rfl
    | cons c a ih => simp only [List.cons_append, Pl.esc]; split <;> simp [ih]
  rw [List.take_succ_eq_append_getElem h, happ]
  by_cases e : l[k] = 0 <;> simp [Pl.esc, e]
theorem esc_le (l : List UInt8) (k : Nat) : (Pl.esc (l.take k)).length ≤ (Pl.esc l).length := by
  have happ : ∀ a b : List UInt8, Pl.esc (a ++ b) = Pl.esc a ++ Pl.esc b := by
    intro a b
    induction a with
    | nil => rfl
    | cons c a ih => simp only [List.cons_append, Pl.esc]; split <;> simp [ih]
  conv => rhs; rw [← List.take_append_drop k l, happ]
  simp

set_option maxRecDepth 100000 in
set_option maxHeartbeats 2000000 in
theorem escaped1_in (n : Nat) (hn : 1 ≤ n) (l Bn : Nat) (s : ByteArray) (hs : s.size ≤ 9223372036854775800) (J Jx : List UInt8 → World → Prop)
    (hY : ∀ pre x W, J pre W → pre.length < (Pl.esc s.data.toList).length → YieldAt Fence.wide (n - 1) Try.prog l #[.int .u8 (x.toNat : Int)] W fun e W' =>
      (e = .returned (.bool true) ∧ J (pre ++ [x]) W' ∧ KpB Bn W W') ∨ (e = .returned (.bool false) ∧ Jx (pre ++ [x]) W'))
    (W : World) (hBn : W.cell? ⟨Bn, 0, none⟩ = some (.string s)) (h0 : J [] W) :
    CallsIn Fence.wide n Try.prog 75 #[.func (.yield l) #[] #[], .pointer (some ⟨Bn, 0, none⟩)] W fun e W' => (∃ v, e = .returned v) ∧
      ((∃ ys, ys = Pl.esc s.data.toList ∧ J ys W') ∨ (∃ pre, True ∧ Jx pre W')) := by
  refine callsIn_of_wp Try.func75 rfl trivial ?_ rfl
  simp only [Try.ntmps75, List.size_toArray, List.length_cons, List.length_nil, Nat.reduceAdd, Nat.reduceSub, Array.replicate_succ, Array.replicate_zero, List.push_toArray, List.append_toArray, List.nil_append, List.cons_append]
  gi_wp2
  gi_loopw [6, 3] (fun i _ wr => ∃ k : Nat, k ≤ s.size ∧ i = .int .i64 k ∧ wr.cell? ⟨Bn, 0, none⟩ = some (.string s) ∧ J (Pl.esc (s.data.toList.take k)) wr)
    (fun i _ _ => s.size - (intOf i).toNat)
  case atStart => exact ⟨0, by omega, rfl, hBn, by simpa [Pl.esc] using h0⟩
  case round =>
    obtain ⟨k, hk, rfl, hb, hJ⟩ := hrel
    by_cases h1 : k < s.size
    · have hkl : k < s.data.toList.length := by rw [Pl.size_data]; exact h1
      have hes := esc_take hkl
      have hle := esc_le s.data.toList (k + 1)
      have HL := Lib.hid (show s.data.toList[k] = s[k] from rfl)
      rw [HL.out] at hes
      by_cases hz : s[k] = 0
      · rw [if_pos hz] at hes
        have hlen : (Pl.esc (s.data.toList.take k)).length + 2 ≤ (Pl.esc s.data.toList).length := by rw [hes] at hle; simpa using hle
        have ht : (((s[k].toNat : Nat) : Int) == 0) = true := by rw [hz]; rfl
        have HZ := Lib.hid hz
        have HES := Lib.hid hes
        clear hz hes
        obtain ⟨fn, tmps, assign, body, hy, hR⟩ := hY _ s[k] wr hJ (by omega)
        gi_wp2
        refine hR.mono ?_
        rintro e W3 (⟨rfl, hJ3, hk3⟩ | ⟨rfl, hJx3⟩)
        · have hb3 := hk3.cell hb
          obtain ⟨fn2, tmps2, assign2, body2, hy2, hR2⟩ := hY _ 255 W3 hJ3 (by simp; omega)
          have hy2' : (Instr.yield l #[Value.int .u8 255]).run Try.prog W3 = .ok (.round l fn2 tmps2 assign2 body2) W3 := hy2
          clear hy2 hy
          gi_wp2
          refine hR2.mono ?_
          rintro e W4 (⟨rfl, hJ4, hk4⟩ | ⟨rfl, hJx4⟩)
          · have hb4 := hk4.cell hb3
            gi_wp2
            go_roundw
            case rel => exact ⟨k + 1, by omega, by go_num, hb4, by rw [HES.out]; rw [HZ.out] at hJ4; simpa using hJ4⟩
            case measure => simp [intOf]; omega
          · gi_wp2
            refine bodyPost_ret (results_none rfl _ _ _) rfl ?_
            exact ⟨⟨_, rfl⟩, .inr ⟨_, trivial, hJx4⟩⟩
        · clear hy
          gi_wp2
          all_goals first
            | (exfalso
               have key : ∀ b, some undef = some (Value.bool b) → False := fun b h => (by cases h)
               apply key
               assumption)
            | (refine ⟨fun _ h => (by cases h), ?_⟩
               gi_wp2
               refine bodyPost_ret (results_none rfl _ _ _) rfl ?_
               exact ⟨⟨_, rfl⟩, .inr ⟨_, trivial, hJx3⟩⟩)
      · rw [if_neg hz] at hes
        have hlen : (Pl.esc (s.data.toList.take k)).length + 1 ≤ (Pl.esc s.data.toList).length := by rw [hes] at hle; simpa using hle
        have ht : (((s[k].toNat : Nat) : Int) == 0) = false := by
          have : s[k].toNat ≠ 0 := fun e => hz (UInt8.toNat_inj.1 e)
          simp; omega
        have HES := Lib.hid hes
        clear hz hes
        obtain ⟨fn, tmps, assign, body, hy, hR⟩ := hY _ s[k] wr hJ (by omega)
        gi_wp2
        refine hR.mono ?_
        rintro e W3 (⟨rfl, hJ3, hk3⟩ | ⟨rfl, hJx3⟩)
        · have hb3 := hk3.cell hb
          clear hy
          gi_wp2
          refine ⟨fun _ h => (by cases h), ?_⟩
          gi_wp2
          go_roundw
          case rel => exact ⟨k + 1, by omega, by go_num, hb3, by rw [HES.out]; exact hJ3⟩
          case measure => simp [intOf]; omega
        · clear hy
          gi_wp2
          all_goals first
            | (exfalso
               have key : ∀ b, some undef = some (Value.bool b) → False := fun b h => (by cases h)
               apply key
               assumption)
            | (refine ⟨fun _ h => (by cases h), ?_⟩
               gi_wp2
               refine bodyPost_ret (results_none rfl _ _ _) rfl ?_
               exact ⟨⟨_, rfl⟩, .inr ⟨_, trivial, hJx3⟩⟩)
    · gi_wp2
      go_end0
      exact ⟨⟨_, rfl⟩, .inl ⟨_, rfl, by rw [List.take_of_length_le (by rw [Pl.size_data]; omega)] at hJ; exact hJ⟩⟩

set_option maxRecDepth 100000 in
set_option maxHeartbeats 1000000 in
theorem escaped_in (n : Nat) (s : ByteArray) (w : World) :
    CallsIn Fence.wide n Try.prog 67 #[.string s] w fun e w' => e = .returned (.func (.func 75) #[] #[.pointer (some ⟨w.heap.size, 0, none⟩)]) ∧ w' = w.alloc (.cells #[.string s] 9) := by
  refine callsIn_of_wp Try.func67 rfl trivial ?_ rfl
  simp only [Try.ntmps67, List.size_toArray, List.length_cons, List.length_nil, Nat.reduceAdd, Nat.reduceSub, Array.replicate_succ, Array.replicate_zero, List.push_toArray, List.append_toArray, List.nil_append, List.cons_append]
  gi_wp2
  go_ret
  exact ⟨rfl, rfl⟩

theorem escaped_stops (n : Nat) (hn : 1 ≤ n) (Bn : Nat) (s : ByteArray) (hs : s.size ≤ 9223372036854775800) (w : World) (hB : Bn < w.heap.size) (hc : w.cell? ⟨Bn, 0, none⟩ = some (.string s)) :
    SeqStopsK Fence.wide n Try.prog 75 #[.pointer (some ⟨Bn, 0, none⟩)] (fun x : UInt8 => #[Value.int .u8 (x.toNat : Int)]) (KpB Bn) (fun ys => ys = Pl.esc s.data.toList) (fun _ => True) (Pl.esc s.data.toList).length w :=
  fun l J Jx W hW _ _ hY h0 => escaped1_in n hn l Bn s hs J Jx hY W ((hW.cell (p := ⟨Bn, 0, none⟩) hB).trans hc) h0
end Go.Proofs.Ytiogjebekadmcaa
