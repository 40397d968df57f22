
/- Walks: two disks side by side: the program's and the document's. Condition: lengths that memory lets. -/
import Derived.Test.YtndekdgpibipnaaWRefDv4
import Derived.Test.YtndekdgpibipnaaWDevW
namespace Go.Proofs.Ytndekdgpibipnaa
open Go.RowKit

namespace Pl
/-- a disk's bounds behind k acts -/
structure Fine (n k : Nat) (s : Dv) : Prop where
  len : s.safe.length = n
  wait : s.wait.length ≤ k
  acts : s.acts ≤ k
  epoch : s.epoch ≤ k
  armed : s.armed ≤ 9223372036854775807
theorem Fine.mono {n k k' : Nat} {s : Dv} (h : Fine n k s) (hk : k ≤ k') : Fine n k' s := ⟨h.len, Nat.le_trans h.wait hk, Nat.le_trans h.acts hk, Nat.le_trans h.epoch hk, h.armed⟩
/-- a write to whatever block of whatever bytes: the disk, the answer -/
def Dv.write (s : Dv) (i : Int) (x : ByteArray) : Dv × Int := if s.down = true then (s, 4) else if (0 ≤ i ∧ i < (s.safe.length : Int)) ∧ x.size = 256 then ((s.put i.toNat x).act, (s.put i.toNat x).act.err) else (s, 1)
def Dv.sync (s : Dv) : Dv × Int := if s.down = true then (s, 4) else if s.act.down = true then (s.act, 4) else (s.act.flush, 0)
def Dv.rd (s : Dv) (i : Int) : ByteArray × Int := if s.down = true then (.empty, 4) else if 0 ≤ i ∧ i < (s.safe.length : Int) then (s.read i.toNat, 0) else (.empty, 1)
theorem Fine.act {n k : Nat} {s : Dv} (h : Fine n k s) : Fine n (k + 1) s.act := ⟨h.len, by show s.wait.length ≤ k + 1; have := h.wait; omega, by show s.acts + 1 ≤ k + 1; have := h.acts; omega, by show s.epoch ≤ k + 1; have := h.epoch; omega, by show s.armed - 1 ≤ 9223372036854775807; have := h.armed; omega⟩
theorem Fine.write {n k : Nat} {s : Dv} (h : Fine n k s) (i : Int) (x : ByteArray) : Fine n (k + 1) (s.write i x).1 := by
  unfold Dv.write
  split
  · exact h.mono (by omega)
  · split
    · exact ⟨h.len, by show (s.wait ++ [(i.toNat, x)]).length ≤ k + 1; have := h.wait; simp; omega, by show s.acts + 1 ≤ k + 1; have := h.acts; omega, by show s.epoch ≤ k + 1; have := h.epoch; omega, by show s.armed - 1 ≤ 9223372036854775807; have := h.armed; omega⟩
    · exact h.mono (by omega)
theorem Fine.sync {n k : Nat} {s : Dv} (h : Fine n k s) : Fine n (k + 1) s.sync.1 := by
  unfold Dv.sync
  split
  · exact h.mono (by omega)
  · split
    · exact h.act
    · exact ⟨(setAll_length s.wait s.safe).trans h.len, Nat.zero_le _, h.act.acts, h.act.epoch, h.act.armed⟩
theorem Fine.arm {n k : Nat} {s : Dv} (h : Fine n k s) (m : Int) (hm : m ≤ 9223372036854775807) : Fine n (k + 1) (s.arm m) := ⟨h.len, by show s.wait.length ≤ k + 1; have := h.wait; omega, by show s.acts ≤ k + 1; have := h.acts; omega, by show s.epoch ≤ k + 1; have := h.epoch; omega, by show m.toNat ≤ 9223372036854775807; omega⟩
theorem Fine.crash {n k : Nat} {s : Dv} (h : Fine n k s) (keep : List Bool) (torn : Int) (m : Nat) : Fine n (k + 1) (s.crash keep torn m) := ⟨(crashN_length _ _ _ _ _ _).trans h.len, Nat.zero_le _, by show s.acts ≤ k + 1; have := h.acts; omega, by show s.epoch + 1 ≤ k + 1; have := h.epoch; omega, by show 0 ≤ 9223372036854775807; omega⟩
theorem Fine.new (n : Nat) : Fine n 0 (Dv.new n) := ⟨by simp [Dv.new], Nat.zero_le _, Nat.zero_le _, Nat.zero_le _, Nat.zero_le _⟩
end Pl

/-- the program's disk, and the document's -/
def Two (B d r : Nat) (s1 s2 : Pl.Dv) (fd fr : Nat → Prop) (W : World) : Prop := DevAt B d s1 fd W ∧ RefAt B r s2 fr W ∧ ∀ k, fd k → ¬ fr k
variable {B d r n k : Nat} {s s1 s2 s' : Pl.Dv} {fd fr fd' fr' : Nat → Prop} {W W' : World}
theorem Two.dev (h : Two B d r s1 s2 fd fr W) (hD : DevAt B d s' fd' W') (st : Step fd fd' W W') : Two B d r s' s2 fd' fr W' :=
  ⟨hD, h.2.1.keep (st.keep.mono (fun k h1 _ h2 => h.2.2 k h2 h1)), fun k h1 h2 => by
    rcases st.new k h1 with h3 | h3
    · exact h.2.2 k h3 h2
    · have := h.2.1.lt k h2; omega⟩
theorem Two.ref (h : Two B d r s1 s2 fd fr W) (hR : RefAt B r s' fr' W') (st : Step fr fr' W W') : Two B d r s1 s' fd fr' W' :=
  ⟨h.1.keep (st.keep.mono (fun k h1 _ h2 => h.2.2 k h1 h2)), hR, fun k h1 h2 => by
    rcases st.new k h2 with h3 | h3
    · exact h.2.2 k h1 h3
    · have := h.1.lt k h1; omega⟩
theorem Two.beyond (h : Two B d r s1 s2 fd fr W) (hb : Below W.heap.size W W') : Two B d r s1 s2 fd fr W' := ⟨h.1.beyond hb, h.2.1.beyond hb, h.2.2⟩

theorem write_gen (i : Int) (x : ByteArray) (h : DevAt B d s fd W) (hF : Pl.Fine n k s) (hn : n ≤ 16384) (hk : k ≤ 5864062014632) (hB : B ≤ W.heap.size) :
    Calls Try.prog 15 #[.pointer (some ⟨d, 0, none⟩), .int .i64 i, .string x] W fun e w' => e = .returned (.int .i64 (s.write i x).2) ∧ ∃ fd', DevAt B d (s.write i x).1 fd' w' ∧ Step fd fd' W w' := by
  unfold Pl.Dv.write
  cases hd : s.down
  · rw [if_neg Bool.false_ne_true]
    by_cases hi : 0 ≤ i ∧ i < (s.safe.length : Int)
    · by_cases hx : x.size = 256
      · rw [if_pos ⟨hi, hx⟩]
        obtain ⟨j, rfl⟩ := Int.eq_ofNat_of_zero_le hi.1
        exact write_ok j x h hd (by omega) hx hB (by rw [hF.len]; omega) (by have := hF.wait; omega) (by have := hF.acts; omega) hF.armed
      · rw [if_neg (fun e => hx e.2)]
        refine (write_size i x h hd hx).mono ?_
        rintro e w' ⟨rfl, rfl⟩
        exact ⟨rfl, fd, h, Step.refl h.lt⟩
    · rw [if_neg (fun e => hi e.1)]
      refine (write_bad i x h hd (by omega)).mono ?_
      rintro e w' ⟨rfl, rfl⟩
      exact ⟨rfl, fd, h, Step.refl h.lt⟩
  · rw [if_pos rfl]
    refine (write_dead i x h hd).mono ?_
    rintro e w' ⟨rfl, rfl⟩
    exact ⟨rfl, fd, h, Step.refl h.lt⟩
theorem refWrite_gen (i : Int) (x : ByteArray) (h : RefAt B r s fr W) (hF : Pl.Fine n k s) (hk : k ≤ 5864062014632) (hB : B ≤ W.heap.size) :
    Calls Try.prog 66 #[.pointer (some ⟨r, 0, none⟩), .int .i64 i, .string x] W fun e w' => e = .returned (.int .i64 (s.write i x).2) ∧ ∃ fr', RefAt B r (s.write i x).1 fr' w' ∧ Step fr fr' W w' := by
  unfold Pl.Dv.write
  cases hd : s.down
  · rw [if_neg Bool.false_ne_true]
    by_cases hi : 0 ≤ i ∧ i < (s.safe.length : Int)
    · by_cases hx : x.size = 256
      · rw [if_pos ⟨hi, hx⟩]
        obtain ⟨j, rfl⟩ := Int.eq_ofNat_of_zero_le hi.1
        exact refWrite_ok j x h hd (by omega) hx hB (by have := hF.wait; omega) (by have := hF.acts; omega) hF.armed
      · rw [if_neg (fun e => hx e.2)]
        refine (refWrite_size i x h hd hx).mono ?_
        rintro e w' ⟨rfl, rfl⟩
        exact ⟨rfl, fr, h, Step.refl h.lt⟩
    · rw [if_neg (fun e => hi e.1)]
      refine (refWrite_bad i x h hd (by omega)).mono ?_
      rintro e w' ⟨rfl, rfl⟩
      exact ⟨rfl, fr, h, Step.refl h.lt⟩
  · rw [if_pos rfl]
    refine (refWrite_dead i x h hd).mono ?_
    rintro e w' ⟨rfl, rfl⟩
    exact ⟨rfl, fr, h, Step.refl h.lt⟩
theorem sync_gen (h : DevAt B d s fd W) (hF : Pl.Fine n k s) (hk : k ≤ 5864062014632) :
    Calls Try.prog 17 #[.pointer (some ⟨d, 0, none⟩)] W fun e w' => e = .returned (.int .i64 s.sync.2) ∧ DevAt B d s.sync.1 fd w' ∧ Step fd fd W w' := by
  unfold Pl.Dv.sync
  cases hd : s.down
  · rw [if_neg Bool.false_ne_true]
    cases hg : s.act.down
    · rw [if_neg Bool.false_ne_true]
      exact sync_ok h hd (by have := hF.acts; omega) hF.armed hg (by have := hF.wait; omega)
    · rw [if_pos rfl]
      exact sync_gone h hd (by have := hF.acts; omega) hF.armed hg
  · rw [if_pos rfl]
    refine (sync_dead h hd).mono ?_
    rintro e w' ⟨rfl, rfl⟩
    exact ⟨rfl, h, Step.refl h.lt⟩
theorem refSync_gen (h : RefAt B r s fr W) (hF : Pl.Fine n k s) (hk : k ≤ 5864062014632) :
    Calls Try.prog 68 #[.pointer (some ⟨r, 0, none⟩)] W fun e w' => e = .returned (.int .i64 s.sync.2) ∧ RefAt B r s.sync.1 fr w' ∧ Step fr fr W w' := by
  unfold Pl.Dv.sync
  cases hd : s.down
  · rw [if_neg Bool.false_ne_true]
    cases hg : s.act.down
    · rw [if_neg Bool.false_ne_true]
      exact refSync_ok h hd (by have := hF.acts; omega) hF.armed hg (by have := hF.wait; omega)
    · rw [if_pos rfl]
      exact refSync_gone h hd (by have := hF.acts; omega) hF.armed hg
  · rw [if_pos rfl]
    refine (refSync_dead h hd).mono ?_
    rintro e w' ⟨rfl, rfl⟩
    exact ⟨rfl, h, Step.refl h.lt⟩
theorem read_gen (i : Int) (h : DevAt B d s fd W) (hF : Pl.Fine n k s) (hn : n ≤ 16384) :
    Calls Try.prog 21 #[.pointer (some ⟨d, 0, none⟩), .int .i64 i] W fun e w' => e = .returned (.tuple #[.string (s.rd i).1, .int .i64 (s.rd i).2]) ∧ W = w' := by
  unfold Pl.Dv.rd
  cases hd : s.down
  · rw [if_neg Bool.false_ne_true]
    by_cases hi : 0 ≤ i ∧ i < (s.safe.length : Int)
    · rw [if_pos hi]
      obtain ⟨j, rfl⟩ := Int.eq_ofNat_of_zero_le hi.1
      exact read_ok j h hd (by omega) (by rw [hF.len]; omega)
    · rw [if_neg hi]
      exact read_bad i h hd (by omega)
  · rw [if_pos rfl]
    exact read_dead i h hd
theorem refRead_gen (i : Int) (h : RefAt B r s fr W) (hF : Pl.Fine n k s) (hk : k ≤ 5864062014632) :
    Calls Try.prog 67 #[.pointer (some ⟨r, 0, none⟩), .int .i64 i] W fun e w' => e = .returned (.tuple #[.string (s.rd i).1, .int .i64 (s.rd i).2]) ∧ W = w' := by
  unfold Pl.Dv.rd
  cases hd : s.down
  · rw [if_neg Bool.false_ne_true]
    by_cases hi : 0 ≤ i ∧ i < (s.safe.length : Int)
    · rw [if_pos hi]
      obtain ⟨j, rfl⟩ := Int.eq_ofNat_of_zero_le hi.1
      exact refRead_ok j h hd (by omega) (by have := hF.wait; omega)
    · rw [if_neg hi]
      exact refRead_bad i h hd (by omega)
  · rw [if_pos rfl]
    exact refRead_dead i h hd

/-- the same numbers in two rows -/
theorem own_icell {W0 w : World} {v : Value} {l : List Int} {m B : Nat} (h : Own B 3 1 v m (icells l) W0 w) (hm : m = l.length) : (l = [] ∧ v = .slice none 0 0) ∨ ∃ g cap, v = .slice (some ⟨g, 0, none⟩) l.length cap ∧ ∀ i (hi : i < l.length), w.cell? ⟨g, i, none⟩ = some (.int .i64 l[i]) := by
  subst hm
  rcases h.1.2 with ⟨rfl, h0⟩ | ⟨g, cap, cur, rfl, _⟩
  · exact .inl ⟨List.length_eq_zero_iff.1 h0, rfl⟩
  · refine .inr ⟨g, cap, rfl, fun i hi => ?_⟩
    rw [h.1.cellAt i (by omega)]; simp [icells, hi]
set_option maxRecDepth 100000 in
theorem sameInts_none (g1 : Nat) (W : World) : Calls Try.prog 70 #[.slice (some ⟨g1, 0, none⟩) 0 0, .slice none 0 0] W fun e w' => e = .returned (.bool true) ∧ Q W w' := by
  go_enter Try.func70, Try.ntmps70
  go_wp2
  go_loopw [5] (fun i wr => i = .int .i64 0 ∧ wr = W) (fun _ _ => 0)
  case atStart => exact ⟨rfl, rfl⟩
  case round =>
    obtain ⟨rfl, rfl⟩ := hrel
    go_wp2
    go_ret
    exact ⟨rfl, Q.refl _⟩

set_option maxRecDepth 100000 in
set_option maxHeartbeats 1000000 in
theorem alike_any (h : Two B d r s s fd fr W) (hF : Pl.Fine n k s) (hn : 40 ≤ n) (hk : k ≤ 5864062014632) :
    Calls Try.prog 32 #[.pointer (some ⟨d, 0, none⟩), .pointer (some ⟨r, 0, none⟩)] W fun e w' => e = .returned (.bool true) ∧ Below W.heap.size W w' := by
  have a1 := Lib.hid (up_any h.1)
  have a2 := Lib.hid (blocks_any h.1)
  have a3 := Lib.hid (acts_any h.1)
  have a4 := Lib.hid (epoch_any h.1)
  have a5 := Lib.hid (pending_any h.1 (by have := hF.wait; omega))
  have hwl := hF.wait
  obtain ⟨L, hL⟩ : ∃ L, L = s.wait.map fun p => (p.1 : Int) := ⟨_, rfl⟩
  have hlen : L.length = s.wait.length := by rw [hL]; simp
  have hRef := h.2.1
  rw [← hL] at a5
  go_enter Try.func32, Try.ntmps32
  go_wp2_with (first
    | (go_at_call 19; ((with_reducible refine a1.out.mono ?_); rintro e w1 ⟨rfl, rfl⟩))
    | (go_at_call 24; ((with_reducible refine a2.out.mono ?_); rintro e w1 ⟨rfl, rfl⟩))
    | (go_at_call 18; ((with_reducible refine a3.out.mono ?_); rintro e w1 ⟨rfl, rfl⟩))
    | (go_at_call 25; ((with_reducible refine a4.out.mono ?_); rintro e w1 ⟨rfl, rfl⟩))
    | (go_at_call 23; ((with_reducible refine a5.out.mono ?_); rintro e w1 ⟨rfl, hI, hb1⟩; have hR1 := hRef.beyond hb1; have hPr := refPending_any hR1 (by omega); rw [← hL] at hPr; replace hPr := Lib.hid hPr))
    | (go_at_call 71; ((with_reducible refine hPr.out.mono ?_); rintro e w2 ⟨v2, rfl, hown⟩; have hI2 := hI.keep (f := fun _ => True) (Keep.of_below hown.below (fun _ _ h => h)) trivial; have hSame : Hid (Calls Try.prog 70 #[.slice (some ⟨W.heap.size, 0, none⟩) s.wait.length s.wait.length, v2] w2 fun e w' => e = .returned (.bool true) ∧ Q w2 w') := (by
        rcases own_icell hown hlen.symm with ⟨e1, rfl⟩ | ⟨g, cap, rfl, hc⟩
        · rw [← hlen, e1]; exact sameInts_none _ _
        · rw [← hlen]; exact sameInts_any _ g cap L (by omega) (fun i hi => blk_icells hI2 hi) hc)))
    | (go_at_call 70; ((with_reducible refine hSame.out.mono ?_); rintro e w3 ⟨rfl, nq, rfl⟩)))
  have hb2 : Below W.heap.size W (w2.drewN nq) := (hb1.trans (hown.below.mono hb1.size)).trans (((Q.refl w2).drewN nq).below _)
  have hI3 : Blk (w2.drewN nq) W.heap.size (icells L).toArray 3 := hI2
  obtain ⟨sv, wv, hR⟩ := hRef
  obtain ⟨gs, cs, rfl⟩ := hR.safe_form (by have := hF.len; omega)
  have hrW := hR.blk.lt
  have c0 := hR.blk.cell 0
  have c2 := hR.blk.cell 2
  have c4 := hR.blk.cell 4
  have c5 := hR.blk.cell 5
  simp at c0 c2 c4 c5
  clear hSame hPr hI hI2 hR1 hown hb1 a1 a2 a3 a4 a5 hR
  go_loopw [11] (fun j wr => ∃ (i : Nat) (l : List Int), i ≤ s.wait.length ∧ j = .int .i64 i ∧ l.length = s.wait.length ∧ Blk wr W.heap.size (icells l).toArray 3 ∧ Below W.heap.size W wr) (fun j _ => s.wait.length - (intOf j).toNat)
  case atStart => exact ⟨0, L, by omega, rfl, hlen, hI3, hb2⟩
  case round =>
    obtain ⟨i, l, hi, rfl, hll, hB, hb⟩ := hrel
    clear hI3 hb2
    by_cases h1 : i < s.wait.length
    · have cc := blk_icells hB (i := i) (by omega)
      have zz := hB.frozen i
      have hB2 := blk_iset hB i (-1)
      have hb2 : Below W.heap.size W (wr.setCell ⟨W.heap.size, i, none⟩ (.int .i64 (-1))) := hb.setCell (Nat.le_refl _) _
      clear hB hb
      go_wp2
      go_roundw
      case rel => exact ⟨i + 1, _, by omega, by go_num, by rw [List.length_set]; exact hll, hB2, hb2⟩
      case measure => simp [intOf]; omega
    · obtain rfl : i = s.wait.length := by omega
      replace c0 := (hb.cell (p := ⟨r, 0, none⟩) hrW).trans c0
      replace c2 := (hb.cell (p := ⟨r, 2, none⟩) hrW).trans c2
      replace c4 := (hb.cell (p := ⟨r, 4, none⟩) hrW).trans c4
      replace c5 := (hb.cell (p := ⟨r, 5, none⟩) hrW).trans c5
      go_wp2
      go_ret
      exact ⟨ret_bool (by simp), hb⟩
end Go.Proofs.Ytndekdgpibipnaa
