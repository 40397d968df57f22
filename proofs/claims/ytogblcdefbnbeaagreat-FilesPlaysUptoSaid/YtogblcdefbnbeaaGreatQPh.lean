
/- Walks: a disk that is not armed: writes one behind the other. Condition: lengths that memory lets. -/
import Derived.Test.YtogblcdefbnbeaaGreatQGh
import Derived.Test.YtogblcdefbnbeaaGreatQGi
set_option maxRecDepth 100000
namespace Go.Proofs.YtogblcdefbnbeaaGreat
section
open Go.RowKit
namespace Pl
def Dv.wr (s : Dv) (i : Int) (x : ByteArray) : Dv := if 0 ≤ i ∧ i < (s.safe.length : Int) then (s.put i.toNat x).act else s
def Un (k : Nat) (s : Dv) : Prop := s.safe.length = 40 ∧ s.down = false ∧ s.armed = 0 ∧ s.acts ≤ k ∧ s.epoch ≤ 1 ∧ s.wait.length ≤ k
theorem Un.mono {k k' : Nat} {s : Dv} (h : Un k s) (hk : k ≤ k') : Un k' s := ⟨h.1, h.2.1, h.2.2.1, Nat.le_trans h.2.2.2.1 hk, h.2.2.2.2.1, Nat.le_trans h.2.2.2.2.2 hk⟩
theorem Un.act {k : Nat} {s : Dv} (h : Un k s) : s.act.down = false ∧ Un (k + 1) s.act := by
 have e3 : s.act.down = if s.armed = 0 then s.down else decide (s.armed = 1) := rfl
 rw [if_pos h.2.2.1, h.2.1] at e3
 exact ⟨e3, h.1, e3, by show s.armed - 1 = 0; have := h.2.2.1; omega, by show s.acts + 1 ≤ k + 1; have := h.2.2.2.1; omega, h.2.2.2.2.1, by show s.wait.length ≤ k + 1; have := h.2.2.2.2.2; omega⟩
theorem Un.putAct {k : Nat} {s : Dv} (h : Un k s) (i : Nat) (x : ByteArray) : (s.put i x).act.down = false ∧ Un (k + 1) (s.put i x).act := by
 have e3 : (s.put i x).act.down = if s.armed = 0 then s.down else decide (s.armed = 1) := rfl
 rw [if_pos h.2.2.1, h.2.1] at e3
 exact ⟨e3, h.1, e3, by show s.armed - 1 = 0; have := h.2.2.1; omega, by show s.acts + 1 ≤ k + 1; have := h.2.2.2.1; omega, h.2.2.2.2.1, by show (s.wait ++ [(i, x)]).length ≤ k + 1; have := h.2.2.2.2.2; simp; omega⟩
theorem Un.wr {k : Nat} {s : Dv} (h : Un k s) (i : Int) (x : ByteArray) : Un (k + 1) (s.wr i x) := by
 unfold Dv.wr
 split
 ·exact (h.putAct _ _).2
 ·exact h.mono (by omega)
theorem Un.flush {k : Nat} {s : Dv} (h : Un k s) : Un (k + 1) s.act.flush := by
 obtain ⟨h1, h2⟩ := h.act
 exact ⟨by show (setAll s.safe s.wait).length = 40; rw [setAll_length, h.1], h1, h2.2.2.1, h2.2.2.2.1, h2.2.2.2.2.1, Nat.zero_le _⟩
theorem Un.new : Un 0 (Dv.new 40) := ⟨by simp [Dv.new], rfl, rfl, Nat.zero_le _, Nat.zero_le _, Nat.zero_le _⟩
end Pl
variable {B d : Nat} {s : Pl.Dv} {fp : Nat → Prop} {W : World} {k : Nat}
end
section
open Go.RowKit
namespace Pl
structure Fine (n k : Nat) (s : Dv) : Prop where
 len : s.safe.length = n
 wait : s.wait.length ≤ k
 acts : s.acts ≤ k
 epoch : s.epoch ≤ k
 armed : s.armed ≤ 9223372036854775807
theorem Fine.mono {n k k' : Nat} {s : Dv} (h : Fine n k s) (hk : k ≤ k') : Fine n k' s := ⟨h.len, Nat.le_trans h.wait hk, Nat.le_trans h.acts hk, Nat.le_trans h.epoch hk, h.armed⟩
def Dv.write (s : Dv) (i : Int) (x : ByteArray) : Dv × Int := if s.down = true then (s, 4) else if (0 ≤ i ∧ i < (s.safe.length : Int)) ∧ x.size = 256 then ((s.put i.toNat x).act, (s.put i.toNat x).act.err) else (s, 1)
def Dv.sync (s : Dv) : Dv × Int := if s.down = true then (s, 4) else if s.act.down = true then (s.act, 4) else (s.act.flush, 0)
def Dv.rd (s : Dv) (i : Int) : ByteArray × Int := if s.down = true then (.empty, 4) else if 0 ≤ i ∧ i < (s.safe.length : Int) then (s.read i.toNat, 0) else (.empty, 1)
theorem Fine.act {n k : Nat} {s : Dv} (h : Fine n k s) : Fine n (k + 1) s.act := ⟨h.len, by show s.wait.length ≤ k + 1; have := h.wait; omega, by show s.acts + 1 ≤ k + 1; have := h.acts; omega, by show s.epoch ≤ k + 1; have := h.epoch; omega, by show s.armed - 1 ≤ 9223372036854775807; have := h.armed; omega⟩
theorem Fine.write {n k : Nat} {s : Dv} (h : Fine n k s) (i : Int) (x : ByteArray) : Fine n (k + 1) (s.write i x).1 := by
 unfold Dv.write
 split
 ·exact h.mono (by omega)
 ·split
  ·exact ⟨h.len, by show (s.wait ++ [(i.toNat, x)]).length ≤ k + 1; have := h.wait; simp; omega, by show s.acts + 1 ≤ k + 1; have := h.acts; omega, by show s.epoch ≤ k + 1; have := h.epoch; omega, by show s.armed - 1 ≤ 9223372036854775807; have := h.armed; omega⟩
  ·exact h.mono (by omega)
theorem Fine.sync {n k : Nat} {s : Dv} (h : Fine n k s) : Fine n (k + 1) s.sync.1 := by
 unfold Dv.sync
 split
 ·exact h.mono (by omega)
 ·split
  ·exact h.act
  ·exact ⟨(setAll_length s.wait s.safe).trans h.len, Nat.zero_le _, h.act.acts, h.act.epoch, h.act.armed⟩
theorem Fine.arm {n k : Nat} {s : Dv} (h : Fine n k s) (m : Int) (hm : m ≤ 9223372036854775807) : Fine n (k + 1) (s.arm m) := ⟨h.len, by show s.wait.length ≤ k + 1; have := h.wait; omega, by show s.acts ≤ k + 1; have := h.acts; omega, by show s.epoch ≤ k + 1; have := h.epoch; omega, by show m.toNat ≤ 9223372036854775807; omega⟩
theorem Fine.crash {n k : Nat} {s : Dv} (h : Fine n k s) (keep : List Bool) (torn : Int) (m : Nat) : Fine n (k + 1) (s.crash keep torn m) := ⟨(crashN_length _ _ _ _ _ _).trans h.len, Nat.zero_le _, by show s.acts ≤ k + 1; have := h.acts; omega, by show s.epoch + 1 ≤ k + 1; have := h.epoch; omega, by show 0 ≤ 9223372036854775807; omega⟩
theorem Fine.new (n : Nat) : Fine n 0 (Dv.new n) := ⟨by simp [Dv.new], Nat.zero_le _, Nat.zero_le _, Nat.zero_le _, Nat.zero_le _⟩
end Pl
def Two (B d r : Nat) (s1 s2 : Pl.Dv) (fd fr : Nat → Prop) (W : World) : Prop := DevAt B d s1 fd W ∧ RefAt B r s2 fr W ∧ ∀ k, fd k → ¬ fr k
variable {B d r n k : Nat} {s s1 s2 s' : Pl.Dv} {fd fr fd' fr' : Nat → Prop} {W W' : World}
theorem Two.dev (h : Two B d r s1 s2 fd fr W) (hD : DevAt B d s' fd' W') (st : Step fd fd' W W') : Two B d r s' s2 fd' fr W' :=
 ⟨hD, h.2.1.keep (st.keep.mono (fun k h1 _ h2 => h.2.2 k h2 h1)), fun k h1 h2 => by
  rcases st.new k h1 with h3 | h3
  ·exact h.2.2 k h3 h2
  ·have := h.2.1.lt k h2; omega⟩
theorem Two.ref (h : Two B d r s1 s2 fd fr W) (hR : RefAt B r s' fr' W') (st : Step fr fr' W W') : Two B d r s1 s' fd fr' W' :=
 ⟨h.1.keep (st.keep.mono (fun k h1 _ h2 => h.2.2 k h1 h2)), hR, fun k h1 h2 => by
  rcases st.new k h2 with h3 | h3
  ·exact h.2.2 k h1 h3
  ·have := h.1.lt k h1; omega⟩
theorem Two.beyond (h : Two B d r s1 s2 fd fr W) (hb : Below W.heap.size W W') : Two B d r s1 s2 fd fr W' := ⟨h.1.beyond hb, h.2.1.beyond hb, h.2.2⟩
theorem refWrite_gen (i : Int) (x : ByteArray) (h : RefAt B r s fr W) (hF : Pl.Fine n k s) (hk : k ≤ 5864062014632) (hB : B ≤ W.heap.size) :
  Calls Tryz.prog 91 #[.pointer (some ⟨r, 0, none⟩), .int .i64 i, .string x] W fun e w' => e = .returned (.int .i64 (s.write i x).2) ∧ ∃ fr', RefAt B r (s.write i x).1 fr' w' ∧ Step fr fr' W w' := by
 unfold Pl.Dv.write
 cases hd : s.down
 ·rw [if_neg Bool.false_ne_true]
  by_cases hi : 0 ≤ i ∧ i < (s.safe.length : Int)
  ·by_cases hx : x.size = 256
   ·rw [if_pos ⟨hi, hx⟩]
    obtain ⟨j, rfl⟩ := Int.eq_ofNat_of_zero_le hi.1
    exact refWrite_ok j x h hd (by omega) hx hB (by have := hF.wait; omega) (by have := hF.acts; omega) hF.armed
   ·rw [if_neg (fun e => hx e.2)]
    refine (refWrite_size i x h hd hx).mono ?_
    rintro e w' ⟨rfl, rfl⟩
    exact ⟨rfl, fr, h, Step.refl h.lt⟩
  ·rw [if_neg (fun e => hi e.1)]
   refine (refWrite_bad i x h hd (by omega)).mono ?_
   rintro e w' ⟨rfl, rfl⟩
   exact ⟨rfl, fr, h, Step.refl h.lt⟩
 ·rw [if_pos rfl]
  refine (refWrite_dead i x h hd).mono ?_
  rintro e w' ⟨rfl, rfl⟩
  exact ⟨rfl, fr, h, Step.refl h.lt⟩
theorem sync_gen (h : DevAt B d s fd W) (hF : Pl.Fine n k s) (hk : k ≤ 5864062014632) :
  Calls Tryz.prog 85 #[.pointer (some ⟨d, 0, none⟩)] W fun e w' => e = .returned (.int .i64 s.sync.2) ∧ DevAt B d s.sync.1 fd w' ∧ Step fd fd W w' := by
 unfold Pl.Dv.sync
 cases hd : s.down
 ·rw [if_neg Bool.false_ne_true]
  cases hg : s.act.down
  ·rw [if_neg Bool.false_ne_true]
   exact sync_ok h hd (by have := hF.acts; omega) hF.armed hg (by have := hF.wait; omega)
  ·rw [if_pos rfl]
   exact sync_gone h hd (by have := hF.acts; omega) hF.armed hg
 ·rw [if_pos rfl]
  refine (sync_dead h hd).mono ?_
  rintro e w' ⟨rfl, rfl⟩
  exact ⟨rfl, h, Step.refl h.lt⟩
theorem refSync_gen (h : RefAt B r s fr W) (hF : Pl.Fine n k s) (hk : k ≤ 5864062014632) :
  Calls Tryz.prog 92 #[.pointer (some ⟨r, 0, none⟩)] W fun e w' => e = .returned (.int .i64 s.sync.2) ∧ RefAt B r s.sync.1 fr w' ∧ Step fr fr W w' := by
 unfold Pl.Dv.sync
 cases hd : s.down
 ·rw [if_neg Bool.false_ne_true]
  cases hg : s.act.down
  ·rw [if_neg Bool.false_ne_true]
   exact refSync_ok h hd (by have := hF.acts; omega) hF.armed hg (by have := hF.wait; omega)
  ·rw [if_pos rfl]
   exact refSync_gone h hd (by have := hF.acts; omega) hF.armed hg
 ·rw [if_pos rfl]
  refine (refSync_dead h hd).mono ?_
  rintro e w' ⟨rfl, rfl⟩
  exact ⟨rfl, h, Step.refl h.lt⟩
theorem read_gen (i : Int) (h : DevAt B d s fd W) (hF : Pl.Fine n k s) (hn : n ≤ 16384) :
  Calls Tryz.prog 15 #[.pointer (some ⟨d, 0, none⟩), .int .i64 i] W fun e w' => e = .returned (.tuple #[.string (s.rd i).1, .int .i64 (s.rd i).2]) ∧ W = w' := by
 unfold Pl.Dv.rd
 cases hd : s.down
 ·rw [if_neg Bool.false_ne_true]
  by_cases hi : 0 ≤ i ∧ i < (s.safe.length : Int)
  ·rw [if_pos hi]
   obtain ⟨j, rfl⟩ := Int.eq_ofNat_of_zero_le hi.1
   exact read_ok j h hd (by omega) (by rw [hF.len]; omega)
  ·rw [if_neg hi]
   exact read_bad i h hd (by omega)
 ·rw [if_pos rfl]
  exact read_dead i h hd
theorem refRead_gen (i : Int) (h : RefAt B r s fr W) (hF : Pl.Fine n k s) (hk : k ≤ 5864062014632) :
  Calls Tryz.prog 56 #[.pointer (some ⟨r, 0, none⟩), .int .i64 i] W fun e w' => e = .returned (.tuple #[.string (s.rd i).1, .int .i64 (s.rd i).2]) ∧ W = w' := by
 unfold Pl.Dv.rd
 cases hd : s.down
 ·rw [if_neg Bool.false_ne_true]
  by_cases hi : 0 ≤ i ∧ i < (s.safe.length : Int)
  ·rw [if_pos hi]
   obtain ⟨j, rfl⟩ := Int.eq_ofNat_of_zero_le hi.1
   exact refRead_ok j h hd (by omega) (by have := hF.wait; omega)
  ·rw [if_neg hi]
   exact refRead_bad i h hd (by omega)
 ·rw [if_pos rfl]
  exact refRead_dead i h hd
theorem own_icell {W0 w : World} {v : Value} {l : List Int} {m B : Nat} (h : Own B 3 1 v m (icells l) W0 w) (hm : m = l.length) : (l = [] ∧ v = .slice none 0 0) ∨ ∃ g cap, v = .slice (some ⟨g, 0, none⟩) l.length cap ∧ ∀ i (hi : i < l.length), w.cell? ⟨g, i, none⟩ = some (.int .i64 l[i]) := by
 subst hm
 rcases h.1.2 with ⟨rfl, h0⟩ | ⟨g, cap, cur, rfl, _⟩
 ·exact .inl ⟨List.length_eq_zero_iff.1 h0, rfl⟩
 ·refine .inr ⟨g, cap, rfl, fun i hi => ?_⟩
  rw [h.1.cellAt i (by omega)]; simp [icells, hi]
theorem sameInts_none (g1 : Nat) (W : World) : Calls Tryz.prog 45 #[.slice (some ⟨g1, 0, none⟩) 0 0, .slice none 0 0] W fun e w' => e = .returned (.bool true) ∧ Q W w' := by
 go_enter Tryz.func45, Tryz.ntmps45
 go_wp2
 go_loopw [5] (fun i wr => i = .int .i64 0 ∧ wr = W) (fun _ _ => 0)
 case atStart => exact ⟨rfl, rfl⟩
 case round =>
  obtain ⟨rfl, rfl⟩ := hrel
  go_wp2
  go_ret
  exact ⟨rfl, Q.refl _⟩
end
end Go.Proofs.YtogblcdefbnbeaaGreat
