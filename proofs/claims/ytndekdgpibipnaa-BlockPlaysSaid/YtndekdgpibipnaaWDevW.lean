
/- Walks: a disk that is not armed: writes one behind the other. Condition: lengths that memory lets. -/
import Derived.Test.YtndekdgpibipnaaWDev5
namespace Go.Proofs.Ytndekdgpibipnaa
open Go.RowKit

namespace Pl
/-- a write to whatever block, of a disk that is up -/
def Dv.wr (s : Dv) (i : Int) (x : ByteArray) : Dv := if 0 ≤ i ∧ i < (s.safe.length : Int) then (s.put i.toNat x).act else s
/-- a disk that is up and not armed, behind k acts -/
def Un (k : Nat) (s : Dv) : Prop := s.safe.length = 40 ∧ s.down = false ∧ s.armed = 0 ∧ s.acts ≤ k ∧ s.epoch ≤ 1 ∧ s.wait.length ≤ k
theorem Un.mono {k k' : Nat} {s : Dv} (h : Un k s) (hk : k ≤ k') : Un k' s := ⟨h.1, h.2.1, h.2.2.1, Nat.le_trans h.2.2.2.1 hk, h.2.2.2.2.1, Nat.le_trans h.2.2.2.2.2 hk⟩
theorem Un.act {k : Nat} {s : Dv} (h : Un k s) : s.act.down = false ∧ Un (k + 1) s.act := by
  have e3 : s.act.down = if s.armed = 0 then s.down else decide (s.armed = 1) := rfl
  rw [if_pos h.2.2.1, h.2.1] at e3
  exact ⟨e3, h.1, e3, by show s.armed - 1 = 0; have := h.2.2.1; omega, by show s.acts + 1 ≤ k + 1; have := h.2.2.2.1; omega, h.2.2.2.2.1, by show s.wait.length ≤ k + 1; have := h.2.2.2.2.2; omega⟩
theorem Un.putAct {k : Nat} {s : Dv} (h : Un k s) (i : Nat) (x : ByteArray) : (s.put i x).act.down = false ∧ Un (k + 1) (s.put i x).act := by
  have e3 : (s.put i x).act.down = if s.armed = 0 then s.down else decide (s.armed = 1) := rfl
  rw [if_pos h.2.2.1, h.2.1] at e3
  exact ⟨e3, h.1, e3, by show s.armed - 1 = 0; have := h.2.2.1; omega, by show s.acts + 1 ≤ k + 1; have := h.2.2.2.1; omega, h.2.2.2.2.1, by show (s.wait ++ [(i, x)]).length ≤ k + 1; have := h.2.2.2.2.2; simp; omega⟩
theorem Un.wr {k : Nat} {s : Dv} (h : Un k s) (i : Int) (x : ByteArray) : Un (k + 1) (s.wr i x) := by
  unfold Dv.wr
  split
  · exact (h.putAct _ _).2
  · exact h.mono (by omega)
theorem Un.flush {k : Nat} {s : Dv} (h : Un k s) : Un (k + 1) s.act.flush := by
  obtain ⟨h1, h2⟩ := h.act
  exact ⟨by show (setAll s.safe s.wait).length = 40; rw [setAll_length, h.1], h1, h2.2.2.1, h2.2.2.2.1, h2.2.2.2.2.1, Nat.zero_le _⟩
theorem Un.new : Un 0 (Dv.new 40) := ⟨by simp [Dv.new], rfl, rfl, Nat.zero_le _, Nat.zero_le _, Nat.zero_le _⟩
theorem wr_safe (s : Dv) (i : Int) (x : ByteArray) : (s.wr i x).safe = s.safe := by
  unfold Dv.wr; split <;> rfl
/-- what is awaited behind a write -/
theorem wr_wait {s : Dv} {i : Int} {x : ByteArray} {p : Nat × ByteArray} (h : p ∈ (s.wr i x).wait) : p ∈ s.wait ∨ ((p.1 : Int) = i ∧ p.2 = x ∧ i < (s.safe.length : Int)) := by
  unfold Dv.wr at h
  split at h
  · rename_i hi
    have h' : p ∈ s.wait ++ [(i.toNat, x)] := h
    rcases List.mem_append.1 h' with h1 | h1
    · exact .inl h1
    · obtain rfl := List.mem_singleton.1 h1
      exact .inr ⟨by show ((i.toNat : Nat) : Int) = i; omega, rfl, hi.2⟩
  · exact .inl h
end Pl

variable {B d : Nat} {s : Pl.Dv} {fp : Nat → Prop} {W : World} {k : Nat}
theorem write_wr (i : Int) (x : ByteArray) (hx : x.size = 256) (h : DevAt B d s fp W) (hU : Pl.Un k s) (hk : k ≤ 5864062014634) (hB : B ≤ W.heap.size) :
    Calls Try.prog 15 #[.pointer (some ⟨d, 0, none⟩), .int .i64 i, .string x] W fun e w' => ∃ v, e = .returned (.int .i64 v) ∧ ∃ fp', DevAt B d (s.wr i x) fp' w' ∧ Step fp fp' W w' := by
  obtain ⟨u1, u2, u3, u4, u5, u6⟩ := hU
  by_cases hi : 0 ≤ i ∧ i < (s.safe.length : Int)
  · obtain ⟨j, rfl⟩ := Int.eq_ofNat_of_zero_le hi.1
    have e : s.wr (j : Int) x = (s.put j x).act := by unfold Pl.Dv.wr; rw [if_pos hi]; rfl
    rw [e]
    refine (write_ok j x h u2 (by omega) hx hB (by omega) (by omega) (by omega) (by omega)).mono ?_
    rintro e w' ⟨rfl, fp', hD, st⟩
    exact ⟨_, rfl, fp', hD, st⟩
  · have e : s.wr i x = s := by unfold Pl.Dv.wr; rw [if_neg hi]
    rw [e]
    refine (write_bad i x h u2 (by omega)).mono ?_
    rintro e w' ⟨rfl, rfl⟩
    exact ⟨_, rfl, fp, h, Step.refl h.lt⟩
theorem sync_un (h : DevAt B d s fp W) (hU : Pl.Un k s) (hk : k ≤ 5864062014634) :
    Calls Try.prog 17 #[.pointer (some ⟨d, 0, none⟩)] W fun e w' => e = .returned (.int .i64 0) ∧ DevAt B d s.act.flush fp w' ∧ Step fp fp W w' := by
  obtain ⟨u1, u2, u3, u4, u5, u6⟩ := hU
  exact sync_ok h u2 (by omega) (by omega) (Pl.Un.act ⟨u1, u2, u3, u4, u5, u6⟩).1 (by omega)
theorem read_un (h : DevAt B d s fp W) (hd : s.down = false) (hl : s.safe.length = 40) (i : Nat) (hi : i < 40) : Calls Try.prog 21 #[.pointer (some ⟨d, 0, none⟩), .int .i64 (i : Int)] W fun e w' => e = .returned (.tuple #[.string (s.read i), .int .i64 0]) ∧ W = w' :=
  read_ok i h hd (by omega) (by omega)
end Go.Proofs.Ytndekdgpibipnaa
