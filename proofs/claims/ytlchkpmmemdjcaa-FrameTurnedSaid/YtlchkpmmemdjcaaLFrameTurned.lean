/- Walk: the law FrameTurned returns true. Condition: none. -/
import Derived.Test.YtlchkpmmemdjcaaLFrameBack
namespace Go.Proofs.Ytlchkpmmemdjcaa
open Go.RowKit

/-- a byte of which one bit is turned -/
theorem turned_byte (b : UInt8) (q : Nat) (hq : q ≤ 7) : ∃ c : UInt8, bits .xor .u8 (b.toNat : Int) ((2 : Int) ^ q % 256) = (c.toNat : Int) ∧ c ≠ b := by
  have h2 : (2 : Nat) ^ q ≤ 2 ^ 7 := Nat.pow_le_pow_right (by omega) hq
  have h0 : 0 < (2 : Nat) ^ q := Nat.pow_pos (by omega)
  have e : ((2 : Int) ^ q % 256) = ((2 ^ q : Nat) : Int) := by
    have h3 : ((2 : Int) ^ q) = ((2 ^ q : Nat) : Int) := by simp
    rw [h3]; omega
  have hx : (UInt8.ofNat (2 ^ q)).toNat = 2 ^ q := by rw [UInt8.toNat_ofNat']; omega
  refine ⟨b ^^^ UInt8.ofNat (2 ^ q), ?_, ?_⟩
  · rw [e, u8_xor_nat _ _ b.toNat_lt (by omega), UInt8.toNat_xor, hx]
  · intro h
    have h4 := congrArg UInt8.toNat h
    rw [UInt8.toNat_xor, hx] at h4
    have h5 : 2 ^ q = 0 := Pl.xor_cancel (a := b.toNat) (by rw [h4, Nat.xor_zero])
    omega

/-- bytes of which one was written anew, as a text -/
theorem str_set (w : World) (B : Nat) (F : List UInt8) (p cap : Nat) (c : UInt8) (hp : p < F.length)
    (hcell : ∀ (j : Nat) (hj : j < F.length), w.cell? ⟨B, j, none⟩ = some (.int .u8 (F[j].toNat : Int))) :
    (convert 53 9 (.slice (some ⟨B, 0, none⟩) F.length cap)).run Try.prog (w.setCell ⟨B, p, none⟩ (.int .u8 (c.toNat : Int))) = .ok (.string ⟨(F.set p c).toArray⟩) (w.setCell ⟨B, p, none⟩ (.int .u8 (c.toNat : Int))) := by
  have h := run_convert_bytes_back (P := Try.prog) (w.setCell ⟨B, p, none⟩ (.int .u8 (c.toNat : Int))) 53 9 5 ⟨B, 0, none⟩ cap (F.set p c) Try.underlying53 Try.underlying5 Try.underlying9 (fun j hj => by
    have hj' : j < F.length := by simpa using hj
    rw [show (⟨B, 0, none⟩ : Addr).add j = ⟨B, j, none⟩ by rw [Addr.add_lit]; simp]
    by_cases e : p = j
    · subst e
      rw [World.cell?_setCell_same _ _ _ (hcell p hp)]
      simp
    · rw [World.cell?_setCell_other _ _ _ _ (by intro h; simp only [Addr.mk.injEq] at h; omega), hcell j hj', List.getElem_set_ne e])
  rw [List.length_set] at h
  exact h

set_option maxRecDepth 100000 in
set_option maxHeartbeats 2000000 in
theorem frameTurned_bad (k : UInt8) (l : ByteArray) (place bit : Int) (w : World) (h : k = 0 ∨ 262144 < l.size) :
    Calls Try.prog 10 #[.agg #[.int .u8 (k.toNat : Int), .string l], .int .i64 place, .int .i64 bit] w fun e w' => e = .returned (.bool true) ∧ Below w.heap.size w w' := by
  have P1 := Lib.hid (fun w => put_bad k l w h)
  have hb0 : Below w.heap.size w (w.alloc (.cells #[.int .u8 (k.toNat : Int), .string l] 32)) := (Below.refl _ w).alloc (Nat.le_refl _) _
  have fr0 := Fr.new w (k.toNat : Int) l 32
  by_cases h0 : k = 0
  · subst h0
    clear h
    go_enter Try.func10, Try.ntmps10
    go_wp2_with fail
    refine (P1.out _).mono ?_
    rintro e1 w1 ⟨rfl, b1⟩
    have ⟨f0, f1, fB⟩ := fr0.kept b1
    go_wp2_with fail
    go_ret
    exact ⟨ret_bool (by rfl), below_seq hb0 b1⟩
  · have hk := kind_ne h0
    have hp := kind_pos h0
    have hb : 262144 < l.size := by rcases h with h | h; exact absurd h h0; exact h
    have hb2 : (262144 : Int) < (l.size : Int) := by omega
    clear h
    go_enter Try.func10, Try.ntmps10
    go_wp2_with fail
    refine (P1.out _).mono ?_
    rintro e1 w1 ⟨rfl, b1⟩
    have ⟨f0, f1, fB⟩ := fr0.kept b1
    go_wp2_with fail
    go_ret
    exact ⟨ret_bool (by rfl), below_seq hb0 b1⟩

set_option maxRecDepth 100000 in
set_option maxHeartbeats 2000000 in
theorem frameTurned_ok (k : UInt8) (l : ByteArray) (place bit : Int) (w : World) (h0 : k ≠ 0) (hs : l.size ≤ 262144) (hc0 : -9223372036854775808 ≤ place) (hc1 : place ≤ 9223372036854775807) (hd0 : -9223372036854775808 ≤ bit) (hd1 : bit ≤ 9223372036854775807) :
    Calls Try.prog 10 #[.agg #[.int .u8 (k.toNat : Int), .string l], .int .i64 place, .int .i64 bit] w fun e w' => e = .returned (.bool true) ∧ Below w.heap.size w w' := by
  have hk := kind_ne h0
  have hp := kind_pos h0
  have P1 := Lib.hid (fun w => put_ok k l w h0 hs)
  have hl2 : l.data.toList.length ≤ 262144 := by rw [Pl.size_data]; exact hs
  have hl3 : (Pl.frame k l.data.toList).length ≤ 262159 ∧ l.size + 6 ≤ (Pl.frame k l.data.toList).length := by
    have := Pl.putUint_length64 l.data.toList.length (by omega)
    have h1 := Pl.putUint_ne l.data.toList.length
    rw [Pl.frame_length, Pl.putText, List.length_append, Pl.size_data] at *; omega
  obtain ⟨hl3, hl4⟩ := hl3
  have hb0 : Below w.heap.size w (w.alloc (.cells #[.int .u8 (k.toNat : Int), .string l] 32)) := (Below.refl _ w).alloc (Nat.le_refl _) _
  have fr0 := Fr.new w (k.toNat : Int) l 32
  generalize hF : Pl.frame k l.data.toList = F at P1 hl3 hl4
  have hF := Lib.hid hF
  go_enter Try.func10, Try.ntmps10
  go_wp2_with fail
  refine (P1.out _).mono ?_
  rintro e1 w1 ⟨rfl, b1⟩
  have fr1 := fr0.kept b1
  have ⟨f0, f1, fB⟩ := fr1
  have hb1 := below_seq hb0 b1
  go_wp2_with (refine wpList_bytes (by rfl) _ 9 53 5 (by rfl) Try.underlying9 Try.underlying53 Try.underlying5 ⟨F.toArray⟩ (by rfl) ?_; rintro cap w2 hcap hcell hfz b2 hsz2)
  all_goals first
    | (go_ret
       exact ⟨ret_bool (by rfl), hb1⟩)
    | skip
  all_goals
    obtain ⟨p, rfl⟩ := Int.eq_ofNat_of_zero_le (show 0 ≤ place by omega)
    obtain ⟨q, rfl⟩ := Int.eq_ofNat_of_zero_le (show 0 ≤ bit by omega)
    have hpl : p < F.length := by omega
    have hq : q ≤ 7 := by omega
    have c1 := hcell p hpl
    have z1 := hfz p hpl
    obtain ⟨c, hX, hne⟩ := turned_byte F[p] q hq
    have hX : bits .xor .u8 ((((ByteArray.mk F.toArray)[p]'hpl).toNat : Nat) : Int) ((2 : Int) ^ q % 256) = ((c.toNat : Nat) : Int) := hX
    have hrun := str_set w2 w1.heap.size F p cap c hpl hcell
    have P2 := takeFrame_any ⟨(F.set p c).toArray⟩
    have ht : (Pl.takeFrame (F.set p c)).2.2 = 3 := by
      have hF := hF.out
      subst hF
      exact Pl.takeFrame_turned k l.data.toList p c h0 hl2 hpl (by rw [Pl.size_data]; omega) hne
    have P2 := Lib.hid (fun w => takeFrame_any ⟨(F.set p c).toArray⟩ w (by show (F.set p c).toArray.size ≤ _; simp; omega))
    rw [show (ByteArray.mk (F.set p c).toArray).data.toList = F.set p c from rfl] at P2
    generalize Pl.takeFrame (F.set p c) = t at P2 ht
    obtain ⟨⟨k', l'⟩, n', e'⟩ := t
    obtain rfl : e' = 3 := ht
    unfold tupF at P2
    have hb2 : Below w.heap.size w (w2.setCell ⟨w1.heap.size, p, none⟩ (.int .u8 (c.toNat : Int))) := (below_seq hb1 b2).setCell hb1.size _
    go_wp2_with fail
    refine (P2.out _).mono ?_
    rintro e3 w3 ⟨rfl, b3⟩
    have hb3 := below_seq hb2 b3
    go_wp2_with fail
    go_ret
    exact ⟨ret_bool (by rfl), hb3.alloc hb3.size _⟩
end Go.Proofs.Ytlchkpmmemdjcaa
