
/- Walks: taking numbers from bytes. Condition: lengths that are ints. -/
import Derived.Test.YtndekdgpibipnaaWMisc
import Derived.Test.YtndekdgpibipnaaPlainF
import Derived.Test.YtndekdgpibipnaaWBehind
namespace Go.Proofs.Ytndekdgpibipnaa
open Go.RowKit

/-- a number, how many bytes, what is wrong -/
def tup3 (v : Nat × Nat × Nat) : Value := .tuple #[.int .u64 v.1, .int .i64 v.2.1, .int .i64 v.2.2]

theorem byte_lt' (x : UInt8) : x.toNat < 256 := x.toNat_lt

set_option maxRecDepth 100000 in
set_option maxHeartbeats 400000 in
theorem takeUint_any (s : ByteArray) (w : World) (hs : s.size ≤ 9223372036854775800) :
    Calls Try.prog 110 #[.string s] w fun e w' => e = .returned (tup3 (Pl.takeUint s.data.toList)) ∧ w = w' := by
  go_enter Try.func110, Try.ntmps110
  go_wp2
  go_step3
  go_wp2
  go_step3
  go_wp2
  go_loop [11, 7, 5, 6] (fun i _ x e => ∃ k n : Nat, k ≤ s.size ∧ k ≤ 9 ∧ Hid (n < 128 ^ k) ∧ i = .int .i64 k ∧ x = .int .u64 n ∧ e = .int .i64 2 ∧ Hid (Pl.takeUint s.data.toList = Pl.takeFrom n k (s.data.toList.drop k)))
    (fun i _ _ _ => s.size - (intOf i).toNat)
  case atStart => exact ⟨0, 0, by omega, by omega, by show _ < _; simp, rfl, rfl, rfl, by show _ = _; simp [Pl.takeUint]⟩
  case round =>
    obtain ⟨k, n, hk, hk9, hn, rfl, rfl, rfl, H⟩ := hrel
    go_wp2
    · have h1 : k < s.size := by assumption
      have h2 : (1 : Int) < (s[k].toNat : Int) := by assumption
      go_ret3
      exact ⟨ret_val (by rw [H.out, Pl.takeFrom_bad (by rw [Pl.size_data]; exact h1) (.inl ⟨by omega, by rw [Pl.getElem_data _ _ h1]; omega⟩)]; rfl), rfl⟩
    · have h1 : k < s.size := by assumption
      have h2 : ((s[k].toNat : Int) == 0) = true := by assumption
      go_ret3
      exact ⟨ret_val (by rw [H.out, Pl.takeFrom_bad (by rw [Pl.size_data]; exact h1) (.inr ⟨by omega, byte_const' 0 rfl h2⟩)]; rfl), rfl⟩
    · have h1 : k < s.size := by assumption
      have h2 : ((s[k].toNat : Int) == 0) = false := by assumption
      have h3 : (k : Int) = 9 := by assumption
      have h4 : (s[k].toNat : Int) ≤ 1 := by assumption
      obtain rfl : k = 9 := by omega
      have h5 := Pl.takeFrom_last (n := n) (l := s.data.toList) (k := 9) (by rw [Pl.size_data]; exact h1) (by rw [Pl.getElem_data _ _ h1]; rintro (⟨_, h⟩ | ⟨_, h⟩); { omega }; exact byte_const_ne' 0 rfl h2 h) (by rw [Pl.getElem_data _ _ h1]; omega)
      go_ret3
      exact ⟨ret_val (by rw [H.out, h5, Pl.or_nine hn.out (by omega)]; rfl), rfl⟩
    · have h1 : k < s.size := by assumption
      have h2 : ((s[k].toNat : Int) == 0) = true := by assumption
      go_ret3
      exact ⟨ret_val (by rw [H.out, Pl.takeFrom_bad (by rw [Pl.size_data]; exact h1) (.inr ⟨by omega, byte_const' 0 rfl h2⟩)]; rfl), rfl⟩
    · have h1 : k < s.size := by assumption
      have h2 : ((s[k].toNat : Int) == 0) = false := by assumption
      have h3 : ¬ (k : Int) = 9 := by assumption
      have h5 := Pl.takeFrom_last (n := n) (l := s.data.toList) (k := k) (by rw [Pl.size_data]; exact h1) (by rw [Pl.getElem_data _ _ h1]; rintro (⟨h, _⟩ | ⟨_, h⟩); { omega }; exact byte_const_ne' 0 rfl h2 h) (by rw [Pl.getElem_data _ _ h1]; omega)
      go_ret3
      exact ⟨ret_val (by rw [H.out, h5, Pl.or_last hn.out (byte_lt' _) (by omega)]; rfl), rfl⟩
    · have h1 : k < s.size := by assumption
      have h2 : ((s[k].toNat : Int) == 0) = false := by assumption
      have h3 : ¬ (k : Int) = 9 := by assumption
      have h5 := Pl.takeFrom_more (n := n) (l := s.data.toList) (k := k) (by rw [Pl.size_data]; exact h1) (by rw [Pl.getElem_data _ _ h1]; rintro (⟨h, _⟩ | ⟨_, h⟩); { omega }; exact byte_const_ne' 0 rfl h2 h) (by rw [Pl.getElem_data _ _ h1]; omega)
      go_round
      case rel => exact ⟨k + 1, _, by omega, by omega, Pl.more_bound hn.out, by go_num, by rw [Pl.and127 _ (byte_lt' _), Pl.or_last hn.out (by omega) (by omega)], rfl, by show _ = _; rw [H.out, h5]; rfl⟩
      case measure => simp [intOf]; omega
    · have h1 : k < s.size := by assumption
      have h2 : ¬ 0 < k := by assumption
      have h3 : ¬ (k : Int) = 9 := by assumption
      have h5 := Pl.takeFrom_last (n := n) (l := s.data.toList) (k := k) (by rw [Pl.size_data]; exact h1) (by rw [Pl.getElem_data _ _ h1]; rintro (⟨h, _⟩ | ⟨h, _⟩) <;> omega) (by rw [Pl.getElem_data _ _ h1]; omega)
      go_ret3
      exact ⟨ret_val (by rw [H.out, h5, Pl.or_last hn.out (byte_lt' _) (by omega)]; rfl), rfl⟩
    · have h1 : k < s.size := by assumption
      have h2 : ¬ 0 < k := by assumption
      have h3 : ¬ (k : Int) = 9 := by assumption
      have h5 := Pl.takeFrom_more (n := n) (l := s.data.toList) (k := k) (by rw [Pl.size_data]; exact h1) (by rw [Pl.getElem_data _ _ h1]; rintro (⟨h, _⟩ | ⟨h, _⟩) <;> omega) (by rw [Pl.getElem_data _ _ h1]; omega)
      go_round
      case rel => exact ⟨k + 1, _, by omega, by omega, Pl.more_bound hn.out, by go_num, by rw [Pl.and127 _ (byte_lt' _), Pl.or_last hn.out (by omega) (by omega)], rfl, by show _ = _; rw [H.out, h5]; rfl⟩
      case measure => simp [intOf]; omega
    · have h1 : ¬ k < s.size := by assumption
      go_ret3
      exact ⟨ret_val (by rw [H.out, Pl.takeFrom_end (by rw [Pl.size_data]; omega)]; rfl), rfl⟩

end Go.Proofs.Ytndekdgpibipnaa
