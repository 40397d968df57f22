
/- Walks: the text behind a text. Condition: lengths that are ints. -/
import Derived.Test.YtlchkpmmemdjcaaWPut
import Derived.Test.YtlchkpmmemdjcaaPlainD
namespace Go.Proofs.Ytlchkpmmemdjcaa
open Go.RowKit

theorem data_get (s : ByteArray) (k : Nat) (h : k < s.size) : s.data.toList[k]? = some s[k] := by
  rw [List.getElem?_eq_getElem (by rw [Pl.size_data]; exact h)]; rfl
theorem byte_const {x : UInt8} {c : Int} (n : UInt8) (hn : (n.toNat : Int) = c) (h : (((x.toNat : Nat) : Int) != c) = false) : x = n := by rw [← hn] at h; exact byte_eq h
theorem byte_const_ne {x : UInt8} {c : Int} (n : UInt8) (hn : (n.toNat : Int) = c) (h : (((x.toNat : Nat) : Int) != c) = true) : x ≠ n := by rw [← hn] at h; exact byte_ne h
theorem byte_const' {x : UInt8} {c : Int} (n : UInt8) (hn : (n.toNat : Int) = c) (h : (((x.toNat : Nat) : Int) == c) = true) : x = n := by rw [← hn] at h; exact byte_eq' h
theorem byte_const_ne' {x : UInt8} {c : Int} (n : UInt8) (hn : (n.toNat : Int) = c) (h : (((x.toNat : Nat) : Int) == c) = false) : x ≠ n := by rw [← hn] at h; exact byte_ne' h

set_option maxRecDepth 100000 in
set_option maxHeartbeats 400000 in
theorem below_any (s : ByteArray) (w : World) (hs : s.size ≤ 9223372036854775807) :
    Calls Try.prog 17 #[.string s] w fun e w' => e = .returned (.bool (Pl.low s.data.toList)) ∧ w = w' := by
  go_enter Try.func17, Try.ntmps17
  go_wp2
  go_loop [3] (fun i => ∃ k : Nat, k ≤ s.size ∧ i = .int .i64 k ∧ Hid (Pl.low s.data.toList = Pl.low (s.data.toList.drop k)))
    (fun i => s.size - (intOf i).toNat)
  case atStart => exact ⟨0, by omega, rfl, by show _ = _; simp⟩
  case round =>
    obtain ⟨k, hk, rfl, H⟩ := hrel
    go_wp2
    · have hlt : k < s.size := by assumption
      have h : (((s[k].toNat : Nat) : Int) != 255) = true := by assumption
      go_ret
      exact ⟨ret_bool (by rw [H.out, Pl.low_yes (by rw [Pl.size_data]; exact hlt) (byte_const_ne 255 rfl h)]), rfl⟩
    · have hlt : k < s.size := by assumption
      have h : (((s[k].toNat : Nat) : Int) != 255) = false := by assumption
      go_round
      case rel => exact ⟨k + 1, by omega, by go_num, by show _ = _; rw [H.out, Pl.low_no (by rw [Pl.size_data]; exact hlt) (byte_const 255 rfl h)]⟩
      case measure => simp [intOf]; omega
    · go_ret
      exact ⟨ret_bool (by rw [H.out, Pl.low_end (by rw [Pl.size_data]; omega)]), rfl⟩

theorem behind_cells {s : ByteArray} {k : Nat} {w1 : World} {B : Nat} (hk : k < s.size) (hc : ∀ j (hj : j < s.size), w1.cell? ⟨B, j, none⟩ = some (.int .u8 (s[j].toNat : Int))) (x : Int) (hx : x = ((s[k] + 1).toNat : Int)) :
    ∀ j (hj : j < (s.data.toList.take k ++ [s[k] + 1]).length), (w1.setCell ⟨B, k, none⟩ (.int .u8 x)).cell? ⟨B, j, none⟩ = some (.int .u8 ((s.data.toList.take k ++ [s[k] + 1])[j].toNat : Int)) := by
  intro j hj
  have hl : (s.data.toList.take k).length = k := by rw [List.length_take, Pl.size_data]; omega
  simp only [List.length_append, List.length_singleton, hl] at hj
  by_cases e : j = k
  · subst e
    rw [World.cell?_setCell_same' _ _ _ (by rw [hc j hk]; rfl), hx]
    congr 3
    rw [List.getElem_append_right (by omega)]
    simp [hl]
  · rw [World.cell?_setCell_other _ _ _ _ (by intro h; exact e (congrArg Addr.off h).symm), hc j (by omega)]
    congr 3
    rw [List.getElem_append_left (by omega), List.getElem_take]
    rfl

set_option maxRecDepth 100000 in
set_option maxHeartbeats 400000 in
theorem behind_any (s : ByteArray) (w : World) (hs : s.size ≤ 9223372036854775807) :
    Calls Try.prog 16 #[.string s] w fun e w' => e = .returned (.string ⟨(Pl.behind s.data.toList).toArray⟩) ∧ Below w.heap.size w w' := by
  go_enter Try.func16, Try.ntmps16
  go_wp2_with (refine wpList_bytes (by rfl) _ 9 53 5 (by rfl) Try.underlying9 Try.underlying53 Try.underlying5 s (by rfl) ?_; intro cap w1 hcap hc hf hb hz; have HC := Lib.hid hc; have HF := Lib.hid hf; clear hc hf)
  go_loop [3] (fun v => ∃ k : Nat, k ≤ s.size ∧ v = .slice (some ⟨w.heap.size, 0, none⟩) k cap ∧ Hid (Pl.strip s.data.toList s.data.toList.length = Pl.strip s.data.toList k))
    (fun v => match v with | .slice _ n _ => n | _ => 0)
  case atStart => exact ⟨s.size, by omega, rfl, by show _ = _; rw [Pl.size_data]⟩
  case round =>
    obtain ⟨k, hk, rfl, H⟩ := hrel
    cases k with
    | zero =>
      go_wp2
      go_ret
      exact ⟨ret_str (by rw [Pl.behind_nil H.out]), hb⟩
    | succ k =>
      have hcell := HC.out k (by omega)
      have hfr := HF.out k (by omega)
      have hkl : k < s.size := by omega
      have hel : (s.data.toList.take k).length = k := by rw [List.length_take, Pl.size_data]; omega
      have hX := Lib.hid hel
      clear hel
      go_wp2_with (refine wpList_strc (by rfl) _ 53 9 5 (by rfl) Try.underlying53 Try.underlying5 Try.underlying9 (s.data.toList.take k ++ [s[k] + 1]) w.heap.size cap _ (by rfl) (by rw [List.length_append, hX.out]; rfl) (behind_cells hkl HC.out _ (by rw [UInt8.toNat_add]; simp)) ?_)
      · have h : (((s[k].toNat : Nat) : Int) == 255) = true := by assumption
        go_round
        case rel => exact ⟨k, by omega, rfl, by show _ = _; rw [H.out, Pl.strip_eq (by rw [data_get _ _ hkl, byte_const' 255 rfl h])]⟩
        case measure => simp
      · have h : (((s[k].toNat : Nat) : Int) == 255) = false := by assumption
        have hst : Pl.strip s.data.toList s.data.toList.length = k + 1 := by rw [H.out, Pl.strip_ne (by rw [data_get _ _ hkl]; intro e; exact byte_const_ne' 255 rfl h (by simpa using e))]
        go_ret
        exact ⟨ret_str (by rw [Pl.behind_some (by omega), hst, Nat.add_sub_cancel, data_get _ _ hkl]; rfl), hb.setCell (Nat.le_refl _) _⟩

theorem str_one (W : World) (x : Int) (c : UInt8) (hx : x = (c.toNat : Int)) :
    (convert 53 9 (.slice (some ⟨W.heap.size, 0, none⟩) 1 1)).run Try.prog (W.alloc (.cells #[.int .u8 x] 5)).drew = .ok (.string ⟨#[c]⟩) (W.alloc (.cells #[.int .u8 x] 5)).drew := by
  have h := run_convert_bytes_back (P := Try.prog) (W.alloc (.cells #[.int .u8 x] 5)).drew 53 9 5 ⟨W.heap.size, 0, none⟩ 1 [c] Try.underlying53 Try.underlying5 Try.underlying9 (fun j hj => by
    have : j = 0 := by simpa using hj
    subst this
    rw [hx]
    show (W.alloc (.cells #[.int .u8 (c.toNat : Int)] 5)).cell? _ = _
    rw [Addr.add_lit]
    exact World.cell?_alloc_mark W _ 5 (0, 0) 0)
  exact h

set_option maxRecDepth 100000 in
set_option maxHeartbeats 400000 in
theorem refBehind_any (s : ByteArray) (w : World) (hs : s.size ≤ 9223372036854775800) :
    Calls Try.prog 33 #[.string s] w fun e w' => e = .returned (.string ⟨(Pl.behind s.data.toList).toArray⟩) ∧ Below w.heap.size w w' := by
  go_enter Try.func33, Try.ntmps33
  go_wp2
  go_loop [3] (fun v => ∃ k : Nat, k ≤ s.size ∧ v = .int .i64 k ∧ Hid (Pl.strip s.data.toList s.data.toList.length = Pl.strip s.data.toList k))
    (fun v => (intOf v).toNat)
  case atStart => exact ⟨s.size, by omega, rfl, by show _ = _; rw [Pl.size_data]⟩
  case round =>
    obtain ⟨k, hk, rfl, H⟩ := hrel
    cases k with
    | zero =>
      go_wp2
      go_ret
      exact ⟨ret_str (by rw [Pl.behind_nil H.out]), Below.refl _ _⟩
    | succ k =>
      have hkl : k < s.size := by omega
      have hel : (s.data.toList.take k).length = k := by rw [List.length_take, Pl.size_data]; omega
      have hX := Lib.hid hel
      clear hel
      go_wp2
      · have h : (((s[k].toNat : Nat) : Int) == 255) = true := by assumption
        go_round
        case rel => exact ⟨k, by omega, rfl, by show _ = _; rw [H.out, Pl.strip_eq (by rw [data_get _ _ hkl, byte_const' 255 rfl h])]⟩
        case measure => simp [intOf]
      · have h : (((s[k].toNat : Nat) : Int) == 255) = false := by assumption
        have hst : Pl.strip s.data.toList s.data.toList.length = k + 1 := by rw [H.out, Pl.strip_ne (by rw [data_get _ _ hkl]; intro e; exact byte_const_ne' 255 rfl h (by simpa using e))]
        have HST := Lib.hid hst
        clear hst
        have kc := str_one w (((s[k].toNat : Nat) + 1 : Int) % 256) (s[k] + 1) (by rw [UInt8.toNat_add]; simp)
        go_region
        go_wp2
        go_ret
        refine ⟨ret_str ?_, ((Below.refl _ w).alloc (Nat.le_refl _) _).drew⟩
        rw [Pl.behind_some (by have := HST.out; omega), HST.out, Nat.add_sub_cancel, data_get _ _ hkl]
        rw [Pl.extract_mk]
        apply ByteArray.ext
        simp [ByteArray.data_append]
end Go.Proofs.Ytlchkpmmemdjcaa
