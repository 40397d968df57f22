
/- Walks: the text behind a text. Condition: lengths that are ints. -/
import Derived.Test.YtndekdgpibipnaaWPut
import Derived.Test.YtndekdgpibipnaaPlainD
namespace Go.Proofs.Ytndekdgpibipnaa
open Go.RowKit

theorem data_get (s : ByteArray) (k : Nat) (h : k < s.size) : s.data.toList[k]? = some s[k] := by
  rw [List.getElem?_eq_getElem (by rw [Pl.size_data]; exact h)]; rfl
theorem byte_const {x : UInt8} {c : Int} (n : UInt8) (hn : (n.toNat : Int) = c) (h : (((x.toNat : Nat) : Int) != c) = false) : x = n := by rw [← hn] at h; exact byte_eq h
theorem byte_const_ne {x : UInt8} {c : Int} (n : UInt8) (hn : (n.toNat : Int) = c) (h : (((x.toNat : Nat) : Int) != c) = true) : x ≠ n := by rw [← hn] at h; exact byte_ne h
theorem byte_const' {x : UInt8} {c : Int} (n : UInt8) (hn : (n.toNat : Int) = c) (h : (((x.toNat : Nat) : Int) == c) = true) : x = n := by rw [← hn] at h; exact byte_eq' h
theorem byte_const_ne' {x : UInt8} {c : Int} (n : UInt8) (hn : (n.toNat : Int) = c) (h : (((x.toNat : Nat) : Int) == c) = false) : x ≠ n := by rw [← hn] at h; exact byte_ne' h

theorem behind_cells {s : ByteArray} {k : Nat} {w1 : World} {B : Nat} (hk : k < s.size) (hc : ∀ j (hj : j < s.size), w1.cell? ⟨B, j, none⟩ = some (.int .u8 (s[j].toNat : Int))) (x : Int) (hx : x = ((s[k] + 1).toNat : Int)) :
    ∀ j (hj : j < (s.data.toList.take k ++ [s[k] + 1]).length), (w1.setCell ⟨B, k, none⟩ (.int .u8 x)).cell? ⟨B, j, none⟩ = some (.int .u8 ((s.data.toList.take k ++ [s[k] + 1])[j].toNat : Int)) := by
  intro j hj
  have hl : (s.data.toList.take k).length = k := by rw [List.length_take, Pl.size_data]; omega
  simp only [List.length_append, List.length_singleton, hl] at hj
  by_cases e : j = k
  · subst e
    rw [World.cell?_setCell_same' _ _ _ (by rw [hc j hk]; rfl), hx]
    congr 3
    rw [List.getElem_append_right (by omega)]
    simp [hl]
  · rw [World.cell?_setCell_other _ _ _ _ (by intro h; exact e (congrArg Addr.off h).symm), hc j (by omega)]
    congr 3
    rw [List.getElem_append_left (by omega), List.getElem_take]
    rfl

theorem str_one (W : World) (x : Int) (c : UInt8) (hx : x = (c.toNat : Int)) :
    (convert 93 9 (.slice (some ⟨W.heap.size, 0, none⟩) 1 1)).run Try.prog (W.alloc (.cells #[.int .u8 x] 5)).drew = .ok (.string ⟨#[c]⟩) (W.alloc (.cells #[.int .u8 x] 5)).drew := by
  have h := run_convert_bytes_back (P := Try.prog) (W.alloc (.cells #[.int .u8 x] 5)).drew 93 9 5 ⟨W.heap.size, 0, none⟩ 1 [c] Try.underlying93 Try.underlying5 Try.underlying9 (fun j hj => by
    have : j = 0 := by simpa using hj
    subst this
    rw [hx]
    show (W.alloc (.cells #[.int .u8 (c.toNat : Int)] 5)).cell? _ = _
    rw [Addr.add_lit]
    exact World.cell?_alloc_mark W _ 5 (0, 0) 0)
  exact h

end Go.Proofs.Ytndekdgpibipnaa
