
/- Plain law: texts as lists of bytes: the common beginning of two. Condition: none. -/
import Derived.Laws.Strings
namespace Go.Proofs.Ytekfaodjadinnaa.Pl

/-- how many bytes two texts begin with alike -/
def common : List UInt8 → List UInt8 → Nat
  | a :: s, b :: t => if a = b then common s t + 1 else 0
  | _, _ => 0

theorem common_le_left : ∀ s t : List UInt8, common s t ≤ s.length
  | [], _ => by simp [common]
  | _ :: _, [] => by simp [common]
  | a :: s, b :: t => by
    unfold common
    split
    · have := common_le_left s t; simp; omega
    · simp

theorem common_le_right : ∀ s t : List UInt8, common s t ≤ t.length
  | [], _ => by simp [common]
  | _ :: _, [] => by simp [common]
  | a :: s, b :: t => by
    unfold common
    split
    · have := common_le_right s t; simp; omega
    · simp

theorem common_drop_eq {s t : List UInt8} {k : Nat} (hs : k < s.length) (ht : k < t.length) (h : s[k] = t[k]) :
    common (s.drop k) (t.drop k) = common (s.drop (k + 1)) (t.drop (k + 1)) + 1 := by
  rw [List.drop_eq_getElem_cons hs, List.drop_eq_getElem_cons ht]
  simp [common, h]

theorem common_drop_ne {s t : List UInt8} {k : Nat} (hs : k < s.length) (ht : k < t.length) (h : s[k] ≠ t[k]) :
    common (s.drop k) (t.drop k) = 0 := by
  rw [List.drop_eq_getElem_cons hs, List.drop_eq_getElem_cons ht]
  simp [common, h]

theorem common_drop_end {s t : List UInt8} {k : Nat} (h : s.length ≤ k ∨ t.length ≤ k) : common (s.drop k) (t.drop k) = 0 := by
  rcases h with h | h
  · rw [List.drop_eq_nil_of_le h]; simp [common]
  · rw [List.drop_eq_nil_of_le h]; cases s.drop k <;> simp [common]

theorem size_data (s : ByteArray) : s.data.toList.length = s.size := by rw [Array.length_toList]; rfl
theorem getElem_data (s : ByteArray) (k : Nat) (h : k < s.size) : s.data.toList[k]'(by rw [size_data]; exact h) = s[k] := rfl

theorem extract_mk (s : ByteArray) (a b : Nat) : s.extract a b = ⟨((s.data.toList.take b).drop a).toArray⟩ := by
  apply ByteArray.ext
  rw [ByteArray.data_extract]
  apply Array.toList_inj.1
  simp [List.drop_take]
end Go.Proofs.Ytekfaodjadinnaa.Pl
