
/- Plain: a text block by block, padded; a slot's head. Condition: none. -/
import Derived.Test.YtndekdgpibipnaaQGg
import Derived.Laws.CopyOwn

namespace Go.Proofs.Ytndekdgpibipnaa.Pl

/-- bytes with noughts behind, up to a whole block -/
def padB (s : ByteArray) : ByteArray := s ++ zeros (256 - s.size)
theorem padB_size {s : ByteArray} (h : s.size ≤ 256) : (padB s).size = 256 := by
  unfold padB
  rw [ByteArray.size_append, zeros_size]
  omega
def pieceAt (s : ByteArray) (i : Nat) : ByteArray := padB (s.extract (256 * i) (256 * i + 256))
theorem pieceAt_size (s : ByteArray) (i : Nat) : (pieceAt s i).size = 256 := padB_size (by rw [ByteArray.size_extract]; omega)
def pieceN (n : Nat) : Nat := (n + 255) / 256
/-- a text block by block -/
def piecesOf (s : ByteArray) : List ByteArray := (List.range (pieceN s.size)).map (pieceAt s)
theorem piecesOf_length (s : ByteArray) : (piecesOf s).length = pieceN s.size := by simp [piecesOf]
theorem piecesOf_pre (s : ByteArray) {i : Nat} (hi : i ≤ pieceN s.size) : (List.range i).map (pieceAt s) <+: piecesOf s := by
  unfold piecesOf
  refine List.IsPrefix.map _ ?_
  obtain ⟨k, hk⟩ := Nat.exists_eq_add_of_le hi
  rw [hk, List.range_add]
  exact List.prefix_append _ _
theorem piecesOf_mem {s p : ByteArray} (h : p ∈ piecesOf s) : p.size = 256 := by
  unfold piecesOf at h
  rw [List.mem_map] at h
  obtain ⟨i, _, rfl⟩ := h
  exact pieceAt_size s i
/-- eight bytes of a number -/
def be8 (g : Nat) : List UInt8 := (List.range 8).map fun i => UInt8.ofNat (g / 2 ^ (8 * (7 - i)) % 256)
theorem be8_length (g : Nat) : (be8 g).length = 8 := by simp [be8]
def headL (g : Nat) : List UInt8 := be8 g ++ (List.replicate 240 0 ++ be8 g)
theorem headL_length (g : Nat) : (headL g).length = 256 := by
  unfold headL
  rw [List.length_append, List.length_append, List.length_replicate, be8_length]
/-- the first block of a slot -/
def headB (g : Nat) : ByteArray := ⟨(headL g).toArray⟩
theorem headB_size (g : Nat) : (headB g).size = 256 := by
  show (headL g).toArray.size = 256
  simp [headL_length]
/-- its first k bytes written -/
def headK (g k : Nat) : List UInt8 := (be8 g).take k ++ List.replicate (256 - k) 0
theorem headK_zero (g : Nat) : headK g 0 = List.replicate 256 0 := rfl
theorem headK_length (g : Nat) {k : Nat} (hk : k ≤ 8) : (headK g k).length = 256 := by
  unfold headK
  rw [List.length_append, List.length_take, be8_length, List.length_replicate]
  omega
theorem headK_set (g : Nat) {k : Nat} (hk : k < 8) : (headK g k).set k (UInt8.ofNat (g / 2 ^ (8 * (7 - k)) % 256)) = headK g (k + 1) := by
  unfold headK
  have hl : ((be8 g).take k).length = k := by rw [List.length_take, be8_length]; omega
  rw [List.set_append_right _ _ (by omega), hl, Nat.sub_self, show 256 - k = (256 - (k + 1)) + 1 by omega, List.replicate_succ, List.set_cons_zero, List.take_succ_eq_append_getElem (by rw [be8_length]; exact hk), List.append_assoc]
  congr 1
  simp [be8]
theorem headK_all (g : Nat) : Go.splice (headK g 8) 248 (be8 g) = headL g := by
  have e : (be8 g).take 8 = be8 g := List.take_of_length_le (Nat.le_of_eq (be8_length g))
  have e2 : (List.replicate (256 - 8) (0 : UInt8)).take (248 - 8) = List.replicate 240 0 := by rw [List.take_replicate]; rfl
  unfold Go.splice headK headL
  rw [e, be8_length]
  rw [List.take_append, be8_length, List.take_of_length_le (by rw [be8_length]; omega), List.drop_eq_nil_of_le (by rw [List.length_append, be8_length, List.length_replicate]; omega), e2, List.append_nil, List.append_assoc]
end Go.Proofs.Ytndekdgpibipnaa.Pl
