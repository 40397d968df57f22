
/- Plain law: filled texts. Condition: none. -/
import Derived.Test.YtndekdgpibipnaaBase
namespace Go.Proofs.Ytndekdgpibipnaa.Pl

def fb (n : Int) (i : Nat) : UInt8 := UInt8.ofNat ((n + ((i % 7 : Nat) : Int)) % 256).toNat
def fillL (n : Int) (many : Nat) : List UInt8 := (List.range many).map (fb n)
def filled (n : Int) (many : Nat) : ByteArray := ⟨(fillL n many).toArray⟩
theorem fillL_length (n : Int) (many : Nat) : (fillL n many).length = many := by simp [fillL]
theorem filled_size (n : Int) (many : Nat) : (filled n many).size = many := by
  show (fillL n many).toArray.size = many
  simp [fillL]
/-- so many are filled, the others are noughts -/
def fillK (n : Int) (many k : Nat) : List UInt8 := (List.range k).map (fb n) ++ List.replicate (many - k) 0
theorem fillK_length (n : Int) {many k : Nat} (h : k ≤ many) : (fillK n many k).length = many := by simp [fillK]; omega
theorem fillK_zero (n : Int) (many : Nat) : fillK n many 0 = List.replicate many 0 := by simp [fillK]
theorem fillK_all (n : Int) (many : Nat) : fillK n many many = fillL n many := by simp [fillK, fillL]
theorem fillK_set (n : Int) {many k : Nat} (h : k < many) : (fillK n many k).set k (fb n k) = fillK n many (k + 1) := by
  obtain ⟨r, hr⟩ : ∃ r, many - k = r + 1 := ⟨many - k - 1, by omega⟩
  have hr' : many - (k + 1) = r := by omega
  unfold fillK
  rw [hr, hr', List.set_append, if_neg (by simp), List.range_succ, List.map_append, List.append_assoc]
  simp [List.replicate_succ]
theorem fb_byte (n : Int) (i : Nat) : ((fb n i).toNat : Int) = (n + ((i % 7 : Nat) : Int)) % 256 := by
  unfold fb
  rw [UInt8.toNat_ofNat']
  omega
end Go.Proofs.Ytndekdgpibipnaa.Pl
