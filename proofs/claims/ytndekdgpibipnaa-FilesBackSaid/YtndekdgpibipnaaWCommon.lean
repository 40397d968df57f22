
/- Walks: codec.Common and the reference's. Condition: lengths that are ints. -/
import Derived.Test.YtndekdgpibipnaaPlainA
import Derived.Test.YtndekdgpibipnaaBase
namespace Go.Proofs.Ytndekdgpibipnaa
open Go.RowKit

theorem common_rel_next {a b : ByteArray} {k : Nat} (ha : k < a.size) (hb : k < b.size) (h : a[k] = b[k])
    (hk : Pl.common a.data.toList b.data.toList = k + Pl.common (a.data.toList.drop k) (b.data.toList.drop k)) :
    Pl.common a.data.toList b.data.toList = (k + 1) + Pl.common (a.data.toList.drop (k + 1)) (b.data.toList.drop (k + 1)) := by
  rw [hk, Pl.common_drop_eq (by rw [Pl.size_data]; exact ha) (by rw [Pl.size_data]; exact hb) h]; omega

theorem common_rel_stop {a b : ByteArray} {k : Nat} (ha : k < a.size) (hb : k < b.size) (h : a[k] ≠ b[k])
    (hk : Pl.common a.data.toList b.data.toList = k + Pl.common (a.data.toList.drop k) (b.data.toList.drop k)) :
    Pl.common a.data.toList b.data.toList = k := by
  rw [hk, Pl.common_drop_ne (by rw [Pl.size_data]; exact ha) (by rw [Pl.size_data]; exact hb) h]; omega

theorem common_rel_end {a b : ByteArray} {k : Nat} (h : a.size ≤ k ∨ b.size ≤ k)
    (hk : Pl.common a.data.toList b.data.toList = k + Pl.common (a.data.toList.drop k) (b.data.toList.drop k)) :
    Pl.common a.data.toList b.data.toList = k := by
  rw [hk, Pl.common_drop_end (by rw [Pl.size_data, Pl.size_data]; exact h)]; omega

end Go.Proofs.Ytndekdgpibipnaa
