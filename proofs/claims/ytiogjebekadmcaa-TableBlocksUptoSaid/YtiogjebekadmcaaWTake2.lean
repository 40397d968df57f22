
/- Walks: taking numbers with a sign, and texts. Condition: lengths that texts may have. -/
import Derived.Test.YtiogjebekadmcaaWTake
import Derived.Test.YtiogjebekadmcaaWClone
import Derived.Test.YtiogjebekadmcaaPlainG
namespace Go.Proofs.Ytiogjebekadmcaa
open Go.RowKit

/-- a text, how many bytes, what is wrong -/
def tupS (v : List UInt8 × Nat × Nat) : Value := .tuple #[.string ⟨v.1.toArray⟩, .int .i64 v.2.1, .int .i64 v.2.2]
theorem tupS_some (s : ByteArray) (k n : Nat) : Value.tuple #[.string (s.extract k (k + n)), .int .i64 ((k : Int) + (n : Int)), .int .i64 0] = tupS ((s.data.toList.drop k).take n, k + n, 0) := by
  unfold tupS
  rw [Pl.extract_mk, List.drop_take, Nat.add_sub_cancel_left]
  rfl
theorem takeText_bad {l : List UInt8} {most : Nat} (h : (((Pl.takeUint l).2.2 : Nat) : Int) ≠ 0) : Pl.takeText l most = ([], 0, (Pl.takeUint l).2.2) := by
  unfold Pl.takeText; rw [if_pos (by omega)]
theorem takeText_long {l : List UInt8} {most : Nat} (h : (Pl.takeUint l).2.2 = 0) (h2 : most < (Pl.takeUint l).1) : Pl.takeText l most = ([], 0, 3) := by
  unfold Pl.takeText; rw [if_neg (by omega), if_pos h2]
theorem takeText_short {l : List UInt8} {most : Nat} (h : (Pl.takeUint l).2.2 = 0) (h2 : ¬ most < (Pl.takeUint l).1) (h3 : l.length - (Pl.takeUint l).2.1 < (Pl.takeUint l).1) : Pl.takeText l most = ([], 0, 2) := by
  unfold Pl.takeText; rw [if_neg (by omega), if_neg h2, if_pos h3]
theorem takeText_ok {l : List UInt8} {most : Nat} (h : (Pl.takeUint l).2.2 = 0) (h2 : ¬ most < (Pl.takeUint l).1) (h3 : ¬ l.length - (Pl.takeUint l).2.1 < (Pl.takeUint l).1) :
    Pl.takeText l most = ((l.drop (Pl.takeUint l).2.1).take (Pl.takeUint l).1, (Pl.takeUint l).2.1 + (Pl.takeUint l).1, 0) := by
  unfold Pl.takeText; rw [if_neg (by omega), if_neg h2, if_neg h3]

end Go.Proofs.Ytiogjebekadmcaa
