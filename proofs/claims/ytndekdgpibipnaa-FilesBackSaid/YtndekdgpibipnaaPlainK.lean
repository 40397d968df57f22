
/- Plain law: the frame with which bytes begin. Condition: none. -/
import Derived.Test.YtndekdgpibipnaaPlainJ
import Derived.Test.YtndekdgpibipnaaPlainG
namespace Go.Proofs.Ytndekdgpibipnaa.Pl

/-- the frame with which bytes begin, its length, what is wrong -/
def takeFrame (l : List UInt8) : (UInt8 × List UInt8) × Nat × Nat :=
  if l.length < 5 then ((0, []), 0, 2) else if l.getD 4 0 = 0 then ((0, []), 0, 3)
  else if (takeText (l.drop 5) 262144).2.2 ≠ 0 then ((0, []), 0, (takeText (l.drop 5) 262144).2.2)
  else if little (sum ((l.take (5 + (takeText (l.drop 5) 262144).2.1)).drop 4)) ≠ l.take 4 then ((0, []), 0, 3)
  else ((l.getD 4 0, (takeText (l.drop 5) 262144).1), 5 + (takeText (l.drop 5) 262144).2.1, 0)

theorem takeFrame_short {l : List UInt8} (h : l.length < 5) : takeFrame l = ((0, []), 0, 2) := by unfold takeFrame; rw [if_pos h]
theorem takeFrame_zero {l : List UInt8} (h : ¬ l.length < 5) (h2 : l.getD 4 0 = 0) : takeFrame l = ((0, []), 0, 3) := by unfold takeFrame; rw [if_neg h, if_pos h2]
theorem takeFrame_bad {l : List UInt8} (h : ¬ l.length < 5) (h2 : ¬ l.getD 4 0 = 0) (h3 : (takeText (l.drop 5) 262144).2.2 ≠ 0) : takeFrame l = ((0, []), 0, (takeText (l.drop 5) 262144).2.2) := by
  unfold takeFrame; rw [if_neg h, if_neg h2, if_pos h3]
theorem takeFrame_sum {l : List UInt8} (h : ¬ l.length < 5) (h2 : ¬ l.getD 4 0 = 0) (h3 : ¬ (takeText (l.drop 5) 262144).2.2 ≠ 0)
    (h4 : little (sum ((l.take (5 + (takeText (l.drop 5) 262144).2.1)).drop 4)) ≠ l.take 4) : takeFrame l = ((0, []), 0, 3) := by
  unfold takeFrame; rw [if_neg h, if_neg h2, if_neg h3, if_pos h4]
theorem takeFrame_ok {l : List UInt8} (h : ¬ l.length < 5) (h2 : ¬ l.getD 4 0 = 0) (h3 : ¬ (takeText (l.drop 5) 262144).2.2 ≠ 0)
    (h4 : ¬ little (sum ((l.take (5 + (takeText (l.drop 5) 262144).2.1)).drop 4)) ≠ l.take 4) :
    takeFrame l = ((l.getD 4 0, (takeText (l.drop 5) 262144).1), 5 + (takeText (l.drop 5) 262144).2.1, 0) := by
  unfold takeFrame; rw [if_neg h, if_neg h2, if_neg h3, if_neg h4]
/-- a text that is taken lies in the bytes -/
theorem takeText_fits (l : List UInt8) (most : Nat) : (takeText l most).2.1 ≤ l.length := by
  unfold takeText
  obtain ⟨b1, b2, b3⟩ := takeUint_bound l
  split
  · simp
  · split
    · simp
    · split
      · simp
      · simp; omega
end Go.Proofs.Ytndekdgpibipnaa.Pl
