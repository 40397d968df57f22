
/- Plain: the blocks of runs. -/
import Derived.Test.YtndekdgpibipnaaPlainRt
namespace Go.Proofs.Ytndekdgpibipnaa.Pl

def runL (x : Int × Nat) : List Int := (List.range x.2).map fun (k : Nat) => x.1 + (k : Int)
theorem runL_succ (a : Int) (k : Nat) : runL (a, k + 1) = runL (a, k) ++ [a + (k : Int)] := by
  unfold runL
  rw [List.range_succ, List.map_append]; rfl
theorem runL_take {a : Int} {l : List Int} : runL (a, upR a l) = l.take (upR a l) := by
  apply List.ext_getElem
  · have := upR_le a l
    simp [runL]; omega
  · intro i h1 h2
    have hi : i < upR a l := by simpa [runL] using h1
    have hl := upR_le a l
    rw [List.getElem_take, upR_get a l i (by omega) hi]
    simp [runL]
theorem expand_runs : ∀ (n : Nat) (l : List Int), l.length ≤ n → (runsOf l).flatMap runL = l
  | 0, l, h => by
    obtain rfl : l = [] := List.length_eq_zero_iff.1 (by omega)
    rfl
  | n + 1, [], _ => rfl
  | n + 1, a :: l, h => by
    have hp := upR_pos a l
    rw [runsOf_cons, List.flatMap_cons, expand_runs n _ (by simp only [List.length_drop, List.length_cons] at *; omega), runL_take, List.take_append_drop]
theorem flat_take_succ {α β : Type} {f : α → List β} {l : List α} {i : Nat} (h : i < l.length) : (l.take (i + 1)).flatMap f = (l.take i).flatMap f ++ f l[i] := by
  rw [List.take_succ_eq_append_getElem h, List.flatMap_append]; simp
theorem flat_drop {α β : Type} {f : α → List β} {l : List α} {i : Nat} (h : i < l.length) : (l.drop i).flatMap f = f l[i] ++ (l.drop (i + 1)).flatMap f := by
  rw [List.drop_eq_getElem_cons h, List.flatMap_cons]
theorem flat_take_le {α β : Type} {f : α → List β} (l : List α) (i : Nat) : ((l.take i).flatMap f).length ≤ (l.flatMap f).length := by
  conv => rhs; rw [← List.take_append_drop i l, List.flatMap_append, List.length_append]
  omega
end Go.Proofs.Ytndekdgpibipnaa.Pl
