
/- Walks: texts as keys. Condition: a length that a text may have. -/
import Derived.Test.YtndekdgpibipnaaWEsc
namespace Go.Proofs.Ytndekdgpibipnaa
open Go.RowKit Go.Shelf

attribute [local go_sem] Oper.semAt_some

theorem ownsRow_not_obj {W : World} {base : Nat} {e : TypeId} {size k : Nat} {v : Value} {xs : List Value} (hr : W.ownsRow base e size v k xs) {D : Nat} {o : Obj} (hD : W.heap[D]? = some o) (ho : o.isCells = false) : some D ≠ v.ownBlock := by
  rcases hr.2 with ⟨rfl, _⟩ | ⟨g, cap, cur, rfl, _, hgb, _⟩
  · simp [Value.ownBlock]
  · intro e'
    obtain rfl : D = g := by simpa [Value.ownBlock] using e'
    rw [hgb] at hD; cases hD; cases ho

theorem cells_two_new (w : World) (a b : Value) (t : TypeId) : ∀ j u, [a, b][j]? = some u → (w.alloc (.cells #[a, b] t)).cell? ((⟨w.heap.size, 0, none⟩ : Addr).add j) = some u := cell_two_new w a b t

end Go.Proofs.Ytndekdgpibipnaa
