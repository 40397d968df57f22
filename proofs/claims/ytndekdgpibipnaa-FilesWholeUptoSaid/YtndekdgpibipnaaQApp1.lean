
/- Laws: append of one element, told by its block. Condition: none. -/
import Derived.Test.YtndekdgpibipnaaQGu
import Derived.Maps.AppendAt

namespace Go.Proofs.Ytndekdgpibipnaa
open Go.RowKit Go.Shelf

/-- 'v = append(v, x)' of one element, behind which the slice is still to be stored -/
theorem wpList_app1 {P : Program} {ops : Array Oper} {rest : List Oper} {o : Oper} {a : Act} {Q : Exit → Act → World → Prop} (hgd : o.guard = none) (s x : Operand) (t : TypeId)
    (ho : o.op = .call { callee := .builtin .append, args := #[s, x], argTypes := #[t, t] })
    (B : Nat) (e : TypeId) (z : Value) (size bytes : Nat) (ht : P.underlying t = some (.slice e)) (hi : (P.info? e).map (fun i => (i.zero, i.size, i.bytes)) = some (some z, size, bytes)) (hzs : z.cells.size = size) (hsz : 0 < size)
    (v : Value) (k : Nat) (xs : List Value) (w0 : World) (hr : w0.ownsRow B e size v k xs) (hB : B ≤ w0.heap.size) (hs : a.eval s = v) (cs : Array Value) (et : TypeId)
    (hx : a.eval x = .slice (some ⟨w0.heap.size, 0, none⟩) 1 1) (hl : cs.size = size) (h1 : ∀ u ∈ cs.toList, u.oneCell' = true) (h63 : (k + 1) * bytes ≤ 140737488355328) (hb0 : 0 < bytes)
    (h : ∀ g cap w', w'.ownsRow B e size (.slice (some ⟨g, 0, none⟩) (k + 1) cap) (k + 1) (xs ++ cs.toList) → (w0.alloc (.cells cs et)).grownBy w' v.ownBlock → (v.ownBlock = some g ∨ w0.heap.size ≤ g) → g < w'.heap.size →
      wpList P ops Q rest (a.put o.dst (.slice (some ⟨g, 0, none⟩) (k + 1) cap)) w') : wpList P ops Q (o :: rest) a (w0.alloc (.cells cs et)) := by
  obtain ⟨i, hi', hz0, hz1, hz2⟩ := info_parts hi
  have hk : k + 1 ≤ 140737488355328 := Nat.le_trans (Nat.le_mul_of_pos_right (k + 1) hb0) h63
  refine wpList_append_own_at (w0.alloc (.cells cs et)) hgd s x t ho B e i z size bytes ht hi' hz0 hz1 hz2 hzs hsz v k xs hs (hr.alloc _) ⟨w0.heap.size, 0, none⟩ 1 1 cs.toList hx (by simpa using hl) ?_ h1 (by unfold maxLen; omega) h63 (by simp; omega) ?_
  · intro j u hj
    have hw : (w0.alloc (.cells cs et)).cell? ⟨w0.heap.size, j, none⟩ = cs[j]? := World.cell?_alloc_mark w0 cs et (0, 0) j
    have ha : (⟨w0.heap.size, 0, none⟩ : Addr).add j = ⟨w0.heap.size, j, none⟩ := by rw [Addr.add_lit]; simp
    rw [ha, hw, ← Array.getElem?_toList]; exact hj
  · intro v' w' hown' hgrow _ hat
    obtain ⟨g, cap, rfl⟩ := ownsRow_succ hown'
    refine h g cap w' hown' hgrow ?_ (hown'.lt g rfl).2
    rcases hat with hat | hat
    · exact .inl hat.symm
    · right
      have : g = (w0.alloc (.cells cs et)).heap.size := by simpa [Value.ownBlock] using hat
      rw [World.size_alloc] at this
      omega

end Go.Proofs.Ytndekdgpibipnaa
