
/- Laws: append of one element, told by its block. Condition: none. -/
import Derived.Test.YtogblcdefbnbeaaGreatQGu
import Derived.Maps.AppendAt
import Derived.Laws.AppendOwnNone
set_option maxRecDepth 100000
namespace Go.Proofs.YtogblcdefbnbeaaGreat
section
open Go.RowKit Go.Shelf
theorem wpList_app1 {P : Program} {ops : Array Oper} {rest : List Oper} {o : Oper} {a : Act} {Q : Exit → Act → World → Prop} (hgd : o.guard = none) (s x : Operand) (t : TypeId)
  (ho : o.op = .call { callee := .builtin .append, args := #[s, x], argTypes := #[t, t] })
  (B : Nat) (e : TypeId) (z : Value) (size bytes : Nat) (ht : P.underlying t = some (.slice e)) (hi : (P.info? e).map (fun i => (i.zero, i.size, i.bytes)) = some (some z, size, bytes)) (hzs : z.cells.size = size) (hsz : 0 < size)
  (v : Value) (k : Nat) (xs : List Value) (w0 : World) (hr : w0.ownsRow B e size v k xs) (hB : B ≤ w0.heap.size) (hs : a.eval s = v) (cs : Array Value) (et : TypeId)
  (hx : a.eval x = .slice (some ⟨w0.heap.size, 0, none⟩) 1 1) (hl : cs.size = size) (h1 : ∀ u ∈ cs.toList, u.oneCell' = true) (h63 : (k + 1) * bytes ≤ 140737488355328) (hb0 : 0 < bytes)
  (h : ∀ g cap w', w'.ownsRow B e size (.slice (some ⟨g, 0, none⟩) (k + 1) cap) (k + 1) (xs ++ cs.toList) → (w0.alloc (.cells cs et)).grownBy w' v.ownBlock → (v.ownBlock = some g ∨ w0.heap.size ≤ g) → g < w'.heap.size →
   wpList P ops Q rest (a.put o.dst (.slice (some ⟨g, 0, none⟩) (k + 1) cap)) w') : wpList P ops Q (o :: rest) a (w0.alloc (.cells cs et)) := by
 obtain ⟨i, hi', hz0, hz1, hz2⟩ := info_parts hi
 have hk : k + 1 ≤ 140737488355328 := Nat.le_trans (Nat.le_mul_of_pos_right (k + 1) hb0) h63
 refine wpList_append_own_at (w0.alloc (.cells cs et)) hgd s x t ho B e i z size bytes ht hi' hz0 hz1 hz2 hzs hsz v k xs hs (hr.alloc _) ⟨w0.heap.size, 0, none⟩ 1 1 cs.toList hx (by simpa using hl) ?_ h1 (by unfold maxLen; omega) h63 (by simp; omega) ?_
 ·intro j u hj
  have hw : (w0.alloc (.cells cs et)).cell? ⟨w0.heap.size, j, none⟩ = cs[j]? := World.cell?_alloc_mark w0 cs et (0, 0) j
  have ha : (⟨w0.heap.size, 0, none⟩ : Addr).add j = ⟨w0.heap.size, j, none⟩ := by rw [Addr.add_lit]; simp
  rw [ha, hw, ← Array.getElem?_toList]; exact hj
 ·intro v' w' hown' hgrow _ hat
  obtain ⟨g, cap, rfl⟩ := ownsRow_succ hown'
  refine h g cap w' hown' hgrow ?_ (hown'.lt g rfl).2
  rcases hat with hat | hat
  ·exact .inl hat.symm
  ·right
   have : g = (w0.alloc (.cells cs et)).heap.size := by simpa [Value.ownBlock] using hat
   rw [World.size_alloc] at this
   omega
end
section
open Go.RowKit Go.Shelf
theorem wpList_appP {P : Program} {ops : Array Oper} {rest : List Oper} {o : Oper} {a : Act} {Q : Exit → Act → World → Prop} (hgd : o.guard = none) (s x : Operand) (t : TypeId)
  (ho : o.op = .call { callee := .builtin .append, args := #[s, x], argTypes := #[t, t] })
  (B : Nat) (e : TypeId) (z : Value) (size bytes : Nat) (ht : P.underlying t = some (.slice e)) (hi : (P.info? e).map (fun i => (i.zero, i.size, i.bytes)) = some (some z, size, bytes)) (hzs : z.cells.size = size) (hsz : 0 < size)
  (v : Value) (k : Nat) (xs : List Value) (w0 : World) (hr : w0.ownsRow B e size v k xs) (hB : B ≤ w0.heap.size) (hs : a.eval s = v) (ad : Addr) (m c : Nat) (news : List Value)
  (hx : a.eval x = .slice (some ad) m c) (hl : news.length = m * size) (hn : ∀ j u, news[j]? = some u → w0.cell? (ad.add j) = some u) (h1 : ∀ u ∈ news, u.oneCell' = true) (h63 : (k + m) * bytes ≤ 140737488355328) (hb0 : 0 < bytes)
  (h : ∀ v' w', w'.ownsRow B e size v' (k + m) (xs ++ news) → Below B w0 w' → wpList P ops Q rest (a.put o.dst v') w') : wpList P ops Q (o :: rest) a w0 := by
 obtain ⟨i, hi', hz0, hz1, hz2⟩ := info_parts hi
 have hk : k + m ≤ 140737488355328 := Nat.le_trans (Nat.le_mul_of_pos_right (k + m) hb0) h63
 refine wpList_append_own_at w0 hgd s x t ho B e i z size bytes ht hi' hz0 hz1 hz2 hzs hsz v k xs hs hr ad m c news hx hl hn h1 (by unfold maxLen; omega) h63 hB ?_
 intro v' w' hown' hgrow _ _
 exact h v' w' hown' ((Below.refl B w0).grown hgrow hB (fun k e => (hr.lt k e).1))
theorem step_app2 {P : Program} {ops : Array Oper} {o : Oper} {a : Act} {K : Act → World → Prop} {Q : Exit → Act → World → Prop} {E : Prop} (hgd : o.guard = none) (s x : Operand) (t : TypeId)
  (ho : o.op = .call { callee := .builtin .append, args := #[s, x], argTypes := #[t, t] })
  (B : Nat) (e : TypeId) (z : Value) (size bytes : Nat) (ht : P.underlying t = some (.slice e)) (hi : (P.info? e).map (fun i => (i.zero, i.size, i.bytes)) = some (some z, size, bytes)) (hzs : z.cells.size = size) (hsz : 0 < size)
  (v : Value) (k : Nat) (xs : List Value) (w0 : World) (hr : w0.ownsRow B e size v k xs) (hB : B ≤ w0.heap.size) (hs : a.eval s = v) (cs : Array Value) (et : TypeId)
  (hx : a.eval x = .slice (some ⟨w0.heap.size, 0, none⟩) 1 1) (hl : cs.size = size) (h1 : ∀ u ∈ cs.toList, u.oneCell' = true) (h63 : (k + 1) * bytes ≤ 140737488355328) (hb0 : 0 < bytes)
  (h : ∀ g cap w', w'.ownsRow B e size (.slice (some ⟨g, 0, none⟩) (k + 1) cap) (k + 1) (xs ++ cs.toList) → (w0.alloc (.cells cs et)).grownBy w' v.ownBlock → (v.ownBlock = some g ∨ w0.heap.size ≤ g) → g < w'.heap.size →
   K (a.put o.dst (.slice (some ⟨g, 0, none⟩) (k + 1) cap)) w') : if Region.wanted o (yielded ops a.tmps) = true then Oper.wp P o a (w0.alloc (.cells cs et)) K Q else E := by
 have hw : Region.wanted o (yielded ops a.tmps) = true := by simp [Region.wanted, hgd]
 rw [if_pos hw]
 obtain ⟨i, hi', hz0, hz1, hz2⟩ := info_parts hi
 have hk : k + 1 ≤ 140737488355328 := Nat.le_trans (Nat.le_mul_of_pos_right (k + 1) hb0) h63
 obtain ⟨v', w', hr', hown', hgrow, _, hat⟩ := run_append_own_at (P := P) (w0.alloc (.cells cs et)) B t o.type e i z size bytes ht hi' hz0 hz1 hz2 hzs hsz v k xs (hr.alloc _) ⟨w0.heap.size, 0, none⟩ 1 1 cs.toList (by simpa using hl) (by
  intro j u hj
  have hw : (w0.alloc (.cells cs et)).cell? ⟨w0.heap.size, j, none⟩ = cs[j]? := World.cell?_alloc_mark w0 cs et (0, 0) j
  have ha : (⟨w0.heap.size, 0, none⟩ : Addr).add j = ⟨w0.heap.size, j, none⟩ := by rw [Addr.add_lit]; simp
  rw [ha, hw, ← Array.getElem?_toList]; exact hj) h1 (by unfold maxLen; omega) h63 (by simp; omega)
 unfold Oper.wp execOp
 simp only [ho, resolve, invoke, builtin, Sem.run_bind, Sem.run_pure, Result.andThen_ok, List.map_toArray, List.map_cons, List.map_nil, hs, hx, hr']
 obtain ⟨g, cap, rfl⟩ := ownsRow_succ hown'
 refine h g cap w' hown' ⟨hgrow.os, hgrow.tape, hgrow.output, hgrow.size, hgrow.block⟩ ?_ (hown'.lt g rfl).2
 rcases hat with hat | hat
 ·exact .inl hat.symm
 ·right
  have : g = (w0.alloc (.cells cs et)).heap.size := by simpa [Value.ownBlock] using hat
  simp at this
  omega
end
end Go.Proofs.YtogblcdefbnbeaaGreat
