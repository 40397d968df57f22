
/- Laws for slices that a call makes and owns: append, conversion to a string. Condition: none. -/
import Derived.Test.YtndekdgpibipnaaQBase

namespace Go.Proofs.Ytndekdgpibipnaa
open Go.RowKit

/-- in w the slice v owns n elements (each of 'size' cells) that are xs, in a block from B on; below B nothing has turned since W0 -/
def Own (B : Nat) (e : TypeId) (size : Nat) (v : Value) (n : Nat) (xs : List Value) (W0 w : World) : Prop :=
  w.ownsRow B e size v n xs ∧ Below B W0 w ∧ B ≤ w.heap.size

theorem Own.nil {e : TypeId} {size : Nat} {W0 w : World} {B : Nat} (h : Below B W0 w) (hB : B ≤ w.heap.size) : Own B e size (.slice none 0 0) 0 [] W0 w :=
  ⟨World.ownsRow_nil _ _ _ _, h, hB⟩
theorem Own.below {B : Nat} {e : TypeId} {size : Nat} {v : Value} {n : Nat} {xs : List Value} {W0 w : World} (h : Own B e size v n xs W0 w) : Below B W0 w := h.2.1
theorem Own.length {B : Nat} {e : TypeId} {size : Nat} {v : Value} {n : Nat} {xs : List Value} {W0 w : World} (h : Own B e size v n xs W0 w) : xs.length = n * size := h.1.1
theorem Own.grown {B : Nat} {e : TypeId} {size : Nat} {v v' : Value} {n n' : Nat} {xs xs' : List Value} {W0 w w' : World} (h : Own B e size v n xs W0 w) (ho : w'.ownsRow B e size v' n' xs') (hg : w.grownBy w' v.ownBlock) :
    Own B e size v' n' xs' W0 w' :=
  ⟨ho, h.2.1.grown hg h.2.2 (fun k hk => (h.1.lt k hk).1), Nat.le_trans h.2.2 hg.size⟩
theorem Own.alloc {B : Nat} {e : TypeId} {size : Nat} {v : Value} {n : Nat} {xs : List Value} {W0 w : World} (h : Own B e size v n xs W0 w) (o : Obj) : Own B e size v n xs W0 (w.alloc o) :=
  ⟨h.1.alloc o, h.2.1.alloc h.2.2 o, Nat.le_trans h.2.2 ((Below.refl 0 w).alloc (Nat.zero_le _) o).size⟩
theorem Own.drewN {B : Nat} {e : TypeId} {size : Nat} {v : Value} {n : Nat} {xs : List Value} {W0 w : World} (h : Own B e size v n xs W0 w) (q : Nat) : Own B e size v n xs W0 (w.drewN q) :=
  ⟨h.1, ⟨h.2.1.os, h.2.1.tape, h.2.1.output, h.2.1.size, h.2.1.block⟩, h.2.2⟩
theorem Own.drew {B : Nat} {e : TypeId} {size : Nat} {v : Value} {n : Nat} {xs : List Value} {W0 w : World} (h : Own B e size v n xs W0 w) : Own B e size v n xs W0 w.drew := h.drewN 1
/-- a callee that has made memory alone -/
theorem Own.beyond {B : Nat} {e : TypeId} {size : Nat} {v : Value} {n : Nat} {xs : List Value} {W0 w w1 : World} (h : Own B e size v n xs W0 w) (hb : Below w.heap.size w w1) : Own B e size v n xs W0 w1 :=
  ⟨h.1.kept (row := none) ⟨hb.os, hb.tape, hb.output, hb.size, fun k hk _ => hb.block k hk⟩ (by cases v.ownBlock <;> simp),
   h.2.1.trans (hb.mono h.2.2), Nat.le_trans h.2.2 hb.size⟩

/-- the cells of bytes -/
def bcells (l : List UInt8) : List Value := l.map fun b => .int .u8 (b.toNat : Int)
theorem bcells_length (l : List UInt8) : (bcells l).length = l.length := by simp [bcells]
theorem bcells_append (l r : List UInt8) : bcells (l ++ r) = bcells l ++ bcells r := by simp [bcells]
theorem bcells_nil : bcells [] = [] := rfl
theorem bcells_one (l : List UInt8) (c : UInt8) : bcells l ++ (#[Value.int .u8 (c.toNat : Int)] : Array Value).toList = bcells (l ++ [c]) := by simp [bcells]
theorem bcells_two (l : List UInt8) (c d : UInt8) : bcells l ++ (#[Value.int .u8 (c.toNat : Int), Value.int .u8 (d.toNat : Int)] : Array Value).toList = bcells (l ++ [c, d]) := by simp [bcells]

section
variable {P : Program}

/-- 'append(v, x1, .., xm)': the new elements lie in the block that the statement has just laid -/
theorem wpList_app {ops : Array Oper} {rest : List Oper} {o : Oper} {a : Act} {Q : Exit → Act → World → Prop} (hgd : o.guard = none) (s x : Operand) (t : TypeId)
    (ho : o.op = .call { callee := .builtin .append, args := #[s, x], argTypes := #[t, t] })
    (B : Nat) (e : TypeId) (z : Value) (size bytes : Nat) (ht : P.underlying t = some (.slice e)) (hi : (P.info? e).map (fun i => (i.zero, i.size, i.bytes)) = some (some z, size, bytes)) (hzs : z.cells.size = size) (hsz : 0 < size)
    (v : Value) (n : Nat) (xs : List Value) (W0 w0 : World) (hb : Own B e size v n xs W0 w0) (hs : a.eval s = v) (cs : Array Value) (m : Nat)
    (hx : a.eval x = .slice (some ⟨w0.heap.size, 0, none⟩) m m) (hl : cs.size = m * size) (h1 : ∀ u ∈ cs.toList, u.oneCell' = true) (h63 : n + m ≤ 9223372036854775807) (hbytes : (n + m) * bytes ≤ 140737488355328)
    (h : ∀ v' w', Own B e size v' (n + m) (xs ++ cs.toList) W0 w' → wpList P ops Q rest (a.put o.dst v') w') : wpList P ops Q (o :: rest) a (w0.alloc (.cells cs e)) := by
  obtain ⟨i, hi', hz0, hz1, hz2⟩ := info_parts hi
  have hb' := hb.alloc (.cells cs e)
  refine wpList_append_own _ hgd s x t ho B e i z size bytes ht hi' hz0 hz1 hz2 hzs hsz v n xs hs hb'.1 ⟨w0.heap.size, 0, none⟩ m m cs.toList hx (by simpa using hl) ?_ h1 (by unfold maxLen; omega) hbytes hb'.2.2 ?_
  · intro j u hj
    have hw : (w0.alloc (.cells cs e)).cell? ⟨w0.heap.size, j, none⟩ = cs[j]? := World.cell?_alloc_mark w0 cs e (0, 0) j
    have ha : (⟨w0.heap.size, 0, none⟩ : Addr).add j = ⟨w0.heap.size, j, none⟩ := by rw [Addr.add_lit]; simp
    rw [ha, hw, ← Array.getElem?_toList]; exact hj
  · intro v' w' ho' hg _
    exact h v' w' (hb'.grown ho' hg)

/-- 'append(v, c)' of one byte -/
theorem wpList_appb {ops : Array Oper} {rest : List Oper} {o : Oper} {a : Act} {Q : Exit → Act → World → Prop} (hgd : o.guard = none) (s x : Operand) (t : TypeId)
    (ho : o.op = .call { callee := .builtin .append, args := #[s, x], argTypes := #[t, t] })
    (B : Nat) (e : TypeId) (ht : P.underlying t = some (.slice e)) (hi : (P.info? e).map (fun i => (i.zero, i.size, i.bytes)) = some (some (.int .u8 0), 1, 1))
    (v : Value) (n : Nat) (l : List UInt8) (c : Int) (W0 w0 : World) (hb : Own B e 1 v n (bcells l) W0 w0) (hs : a.eval s = v)
    (hx : a.eval x = .slice (some ⟨w0.heap.size, 0, none⟩) 1 1) (hc : 0 ≤ c ∧ c ≤ 255) (hbytes : l.length + 1 ≤ 140737488355328)
    (h : ∀ v' w', Own B e 1 v' (l ++ [UInt8.ofNat c.toNat]).length (bcells (l ++ [UInt8.ofNat c.toNat])) W0 w' → wpList P ops Q rest (a.put o.dst v') w') : wpList P ops Q (o :: rest) a (w0.alloc (.cells #[.int .u8 c] e)) := by
  have hn : n = l.length := by have := hb.length; rw [bcells_length] at this; omega
  subst hn
  have ec : c = ((UInt8.ofNat c.toNat).toNat : Int) := by rw [UInt8.toNat_ofNat']; omega
  refine wpList_app hgd s x t ho B e (.int .u8 0) 1 1 ht hi rfl (by decide) v l.length (bcells l) W0 w0 hb hs #[.int .u8 c] 1 hx rfl (by simp [Value.oneCell']) (by omega) (by omega) ?_
  intro v' w' hown
  rw [ec, bcells_one] at hown
  exact h v' w' (by simpa using hown)

/-- 'append(v, c, d)' of two bytes -/
theorem wpList_appb2 {ops : Array Oper} {rest : List Oper} {o : Oper} {a : Act} {Q : Exit → Act → World → Prop} (hgd : o.guard = none) (s x : Operand) (t : TypeId)
    (ho : o.op = .call { callee := .builtin .append, args := #[s, x], argTypes := #[t, t] })
    (B : Nat) (e : TypeId) (ht : P.underlying t = some (.slice e)) (hi : (P.info? e).map (fun i => (i.zero, i.size, i.bytes)) = some (some (.int .u8 0), 1, 1))
    (v : Value) (n : Nat) (l : List UInt8) (c d : Int) (W0 w0 : World) (hb : Own B e 1 v n (bcells l) W0 w0) (hs : a.eval s = v)
    (hx : a.eval x = .slice (some ⟨w0.heap.size, 0, none⟩) 2 2) (hc : 0 ≤ c ∧ c ≤ 255) (hd : 0 ≤ d ∧ d ≤ 255) (hbytes : l.length + 2 ≤ 140737488355328)
    (h : ∀ v' w', Own B e 1 v' (l ++ [UInt8.ofNat c.toNat, UInt8.ofNat d.toNat]).length (bcells (l ++ [UInt8.ofNat c.toNat, UInt8.ofNat d.toNat])) W0 w' → wpList P ops Q rest (a.put o.dst v') w') :
    wpList P ops Q (o :: rest) a (w0.alloc (.cells #[.int .u8 c, .int .u8 d] e)) := by
  have hn : n = l.length := by have := hb.length; rw [bcells_length] at this; omega
  subst hn
  have ec : c = ((UInt8.ofNat c.toNat).toNat : Int) := by rw [UInt8.toNat_ofNat']; omega
  have ed : d = ((UInt8.ofNat d.toNat).toNat : Int) := by rw [UInt8.toNat_ofNat']; omega
  refine wpList_app hgd s x t ho B e (.int .u8 0) 1 1 ht hi rfl (by decide) v l.length (bcells l) W0 w0 hb hs #[.int .u8 c, .int .u8 d] 2 hx rfl (by simp [Value.oneCell']) (by omega) (by omega) ?_
  intro v' w' hown
  rw [ec, ed, bcells_two] at hown
  exact h v' w' (by simpa using hown)
theorem ofNat_cast (b : UInt8) : UInt8.ofNat ((b.toNat : Int)).toNat = b := by simp

theorem run_string_own (w : World) (src dst e : TypeId) {B : Nat} {W0 : World} {v : Value} {n : Nat} {l : List UInt8} (hs : P.underlying src = some (.slice e)) (he : P.underlying e = some (.int .u8)) (hd : P.underlying dst = some .string)
    (hb : Own B e 1 v n (bcells l) W0 w) : (convert src dst v).run P w = .ok (.string ⟨l.toArray⟩) w := by
  have hn : n = l.length := by have := hb.length; rw [bcells_length] at this; omega
  subst hn
  rcases hb.1.2 with ⟨rfl, h0⟩ | ⟨g, cap, cur, rfl, _, hg, hle, hm, hc, ht⟩
  · have : l = [] := List.length_eq_zero_iff.1 h0
    subst this
    rw [run_convert_bytes_string w src dst e none 0 0 hs he hd]
    have := run_bytesToString (P := P) w ⟨0, 0, none⟩ 0 0 [] (by have := run_loadCells_list (P := P) w ⟨0, 0, none⟩ [] (by simp); simpa using this)
    simp [Conv.bytesToString] at this ⊢
    rfl
  · refine run_convert_bytes_back w src dst e ⟨g, 0, none⟩ cap l hs he hd ?_
    intro j hj
    have hcell := World.ownsRow.cellAt hb.1 j (by omega)
    have ha : (⟨g, 0, none⟩ : Addr).add j = ⟨g, j, none⟩ := by rw [Addr.add_lit]; simp
    rw [ha, hcell]
    simp [bcells, hj]

/-- 'string(v)' -/
theorem wpList_str {ops : Array Oper} {rest : List Oper} {o : Oper} {a : Act} {Q : Exit → Act → World → Prop} {w : World} (hgd : o.guard = none) (x : Operand) (src dst e : TypeId)
    (ho : o.op = .convert src dst x) (hs : P.underlying src = some (.slice e)) (he : P.underlying e = some (.int .u8)) (hd : P.underlying dst = some .string)
    {B : Nat} {W0 : World} {v : Value} {n : Nat} {l : List UInt8} (hx : a.eval x = v) (hb : Own B e 1 v n (bcells l) W0 w)
    (h : wpList P ops Q rest (a.put o.dst (.string ⟨l.toArray⟩)) w) : wpList P ops Q (o :: rest) a w := by
  refine wpList_plain hgd fun K hK => ?_
  unfold Oper.wp execOp
  simp only [ho, hx, Sem.run_bind, run_string_own w src dst e hs he hd hb, Result.andThen_ok, Sem.run_pure]
  exact hK _ _ h

/-- 'string(v)' of a slice whose cells are known -/
theorem wpList_strc {ops : Array Oper} {rest : List Oper} {o : Oper} {a : Act} {Q : Exit → Act → World → Prop} {w : World} (hgd : o.guard = none) (x : Operand) (src dst e : TypeId)
    (ho : o.op = .convert src dst x) (hs : P.underlying src = some (.slice e)) (he : P.underlying e = some (.int .u8)) (hd : P.underlying dst = some .string)
    (l : List UInt8) (g cap n : Nat) (hx : a.eval x = .slice (some ⟨g, 0, none⟩) n cap) (hn : n = l.length) (hc : ∀ j (hj : j < l.length), w.cell? ⟨g, j, none⟩ = some (.int .u8 (l[j].toNat : Int)))
    (h : wpList P ops Q rest (a.put o.dst (.string ⟨l.toArray⟩)) w) : wpList P ops Q (o :: rest) a w := by
  refine wpList_plain hgd fun K hK => ?_
  unfold Oper.wp execOp
  subst hn
  have hr := run_convert_bytes_back (P := P) w src dst e ⟨g, 0, none⟩ cap l hs he hd (fun j hj => by rw [Addr.add_lit]; simpa using hc j hj)
  simp only [ho, hx, Sem.run_bind, hr, Result.andThen_ok, Sem.run_pure]
  exact hK _ _ h

/-- '[]byte(s)': a new row of the bytes -/
theorem wpList_bytes {ops : Array Oper} {rest : List Oper} {o : Oper} {a : Act} {Q : Exit → Act → World → Prop} {w : World} (hgd : o.guard = none) (x : Operand) (src dst e : TypeId)
    (ho : o.op = .convert src dst x) (hs : P.underlying src = some .string) (hd : P.underlying dst = some (.slice e)) (he : P.underlying e = some (.int .u8))
    (s : ByteArray) (hx : a.eval x = .string s)
    (h : ∀ (cap : Nat) (w1 : World), s.size ≤ cap → (∀ j (hj : j < s.size), w1.cell? ⟨w.heap.size, j, none⟩ = some (.int .u8 (s[j].toNat : Int))) → (∀ j, j < s.size → w1.frozen? ⟨w.heap.size, j, none⟩ = false) →
      Below w.heap.size w w1 → w1.heap.size = w.heap.size + 1 → wpList P ops Q rest (a.put o.dst (.slice (some ⟨w.heap.size, 0, none⟩) s.size cap)) w1) : wpList P ops Q (o :: rest) a w := by
  refine wpList_plain hgd fun K hK => ?_
  unfold Oper.wp execOp
  have hr := run_bytes_of_string (P := P) w src dst e s hs hd he
  simp only [ho, hx, Sem.run_bind, hr, Result.andThen_ok, Sem.run_pure]
  refine hK _ _ (h _ _ (grownCap_ge _ _ _ _) ?_ ?_ ((Below.refl _ w).drew.alloc (Nat.le_refl _) _) (by simp))
  · intro j hj
    rw [show w.heap.size = w.drew.heap.size from rfl, World.cell?_alloc_mark, bytesRow_at _ _ _ hj]
    rfl
  · intro j hj
    rw [show w.heap.size = w.drew.heap.size from rfl, World.frozen?_alloc_mark]
    have : s.size ≤ (bytesRow s (grownCap w s.size 0 e)).size := by unfold bytesRow; simp
    simp
    intro h; omega
end
end Go.Proofs.Ytndekdgpibipnaa
