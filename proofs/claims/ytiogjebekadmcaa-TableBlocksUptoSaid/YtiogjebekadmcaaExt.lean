
/- Bytes that a text was turned into, and what is appended to them. Condition: none. -/
import Derived.Test.YtiogjebekadmcaaOwn
import Derived.ArgAppend
namespace Go.Proofs.Ytiogjebekadmcaa
open Go.RowKit
variable {P : Program}

/-- v holds the bytes l, in a block from B on, and may be appended to; below B nothing has turned since w0 -/
def Ext (B : Nat) (e : TypeId) (w0 : World) (v : Value) (l : List UInt8) (w : World) : Prop :=
  Own B e 1 v l.length (bcells l) w0 w ∨
  (Below B w0 w ∧ B ≤ w.heap.size ∧ ∃ g cap, v = .slice (some ⟨g, 0, none⟩) l.length cap ∧ B ≤ g ∧ g < w.heap.size ∧ l.length ≤ cap ∧ cap ≤ maxLen ∧
    (∀ j (hj : j < l.length), w.cell? ⟨g, j, none⟩ = some (.int .u8 (l[j].toNat : Int))) ∧ (∀ j, j < cap → (w.cell? ⟨g, j, none⟩).isSome = true ∧ w.frozen? ⟨g, j, none⟩ = false))
theorem Ext.below {B : Nat} {e : TypeId} {w0 w : World} {v : Value} {l : List UInt8} (h : Ext B e w0 v l w) : Below B w0 w := by
  rcases h with h | h
  · exact h.2.1
  · exact h.1
theorem ownsRow_low {w : World} {b b' : Nat} {e : TypeId} {size n : Nat} {v : Value} {xs : List Value} (h : w.ownsRow b e size v n xs) (hb : b' ≤ b) : w.ownsRow b' e size v n xs := by
  rcases h with ⟨h0, h | ⟨g, cap, cur, hv, hg, h⟩⟩
  · exact ⟨h0, .inl h⟩
  · exact ⟨h0, .inr ⟨g, cap, cur, hv, Nat.le_trans hb hg, h⟩⟩

/-- '[]byte(s)' -/
theorem wpList_bytes_ext {ops : Array Oper} {rest : List Oper} {o : Oper} {a : Act} {Q : Exit → Act → World → Prop} {w : World} (hgd : o.guard = none) (x : Operand) (src dst e : TypeId)
    (ho : o.op = .convert src dst x) (hs : P.underlying src = some .string) (hd : P.underlying dst = some (.slice e)) (he : P.underlying e = some (.int .u8))
    (l : List UInt8) (hx : a.eval x = .string ⟨l.toArray⟩) (B : Nat) (w0 : World) (hB : B ≤ w.heap.size) (hb : Below B w0 w) (hl : l.length ≤ 281474976710656)
    (h : ∀ v w1, Ext B e w0 v l w1 → wpList P ops Q rest (a.put o.dst v) w1) : wpList P ops Q (o :: rest) a w := by
  refine wpList_plain hgd fun K hK => ?_
  unfold Oper.wp execOp
  have hr := run_bytes_of_string (P := P) w src dst e ⟨l.toArray⟩ hs hd he
  simp only [ho, hx, Sem.run_bind, hr, Result.andThen_ok, Sem.run_pure]
  have hsz : (⟨l.toArray⟩ : ByteArray).size = l.length := by simp [ByteArray.size]
  have hge := grownCap_ge w l.length 0 e
  have hrow : (bytesRow ⟨l.toArray⟩ (grownCap w l.length 0 e)).size = grownCap w l.length 0 e := by
    unfold bytesRow
    simp
    omega
  refine hK _ _ (h _ _ (.inr ⟨(hb.trans ((Below.refl B w).drew)).alloc hB _, by simp; omega, w.heap.size, grownCap w l.length 0 e, by rw [hsz], hB, by simp, hge, grownCap_le_maxLen w l.length 0 e (by unfold maxLen; omega), ?_, ?_⟩))
  · intro j hj
    rw [show w.heap.size = w.drew.heap.size from rfl, World.cell?_alloc_mark, hsz, bytesRow_at _ _ _ (by simpa using hj)]
    simp
  · intro j hj
    constructor
    · rw [show w.heap.size = w.drew.heap.size from rfl, World.cell?_alloc_mark, hsz, Array.getElem?_eq_getElem (by rw [hrow]; exact hj)]
      rfl
    · rw [show w.heap.size = w.drew.heap.size from rfl, World.frozen?_alloc_mark, hsz, hrow]
      simp; omega

/-- 'append(v, c)' -/
theorem wpList_app_ext {ops : Array Oper} {rest : List Oper} {o : Oper} {a : Act} {Q : Exit → Act → World → Prop} (hgd : o.guard = none) (s x : Operand) (t : TypeId)
    (ho : o.op = .call { callee := .builtin .append, args := #[s, x], argTypes := #[t, t] })
    (B : Nat) (e : TypeId) (ht : P.underlying t = some (.slice e)) (hi : (P.info? e).map (fun i => (i.zero, i.size, i.bytes)) = some (some (.int .u8 0), 1, 1))
    (v : Value) (l : List UInt8) (c : Int) (W0 w0 : World) (hb : Ext B e W0 v l w0) (hs : a.eval s = v)
    (hx : a.eval x = .slice (some ⟨w0.heap.size, 0, none⟩) 1 1) (hc : 0 ≤ c ∧ c ≤ 255) (hbytes : l.length + 1 ≤ 140737488355328)
    (h : ∀ v' w', Ext B e W0 v' (l ++ [UInt8.ofNat c.toNat]) w' → wpList P ops Q rest (a.put o.dst v') w') : wpList P ops Q (o :: rest) a (w0.alloc (.cells #[.int .u8 c] e)) := by
  rcases hb with hb | ⟨hbl, hB, g, cap, rfl, hBg, hg, hle, hm, hcell, hfree⟩
  · exact wpList_appb hgd s x t ho B e ht hi v l.length l c W0 w0 hb hs hx hc hbytes (fun v' w' ho' => h v' w' (.inl ho'))
  · obtain ⟨i, hi', hz0, hz1, hz2⟩ := info_parts hi
    have ec : c = ((UInt8.ofNat c.toNat).toNat : Int) := by rw [UInt8.toNat_ofNat']; omega
    obtain ⟨w, hw⟩ : ∃ w, w = w0.alloc (.cells #[.int .u8 c] e) := ⟨_, rfl⟩
    have hwc : ∀ j : Nat, w.cell? ⟨g, j, none⟩ = w0.cell? ⟨g, j, none⟩ := fun j => by rw [hw]; exact ((Below.refl w0.heap.size w0).alloc (Nat.le_refl _) _).cell (p := ⟨g, j, none⟩) hg
    have hwf : ∀ j : Nat, w.frozen? ⟨g, j, none⟩ = w0.frozen? ⟨g, j, none⟩ := fun j => by rw [hw]; exact World.frozen?_of_block (a := ⟨g, j, none⟩) (((Below.refl w0.heap.size w0).alloc (Nat.le_refl _) _).block g hg)
    have hnew : ∀ j u, ([.int .u8 c] : List Value)[j]? = some u → w.cell? ((⟨w0.heap.size, 0, none⟩ : Addr).add j) = some u := fun j u hj => by
      rw [Addr.add_lit, Nat.zero_add, hw, World.cell?_alloc_mark w0 #[.int .u8 c] e (0, 0) j, ← Array.getElem?_toList]
      exact hj
    have hone : ∀ u ∈ ([.int .u8 c] : List Value), u.oneCell' = true := by simp [Value.oneCell']
    have hbw : Below B W0 w := by rw [hw]; exact hbl.alloc hB _
    have hsw : w.heap.size = w0.heap.size + 1 := by rw [hw]; simp
    rw [← hw]
    refine wpList_plain hgd fun K hK => ?_
    have heq : ([.int .u8 c] : List Value).length = 1 * i.size := by rw [hz1]; rfl
    by_cases hroom : l.length + 1 ≤ cap
    · have hr := run_append_room_cells (P := P) w t o.type e i ht hi' g 0 l.length cap ⟨w0.heap.size, 0, none⟩ 1 1 [.int .u8 c] heq hnew hone hroom
        (fun j hj => by rw [hwc]; exact (hfree _ (by rw [hz1]; simp at hj; omega)).1) (fun j hj => by rw [hwf]; exact (hfree _ (by rw [hz1]; simp at hj; omega)).2)
      unfold Oper.wp
      simp [execOp, ho, resolve, invoke, builtin, hs, hx, hr, Result.andThen]
      refine hK _ _ (h _ _ (.inr ?_))
      have hst : w.setCells g (0 + l.length * i.size) [.int .u8 c] = w.setCell ⟨g, l.length, none⟩ (.int .u8 c) := by
        rw [hz1, Nat.mul_one, Nat.zero_add]; rfl
      have hgw : g < w.heap.size := by omega
      have hsome : (w.cell? ⟨g, l.length, none⟩).isSome = true := by rw [hwc]; exact (hfree _ (by omega)).1
      simp only [Nat.zero_add] at hst ⊢
      rw [hst]
      have hsz2 : (w.setCell ⟨g, l.length, none⟩ (.int .u8 c)).heap.size = w.heap.size := by simp
      refine ⟨hbw.setCell hBg _, by rw [hsz2]; omega, g, cap, by simp, hBg, by rw [hsz2]; exact hgw, by simp; omega, hm, ?_, ?_⟩
      · intro j hj
        by_cases hjl : j < l.length
        · rw [World.cell?_setCell_other _ _ _ _ (by simp <;> omega), hwc, hcell j hjl, List.getElem_append_left hjl]
        · obtain rfl : j = l.length := by simp at hj; omega
          obtain ⟨u, hu⟩ := Option.isSome_iff_exists.1 hsome
          rw [World.cell?_setCell_same _ _ _ hu]
          simp
          omega
      · intro j hj
        constructor
        · by_cases hjl : j = l.length
          · subst hjl
            obtain ⟨u, hu⟩ := Option.isSome_iff_exists.1 hsome
            rw [World.cell?_setCell_same _ _ _ hu]; rfl
          · rw [World.cell?_setCell_other _ _ _ _ (by simp <;> omega), hwc]
            exact (hfree j hj).1
        · rw [World.frozen?_setCell, hwf]
          exact (hfree j hj).2
    · obtain ⟨v', w', hr, hown, hgr⟩ := run_append_arg_grows (P := P) w t o.type e i (.int .u8 0) 1 1 ht hi' hz0 hz1 hz2 rfl (by decide) ⟨g, 0, none⟩ l.length cap (bcells l) (by simp [bcells_length])
        (fun j u hj => by
          rw [Addr.add_lit, Nat.zero_add, hwc]
          unfold bcells at hj
          rw [List.getElem?_map] at hj
          cases hjl : l[j]? with
          | none => rw [hjl] at hj; cases hj
          | some b =>
            rw [hjl] at hj
            obtain ⟨hlt, hb⟩ := List.getElem?_eq_some_iff.1 hjl
            rw [hcell j hlt, hb]; exact hj) ⟨w0.heap.size, 0, none⟩ 1 1 [.int .u8 c] (by rfl) hnew (by omega) (by unfold maxLen; omega) (by omega)
      unfold Oper.wp
      simp [execOp, ho, resolve, invoke, builtin, hs, hx, hr, Result.andThen]
      refine hK _ _ (h _ _ (.inl ⟨?_, ?_, ?_⟩))
      · have := ownsRow_low hown (show B ≤ w.heap.size by omega)
        rw [ec] at this
        have e2 : bcells l ++ [Value.int .u8 ((UInt8.ofNat c.toNat).toNat : Int)] = bcells (l ++ [UInt8.ofNat c.toNat]) := by simp [bcells]
        rw [e2] at this
        simpa using this
      · exact hbw.trans ⟨hgr.os, hgr.tape, hgr.output, hgr.size, fun k hk => hgr.block k (by omega) (by simp)⟩
      · have := hgr.size; omega

/-- 'string(v)' -/
theorem wpList_str_ext {ops : Array Oper} {rest : List Oper} {o : Oper} {a : Act} {Q : Exit → Act → World → Prop} {w : World} (hgd : o.guard = none) (x : Operand) (src dst e : TypeId)
    (ho : o.op = .convert src dst x) (hs : P.underlying src = some (.slice e)) (he : P.underlying e = some (.int .u8)) (hd : P.underlying dst = some .string)
    {B : Nat} {W0 : World} {v : Value} {l : List UInt8} (hx : a.eval x = v) (hb : Ext B e W0 v l w)
    (h : wpList P ops Q rest (a.put o.dst (.string ⟨l.toArray⟩)) w) : wpList P ops Q (o :: rest) a w := by
  rcases hb with hb | ⟨hbl, hB, g, cap, rfl, hBg, hg, hle, hm, hcell, hfree⟩
  · exact wpList_str hgd x src dst e ho hs he hd hx hb h
  · exact wpList_strc hgd x src dst e ho hs he hd l g cap l.length hx rfl hcell h
end Go.Proofs.Ytiogjebekadmcaa
