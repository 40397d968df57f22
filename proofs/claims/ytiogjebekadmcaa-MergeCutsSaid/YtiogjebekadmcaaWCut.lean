
/- Walks: a row cut into lists, as a sequence of lists. Condition: rows whose bytes fit. -/
import Derived.Test.YtiogjebekadmcaaIt
import Derived.Test.YtiogjebekadmcaaWGroups2
import Derived.Test.YtiogjebekadmcaaPlainCt
namespace Go.Proofs.Ytiogjebekadmcaa
open Go.RowKit Go.Shelf

attribute [local go_sem] Oper.semAt_some

theorem mcut_any (f : Nat) (fl : Array Value) (by' : Int) (w : World) :
    Calls Try.prog 16 #[.func (.func f) #[] fl, .int .i64 by'] w fun e w' =>
      e = .returned (.func (.func 37) #[] #[.pointer (some ⟨w.heap.size, 0, none⟩), .pointer (some ⟨w.heap.size + 1, 0, none⟩)]) ∧
      w' = (w.alloc (.cells #[.func (.func f) #[] fl] 30)).alloc (.cells #[.int .i64 by'] 3) := by
  go_enter Try.func16, Try.ntmps16
  go_wp2
  go_ret
  exact ⟨rfl, rfl⟩

/-- 'append(v, x..)' of a slice of versions -/
theorem wpListIn_appv {F : Fence} {n : Nat} {P : Program} {ops : Array Oper} {rest : List Oper} {o : Oper} {a : Act} {Q : Exit → Act → World → Prop} (hgd : o.guard = none) (s x : Operand) (t : TypeId)
    (ho : o.op = .call { callee := .builtin .append, args := #[s, x], argTypes := #[t, t] })
    (B : Nat) (e : TypeId) (z : Value) (size bytes : Nat) (ht : P.underlying t = some (.slice e)) (hi : (P.info? e).map (fun i => (i.zero, i.size, i.bytes)) = some (some z, size, bytes)) (hzs : z.cells.size = size) (hsz : 0 < size)
    (v : Value) (k : Nat) (xs : List Value) (w0 : World) (hr : w0.ownsRow B e size v k xs) (hB : B ≤ w0.heap.size) (hs : a.eval s = v) (g2 m c : Nat) (ys : List Value) (base2 : Nat) (hr2 : w0.ownsRow base2 e size (.slice (some ⟨g2, 0, none⟩) (m + 1) c) (m + 1) ys)
    (hx : a.eval x = .slice (some ⟨g2, 0, none⟩) (m + 1) c) (h1 : ∀ u ∈ ys, u.oneCell' = true) (h63 : (k + (m + 1)) * bytes ≤ 140737488355328) (hb0 : 0 < bytes)
    (h : ∀ g cap w', w'.ownsRow B e size (.slice (some ⟨g, 0, none⟩) (k + (m + 1)) cap) (k + (m + 1)) (xs ++ ys) → w0.grownBy w' v.ownBlock → (v.ownBlock = some g ∨ w0.heap.size ≤ g) → g < w'.heap.size →
      wpListIn F n P ops Q rest (a.put o.dst (.slice (some ⟨g, 0, none⟩) (k + (m + 1)) cap)) w') : wpListIn F n P ops Q (o :: rest) a w0 := by
  obtain ⟨i, hi', hz0, hz1, hz2⟩ := info_parts hi
  have hk : k + (m + 1) ≤ 140737488355328 := Nat.le_trans (Nat.le_mul_of_pos_right (k + (m + 1)) hb0) h63
  refine wpListIn_append_own_at w0 hgd s x t ho B e i z size bytes ht hi' hz0 hz1 hz2 hzs hsz v k xs hs hr ⟨g2, 0, none⟩ (m + 1) c ys hx hr2.1 (fun j u hj => hr2.cells rfl j u hj) h1 (by unfold maxLen; omega) h63 hB ?_
  intro v' w' hown' hgrow _ hat
  obtain ⟨g, cap, rfl⟩ := ownsRow_succ hown'
  refine h g cap w' hown' hgrow ?_ (hown'.lt g rfl).2
  rcases hat with hat | hat
  · exact .inl hat.symm
  · right
    have : g = w0.heap.size := by simpa [Value.ownBlock] using hat
    omega
theorem vcells_cell (l : List Ver) : ∀ u ∈ vcells l, u.oneCell' = true := by
  induction l with
  | nil => intro u h; cases h
  | cons x l ih =>
    intro u h
    simp only [vcells, List.mem_cons] at h
    rcases h with rfl | rfl | rfl | rfl | h
    · rfl
    · rfl
    · rfl
    · rfl
    · exact ih u h

/-- the variables of Cut's range -/
def CutO (B lp : Nat) (v : Value) (g : List Ver) (n : Int) (fo : Nat → Prop) (W : World) : Prop :=
  Boxed W B 67 (.func (.yield lp) #[] #[]) ∧ Boxed W (B + 1) 22 v ∧ Boxed W (B + 1 + 1) 3 (.int .i64 n) ∧ W.ownsRow (B + 3) 44 4 v g.length (vcells g) ∧
    fo B ∧ fo (B + 1) ∧ fo (B + 1 + 1) ∧ ∀ k, v.ownBlock = some k → fo k
variable {B lp : Nat} {v : Value} {g : List Ver} {n : Int} {fo : Nat → Prop} {W : World}
theorem cutO_abide (B lp : Nat) (v : Value) (g : List Ver) (n : Int) : AbideO (CutO B lp v g n) := by
  rintro fo W W' ⟨h0, h1, h2, h3, f0, f1, f2, f3⟩ hk
  exact ⟨hk.boxed f0 h0, hk.boxed f1 h1, hk.boxed f2 h2, hk.ownsRow h3 f3, f0, f1, f2, f3⟩
theorem CutO.append (h : CutO B lp v g n fo W) (hlt : ∀ k, fo k → k < W.heap.size) {w1 : World} {x : List Ver} {g0 cap k : Nat} (hk : k = g.length + x.length)
    (hown' : w1.ownsRow (B + 3) 44 4 (.slice (some ⟨g0, 0, none⟩) k cap) k (vcells g ++ vcells x)) (hgrow : W.grownBy w1 v.ownBlock) (hat : v.ownBlock = some g0 ∨ W.heap.size ≤ g0) (hg0 : g0 < w1.heap.size) :
    Boxed w1 (B + 1) 22 v ∧ ∀ W2, W2 = w1.setCell ⟨B + 1, 0, none⟩ (.slice (some ⟨g0, 0, none⟩) k cap) →
      CutO B lp (.slice (some ⟨g0, 0, none⟩) k cap) (g ++ x) n (fun k => fo k ∨ k = g0) W2 ∧ Step fo (fun k => fo k ∨ k = g0) W W2 := by
  obtain ⟨h0, h1, h2, h3, f0, f1, f2, f3⟩ := h
  subst hk
  have n0 := h0.not_row (by decide) h3
  have n1 := h1.not_row (by decide) h3
  have n2 := h2.not_row (by decide) h3
  have b0 := h0.kept hgrow n0
  have b1 := h1.kept hgrow n1
  have b2 := h2.kept hgrow n2
  refine ⟨b1, ?_⟩
  rintro W2 rfl
  have hg1 : g0 ≠ B + 1 := fun e => by have := (hown'.lt g0 rfl).1; omega
  have hr2 := hown'.kept (grownBy_setCell' w1 (B + 1) (.slice (some ⟨g0, 0, none⟩) (g.length + x.length) cap)) (.inr (by simpa [Value.ownBlock] using hg1))
  refine ⟨⟨b0.other (by omega) _, b1.set _, b2.other (by omega) _, by rw [List.length_append, vcells_append]; exact hr2, .inl f0, .inl f1, .inl f2, fun k e => .inr (by simpa [Value.ownBlock] using e.symm)⟩, ?_⟩
  refine ⟨((Keep.refl _ W).grown hgrow (fun k e h _ => h (f3 k e))).setCell _ _ _ (fun h _ => h f1), ?_, ?_⟩
  · rintro k (hk | rfl)
    · exact .inl hk
    · exact hat.imp (f3 _) id
  · rintro k (hk | rfl)
    · rw [size_cell]; exact Nat.lt_of_lt_of_le (hlt k hk) hgrow.size
    · rw [size_cell]; exact hg0
/-- the count turned -/
theorem CutO.count (h : CutO B lp v g n fo W) (hlt : ∀ k, fo k → k < W.heap.size) {W' : World} {n' : Int} (hb : Boxed W' (B + 1 + 1) 3 (.int .i64 n')) (hk : Keep (fun k => k ≠ B + 1 + 1) W W') : CutO B lp v g n' fo W' ∧ Step fo fo W W' := by
  obtain ⟨h0, h1, h2, h3, f0, f1, f2, f3⟩ := h
  have n2 := h2.not_row (by decide) h3
  exact ⟨⟨hk.boxed (by omega) h0, hk.boxed (by omega) h1, hb, hk.ownsRow h3 (fun k e he => n2 (by rw [e, he])), f0, f1, f2, f3⟩, hk.mono (fun k hn _ e => hn (e ▸ f2)), fun _ h => .inl h, fun k hk' => Nat.lt_of_lt_of_le (hlt k hk') hk.size⟩
/-- the boxes alone -/
def CutB (B lp : Nat) (v : Value) (n : Int) (W : World) : Prop := Boxed W B 67 (.func (.yield lp) #[] #[]) ∧ Boxed W (B + 1) 22 v ∧ Boxed W (B + 1 + 1) 3 (.int .i64 n)
/-- the list passes to the caller -/
theorem CutO.split (h : CutO B lp v g n fo W) (hg : g ≠ []) : (∀ k, (k = B ∨ k = B + 1 ∨ k = B + 1 + 1) ∨ v.ownBlock = some k → fo k) ∧ (∀ k, (k = B ∨ k = B + 1 ∨ k = B + 1 + 1) → ¬ v.ownBlock = some k) ∧ CutB B lp v n W ∧ ElV g v (fun k => v.ownBlock = some k) W ∧ ∀ k, v.ownBlock = some k → B + 3 ≤ k ∧ k < W.heap.size := by
  obtain ⟨h0, h1, h2, h3, f0, f1, f2, f3⟩ := h
  refine ⟨?_, ?_, ⟨h0, h1, h2⟩, ⟨⟨h3.1, ?_⟩, hg, fun _ e => e⟩, h3.lt⟩
  · rintro k ((rfl | rfl | rfl) | h)
    · exact f0
    · exact f1
    · exact f2
    · exact f3 k h
  · rintro k hk e
    have := (h3.lt k e).1
    omega
  · rcases h3.2 with h | ⟨b, cap, cur, e1, e2, e3⟩
    · exact .inl h
    · exact .inr ⟨b, cap, cur, e1, Nat.zero_le _, e3⟩
theorem CutB.keep {W' : World} {f : Nat → Prop} (h : CutB B lp v n W) (hk : Keep f W W') (hf : f B ∧ f (B + 1) ∧ f (B + 1 + 1)) : CutB B lp v n W' := ⟨hk.boxed hf.1 h.1, hk.boxed hf.2.1 h.2.1, hk.boxed hf.2.2 h.2.2⟩
theorem CutB.fresh (h : CutB B lp v n W) (hf : ∀ k, k = B ∨ k = B + 1 ∨ k = B + 1 + 1 → fo k) (hlt : ∀ k, fo k → k < W.heap.size) :
    CutO B lp (.slice none 0 0) [] 0 fo ((W.setCell ⟨B + 1, 0, none⟩ (.slice none 0 0)).setCell ⟨B + 1 + 1, 0, none⟩ (.int .i64 0)) ∧ Step fo fo W ((W.setCell ⟨B + 1, 0, none⟩ (.slice none 0 0)).setCell ⟨B + 1 + 1, 0, none⟩ (.int .i64 0)) := by
  obtain ⟨h0, h1, h2⟩ := h
  refine ⟨⟨(h0.other (by omega) _).other (by omega) _, (h1.set _).other (by omega) _, (h2.other (by omega) _).set _, World.ownsRow_nil _ _ _ _, hf _ (.inl rfl), hf _ (.inr (.inl rfl)), hf _ (.inr (.inr rfl)), fun k e => by cases e⟩, ?_⟩
  exact (Step.cell hlt (hf _ (.inr (.inl rfl))) _).trans (Step.cell (fun k hk => by rw [size_cell]; exact hlt k hk) (hf _ (.inr (.inr rfl))) _)
end Go.Proofs.Ytiogjebekadmcaa
