
/- Plain law: what is seen of a row of versions at a sequence number; where its groups begin. Condition: none. -/
import Derived.Test.YtiogjebekadmcaaVers
namespace Go.Proofs.Ytiogjebekadmcaa.Pl

/-- a pair -/
abbrev PV := ByteArray × ByteArray
/-- where one stands: the key at hand, whether there is one, whether something was seen of it -/
structure PSt where
  key : ByteArray
  begun : Bool
  seen : Bool
def PSt.fresh (s : PSt) (v : Ver) : Bool := !s.begun || !(v.key.toList == s.key.toList)
def pskip (lo : ByteArray) (sq : Nat) (s : PSt) (v : Ver) : Bool := (if s.fresh v then false else s.seen) || Op.bytesLess v.key.toList lo.toList || decide (sq < v.seq)
def pst1 (lo : ByteArray) (sq : Nat) (s : PSt) (v : Ver) : PSt := if pskip lo sq s v then ⟨v.key, true, if s.fresh v then false else s.seen⟩ else ⟨v.key, true, true⟩
def pout1 (lo : ByteArray) (sq : Nat) (s : PSt) (v : Ver) : List PV := if pskip lo sq s v then [] else if v.del then [] else [(v.key, v.val)]
def prun (lo : ByteArray) (sq : Nat) : PSt → List Ver → List PV
  | _, [] => []
  | s, v :: l => pout1 lo sq s v ++ prun lo sq (pst1 lo sq s v) l
def pst (lo : ByteArray) (sq : Nat) : PSt → List Ver → PSt
  | s, [] => s
  | s, v :: l => pst lo sq (pst1 lo sq s v) l
def s0 : PSt := ⟨.empty, false, false⟩

variable {lo : ByteArray} {sq : Nat}

theorem prun_append (s : PSt) (a b : List Ver) : prun lo sq s (a ++ b) = prun lo sq s a ++ prun lo sq (pst lo sq s a) b := by
  induction a generalizing s with
  | nil => rfl
  | cons v a ih => simp only [List.cons_append, prun, pst, ih, List.append_assoc]
theorem pst_append (s : PSt) (a b : List Ver) : pst lo sq s (a ++ b) = pst lo sq (pst lo sq s a) b := by
  induction a generalizing s with
  | nil => rfl
  | cons v a ih => simp only [List.cons_append, pst, ih]
theorem prun_snoc (s : PSt) (a : List Ver) (x : Ver) : prun lo sq s (a ++ [x]) = prun lo sq s a ++ pout1 lo sq (pst lo sq s a) x := by
  rw [prun_append]; simp [prun]
theorem pst_snoc (s : PSt) (a : List Ver) (x : Ver) : pst lo sq s (a ++ [x]) = pst1 lo sq (pst lo sq s a) x := by
  rw [pst_append]; rfl
theorem pout1_length (s : PSt) (x : Ver) : (pout1 lo sq s x).length ≤ 1 := by
  unfold pout1; split
  · simp
  · split <;> simp
theorem prun_length (s : PSt) (a : List Ver) : (prun lo sq s a).length ≤ a.length := by
  induction a generalizing s with
  | nil => simp [prun]
  | cons v a ih => have := pout1_length (lo := lo) (sq := sq) s v; have := ih (pst1 lo sq s v); simp only [prun, List.length_append, List.length_cons]; omega
theorem pst1_key (s : PSt) (v : Ver) : (pst1 lo sq s v).key = v.key ∧ (pst1 lo sq s v).begun = true := by
  unfold pst1; split <;> exact ⟨rfl, rfl⟩

/-- is this one, and all behind it, above the range? -/
def high (hi : ByteArray) (v : Ver) : Bool := !hi.toList.isEmpty && !Op.bytesLess v.key.toList hi.toList
def cutHi (hi : ByteArray) (l : List Ver) : List Ver := l.takeWhile fun v => !high hi v
theorem cutHi_all {hi : ByteArray} {l : List Ver} (h : ∀ v ∈ l, high hi v = false) : cutHi hi l = l := by
  unfold cutHi
  induction l with
  | nil => rfl
  | cons v l ih => rw [List.takeWhile_cons, if_pos (by simp [h v List.mem_cons_self]), ih (fun u hu => h u (List.mem_cons_of_mem _ hu))]
theorem cutHi_stop {hi : ByteArray} {p r : List Ver} {x : Ver} (h : ∀ v ∈ p, high hi v = false) (hx : high hi x = true) : cutHi hi (p ++ x :: r) = p := by
  unfold cutHi
  rw [List.takeWhile_append_of_pos (by intro v hv; simp [h v hv])]
  simp [hx]
theorem cutHi_prefix {hi : ByteArray} {p r : List Ver} (h : ∀ v ∈ p, high hi v = false) : p <+: cutHi hi (p ++ r) := by
  unfold cutHi
  rw [List.takeWhile_append_of_pos (by intro v hv; simp [h v hv])]
  exact List.prefix_append _ _
def pairsOf (sq : Nat) (lo hi : ByteArray) (l : List Ver) : List PV := prun lo sq s0 (cutHi hi l)
theorem prun_prefix (s : PSt) {a b : List Ver} (h : a <+: b) : prun lo sq s a <+: prun lo sq s b := by
  obtain ⟨r, rfl⟩ := h
  rw [prun_append]; exact List.prefix_append _ _

/-- of one key -/
def OneKey (k : ByteArray) (l : List Ver) : Prop := ∀ v ∈ l, v.key.toList = k.toList

theorem run_seen {k : ByteArray} (l : List Ver) (h : OneKey k l) (s : PSt) (hb : s.begun = true) (hk : s.key.toList = k.toList) (hs : s.seen = true) : prun lo sq s l = [] := by
  induction l generalizing s with
  | nil => rfl
  | cons v l ih =>
    have hv := h v List.mem_cons_self
    have hf : s.fresh v = false := by unfold PSt.fresh; rw [hb, hv, hk]; simp
    have hp : pskip lo sq s v = true := by unfold pskip; rw [hf, hs]; rfl
    have hl : OneKey k l := fun u hu => h u (List.mem_cons_of_mem _ hu)
    unfold prun pout1 pst1
    rw [hp]
    simp only [if_true, List.nil_append]
    rw [hf]
    exact ih hl _ rfl hv hs
theorem run_low {k : ByteArray} (l : List Ver) (h : OneKey k l) (hlo : Op.bytesLess k.toList lo.toList = true) (s : PSt) : prun lo sq s l = [] := by
  induction l generalizing s with
  | nil => rfl
  | cons v l ih =>
    have hv := h v List.mem_cons_self
    have hp : pskip lo sq s v = true := by unfold pskip; rw [hv, hlo]; simp
    have hl : OneKey k l := fun u hu => h u (List.mem_cons_of_mem _ hu)
    unfold prun pout1
    rw [hp]
    simp only [if_true, List.nil_append]
    exact ih hl _
/-- nothing was seen of the key at hand -/
def PSt.open (s : PSt) (k : ByteArray) : Prop := s.begun = false ∨ s.key.toList ≠ k.toList ∨ s.seen = false
theorem open_unseen {s : PSt} {k : ByteArray} {v : Ver} (h : s.open k) (hv : v.key.toList = k.toList) : (if s.fresh v then false else s.seen) = false := by
  by_cases hf : s.fresh v = true
  · rw [if_pos hf]
  · rw [if_neg hf]
    have hf' : s.fresh v = false := by simpa using hf
    unfold PSt.fresh at hf'
    simp only [Bool.or_eq_false_iff, Bool.not_eq_false', beq_iff_eq] at hf'
    rcases h with h | h | h
    · rw [h] at hf'; cases hf'.1
    · exact absurd (hf'.2.symm.trans hv) h
    · exact h
theorem run_late {k : ByteArray} (l : List Ver) (h : OneKey k l) (hq : ∀ v ∈ l, sq < v.seq) (s : PSt) (ho : s.open k) : prun lo sq s l = [] ∧ (pst lo sq s l).open k := by
  induction l generalizing s with
  | nil => exact ⟨rfl, ho⟩
  | cons v l ih =>
    have hv := h v List.mem_cons_self
    have hp : pskip lo sq s v = true := by unfold pskip; rw [show decide (sq < v.seq) = true from by simpa using hq v List.mem_cons_self]; simp
    have hl : OneKey k l := fun u hu => h u (List.mem_cons_of_mem _ hu)
    unfold prun pst pout1 pst1
    rw [hp]
    simp only [if_true, List.nil_append]
    rw [open_unseen ho hv]
    exact ih hl (fun u hu => hq u (List.mem_cons_of_mem _ hu)) _ (.inr (.inr rfl))
theorem run_found {k : ByteArray} (a r : List Ver) (x : Ver) (h : OneKey k (a ++ x :: r)) (hlo : Op.bytesLess k.toList lo.toList = false) (hq : ∀ v ∈ a, sq < v.seq) (hx : x.seq ≤ sq) (s : PSt) (ho : s.open k) :
    prun lo sq s (a ++ x :: r) = if x.del then [] else [(x.key, x.val)] := by
  have hxk := h x (by simp)
  obtain ⟨h1, h2⟩ := run_late (lo := lo) a (fun v hv => h v (by simp [hv])) hq s ho
  rw [prun_append, h1, List.nil_append]
  generalize pst lo sq s a = s at *
  have hp : pskip lo sq s x = false := by
    unfold pskip
    rw [open_unseen h2 hxk, hxk, hlo]
    simp; exact hx
  unfold prun pout1 pst1
  rw [hp]
  simp only [Bool.false_eq_true, if_false]
  rw [run_seen (k := k) r (fun v hv => h v (by simp [hv])) _ rfl hxk rfl, List.append_nil]

/-- where a group begins -/
def isStart (l : List Ver) (i : Nat) : Prop := i = 0 ∨ ∃ (h : i < l.length) (h1 : i - 1 < l.length), l[i].key.toList ≠ l[i - 1].key.toList
/-- of the first i versions, out is where the groups begin -/
structure GInv (l : List Ver) (i : Nat) (out : List Nat) : Prop where
  zero : i = 0 → out = []
  first : 0 < i → ∃ h : 0 < out.length, out[0] = 0
  lt : ∀ k (h : k < out.length), out[k] < (out[k + 1]?).getD i
  le : ∀ k, k < out.length → (out[k + 1]?).getD i ≤ i
  start : ∀ k (h : k < out.length), isStart l out[k]
  inside : ∀ k (h : k < out.length) j, out[k] < j → j < (out[k + 1]?).getD i → ¬ isStart l j
theorem GInv.nil (l : List Ver) : GInv l 0 [] := ⟨fun _ => rfl, fun h => by omega, fun k h => by simp at h, fun k h => by simp at h, fun k h => by simp at h, fun k h => by simp at h⟩
theorem getD_snoc (out : List Nat) (i j : Nat) (k : Nat) (h : k < out.length) : ((out ++ [i])[k + 1]?).getD j = (out[k + 1]?).getD i := by
  by_cases h1 : k + 1 < out.length
  · rw [List.getElem?_append_left h1, List.getElem?_eq_getElem h1]; rfl
  · have : k + 1 = out.length := by omega
    rw [this, List.getElem?_append_right (Nat.le_refl _)]
    simp
theorem getD_last (out : List Nat) (i j : Nat) : ((out ++ [i])[out.length + 1]?).getD j = j := by
  rw [List.getElem?_eq_none (by simp)]; rfl
theorem GInv.yes {l : List Ver} {i : Nat} {out : List Nat} (h : GInv l i out) (hs : isStart l i) : GInv l (i + 1) (out ++ [i]) := by
  have hc : ∀ k, k < (out ++ [i]).length → (k < out.length ∨ k = out.length) := fun k hk => by simp at hk; omega
  refine ⟨fun e => by omega, fun _ => ⟨by simp, ?_⟩, ?_, ?_, ?_, ?_⟩
  · by_cases h0 : i = 0
    · have := h.zero h0; subst this; simp [h0]
    · obtain ⟨h1, h2⟩ := h.first (by omega)
      rw [List.getElem_append_left h1]; exact h2
  · intro k hk
    rcases hc k hk with h1 | rfl
    · rw [getD_snoc _ _ _ _ h1, List.getElem_append_left h1]; exact h.lt k h1
    · rw [getD_last]; simp
  · intro k hk
    rcases hc k hk with h1 | rfl
    · rw [getD_snoc _ _ _ _ h1]; have := h.le k h1; omega
    · rw [getD_last]; exact Nat.le_refl _
  · intro k hk
    rcases hc k hk with h1 | rfl
    · rw [List.getElem_append_left h1]; exact h.start k h1
    · simpa using hs
  · intro k hk j h2 h3
    rcases hc k hk with h1 | rfl
    · rw [getD_snoc _ _ _ _ h1] at h3; rw [List.getElem_append_left h1] at h2; exact h.inside k h1 j h2 h3
    · rw [getD_last] at h3; simp at h2; omega
theorem GInv.no {l : List Ver} {i : Nat} {out : List Nat} (h : GInv l i out) (hs : ¬ isStart l i) : GInv l (i + 1) out := by
  have h0 : i ≠ 0 := fun e => hs (.inl e)
  have hg : ∀ k, k < out.length → (out[k + 1]?).getD (i + 1) = (out[k + 1]?).getD i ∨ ((out[k + 1]?).getD (i + 1) = i + 1 ∧ (out[k + 1]?).getD i = i) := fun k _ => by
    cases out[k + 1]? <;> simp
  refine ⟨fun e => by omega, fun _ => h.first (by omega), ?_, ?_, h.start, ?_⟩
  · intro k hk
    have := h.lt k hk
    rcases hg k hk with h1 | ⟨h1, h2⟩ <;> omega
  · intro k hk
    have := h.le k hk
    rcases hg k hk with h1 | ⟨h1, h2⟩ <;> omega
  · intro k hk j h2 h3
    by_cases h4 : j = i
    · subst h4; exact hs
    · rcases hg k hk with h1 | ⟨h1, h5⟩
      · exact h.inside k hk j h2 (by omega)
      · exact h.inside k hk j h2 (by omega)

/-- a row's groups: where each begins, and the end -/
def GroupsOf (l : List Ver) (g : List Nat) : Prop := ∃ out, g = out ++ [l.length] ∧ GInv l l.length out
theorem GroupsOf.at {l : List Ver} {g : List Nat} (h : GroupsOf l g) : 0 < g.length ∧ (∀ k (hk : k < g.length), g[k] ≤ l.length) ∧ (l = [] → g.length = 1) ∧ g[0]? = some 0 ∧ (∀ k, k + 1 = g.length → g[k]? = some l.length) ∧
    ∀ k (hk : k + 1 < g.length), g[k] < g[k + 1] ∧ isStart l g[k] ∧ ∀ j, g[k] < j → j < g[k + 1] → ¬ isStart l j := by
  obtain ⟨out, rfl, h⟩ := h
  have hn : ∀ k (hk : k < out.length), (out ++ [l.length])[k + 1]'(by simp; omega) = (out[k + 1]?).getD l.length := fun k hk => by
    have := getD_snoc out l.length 0 k hk
    rw [List.getElem?_eq_getElem (by simp; omega)] at this
    exact this
  refine ⟨by simp, ?_, ?_, ?_, ?_, ?_⟩
  · intro k hk
    by_cases h1 : k < out.length
    · rw [List.getElem_append_left h1]; have := h.lt k h1; have := h.le k h1; omega
    · have : k = out.length := by simp at hk; omega
      subst this; simp
  · intro e
    have := h.zero (by rw [e]; rfl)
    subst this; rfl
  · by_cases h0 : 0 < l.length
    · obtain ⟨h1, h2⟩ := h.first h0
      rw [List.getElem?_append_left h1, List.getElem?_eq_getElem h1, h2]
    · have := h.zero (by omega)
      subst this
      simp only [List.nil_append, List.getElem?_cons_zero, Option.some.injEq]
      omega
  · intro k hk
    have : k = out.length := by simp at hk; omega
    subst this; simp
  · intro k hk
    have h1 : k < out.length := by simp at hk; omega
    rw [hn k h1, List.getElem_append_left h1]
    exact ⟨h.lt k h1, h.start k h1, h.inside k h1⟩

/-- what lies between two places -/
def seg {α : Type} (l : List α) (a b : Nat) : List α := (l.take b).drop a
theorem seg_length {α : Type} (l : List α) {a b : Nat} (h : b ≤ l.length) : (seg l a b).length = b - a := by simp [seg]; omega
theorem seg_get {α : Type} (l : List α) {a b i : Nat} (h : b ≤ l.length) (hi : i < (seg l a b).length) : (seg l a b)[i] = l[a + i]'(by rw [seg_length l h] at hi; omega) := by
  simp [seg]
theorem take_seg {α : Type} (l : List α) {a b : Nat} (h : a ≤ b) : l.take b = l.take a ++ seg l a b := by
  unfold seg
  conv => lhs; rw [← List.take_append_drop a (l.take b)]
  rw [List.take_take, Nat.min_eq_left h]
theorem seg_split {α : Type} (l : List α) {a i b : Nat} (h1 : a ≤ i) (h2 : i < b) (h3 : b ≤ l.length) : seg l a b = seg l a i ++ l[i] :: seg l (i + 1) b := by
  have e1 := take_seg l (Nat.le_of_lt (Nat.lt_of_le_of_lt h1 h2))
  have e2 := take_seg l h1
  have e3 := take_seg l (show i + 1 ≤ b by omega)
  rw [List.take_succ_eq_append_getElem (by omega)] at e3
  rw [e3, e2] at e1
  simpa [List.append_assoc] using e1.symm
/-- what lies between two beginnings is of one key -/
theorem group_one {l : List Ver} {a b : Nat} (h0 : a < b) (hb : b ≤ l.length) (h : ∀ j, a < j → j < b → ¬ isStart l j) : OneKey (l[a]'(by omega)).key (seg l a b) := by
  have key : ∀ d (hd : a + d < b), (l[a + d]'(by omega)).key.toList = (l[a]'(by omega)).key.toList := by
    intro d
    induction d with
    | zero => intro _; rfl
    | succ d ih =>
      intro hd
      have h1 := h (a + (d + 1)) (by omega) hd
      have h2 : (l[a + (d + 1)]'(by omega)).key.toList = (l[a + d]'(by omega)).key.toList := by
        apply Classical.byContradiction
        intro e
        exact h1 (.inr ⟨by omega, by omega, e⟩)
      exact h2.trans (ih (by omega))
  intro v hv
  obtain ⟨i, hi, rfl⟩ := List.getElem_of_mem hv
  rw [seg_get l hb hi]
  rw [seg_length l hb] at hi
  exact key i (by omega)
/-- at a beginning nothing was seen of the key -/
theorem start_open {l : List Ver} {a : Nat} (ha : a < l.length) (hs : isStart l a) : (pst lo sq s0 (l.take a)).open l[a].key := by
  by_cases h0 : a = 0
  · subst h0; left; rfl
  · right; left
    rcases hs with h | ⟨h1, h2, h3⟩
    · exact absurd h h0
    · have e : l.take a = l.take (a - 1) ++ [l[a - 1]] := by
        have := List.take_succ_eq_append_getElem (l := l) (i := a - 1) h2
        rwa [show a - 1 + 1 = a from by omega] at this
      rw [e, pst_snoc, (pst1_key _ _).1]
      exact fun e => h3 e.symm
end Go.Proofs.Ytiogjebekadmcaa.Pl
