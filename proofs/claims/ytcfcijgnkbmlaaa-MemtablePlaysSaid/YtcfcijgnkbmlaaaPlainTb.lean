
/- Plain law: a table of versions in order, and what Add makes of it. Condition: none. -/
import Derived.Test.YtcfcijgnkbmlaaaPlainSk
namespace Go.Proofs.Ytcfcijgnkbmlaaa
/-- of a row, the first k and no others -/
structure Ahead (q : Ver → Bool) (xs : List Ver) (k : Nat) : Prop where
  le : k ≤ xs.length
  yes : ∀ i (h : i < xs.length), i < k → q xs[i] = true
  no : ∀ i (h : i < xs.length), k ≤ i → q xs[i] = false
end Go.Proofs.Ytcfcijgnkbmlaaa
namespace Go.Proofs.Ytcfcijgnkbmlaaa.Pl

/-- one stands ahead of another one -/
def vlt (a b : Ver) : Prop := lessV a.key a.seq b.key b.seq = true
/-- in order -/
def Ris (l : List Ver) : Prop := l.Pairwise vlt
theorem vlt_cases {a b : Ver} (h : vlt a b) : Op.bytesLess a.key.toList b.key.toList = true ∨ (a.key.toList = b.key.toList ∧ b.seq < a.seq) := by
  unfold vlt lessV at h
  rw [Bool.or_eq_true, Bool.and_eq_true, decide_eq_true_eq, beq_iff_eq] at h
  exact h
theorem vlt_less {a b : Ver} (h : Op.bytesLess a.key.toList b.key.toList = true) : vlt a b := by
  unfold vlt lessV; rw [h]; rfl
theorem vlt_same {a b : Ver} (h : a.key.toList = b.key.toList) (h2 : b.seq < a.seq) : vlt a b := by
  unfold vlt lessV; rw [h]; simp [h2]
theorem vlt_trans {a b c : Ver} (h1 : vlt a b) (h2 : vlt b c) : vlt a c := by
  rcases vlt_cases h1 with h1 | ⟨h1, g1⟩ <;> rcases vlt_cases h2 with h2 | ⟨h2, g2⟩
  · exact vlt_less (lt_trans h1 h2)
  · exact vlt_less (by rw [← h2]; exact h1)
  · exact vlt_less (by rw [h1]; exact h2)
  · exact vlt_same (h1.trans h2) (by omega)
theorem vlt_key {a b : Ver} (h : vlt a b) (hn : a.key.toList ≠ b.key.toList) : Op.bytesLess a.key.toList b.key.toList = true := by
  rcases vlt_cases h with h | ⟨h, _⟩
  · exact h
  · exact absurd h hn
theorem less_ne' {a b : List UInt8} (h : Op.bytesLess a b = true) : a ≠ b := by
  intro e; rw [e, lt_irrefl] at h; cases h
theorem ris_of_adj : ∀ {l : List Ver}, (∀ k (h : k + 1 < l.length), vlt l[k] l[k + 1]) → Ris l
  | [], _ => List.Pairwise.nil
  | x :: l, h => by
    have ih : Ris l := ris_of_adj (fun k hk => by
      have := h (k + 1) (by simp; omega)
      simpa using this)
    refine List.Pairwise.cons ?_ ih
    intro y hy
    cases l with
    | nil => cases hy
    | cons z l =>
      have h0 : vlt x z := by simpa using h 0 (by simp)
      rcases List.mem_cons.1 hy with e | e
      · subst e; exact h0
      · exact vlt_trans h0 ((List.pairwise_cons.1 ih).1 y e)
theorem adj_of_ris {l : List Ver} (h : Ris l) (k : Nat) (hk : k + 1 < l.length) : lessV l[k].key l[k].seq l[k + 1].key l[k + 1].seq = true :=
  List.pairwise_iff_getElem.1 h k (k + 1) (by omega) hk (by omega)


/-- may a version be? -/
def mayM (k : ByteArray) (s : Nat) (d : Bool) (v : ByteArray) : Bool := decide (k.size ≠ 0) && decide (k.size ≤ 96) && decide (1 ≤ s) && decide (s ≤ 1125899906842624) && decide (v.size ≤ 16384) && (!d || decide (v.size = 0))
theorem ahead_of {q : Ver → Bool} {xs : List Ver} (hm : xs.Pairwise (fun a b => q b = true → q a = true)) : Ahead q xs (xs.findIdx (fun x => !q x)) := by
  refine ⟨List.findIdx_le_length, fun i h hi => ?_, fun i h hi => ?_⟩
  · have := List.not_of_lt_findIdx hi
    simpa using this
  · have hk : xs.findIdx (fun x => !q x) < xs.length := by omega
    have h1 := List.findIdx_getElem (w := hk)
    rcases Nat.lt_or_eq_of_le hi with h2 | h2
    · have := List.pairwise_iff_getElem.1 hm _ _ hk h h2
      cases hq : q xs[i]
      · rfl
      · rw [this hq] at h1; cases h1
    · simp only [h2] at h1
      simpa using h1
theorem ahead_unique {q : Ver → Bool} {xs : List Ver} {k j : Nat} (h : Ahead q xs k) (h2 : Ahead q xs j) : k = j := by
  rcases Nat.lt_trichotomy k j with h3 | h3 | h3
  · have h4 : k < xs.length := by have := h2.le; omega
    have h5 := h.no k h4 (Nat.le_refl _)
    rw [h2.yes k h4 h3] at h5; cases h5
  · exact h3
  · have h4 : j < xs.length := by have := h.le; omega
    have h5 := h2.no j h4 (Nat.le_refl _)
    rw [h.yes j h4 h3] at h5; cases h5
/-- how many stand ahead of a version -/
def kOf (xs : List Ver) (v : Ver) : Nat := xs.findIdx (fun x => !lessV x.key x.seq v.key v.seq)
theorem ahead_less {xs : List Ver} (h : Ris xs) (v : Ver) : Ahead (fun x => lessV x.key x.seq v.key v.seq) xs (kOf xs v) :=
  ahead_of (h.imp (fun hab hb => vlt_trans (c := v) hab hb))
/-- how many keys are below a key -/
def bOf (xs : List Ver) (key : ByteArray) : Nat := xs.findIdx (fun x => !Op.bytesLess x.key.toList key.toList)
theorem ahead_key {xs : List Ver} (h : Ris xs) (key : ByteArray) : Ahead (fun x => Op.bytesLess x.key.toList key.toList) xs (bOf xs key) :=
  ahead_of (h.imp (fun hab hb => by
    rcases vlt_cases hab with h1 | ⟨h1, _⟩
    · exact lt_trans h1 hb
    · rw [h1]; exact hb))
theorem bOf_nil (xs : List Ver) : bOf xs ⟨#[]⟩ = 0 := by
  unfold bOf
  cases xs with
  | nil => rfl
  | cons x xs =>
    rw [List.findIdx_cons]
    have : Op.bytesLess x.key.toList (ByteArray.toList ⟨#[]⟩) = false := by
      have e : ByteArray.toList ⟨#[]⟩ = [] := by rw [ByteArray.toList_eq]
      rw [e]; exact lt_nil _
    rw [this]; rfl
/-- the bytes of versions -/
def bytesOf (xs : List Ver) : Nat := xs.foldr (fun x n => x.key.size + x.val.size + 16 + n) 0
theorem bytesOf_append (a b : List Ver) : bytesOf (a ++ b) = bytesOf a + bytesOf b := by
  induction a with
  | nil => simp [bytesOf]
  | cons x a ih =>
    show x.key.size + x.val.size + 16 + bytesOf (a ++ b) = x.key.size + x.val.size + 16 + bytesOf a + bytesOf b
    omega
theorem bytesOf_ins (xs : List Ver) (k : Nat) (v : Ver) : bytesOf (ins xs k v) = bytesOf xs + (v.key.size + v.val.size + 16) := by
  have h1 : bytesOf xs = bytesOf (xs.take k) + bytesOf (xs.drop k) := by rw [← bytesOf_append, List.take_append_drop]
  unfold ins
  rw [bytesOf_append, h1]
  show bytesOf (xs.take k) + (v.key.size + v.val.size + 16 + bytesOf (xs.drop k)) = _
  omega
/-- a table whose versions are in order, may be, and have towers of 1 to 8 -/
structure TGood (xs : List Ver) (hs : List Nat) : Prop where
  hl : hs.length = xs.length
  ris : Ris xs
  lo : ∀ i, i < hs.length → 1 ≤ hs.getD i 0
  hi : ∀ i, i < hs.length → hs.getD i 0 ≤ 8
  may : ∀ x ∈ xs, mayM x.key x.seq x.del x.val = true
theorem TGood.nil : TGood [] [] := ⟨rfl, List.Pairwise.nil, fun i h => by simp at h, fun i h => by simp at h, fun x h => by cases h⟩
theorem may_size {k : ByteArray} {s : Nat} {d : Bool} {v : ByteArray} (h : mayM k s d v = true) : k.size ≤ 96 ∧ v.size ≤ 16384 := by
  unfold mayM at h
  simp only [Bool.and_eq_true, decide_eq_true_eq] at h
  exact ⟨h.1.1.1.1.2, h.1.2⟩
theorem TGood.bytes {xs : List Ver} {hs : List Nat} (h : TGood xs hs) : bytesOf xs ≤ xs.length * 16496 := by
  have hm := h.may
  clear h
  induction xs with
  | nil => simp [bytesOf]
  | cons x xs ih =>
    have := ih (fun y hy => hm y (List.mem_cons_of_mem _ hy))
    have h2 := may_size (hm x List.mem_cons_self)
    show x.key.size + x.val.size + 16 + bytesOf xs ≤ (x :: xs).length * 16496
    simp only [List.length_cons]
    omega
theorem mem_ins' {α : Type} {l : List α} {k : Nat} {a b : α} (h : b ∈ ins l k a) : b = a ∨ b ∈ l := by
  unfold ins at h
  rcases List.mem_append.1 h with h | h
  · exact .inr (List.mem_of_mem_take h)
  · rcases List.mem_cons.1 h with h | h
    · exact .inl h
    · exact .inr (List.mem_of_mem_drop h)
theorem TGood.ins {xs : List Ver} {hs : List Nat} (h : TGood xs hs) {v : Ver} {t : Nat} (hm : mayM v.key v.seq v.del v.val = true) (h1 : 1 ≤ t) (h8 : t ≤ 8) (hp : ∀ hk : kOf xs v < xs.length, placeV xs[kOf xs v].key xs[kOf xs v].seq v.key v.seq = false) : TGood (ins xs (kOf xs v) v) (ins hs (kOf xs v) t) := by
  have hA := ahead_less h.ris v
  generalize kOf xs v = k at *
  have hk := hA.le
  have hl := h.hl
  refine ⟨by rw [ins_length, ins_length, hl], ?_, ?_, ?_, fun x hx => ?_⟩
  · unfold Ris Pl.ins
    have hr := h.ris
    unfold Ris at hr
    rw [← List.take_append_drop k xs, List.pairwise_append] at hr
    rw [List.pairwise_append]
    refine ⟨hr.1, List.pairwise_cons.2 ⟨fun y hy => ?_, hr.2.1⟩, fun x hx y hy => ?_⟩
    · obtain ⟨i, hi, rfl⟩ := List.getElem_of_mem hy
      rw [List.length_drop] at hi
      rw [List.getElem_drop]
      have h3 := hA.no (k + i) (by omega) (by omega)
      have h4 := lessV_total (xs[k + i]'(by omega)).key (xs[k + i]'(by omega)).seq v.key v.seq
      rw [h3, Bool.false_or] at h4
      by_cases hi0 : i = 0
      · subst hi0
        have := hp (by omega)
        simp only [Nat.add_zero] at h4 ⊢
        unfold vlt; rw [h4, this]; rfl
      · have h5 : vlt (xs[k]'(by omega)) (xs[k + i]'(by omega)) := List.pairwise_iff_getElem.1 h.ris k (k + i) (by omega) (by omega) (by omega)
        have h6 := hA.no k (by omega) (Nat.le_refl _)
        have h7 := lessV_total (xs[k]'(by omega)).key (xs[k]'(by omega)).seq v.key v.seq
        rw [h6, Bool.false_or, hp (by omega)] at h7
        exact vlt_trans (show vlt v (xs[k]'(by omega)) from h7) h5
    · rcases List.mem_cons.1 hy with e | e
      · subst e
        obtain ⟨i, hi, rfl⟩ := List.getElem_of_mem hx
        rw [List.length_take] at hi
        rw [List.getElem_take]
        exact hA.yes i (by omega) (by omega)
      · exact hr.2.2 x hx y e
  · intro i hi
    rw [ins_length] at hi
    rcases Nat.lt_trichotomy i k with h3 | h3 | h3
    · rw [insD_lt (by omega) h3]; exact h.lo i (by omega)
    · subst h3; rw [insD_at (by omega)]; exact h1
    · obtain ⟨j, rfl⟩ : ∃ j, i = j + 1 := ⟨i - 1, by omega⟩
      rw [insD_gt (by omega) (by omega)]; exact h.lo j (by omega)
  · intro i hi
    rw [ins_length] at hi
    rcases Nat.lt_trichotomy i k with h3 | h3 | h3
    · rw [insD_lt (by omega) h3]; exact h.hi i (by omega)
    · subst h3; rw [insD_at (by omega)]; exact h8
    · obtain ⟨j, rfl⟩ : ∃ j, i = j + 1 := ⟨i - 1, by omega⟩
      rw [insD_gt (by omega) (by omega)]; exact h.hi j (by omega)
  · rcases mem_ins' hx with e | e
    · subst e; exact hm
    · exact h.may x e
/-- is one of its place there? -/
def thereV (xs : List Ver) (v : Ver) : Bool := match xs[kOf xs v]? with
  | some x => placeV x.key x.seq v.key v.seq
  | none => false
/-- what Add makes of a table, and what it answers -/
def addT (xs : List Ver) (hs : List Nat) (v : Ver) (h : Int) : List Ver × List Nat × Int :=
  if mayM v.key v.seq v.del v.val = false ∨ h < 1 ∨ 8 < h then (xs, hs, 1) else if thereV xs v then (xs, hs, 7) else (ins xs (kOf xs v) v, ins hs (kOf xs v) h.toNat, 0)
theorem there_no {xs : List Ver} {v : Ver} (h : thereV xs v = false) (hk : kOf xs v < xs.length) : placeV xs[kOf xs v].key xs[kOf xs v].seq v.key v.seq = false := by
  unfold thereV at h; rw [List.getElem?_eq_getElem hk] at h; exact h
theorem there_yes {xs : List Ver} {v : Ver} (h : thereV xs v = true) : ∃ hk : kOf xs v < xs.length, placeV xs[kOf xs v].key xs[kOf xs v].seq v.key v.seq = true := by
  unfold thereV at h
  by_cases hk : kOf xs v < xs.length
  · rw [List.getElem?_eq_getElem hk] at h; exact ⟨hk, h⟩
  · rw [List.getElem?_eq_none (by omega)] at h; cases h
theorem TGood.add {xs : List Ver} {hs : List Nat} (h : TGood xs hs) (v : Ver) (t : Int) : TGood (addT xs hs v t).1 (addT xs hs v t).2.1 ∧ xs.length ≤ (addT xs hs v t).1.length ∧ (addT xs hs v t).1.length ≤ xs.length + 1 := by
  unfold addT
  split
  · exact ⟨h, Nat.le_refl _, Nat.le_succ _⟩
  · rename_i hc
    split
    · exact ⟨h, Nat.le_refl _, Nat.le_succ _⟩
    · rename_i ht
      have h1 : mayM v.key v.seq v.del v.val = true := by
        cases hm : mayM v.key v.seq v.del v.val
        · exact absurd (.inl hm) hc
        · rfl
      refine ⟨h.ins h1 (by omega) (by omega) (there_no (by simpa using ht)), ?_, ?_⟩
      · show xs.length ≤ (Pl.ins _ _ _).length; rw [ins_length]; omega
      · show (Pl.ins _ _ _).length ≤ _; rw [ins_length]; exact Nat.le_refl _
end Go.Proofs.Ytcfcijgnkbmlaaa.Pl
