
/- Plain law: rows in order, merged, are in order; who looks at a floor or at the newest one sees of what is kept what he sees of the whole. Condition: none. -/
import Derived.Test.YtiogjebekadmcaaPlainKp2
import Derived.Test.YtiogjebekadmcaaPlainMr
namespace Go.Proofs.Ytiogjebekadmcaa.Pl

/-- one stands ahead of another one -/
def vlt (a b : Ver) : Prop := lessV a.key a.seq b.key b.seq = true
/-- in order -/
def Ris (l : List Ver) : Prop := l.Pairwise vlt
theorem vlt_cases {a b : Ver} (h : vlt a b) : Op.bytesLess a.key.toList b.key.toList = true ∨ (a.key.toList = b.key.toList ∧ b.seq < a.seq) := by
  unfold vlt lessV at h
  rw [Bool.or_eq_true, Bool.and_eq_true, decide_eq_true_eq, beq_iff_eq] at h
  exact h
theorem vlt_less {a b : Ver} (h : Op.bytesLess a.key.toList b.key.toList = true) : vlt a b := by
  unfold vlt lessV; rw [h]; rfl
theorem vlt_same {a b : Ver} (h : a.key.toList = b.key.toList) (h2 : b.seq < a.seq) : vlt a b := by
  unfold vlt lessV; rw [h]; simp [h2]
theorem vlt_trans {a b c : Ver} (h1 : vlt a b) (h2 : vlt b c) : vlt a c := by
  rcases vlt_cases h1 with h1 | ⟨h1, g1⟩ <;> rcases vlt_cases h2 with h2 | ⟨h2, g2⟩
  · exact vlt_less (lt_trans h1 h2)
  · exact vlt_less (by rw [← h2]; exact h1)
  · exact vlt_less (by rw [h1]; exact h2)
  · exact vlt_same (h1.trans h2) (by omega)
theorem vlt_key {a b : Ver} (h : vlt a b) (hn : a.key.toList ≠ b.key.toList) : Op.bytesLess a.key.toList b.key.toList = true := by
  rcases vlt_cases h with h | ⟨h, _⟩
  · exact h
  · exact absurd h hn
theorem less_ne {a b : List UInt8} (h : Op.bytesLess a b = true) : a ≠ b := by
  intro e; rw [e, lt_irrefl] at h; cases h
theorem ris_of_adj : ∀ {l : List Ver}, (∀ k (h : k + 1 < l.length), vlt l[k] l[k + 1]) → Ris l
  | [], _ => List.Pairwise.nil
  | x :: l, h => by
    have ih : Ris l := ris_of_adj (fun k hk => by
      have := h (k + 1) (by simp; omega)
      simpa using this)
    refine List.Pairwise.cons ?_ ih
    intro y hy
    cases l with
    | nil => cases hy
    | cons z l =>
      have h0 : vlt x z := by simpa using h 0 (by simp)
      rcases List.mem_cons.1 hy with e | e
      · subst e; exact h0
      · exact vlt_trans h0 ((List.pairwise_cons.1 ih).1 y e)
theorem adj_of_ris {l : List Ver} (h : Ris l) (k : Nat) (hk : k + 1 < l.length) : lessV l[k].key l[k].seq l[k + 1].key l[k + 1].seq = true :=
  List.pairwise_iff_getElem.1 h k (k + 1) (by omega) hk (by omega)

/-- the least head is not above any head -/
theorem best_least : ∀ (Rs : List (List Ver)) (b : Option Ver) (v : Ver), Rs.foldl hd1 b = some v → (∀ u, b = some u → u = v ∨ ¬ vlt u v) ∧ ∀ x r, x :: r ∈ Rs → ¬ vlt x v
  | [], b, v, h => ⟨fun u hu => by left; have : b = some v := h; rw [this] at hu; cases hu; rfl, fun x r hx => by cases hx⟩
  | R :: Rs, b, v, h => by
    rw [List.foldl_cons] at h
    obtain ⟨h1, h2⟩ := best_least Rs (hd1 b R) v h
    have hvv : ¬ vlt v v := by
      intro hv
      rcases vlt_cases hv with hv | hv
      · rw [lt_irrefl] at hv; cases hv
      · omega
    have nt : ∀ {a c : Ver}, vlt a c → a = v ∨ ¬ vlt a v → ¬ vlt c v := by
      intro a c hac ha hc
      have := vlt_trans hac hc
      rcases ha with e | ha
      · subst e; exact hvv this
      · exact ha this
    have le : ∀ {a c : Ver}, ¬ vlt a c → a ≠ c → placeV a.key a.seq c.key c.seq = true ∨ vlt c a := by
      intro a c hac _
      have ht := lessV_total a.key a.seq c.key c.seq
      have hac' : lessV a.key a.seq c.key c.seq = false := by simpa [vlt] using hac
      rw [hac', Bool.false_or] at ht
      cases hp : placeV a.key a.seq c.key c.seq
      · right; unfold vlt; rw [ht, hp]; rfl
      · left; rfl
    have pl : ∀ {a c d : Ver}, placeV a.key a.seq c.key c.seq = true → vlt a d → vlt c d := by
      intro a c d hp had
      unfold placeV at hp
      rw [Bool.and_eq_true, beq_iff_eq, beq_iff_eq] at hp
      unfold vlt lessV at *
      rw [← hp.1, ← hp.2]; exact had
    cases R with
    | nil =>
      refine ⟨h1, fun x r hx => ?_⟩
      rcases List.mem_cons.1 hx with e | e
      · cases e
      · exact h2 x r e
    | cons y q =>
      cases b with
      | none =>
        have h1' := h1 y rfl
        refine ⟨fun u hu => (by cases hu), fun x r hx => ?_⟩
        rcases List.mem_cons.1 hx with e | e
        · cases e
          rcases h1' with e | h
          · subst e; exact hvv
          · exact h
        · exact h2 x r e
      | some u =>
        have e1 : hd1 (some u) (y :: q) = if lessV y.key y.seq u.key u.seq then some y else some u := rfl
        rw [e1] at h1
        by_cases hy : lessV y.key y.seq u.key u.seq = true
        · rw [if_pos hy] at h1
          have h1' := h1 y rfl
          have hy' : vlt y u := hy
          refine ⟨fun u' hu => ?_, fun x r hx => ?_⟩
          · cases hu
            exact .inr (nt hy' h1')
          · rcases List.mem_cons.1 hx with e | e
            · cases e
              rcases h1' with e | h
              · subst e; exact hvv
              · exact h
            · exact h2 x r e
        · rw [if_neg hy] at h1
          have h1' := h1 u rfl
          refine ⟨fun u' hu => by cases hu; exact h1', fun x r hx => ?_⟩
          rcases List.mem_cons.1 hx with e | e
          · cases e
            intro hyv
            by_cases e : y = u
            · subst e
              rcases h1' with e | h
              · subst e; exact hvv hyv
              · exact h hyv
            · rcases le hy e with hp | hp
              · have := pl hp hyv
                rcases h1' with e | h
                · subst e; exact hvv this
                · exact h this
              · exact nt hp h1' hyv
          · exact h2 x r e
theorem pop1_mem {v y : Ver} {R : List Ver} (h : y ∈ pop1 v R) : y ∈ R := by
  unfold pop1 at h
  split at h
  · exact h
  · split at h
    · exact List.mem_cons_of_mem _ h
    · exact h
theorem pop1_sub (v : Ver) (R : List Ver) : (pop1 v R).Sublist R := by
  unfold pop1
  split
  · exact List.Sublist.refl _
  · split
    · exact List.sublist_cons_self _ _
    · exact List.Sublist.refl _
theorem mergeN_mem : ∀ (n : Nat) (Rs : List (List Ver)) (y : Ver), y ∈ mergeN n Rs → ∃ R ∈ Rs, y ∈ R
  | 0, _, _, h => by cases h
  | n + 1, Rs, y, h => by
    unfold mergeN at h
    cases hb : best Rs with
    | none => rw [hb] at h; cases h
    | some v =>
      rw [hb] at h
      rcases List.mem_cons.1 h with e | e
      · obtain ⟨R, hR, r, hr⟩ := best_mem hb
        exact ⟨R, hR, by rw [hr, e]; exact List.mem_cons_self⟩
      · obtain ⟨R, hR, hy⟩ := mergeN_mem n _ y e
        obtain ⟨R', hR', rfl⟩ := List.mem_map.1 hR
        exact ⟨R', hR', pop1_mem hy⟩
theorem mergeN_ris : ∀ (n : Nat) (Rs : List (List Ver)), (∀ R ∈ Rs, Ris R) → Ris (mergeN n Rs)
  | 0, _, _ => List.Pairwise.nil
  | n + 1, Rs, h => by
    unfold mergeN
    cases hb : best Rs with
    | none => exact List.Pairwise.nil
    | some v =>
      refine List.Pairwise.cons ?_ (mergeN_ris n (pop v Rs) ?_)
      · intro y hy
        obtain ⟨R', hR', hy'⟩ := mergeN_mem n _ y hy
        obtain ⟨R, hR, rfl⟩ := List.mem_map.1 hR'
        have hl := (best_least Rs none v hb).2
        cases R with
        | nil => cases hy'
        | cons x r =>
          have hx := hl x r hR
          have hr := List.pairwise_cons.1 (h _ hR)
          have hx' : lessV x.key x.seq v.key v.seq = false := by simpa [vlt] using hx
          have ht := lessV_total x.key x.seq v.key v.seq
          rw [hx', Bool.false_or] at ht
          cases hp : placeV x.key x.seq v.key v.seq
          · rw [pop1_no hp] at hy'
            have hvx : vlt v x := by unfold vlt; rw [ht, hp]; rfl
            rcases List.mem_cons.1 hy' with e | e
            · subst e; exact hvx
            · exact vlt_trans hvx (hr.1 y e)
          · rw [pop1_yes hp] at hy'
            have hxy := hr.1 y hy'
            unfold placeV at hp
            rw [Bool.and_eq_true, beq_iff_eq, beq_iff_eq] at hp
            unfold vlt lessV at *
            rw [← hp.1, ← hp.2]; exact hxy
      · intro R hR
        obtain ⟨R', hR', rfl⟩ := List.mem_map.1 hR
        exact (h _ hR').sublist (pop1_sub v R')
theorem merge_ris {Rs : List (List Ver)} (h : ∀ R ∈ Rs, Ris R) : Ris (mergeOf Rs) := mergeN_ris _ _ h
theorem merge_mem {Rs : List (List Ver)} {y : Ver} (h : y ∈ mergeOf Rs) : ∃ R ∈ Rs, y ∈ R := mergeN_mem _ _ _ h
theorem fold_some : ∀ (Rs : List (List Ver)) (b : Option Ver), (b ≠ none ∨ 0 < total Rs) → Rs.foldl hd1 b ≠ none
  | [], b, h => by
    rcases h with h | h
    · exact h
    · exact absurd h (by simp [total])
  | R :: Rs, b, h => by
    rw [List.foldl_cons]
    refine fold_some Rs _ ?_
    cases R with
    | nil =>
      rcases h with h | h
      · exact .inl h
      · exact .inr (by simpa [total] using h)
    | cons x r =>
      left
      cases b with
      | none => exact Option.some_ne_none _
      | some u =>
        show (if _ then some x else some u) ≠ none
        split <;> exact Option.some_ne_none _
theorem merge_some {Rs : List (List Ver)} (h : 0 < total Rs) : 0 < (mergeOf Rs).length := by
  have hs := fold_some Rs none (.inr h)
  cases hb : best Rs with
  | none => exact absurd hb hs
  | some v => rw [mergeOf_some hb]; simp

/-- what is seen of versions of one key -/
def sel (sq : Nat) (h : List Ver) : List PV := match h.find? (fun v => decide (v.seq ≤ sq)) with
  | none => []
  | some x => if x.del then [] else [(x.key, x.val)]
theorem empty_list : ByteArray.empty.toList = [] := by
  unfold ByteArray.toList
  unfold ByteArray.toList.loop
  rfl
theorem run_sel {k : ByteArray} {sq : Nat} (h : List Ver) (hk : OneKey k h) (s : PSt) (ho : s.open k) : prun .empty sq s h = sel sq h := by
  unfold sel
  cases hf : h.find? (fun v => decide (v.seq ≤ sq)) with
  | none =>
    have hq : ∀ v ∈ h, sq < v.seq := fun v hv => by
      have := List.find?_eq_none.1 hf v hv
      simpa using this
    exact (run_late h hk hq s ho).1
  | some x =>
    obtain ⟨hx, a, r, e, ha⟩ := List.find?_eq_some_iff_append.1 hf
    subst e
    have hx' : x.seq ≤ sq := by simpa using hx
    refine run_found a r x hk (by rw [empty_list]; exact lt_nil _) (fun v hv => ?_) hx' s ho
    have := ha v hv
    simpa using this
theorem pst_open {lo : ByteArray} {sq : Nat} {k : ByteArray} : ∀ (h : List Ver) (s : PSt), (∀ x ∈ h, x.key.toList ≠ k.toList) → s.open k → (pst lo sq s h).open k
  | [], _, _, ho => ho
  | v :: h, s, hn, ho => by
    refine pst_open h _ (fun x hx => hn x (List.mem_cons_of_mem _ hx)) (.inr (.inl ?_))
    rw [(pst1_key s v).1]
    exact hn v List.mem_cons_self

/-- rows of one key each, of which no two have the same -/
structure Grouped (gs : List (List Ver)) : Prop where
  one : ∀ g ∈ gs, ∃ k, OneKey k g
  ris : ∀ g ∈ gs, Ris g
  apart : gs.Pairwise fun g h => ∀ x ∈ g, ∀ y ∈ h, x.key.toList ≠ y.key.toList
theorem run_groups {sq : Nat} : ∀ (gs : List (List Ver)) (s : PSt), Grouped gs → (∀ g ∈ gs, ∀ x ∈ g, s.open x.key) → prun .empty sq s (fl gs) = gs.foldr (fun g r => sel sq g ++ r) []
  | [], _, _, _ => rfl
  | g :: gs, s, hg, ho => by
    obtain ⟨h1, h3, h2⟩ := hg
    have h2' := List.pairwise_cons.1 h2
    rw [fl_cons, prun_append]
    have ih := run_groups (sq := sq) gs (pst .empty sq s g) ⟨fun g' h' => h1 g' (List.mem_cons_of_mem _ h'), fun g' h' => h3 g' (List.mem_cons_of_mem _ h'), h2'.2⟩ (fun g' h' x hx =>
      pst_open g s (fun y hy => h2'.1 g' h' y hy x hx) (ho g' (List.mem_cons_of_mem _ h') x hx))
    rw [ih]
    show _ = sel sq g ++ _
    congr 1
    cases g with
    | nil => rfl
    | cons x r =>
      obtain ⟨k, hk⟩ := h1 (x :: r) List.mem_cons_self
      have hx := hk x List.mem_cons_self
      exact run_sel (k := x.key) (x :: r) (fun v hv => (hk v hv).trans hx.symm) s (ho (x :: r) List.mem_cons_self x List.mem_cons_self)
theorem s0_open (k : ByteArray) : s0.open k := .inl rfl

theorem fl_mem {x : Ver} {g : List Ver} : ∀ {gs : List (List Ver)}, g ∈ gs → x ∈ g → x ∈ fl gs
  | [], h, _ => by cases h
  | g0 :: gs, h, hx => by
    rw [fl_cons]
    rcases List.mem_cons.1 h with e | e
    · subst e; exact List.mem_append_left _ hx
    · exact List.mem_append_right _ (fl_mem e hx)
/-- the groups of a row that is in order -/
theorem grps_grouped (l : List Ver) (hl : Ris l) : Grouped (grps l) := by
  have key : ∀ n, n ≤ l.length → ((gst (l.take n)).2 = [] → (gst (l.take n)).1 = []) ∧ (∃ k, OneKey k (gst (l.take n)).2) ∧ (∀ g ∈ (gst (l.take n)).1, ∃ k, OneKey k g) ∧ fl (gst (l.take n)).1 ++ (gst (l.take n)).2 = l.take n ∧
      ((gst (l.take n)).1 ++ [(gst (l.take n)).2]).Pairwise (fun g h => ∀ x ∈ g, ∀ y ∈ h, x.key.toList ≠ y.key.toList) := by
    intro n
    induction n with
    | zero => exact fun _ => ⟨fun _ => rfl, ⟨.empty, fun v hv => by cases hv⟩, fun g hg => (by cases hg), rfl, List.pairwise_singleton _ _⟩
    | succ n ih =>
      intro hn
      obtain ⟨i1, ⟨k, i2⟩, i3, i4, i5⟩ := ih (by omega)
      have e : l.take (n + 1) = l.take n ++ [l[n]] := List.take_succ_eq_append_getElem (by omega)
      have hr : Ris (l.take n ++ [l[n]]) := by rw [← e]; exact hl.sublist (List.take_sublist _ _)
      rw [e, gst_snoc]
      generalize l.take n = p at *
      generalize gst p = st at *
      obtain ⟨G, m⟩ := st
      simp only at i1 i2 i3 i4 i5 ⊢
      subst i4
      generalize l[n] = x at *
      have hpx : ∀ y ∈ fl G ++ m, vlt y x := fun y hy => (List.pairwise_append.1 hr).2.2 y hy x (by simp)
      cases hg : gnew m x
      · rw [gst1_old hg]
        refine ⟨fun h => by simp at h, ?_, i3, by simp, ?_⟩
        · cases m with
          | nil => exact ⟨x.key, fun v hv => by simp at hv; rw [hv]⟩
          | cons z m =>
            refine ⟨k, fun v hv => ?_⟩
            rcases List.mem_append.1 hv with h | h
            · exact i2 v h
            · have : v = x := by simpa using h
              subst this
              have hz : z.key.toList = v.key.toList := by simpa [gnew] using hg
              rw [← hz]; exact i2 z List.mem_cons_self
        · cases m with
          | nil => rw [i1 rfl]; exact List.pairwise_singleton _ _
          | cons z m =>
            have hz : z.key.toList = x.key.toList := by simpa [gnew] using hg
            rw [List.pairwise_append] at i5 ⊢
            refine ⟨i5.1, List.pairwise_singleton _ _, fun g hg' h hh u hu y hy => ?_⟩
            have hh' : h = z :: m ++ [x] := by simpa using hh
            subst hh'
            have i6 := i5.2.2 g hg' (z :: m) (by simp) u hu
            rcases List.mem_append.1 hy with h | h
            · exact i6 y h
            · have : y = x := by simpa using h
              subst this
              rw [← hz]
              exact i6 z List.mem_cons_self
      · rw [gst1_new hg]
        cases m with
        | nil => simp [gnew] at hg
        | cons z m =>
          have hz : z.key.toList ≠ x.key.toList := by simpa [gnew] using hg
          refine ⟨fun h => by simp at h, ⟨x.key, fun v hv => by simp at hv; rw [hv]⟩, ?_, by simp [fl_snoc], ?_⟩
          · intro g hg'
            rcases List.mem_append.1 hg' with h | h
            · exact i3 g h
            · have : g = z :: m := by simpa using h
              subst this; exact ⟨k, i2⟩
          · rw [List.pairwise_append]
            refine ⟨i5, List.pairwise_singleton _ _, fun g hg' h hh u hu y hy => ?_⟩
            have hh' : h = [x] := by simpa using hh
            subst hh'
            have hy' : y = x := by simpa using hy
            subst hy'
            have hzy : vlt z y := hpx z (by simp)
            have hzl := vlt_key hzy hz
            rcases List.mem_append.1 hg' with h | h
            · have hne : u.key.toList ≠ z.key.toList := (List.pairwise_append.1 i5).2.2 g h (z :: m) (by simp) u hu z List.mem_cons_self
              have huf : u ∈ fl G := fl_mem h hu
              have huz : vlt u z := by
                have h1 := (List.pairwise_append.1 hr).1
                exact (List.pairwise_append.1 h1).2.2 u huf z List.mem_cons_self
              exact less_ne (lt_trans (vlt_key huz hne) hzl)
            · have : g = z :: m := by simpa using h
              subst this
              have hu1 := i2 u hu
              have hz1 := i2 z List.mem_cons_self
              rw [hu1, ← hz1]; exact hz
  obtain ⟨i1, i2, i3, i4, i5⟩ := key l.length (Nat.le_refl _)
  rw [List.take_length] at *
  have hsub : ∀ (gs : List (List Ver)) (g : List Ver), g ∈ gs → g.Sublist (fl gs) := by
    intro gs
    induction gs with
    | nil => intro g h; cases h
    | cons g0 gs ih =>
      intro g h
      rw [fl_cons]
      rcases List.mem_cons.1 h with e | e
      · subst e; exact List.sublist_append_left _ _
      · exact (ih g e).trans (List.sublist_append_right _ _)
  refine ⟨?_, fun g hg => hl.sublist (by have := hsub _ g hg; rwa [grps_fl] at this), ?_⟩
  · intro g hg
    unfold grps gend at hg
    rcases List.mem_append.1 hg with h | h
    · exact i3 g h
    · split at h
      · cases h
      · have : g = (gst l).2 := by simpa using h
        subst this; exact i2
  · unfold grps gend
    split
    · rw [List.append_nil]; exact (List.pairwise_append.1 i5).1
    · exact i5

theorem trimN_take (bot : Bool) (l : List Ver) : ∀ n, n ≤ l.length → ∃ m, m ≤ n ∧ trimN bot l n = l.take m ∧ ∀ j (h : j < l.length), m ≤ j → j < n → l[j].del = true
  | 0, _ => ⟨0, Nat.le_refl _, by simp [trimN], fun j _ h1 h2 => by omega⟩
  | n + 1, hn => by
    by_cases hc : (bot && ((l[n]?).map Ver.del).getD false) = true
    · obtain ⟨m, h1, h2, h3⟩ := trimN_take bot l n (by omega)
      refine ⟨m, by omega, ?_, fun j h g1 g2 => ?_⟩
      · unfold trimN; rw [if_pos hc]; exact h2
      · by_cases e : j = n
        · subst e
          rw [List.getElem?_eq_getElem h, Bool.and_eq_true] at hc
          exact hc.2
        · exact h3 j h g1 (by omega)
    · exact ⟨n + 1, Nat.le_refl _, by unfold trimN; rw [if_neg hc], fun j _ g1 g2 => by omega⟩
theorem needN_sub (fs : List Nat) (g : List Ver) : ∀ n, (needN fs g n).Sublist (g.take n)
  | 0 => by simp [needN]
  | n + 1 => by
    unfold needN
    rw [List.take_add_one]
    refine List.Sublist.append (needN_sub fs g n) ?_
    split
    · exact List.Sublist.refl _
    · exact List.nil_sublist _
theorem need_sub (fs : List Nat) (g : List Ver) : (need fs g).Sublist g := by
  have := needN_sub fs g g.length
  rwa [List.take_length] at this
theorem keep1_sub (fs : List Nat) (bot : Bool) (g : List Ver) : (keep1 fs bot g).Sublist g := by
  unfold keep1 trim
  obtain ⟨m, _, e, _⟩ := trimN_take bot (need fs g) (need fs g).length (Nat.le_refl _)
  rw [e]
  exact (List.take_sublist _ _).trans (need_sub fs g)
theorem needN_more (fs : List Nat) (g : List Ver) (n : Nat) : ∀ m, ∃ r, needN fs g (n + m) = needN fs g n ++ r
  | 0 => ⟨[], by simp⟩
  | m + 1 => by
    obtain ⟨r, h⟩ := needN_more fs g n m
    refine ⟨r ++ (if needI fs g (n + m) then (g[n + m]?).toList else []), ?_⟩
    show needN fs g (n + m) ++ (if needI fs g (n + m) then (g[n + m]?).toList else []) = _
    rw [h, List.append_assoc]
theorem sel_keep {fs : List Nat} {bot : Bool} {g : List Ver} {sq : Nat} (hq : sq ∈ fs ∨ ∀ x ∈ g, x.seq ≤ sq) : sel sq (keep1 fs bot g) = sel sq g := by
  unfold sel
  cases hf : g.find? (fun v => decide (v.seq ≤ sq)) with
  | none =>
    have : (keep1 fs bot g).find? (fun v => decide (v.seq ≤ sq)) = none := by
      rw [List.find?_eq_none] at hf ⊢
      exact fun x hx => hf x ((keep1_sub fs bot g).subset hx)
    rw [this]
  | some x =>
    obtain ⟨hx, a, r, e, ha⟩ := List.find?_eq_some_iff_append.1 hf
    have hx' : x.seq ≤ sq := by simpa using hx
    have ha' : ∀ v ∈ a, sq < v.seq := fun v hv => by have := ha v hv; simpa using this
    have hlt : a.length < g.length := by rw [e]; simp
    have hgx : g[a.length] = x := by simp only [e, List.getElem_append_right (Nat.le_refl a.length), Nat.sub_self, List.getElem_cons_zero]
    have hn : needI fs g a.length = true := by
      cases hal : a.length with
      | zero => rfl
      | succ j =>
        rw [needI_succ (by omega)]
        have hj : j < a.length := by omega
        have hgj : g[j] = a[j] := by simp only [e, List.getElem_append_left hj]
        have hgx' : g[j + 1]'(by omega) = x := by
          have := hgx; simp only [hal] at this; exact this
        rw [hgj, hgx']
        have haj := ha' a[j] (List.getElem_mem hj)
        rcases hq with hq | hq
        · unfold needAt
          rw [List.any_eq_true]
          exact ⟨sq, hq, by simp [hx', haj]⟩
        · have := hq a[j] (by rw [e]; exact List.mem_append_left _ (List.getElem_mem hj))
          omega
    have h1 : needN fs g (a.length + 1) = needN fs g a.length ++ [x] := by rw [needN_yes hlt hn, hgx]
    obtain ⟨r', h2⟩ := needN_more fs g (a.length + 1) (g.length - (a.length + 1))
    rw [show a.length + 1 + (g.length - (a.length + 1)) = g.length by omega, h1] at h2
    have h3 : need fs g = needN fs g a.length ++ x :: r' := by unfold need; rw [h2]; simp
    have h4 : ∀ v ∈ needN fs g a.length, sq < v.seq := fun v hv => by
      have := (needN_sub fs g a.length).subset hv
      rw [e, List.take_left] at this
      exact ha' v this
    generalize needN fs g a.length = b at *
    obtain ⟨m, hm, e2, hd⟩ := trimN_take bot (need fs g) (need fs g).length (Nat.le_refl _)
    have e3 : keep1 fs bot g = (b ++ x :: r').take m := by unfold keep1 trim; rw [e2, h3]
    rw [e3]
    by_cases hmb : m ≤ b.length
    · have hdx : x.del = true := by
        have := hd b.length (by rw [h3]; simp) hmb (by rw [h3]; simp)
        simp only [h3, List.getElem_append_right (Nat.le_refl b.length), Nat.sub_self, List.getElem_cons_zero] at this
        exact this
      have h5 : ((b ++ x :: r').take m).find? (fun v => decide (v.seq ≤ sq)) = none := by
        rw [List.take_append_of_le_length hmb, List.find?_eq_none]
        intro v hv
        have := h4 v (List.mem_of_mem_take hv)
        simp; omega
      rw [h5]
      show [] = if x.del then [] else _
      rw [if_pos hdx]
    · have h5 : ((b ++ x :: r').take m).find? (fun v => decide (v.seq ≤ sq)) = some x := by
        rw [List.find?_eq_some_iff_append]
        refine ⟨by simpa using hx', b, r'.take (m - b.length - 1), ?_, fun v hv => by have := h4 v hv; simp; omega⟩
        rw [List.take_append, List.take_of_length_le (by omega)]
        rw [show m - b.length = (m - b.length - 1) + 1 by omega, List.take_succ_cons]
        simp
      rw [h5]
theorem keepG_fl (fs : List Nat) (bot : Bool) (gs : List (List Ver)) : keepG fs bot gs = fl (gs.map (keep1 fs bot)) := by
  induction gs with
  | nil => rfl
  | cons g gs ih =>
    show keep1 fs bot g ++ keepG fs bot gs = _
    rw [ih]; rfl
theorem keep_grouped {fs : List Nat} {bot : Bool} {gs : List (List Ver)} (h : Grouped gs) : Grouped (gs.map (keep1 fs bot)) := by
  refine ⟨?_, ?_, ?_⟩
  · intro g hg
    obtain ⟨g', hg', rfl⟩ := List.mem_map.1 hg
    obtain ⟨k, hk⟩ := h.one g' hg'
    exact ⟨k, fun v hv => hk v ((keep1_sub fs bot g').subset hv)⟩
  · intro g hg
    obtain ⟨g', hg', rfl⟩ := List.mem_map.1 hg
    exact (h.ris g' hg').sublist (keep1_sub fs bot g')
  · refine List.pairwise_map.2 (h.apart.imp ?_)
    intro a b hab x hx y hy
    exact hab x ((keep1_sub fs bot a).subset hx) y ((keep1_sub fs bot b).subset hy)
theorem cutHi_empty (l : List Ver) : cutHi .empty l = l := cutHi_all (fun v _ => by unfold high; rw [empty_list]; rfl)
theorem keep_sees {fs : List Nat} {bot : Bool} {l : List Ver} {sq : Nat} (hl : Ris l) (hq : sq ∈ fs ∨ ∀ x ∈ l, x.seq ≤ sq) : pairsOf sq .empty .empty (keepOf fs bot l) = pairsOf sq .empty .empty l := by
  unfold pairsOf
  rw [cutHi_empty, cutHi_empty]
  have hg := grps_grouped l hl
  have e1 := run_groups (sq := sq) (grps l) s0 hg (fun _ _ x _ => s0_open x.key)
  have e2 := run_groups (sq := sq) _ s0 (keep_grouped (fs := fs) (bot := bot) hg) (fun _ _ x _ => s0_open x.key)
  rw [grps_fl] at e1
  unfold keepOf
  rw [keepG_fl, e1, e2]
  have hmem : ∀ g ∈ grps l, ∀ x ∈ g, x ∈ l := by
    intro g hgm x hx
    have := fl_mem hgm hx
    rwa [grps_fl] at this
  have hall : ∀ g ∈ grps l, sel sq (keep1 fs bot g) = sel sq g := fun g hgm => by
    exact sel_keep (hq.imp id (fun h x hx => h x (hmem g hgm x hx)))
  clear e1 e2 hmem hg hq hl
  generalize grps l = gs at hall
  induction gs with
  | nil => rfl
  | cons g gs ih =>
    show sel sq (keep1 fs bot g) ++ _ = sel sq g ++ _
    rw [hall g List.mem_cons_self, ih (fun g' h' => hall g' (List.mem_cons_of_mem _ h'))]
end Go.Proofs.Ytiogjebekadmcaa.Pl
