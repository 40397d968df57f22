
/- Plain: files at hand as plain files. Condition: none.
   Plain: a step, done to files at hand and to plain files. Condition: none.
   Plain: what a plan writes is what is at hand. Condition: none.
   Plain: a root's bytes are read as that root. Condition: none.
   Plain: a commit, whenever the power goes, leaves all of it or nothing. Condition: none. -/
import Derived.Test.YtndekdgpibipnaaQGp
import Derived.Test.YtndekdgpibipnaaQGq
import Derived.Test.YtndekdgpibipnaaQGm

namespace Go.Proofs.Ytndekdgpibipnaa.Pl

theorem eq_of_list {a b : ByteArray} (h : a.data.toList = b.data.toList) : a = b := ByteArray.ext (Array.ext' h)
theorem hget_cons (p : ByteArray × HF) (l : List (ByteArray × HF)) (nm : ByteArray) : hget (p :: l) nm = if p.1 = nm then some p.2 else hget l nm := by
  unfold hget
  rw [List.find?_cons]
  by_cases h : p.1 = nm
  · rw [if_pos h]
    have : (p.1.data.toList == nm.data.toList) = true := by simp [h]
    rw [this]; rfl
  · rw [if_neg h]
    have : (p.1.data.toList == nm.data.toList) = false := by
      rw [beq_eq_false_iff_ne]
      exact fun e => h (eq_of_list e)
    rw [this]
theorem hget_mem {l : List (ByteArray × HF)} {nm : ByteArray} {y : HF} (h : hget l nm = some y) : (nm, y) ∈ l := by
  obtain ⟨p, hp, e1, e2⟩ := hget_some h
  rw [← e1, ← eq_of_list e2]
  exact hp
theorem hget_hins_ne {x : ByteArray × HF} {nm : ByteArray} (h : x.1 ≠ nm) : ∀ l, hget (hins x l) nm = hget l nm
  | [] => by rw [hins, hget_cons, if_neg h]
  | y :: r => by
    unfold hins
    split
    · rw [hget_cons, if_neg h]
    · rw [hget_cons, hget_cons, hget_hins_ne h r]
theorem hget_hins_self {x : ByteArray × HF} : ∀ l : List (ByteArray × HF), (∀ p ∈ l, p.1 ≠ x.1) → hget (hins x l) x.1 = some x.2
  | [], _ => by rw [hins, hget_cons, if_pos rfl]
  | y :: r, h => by
    unfold hins
    split
    · rw [hget_cons, if_pos rfl]
    · rw [hget_cons, if_neg (h y List.mem_cons_self), hget_hins_self r (fun p hp => h p (List.mem_cons_of_mem _ hp))]
theorem hdel_cons (p : ByteArray × HF) (l : List (ByteArray × HF)) (nm : ByteArray) : hdel (p :: l) nm = if p.1 = nm then hdel l nm else p :: hdel l nm := by
  unfold hdel
  by_cases h : p.1 = nm
  · rw [if_pos h, List.filter_cons_of_neg (by simp [h])]
  · rw [if_neg h, List.filter_cons_of_pos (by
      have : (p.1.data.toList == nm.data.toList) = false := by
        rw [beq_eq_false_iff_ne]
        exact fun e => h (eq_of_list e)
      rw [this]; rfl)]
theorem hget_hdel_ne {nm k : ByteArray} (h : nm ≠ k) : ∀ l, hget (hdel l k) nm = hget l nm
  | [] => rfl
  | p :: l => by
    rw [hdel_cons, hget_cons]
    split
    · rename_i e
      rw [if_neg (fun e2 => h (e2.symm.trans e)), hget_hdel_ne h l]
    · rw [hget_cons, hget_hdel_ne h l]
theorem hdel_ne {l : List (ByteArray × HF)} {nm : ByteArray} {p : ByteArray × HF} (h : p ∈ hdel l nm) : p.1 ≠ nm := by
  intro e
  have := (List.mem_filter.1 h).2
  simp [e] at this
theorem hget_hdel_self (l : List (ByteArray × HF)) (nm : ByteArray) : hget (hdel l nm) nm = none := by
  cases h : hget (hdel l nm) nm with
  | none => rfl
  | some y => exact absurd rfl (hdel_ne (hget_mem h))
theorem hdel_self {l : List (ByteArray × HF)} {nm : ByteArray} (h : hget l nm = none) : hdel l nm = l := by
  induction l with
  | nil => rfl
  | cons p l ih =>
    rw [hget_cons] at h
    split at h
    · cases h
    · rename_i hne
      rw [hdel_cons, if_neg hne, ih h]
theorem hget_hput_ne {nm k : ByteArray} (h : k ≠ nm) (l : List (ByteArray × HF)) (y : HF) : hget (hput l k y) nm = hget l nm := by
  unfold hput
  rw [hget_hins_ne (x := (k, y)) h, hget_hdel_ne h.symm]
theorem hget_hput_self (l : List (ByteArray × HF)) (nm : ByteArray) (y : HF) : hget (hput l nm y) nm = some y :=
  hget_hins_self (x := (nm, y)) _ (fun _ hp => hdel_ne hp)
/-- names all different -/
def HN (l : List (ByteArray × HF)) : Prop := (l.map (·.1)).Nodup
theorem HN.nil : HN [] := List.nodup_nil
theorem HN.del {l : List (ByteArray × HF)} (h : HN l) (nm : ByteArray) : HN (hdel l nm) := List.Nodup.sublist (List.Sublist.map _ List.filter_sublist) h
theorem HN.ins {l : List (ByteArray × HF)} (h : HN l) (x : ByteArray × HF) (hx : ∀ p ∈ l, p.1 ≠ x.1) : HN (hins x l) := by
  induction l with
  | nil => unfold HN hins; simp
  | cons y r ih =>
    have h' : y.1 ∉ r.map (·.1) ∧ HN r := by unfold HN at h; rw [List.map_cons, List.nodup_cons] at h; exact h
    unfold hins
    split
    · show (x.1 :: y.1 :: r.map (·.1)).Nodup
      rw [List.nodup_cons]
      refine ⟨fun hm => ?_, h⟩
      rcases List.mem_cons.1 hm with e | hm
      · exact hx y List.mem_cons_self e.symm
      · obtain ⟨p, hp, e⟩ := List.mem_map.1 hm
        exact hx p (List.mem_cons_of_mem _ hp) e
    · show (y.1 :: (hins x r).map (·.1)).Nodup
      rw [List.nodup_cons]
      refine ⟨fun hm => ?_, ih h'.2 (fun p hp => hx p (List.mem_cons_of_mem _ hp))⟩
      obtain ⟨p, hp, e⟩ := List.mem_map.1 hm
      rcases hins_mem _ hp with rfl | hp
      · exact hx y List.mem_cons_self e.symm
      · exact h'.1 (List.mem_map.2 ⟨p, hp, e⟩)
theorem HN.put {l : List (ByteArray × HF)} (h : HN l) (nm : ByteArray) (y : HF) : HN (hput l nm y) := (h.del nm).ins _ (fun _ hp => hdel_ne hp)
theorem HN.get {l : List (ByteArray × HF)} (h : HN l) {p : ByteArray × HF} (hp : p ∈ l) : hget l p.1 = some p.2 := by
  induction l with
  | nil => cases hp
  | cons q r ih =>
    have h' : q.1 ∉ r.map (·.1) ∧ HN r := by unfold HN at h; rw [List.map_cons, List.nodup_cons] at h; exact h
    rw [hget_cons]
    rcases List.mem_cons.1 hp with rfl | hp
    · rw [if_pos rfl]
    · rw [if_neg (fun e => h'.1 (List.mem_map.2 ⟨p, hp, e.symm⟩))]
      exact ih h'.2 hp
theorem hdel_length {l : List (ByteArray × HF)} (h : HN l) {nm : ByteArray} {y : HF} (hg : hget l nm = some y) : (hdel l nm).length + 1 = l.length := by
  induction l with
  | nil => cases hg
  | cons q r ih =>
    have h' : q.1 ∉ r.map (·.1) ∧ HN r := by unfold HN at h; rw [List.map_cons, List.nodup_cons] at h; exact h
    rw [hget_cons] at hg
    rw [hdel_cons]
    split at hg
    · rename_i e
      rw [if_pos e, hdel_self]
      · rfl
      · cases hn : hget r nm with
        | none => rfl
        | some z => exact absurd (List.mem_map.2 ⟨(nm, z), hget_mem hn, e.symm⟩) h'.1
    · rename_i e
      rw [if_neg e, List.length_cons, List.length_cons, ih h'.2 hg]
theorem nodup_sub {α : Type} [DecidableEq α] : ∀ (a b : List α), a.Nodup → (∀ x ∈ a, x ∈ b) → a.length ≤ b.length
  | [], _, _, _ => Nat.zero_le _
  | x :: a, b, hd, h => by
    rw [List.nodup_cons] at hd
    have h1 := nodup_sub a (b.erase x) hd.2 (fun y hy => by
      rw [List.mem_erase_of_ne (fun e => hd.1 (by rw [← e]; exact hy))]
      exact h y (List.mem_cons_of_mem _ hy))
    have h2 := List.length_erase_of_mem (h x List.mem_cons_self)
    have h3 := List.length_pos_of_mem (h x List.mem_cons_self)
    rw [List.length_cons]
    omega
/-- what a file at hand has -/
def cont (s : Dv) (y : HF) : ByteArray := bytesOf s y 0 y.blocks.length ++ y.added
theorem cont_added (s : Dv) (y : HF) (t : ByteArray) : cont s { y with added := y.added ++ t } = cont s y ++ t := by
  unfold cont
  rw [ByteArray.append_assoc]
  rfl
theorem cont_zero (s : Dv) : cont s HF.zero = .empty := by
  apply ByteArray.ext
  simp [cont, bytesOf, bytesL, HF.zero, ByteArray.data_append, ByteArray.data_extract]
/-- plain files, as they stand at hand -/
structure Rep (s : Dv) (l : List (ByteArray × HF)) (ns ds : List ByteArray) : Prop where
  nodup : ns.Nodup
  eqlen : ds.length = ns.length
  len : l.length = ns.length
  get : ∀ (j : Nat) (nm d : ByteArray), ns[j]? = some nm → ds[j]? = some d → ∃ y, hget l nm = some y ∧ cont s y = d
variable {s : Dv} {l : List (ByteArray × HF)} {ns ds : List ByteArray}
theorem Rep.nil (s : Dv) : Rep s [] [] [] := ⟨List.nodup_nil, rfl, rfl, fun j nm d h => by simp at h⟩
theorem Rep.has (h : Rep s l ns ds) {nm : ByteArray} (hm : nm ∈ ns) : ∃ y, hget l nm = some y := by
  obtain ⟨i, hi, rfl⟩ := List.mem_iff_getElem.1 hm
  obtain ⟨y, hy, _⟩ := h.get i ns[i] (ds[i]'(by rw [h.eqlen]; exact hi)) (List.getElem?_eq_getElem hi) (List.getElem?_eq_getElem _)
  exact ⟨y, hy⟩
theorem Rep.mem (h : Rep s l ns ds) {nm : ByteArray} {y : HF} (hg : hget l nm = some y) : nm ∈ ns := by
  classical
  refine Decidable.byContradiction (fun hn => ?_)
  have := nodup_sub (nm :: ns) (l.map (·.1)) (List.nodup_cons.2 ⟨hn, h.nodup⟩) (fun x hx => by
    rcases List.mem_cons.1 hx with rfl | hx
    · exact List.mem_map.2 ⟨_, hget_mem hg, rfl⟩
    · obtain ⟨z, hz⟩ := h.has hx
      exact List.mem_map.2 ⟨_, hget_mem hz, rfl⟩)
  rw [List.length_cons, List.length_map, h.len] at this
  omega
theorem erase_get {α : Type} {l : List α} {i j : Nat} {a : α} (h : (l.eraseIdx i)[j]? = some a) : ∃ k, k ≠ i ∧ l[k]? = some a ∧ ∀ (b : List α), (b.eraseIdx i)[j]? = b[k]? := by
  rw [List.getElem?_eraseIdx] at h
  split at h
  · rename_i hj
    exact ⟨j, by omega, h, fun b => by rw [List.getElem?_eraseIdx, if_pos hj]⟩
  · rename_i hj
    exact ⟨j + 1, by omega, h, fun b => by rw [List.getElem?_eraseIdx, if_neg hj]⟩
theorem Rep.erase (h : Rep s l ns ds) (hn : HN l) {i : Nat} (hi : i < ns.length) : Rep s (hdel l ns[i]) (ns.eraseIdx i) (ds.eraseIdx i) := by
  obtain ⟨y, hy⟩ := h.has (List.getElem_mem hi)
  refine ⟨List.Nodup.sublist (List.eraseIdx_sublist _ _) h.nodup, by rw [List.length_eraseIdx, List.length_eraseIdx, h.eqlen], ?_, fun j nm d h1 h2 => ?_⟩
  · have := hdel_length hn hy
    rw [List.length_eraseIdx, if_pos hi, ← h.len]
    omega
  · obtain ⟨k, hk, e1, e2⟩ := erase_get h1
    rw [e2 ds] at h2
    have hne : nm ≠ ns[i] := fun e => by
      obtain ⟨hk2, e3⟩ := List.getElem?_eq_some_iff.1 e1
      exact hk ((List.getElem_inj h.nodup).1 (e3.trans e))
    obtain ⟨z, hz, hc⟩ := h.get k nm d e1 h2
    exact ⟨z, by rw [hget_hdel_ne hne]; exact hz, hc⟩
theorem Rep.snoc (h : Rep s l ns ds) {nm : ByteArray} (hg : hget l nm = none) (y : HF) : Rep s (hins (nm, y) l) (ns ++ [nm]) (ds ++ [cont s y]) := by
  have hnot : nm ∉ ns := fun hm => by obtain ⟨z, hz⟩ := h.has hm; rw [hg] at hz; cases hz
  have hle : ∀ p ∈ l, p.1 ≠ nm := fun p hp e => by
    have : hdel l nm = l := hdel_self hg
    rw [← this] at hp
    exact hdel_ne hp e
  refine ⟨?_, by rw [List.length_append, List.length_append, h.eqlen]; rfl, by rw [hins_length, h.len, List.length_append]; rfl, fun j a d h1 h2 => ?_⟩
  · rw [List.nodup_append]
    exact ⟨h.nodup, by simp, fun a ha b hb e => by rw [List.mem_singleton] at hb; subst hb e; exact hnot ha⟩
  · by_cases hj : j < ns.length
    · rw [List.getElem?_append_left hj] at h1
      rw [List.getElem?_append_left (by rw [h.eqlen]; exact hj)] at h2
      obtain ⟨z, hz, hc⟩ := h.get j a d h1 h2
      refine ⟨z, ?_, hc⟩
      rw [hget_hins_ne (x := (nm, y)) (fun e => ?_)]
      · exact hz
      · have e' : nm = a := e
        rw [← e', hg] at hz
        cases hz
    · rw [List.getElem?_append_right (by omega)] at h1
      rw [List.getElem?_append_right (by rw [h.eqlen]; omega)] at h2
      have hj0 : j - ns.length = 0 := by
        rcases Nat.eq_zero_or_pos (j - ns.length) with e | e
        · exact e
        · rw [List.getElem?_eq_none (by show ([nm] : List ByteArray).length ≤ _; exact e)] at h1; cases h1
      rw [hj0] at h1
      rw [h.eqlen, hj0] at h2
      simp at h1 h2
      subst h1 h2
      exact ⟨y, hget_hins_self (x := (nm, y)) l hle, rfl⟩
theorem Rep.set (h : Rep s l ns ds) (hn : HN l) {i : Nat} (hi : i < ns.length) (y : HF) : Rep s (hput l ns[i] y) ns (ds.set i (cont s y)) := by
  obtain ⟨y0, hy0⟩ := h.has (List.getElem_mem hi)
  refine ⟨h.nodup, by rw [List.length_set]; exact h.eqlen, ?_, fun j a d h1 h2 => ?_⟩
  · unfold hput
    rw [hins_length]
    have := hdel_length hn hy0
    have := h.len
    omega
  · rw [List.getElem?_set] at h2
    obtain ⟨hj, e3⟩ := List.getElem?_eq_some_iff.1 h1
    by_cases hij : i = j
    · subst hij
      rw [if_pos rfl, if_pos (by rw [h.eqlen]; exact hi)] at h2
      obtain rfl := Option.some.inj h2
      rw [← e3]
      exact ⟨y, hget_hput_self _ _ _, rfl⟩
    · rw [if_neg hij] at h2
      obtain ⟨z, hz, hc⟩ := h.get j a d h1 h2
      refine ⟨z, ?_, hc⟩
      rw [hget_hput_ne (fun e => hij ((List.getElem_inj h.nodup).1 (e.trans e3.symm)))]
      exact hz
end Go.Proofs.Ytndekdgpibipnaa.Pl

namespace Go.Proofs.Ytndekdgpibipnaa.Pl

theorem bytesOf_list (s : Dv) (y : HF) (fr tt : Nat) : (bytesOf s y fr tt).data.toList = (bytesL s ((y.blocks.take tt).drop fr)).take (y.old - fr * 256) := by
  have key : ∀ (l : List UInt8) (m : Nat), ((⟨l.toArray⟩ : ByteArray).extract 0 m).data.toList = l.take m := by
    intro l m
    simp [ByteArray.data_extract, Array.toList_extract, List.extract_eq_take_drop]
  unfold bytesOf
  rw [key, List.take_eq_take_iff]
  omega
theorem cont_list (s : Dv) (y : HF) : (cont s y).data.toList = (bytesL s y.blocks).take y.old ++ y.added.data.toList := by
  unfold cont
  rw [ByteArray.data_append, Array.toList_append, bytesOf_list, List.take_length, List.drop_zero, Nat.zero_mul, Nat.sub_zero]
theorem bytesL_congr {s s' : Dv} : ∀ {l : List Int}, (∀ q ∈ l, s'.read q.toNat = s.read q.toNat) → bytesL s' l = bytesL s l
  | [], _ => rfl
  | q :: l, h => by
    have h2 := bytesL_congr (s := s) (s' := s') (l := l) (fun p hp => h p (List.mem_cons_of_mem _ hp))
    unfold bytesL at *
    rw [List.flatMap_cons, List.flatMap_cons, h2, h q List.mem_cons_self]
theorem cont_congr {s s' : Dv} {y : HF} (h : ∀ q ∈ y.blocks, s'.read q.toNat = s.read q.toNat) : cont s' y = cont s y := by
  apply eq_of_list
  rw [cont_list, cont_list, bytesL_congr h]
theorem cont_size (s : Dv) (y : HF) : (cont s y).size ≤ y.old + y.added.size := by
  have h : (cont s y).data.toList.length ≤ y.old + y.added.size := by
    rw [cont_list, List.length_append, List.length_take]
    have : y.added.data.toList.length = y.added.size := by simp
    omega
  simpa using h
theorem readY_all {s : Dv} {y : HF} (h : y.blocks.length = (y.old + 255) / 256) : readY s y 0 y.size = cont s y := by
  have h0 : readY s y 0 y.size = readAt s y 0 y.size := by
    unfold readY
    rw [Nat.zero_min, Nat.sub_zero, Nat.min_self, Nat.zero_add]
  apply eq_of_list
  rw [h0, cont_list]
  unfold readAt
  rw [ByteArray.data_append, Array.toList_append]
  have e1 : min y.size y.old = y.old := by unfold HF.size; omega
  have e2 : (takesB ((y.old : Nat) : Int)).toNat = y.blocks.length := by rw [takesB_nat]; omega
  congr 1
  · by_cases h1 : 0 < y.old
    · rw [if_pos h1]
      unfold readOld
      rw [e1, e2]
      simp only [Nat.zero_div, Nat.zero_mul, Nat.sub_zero]
      have hl := bytesOf_list s y 0 y.blocks.length
      rw [List.take_length, List.drop_zero, Nat.zero_mul, Nat.sub_zero] at hl
      have hz : (bytesOf s y 0 y.blocks.length).size ≤ y.old := by
        have h2 : (bytesOf s y 0 y.blocks.length).data.toList.length ≤ y.old := by
          rw [hl, List.length_take]
          omega
        simpa using h2
      have hm : min (bytesOf s y 0 y.blocks.length).size y.size = (bytesOf s y 0 y.blocks.length).size := by unfold HF.size; omega
      rw [hm, ← hl]
      simp [ByteArray.data_extract, Array.toList_extract, List.extract_eq_take_drop]
    · rw [if_neg h1]
      have : y.old = 0 := by omega
      rw [this, List.take_zero]
      rfl
  · by_cases h2 : y.old < y.size
    · rw [if_pos h2]
      have e3 : y.size - y.old = y.added.size := by unfold HF.size; omega
      rw [Nat.zero_sub, e3]
      simp [ByteArray.data_extract, Array.toList_extract, List.extract_eq_take_drop]
    · rw [if_neg h2]
      have e3 : y.added.size = 0 := by unfold HF.size at h2; omega
      have e4 : y.added.data.toList.length = 0 := by simpa using e3
      rw [List.length_eq_zero_iff.1 e4]
      rfl
variable {N T : Nat} {x : Fs} {s : Dv} {ns ds ns' ds' : List ByteArray} {y : AcF}
/-- what is asked of plain files is just that they stand for what is at hand -/
theorem isP_rep (hk : HK N T x.hand) (hn : ns.Nodup) (he : ds.length = ns.length) : IsP x s ns ds ↔ Rep s x.hand ns ds := by
  constructor
  · rintro ⟨h1, h2⟩
    refine ⟨hn, he, h1, fun j nm d e1 e2 => ?_⟩
    obtain ⟨hj, e1⟩ := List.getElem?_eq_some_iff.1 e1
    obtain ⟨hj2, e2⟩ := List.getElem?_eq_some_iff.1 e2
    obtain ⟨y, hy, hr⟩ := h2 j hj hj2
    obtain ⟨p, hp, rfl, _⟩ := hget_some hy
    exact ⟨p.2, by rw [← e1]; exact hy, by rw [← readY_all (hk.all p hp).blocks, hr, e2]⟩
  · intro h
    refine ⟨h.len, fun i h1 h2 => ?_⟩
    obtain ⟨y, hy, hc⟩ := h.get i ns[i] ds[i] (List.getElem?_eq_getElem h1) (List.getElem?_eq_getElem h2)
    obtain ⟨p, hp, rfl, _⟩ := hget_some hy
    exact ⟨p.2, hy, by rw [readY_all (hk.all p hp).blocks, hc]⟩
/-- plain files of few names that all differ -/
structure Pb (ns ds : List ByteArray) : Prop where
  nodup : ns.Nodup
  eqlen : ds.length = ns.length
  many : ns.length ≤ 64
  name : ∀ t ∈ ns, t.size ≤ 32
theorem Rep.pb {l : List (ByteArray × HF)} (h : Rep s l ns ds) (hk : HK N T l) : Pb ns ds := by
  refine ⟨h.nodup, h.eqlen, by rw [← h.len]; exact hk.many, fun t ht => ?_⟩
  obtain ⟨y, hy⟩ := h.has ht
  exact (hk.all _ (hget_mem hy)).name
theorem Rep.small {l : List (ByteArray × HF)} (h : Rep s l ns ds) (hk : HK N T l) : ∀ t ∈ ds, t.size ≤ 4194304 + T := by
  intro t ht
  obtain ⟨j, hj, rfl⟩ := List.mem_iff_getElem.1 ht
  obtain ⟨y, hy, hc⟩ := h.get j (ns[j]'(by rw [← h.eqlen]; exact hj)) ds[j] (List.getElem?_eq_getElem _) (List.getElem?_eq_getElem hj)
  have hE := hk.all _ (hget_mem hy)
  have h1 := cont_size s y
  have h2 := hE.old
  have h3 := hE.added
  rw [← hc]
  simp only at h2 h3
  omega
theorem tryE_or (x : Fs) (s : Dv) (y : AcF) : (x.tryE s y).2 = 0 ∨ (x.tryE s y).1 = x := by
  unfold Fs.tryE Fs.createE Fs.appendE Fs.renameE Fs.deleteE Fs.create Fs.append Fs.rename Fs.delete
  repeat' split
  all_goals first
  | exact .inl rfl
  | exact .inr rfl
theorem tryE_no (h : (x.tryE s y).2 ≠ 0) : (x.tryE s y).1 = x := (tryE_or x s y).resolve_left h
theorem tryE_0 (h : (x.tryE s y).2 = 0) (hk : y.kind = 0) : hget x.hand y.name = none ∧ (x.tryE s y).1 = { x with hand := hput x.hand y.name HF.zero, changed := true } := by
  unfold Fs.tryE at *
  rw [if_pos hk] at h ⊢
  unfold Fs.createE Fs.create at *
  split at h
  · exact absurd (show (4 : Int) = 0 from h) (by decide)
  · rename_i a1
    rw [if_neg a1]
    split at h
    · exact absurd (show (1 : Int) = 0 from h) (by decide)
    · rename_i a2
      rw [if_neg a2]
      split at h
      · exact absurd (show (7 : Int) = 0 from h) (by decide)
      · rename_i a3
        rw [if_neg a3]
        split at h
        · exact absurd (show (5 : Int) = 0 from h) (by decide)
        · rename_i a4
          rw [if_neg a4]
          exact ⟨by simpa using a3, rfl⟩
theorem tryE_1 (h : (x.tryE s y).2 = 0) (hk : y.kind = 1) : ∃ q, hget x.hand y.name = some q ∧ (x.tryE s y).1 = { x with hand := hput x.hand y.name { q with added := q.added ++ y.data }, changed := x.changed || decide (0 < y.data.size) } := by
  unfold Fs.tryE at *
  rw [if_neg (by omega), if_pos hk] at h ⊢
  unfold Fs.appendE Fs.append at *
  split at h
  · exact absurd (show (4 : Int) = 0 from h) (by decide)
  · rename_i a1
    rw [if_neg a1]
    cases hg : hget x.hand y.name with
    | none => rw [hg] at h; exact absurd h (by show ¬ (6 : Int) = 0; decide)
    | some q => exact ⟨q, rfl, rfl⟩
theorem tryE_2 (h : (x.tryE s y).2 = 0) (hk : y.kind = 2) : ∃ q, hget x.hand y.name = some q ∧ ((y.name = y.dest ∧ (x.tryE s y).1 = x) ∨ (y.name ≠ y.dest ∧ (x.tryE s y).1 = { x with hand := hput (hdel x.hand y.name) y.dest q, changed := true })) := by
  unfold Fs.tryE at *
  rw [if_neg (by omega), if_neg (by omega), if_pos hk] at h ⊢
  unfold Fs.renameE Fs.rename at *
  split at h
  · exact absurd (show (4 : Int) = 0 from h) (by decide)
  · rename_i a1
    rw [if_neg a1]
    split at h
    · exact absurd (show (1 : Int) = 0 from h) (by decide)
    · rename_i a2
      rw [if_neg a2]
      cases hg : hget x.hand y.name with
      | none => rw [hg] at h; exact absurd h (by show ¬ (6 : Int) = 0; decide)
      | some q =>
        refine ⟨q, rfl, ?_⟩
        by_cases e : y.name = y.dest
        · exact .inl ⟨e, by show (if y.name.data.toList = y.dest.data.toList then (x, (0 : Int)) else _).1 = x; rw [if_pos (by rw [e])]⟩
        · exact .inr ⟨e, by show (if y.name.data.toList = y.dest.data.toList then (x, (0 : Int)) else ({ x with hand := hput (hdel x.hand y.name) y.dest q, changed := true }, 0)).1 = _; rw [if_neg (fun e2 => e (eq_of_list e2))]⟩
theorem tryE_3 (h : (x.tryE s y).2 = 0) (hk : y.kind = 3) : ∃ q, hget x.hand y.name = some q ∧ (x.tryE s y).1 = { x with hand := hdel x.hand y.name, changed := true } := by
  unfold Fs.tryE at *
  rw [if_neg (by omega), if_neg (by omega), if_neg (by omega), if_pos hk] at h ⊢
  unfold Fs.deleteE Fs.delete at *
  split at h
  · exact absurd (show (4 : Int) = 0 from h) (by decide)
  · rename_i a1
    rw [if_neg a1]
    split at h
    · exact absurd (show (6 : Int) = 0 from h) (by decide)
    · rename_i a2
      rw [if_neg a2]
      cases hg : hget x.hand y.name with
      | none => rw [hg] at a2; exact absurd rfl a2
      | some q => exact ⟨q, rfl, rfl⟩
theorem tryE_kind (h : (x.tryE s y).2 = 0) : y.kind = 0 ∨ y.kind = 1 ∨ y.kind = 2 ∨ y.kind = 3 := by
  by_cases h0 : y.kind = 0
  · exact .inl h0
  by_cases h1 : y.kind = 1
  · exact .inr (.inl h1)
  by_cases h2 : y.kind = 2
  · exact .inr (.inr (.inl h2))
  by_cases h3 : y.kind = 3
  · exact .inr (.inr (.inr h3))
  unfold Fs.tryE at h
  rw [if_neg h0, if_neg h1, if_neg h2, if_neg h3] at h
  exact absurd h (by show ¬ (1 : Int) = 0; decide)
theorem tryE_has (hr : Rep s x.hand ns ds) (h : (x.tryE s y).2 = 0) : y.kind = 0 ∨ y.name ∈ ns := by
  rcases tryE_kind h with k | k | k | k
  · exact .inl k
  · obtain ⟨q, hq, _⟩ := tryE_1 h k
    exact .inr (hr.mem hq)
  · obtain ⟨q, hq, _⟩ := tryE_2 h k
    exact .inr (hr.mem hq)
  · obtain ⟨q, hq, _⟩ := tryE_3 h k
    exact .inr (hr.mem hq)
theorem HN.tryE (h : HN x.hand) : HN (x.tryE s y).1.hand := by
  by_cases h0 : (x.tryE s y).2 = 0
  · rcases tryE_kind h0 with k | k | k | k
    · rw [(tryE_0 h0 k).2]; exact h.put _ _
    · obtain ⟨q, hq, e⟩ := tryE_1 h0 k
      rw [e]; exact h.put _ _
    · obtain ⟨q, hq, ⟨_, e⟩ | ⟨_, e⟩⟩ := tryE_2 h0 k
      · rw [e]; exact h
      · rw [e]; exact (h.del _).put _ _
    · obtain ⟨q, hq, e⟩ := tryE_3 h0 k
      rw [e]; exact h.del _
  · rw [tryE_no h0]; exact h
/-- whose blocks the files at hand have -/
def HB (bs : List Int) (l : List (ByteArray × HF)) : Prop := ∀ p ∈ l, ∀ q ∈ p.2.blocks, q ∈ bs
theorem HB.tryE {bs : List Int} (h : HB bs x.hand) : HB bs (x.tryE s y).1.hand := by
  have hp : ∀ (l : List (ByteArray × HF)) (nm : ByteArray) (z : HF), HB bs l → (∀ q ∈ z.blocks, q ∈ bs) → HB bs (hput l nm z) := fun l nm z hl hz p hp => by
    rcases hput_mem hp with rfl | hp
    · exact hz
    · exact hl p hp
  have hd : ∀ (l : List (ByteArray × HF)) (nm : ByteArray), HB bs l → HB bs (hdel l nm) := fun l nm hl p hp => hl p (hdel_mem hp)
  by_cases h0 : (x.tryE s y).2 = 0
  · rcases tryE_kind h0 with k | k | k | k
    · rw [(tryE_0 h0 k).2]; exact hp _ _ _ h (fun q hq => (List.not_mem_nil hq).elim)
    · obtain ⟨q, hq, e⟩ := tryE_1 h0 k
      rw [e]; exact hp _ _ _ h (h _ (hget_mem hq))
    · obtain ⟨q, hq, ⟨_, e⟩ | ⟨_, e⟩⟩ := tryE_2 h0 k
      · rw [e]; exact h
      · rw [e]; exact hp _ _ _ (hd _ _ h) (h _ (hget_mem hq))
    · obtain ⟨q, hq, e⟩ := tryE_3 h0 k
      rw [e]; exact hd _ _ h
  · rw [tryE_no h0]; exact h
theorem Rep.at' {l : List (ByteArray × HF)} (h : Rep s l ns ds) {i : Nat} (h1 : i < ns.length) (h2 : i < ds.length) {q : HF} (hq : hget l ns[i] = some q) : cont s q = ds[i] := by
  obtain ⟨y, hy, hc⟩ := h.get i ns[i] ds[i] (List.getElem?_eq_getElem h1) (List.getElem?_eq_getElem h2)
  rw [hq] at hy
  obtain rfl := Option.some.inj hy
  exact hc
theorem Rep.put {l : List (ByteArray × HF)} (h : Rep s l ns ds) {nm : ByteArray} (hg : hget l nm = none) (y : HF) : Rep s (hput l nm y) (ns ++ [nm]) (ds ++ [cont s y]) := by
  unfold hput
  rw [hdel_self hg]
  exact h.snoc hg y
theorem hput_del (l : List (ByteArray × HF)) (nm : ByteArray) (y : HF) : hput (hdel l nm) nm y = hput l nm y := by
  unfold hput
  rw [hdel_self (hget_hdel_self l nm)]
/-- a step that was answered OK -/
theorem Rep.does (h : Rep s x.hand ns ds) (hn : HN x.hand) (h0 : (x.tryE s y).2 = 0) (hd : DoesTo y ns ds ns' ds') : Rep s (x.tryE s y).1.hand ns' ds' := by
  rcases hd with ⟨k, rfl, rfl⟩ | ⟨k, i, h1, h2, e, rfl, rfl⟩ | ⟨k, e, rfl, rfl⟩ | ⟨k, e, i, h1, h2, en, hh⟩ | ⟨k, i, h1, e, rfl, rfl⟩
  · obtain ⟨hg, e⟩ := tryE_0 h0 k
    rw [e]
    have := h.put hg HF.zero
    rwa [cont_zero] at this
  · obtain ⟨q, hq, e2⟩ := tryE_1 h0 k
    rw [e2]
    rw [← e] at hq ⊢
    have hc := h.at' h1 h2 hq
    have := h.set hn h1 { q with added := q.added ++ y.data }
    rwa [cont_added, hc] at this
  · obtain ⟨q, hq, ⟨_, e2⟩ | ⟨e2, _⟩⟩ := tryE_2 h0 k
    · rw [e2]; exact h
    · exact absurd e e2
  · obtain ⟨q, hq, ⟨e2, _⟩ | ⟨_, e2⟩⟩ := tryE_2 h0 k
    · exact absurd e2 e
    · rw [e2]
      rw [← en] at hq ⊢
      have hc := h.at' h1 h2 hq
      have he := h.erase hn h1
      rcases hh with ⟨hnot, rfl, rfl⟩ | ⟨j, hj, ej, rfl, rfl⟩
      · have hg : hget (hdel x.hand ns[i]) y.dest = none := by
          cases hz : hget (hdel x.hand ns[i]) y.dest with
          | none => rfl
          | some z => exact absurd (he.mem hz) hnot
        have := he.put hg q
        rwa [hc] at this
      · have he2 := he.erase (hn.del _) hj
        rw [ej] at he2
        have := he2.put (hget_hdel_self _ _) q
        rwa [hc, hput_del] at this
  · obtain ⟨q, hq, e2⟩ := tryE_3 h0 k
    rw [e2]
    rw [← e] at hq ⊢
    exact h.erase hn h1
/-- what was not changed is as it was -/
theorem Rep.still {l : List (ByteArray × HF)} (hch : x.changed = false → Rep s l ns ds) (h0 : (x.tryE s y).2 = 0) (hd : DoesTo y ns ds ns' ds') (hc : (x.tryE s y).1.changed = false) : Rep s l ns' ds' := by
  rcases hd with ⟨k, rfl, rfl⟩ | ⟨k, i, h1, h2, e, rfl, rfl⟩ | ⟨k, e, rfl, rfl⟩ | ⟨k, e, i, h1, h2, en, hh⟩ | ⟨k, i, h1, e, rfl, rfl⟩
  · obtain ⟨_, e⟩ := tryE_0 h0 k
    rw [e] at hc
    exact absurd hc (by show ¬ true = false; decide)
  · obtain ⟨q, hq, e2⟩ := tryE_1 h0 k
    rw [e2] at hc
    have hc2 : (x.changed || decide (0 < y.data.size)) = false := hc
    rw [Bool.or_eq_false_iff] at hc2
    have h3 : y.data.size = 0 := by have := of_decide_eq_false hc2.2; omega
    have h4 : ds.set i (ds[i] ++ y.data) = ds := by
      have : y.data = .empty := eq_of_list (by
        have : y.data.data.toList.length = 0 := by simpa using h3
        rw [List.length_eq_zero_iff.1 this]; rfl)
      rw [this, ByteArray.append_empty, List.set_getElem_self]
    rw [h4]
    exact hch hc2.1
  · obtain ⟨q, hq, ⟨_, e2⟩ | ⟨e2, _⟩⟩ := tryE_2 h0 k
    · rw [e2] at hc; exact hch hc
    · exact absurd e e2
  · obtain ⟨q, hq, ⟨e2, _⟩ | ⟨_, e2⟩⟩ := tryE_2 h0 k
    · exact absurd e2 e
    · rw [e2] at hc
      exact absurd hc (by show ¬ true = false; decide)
  · obtain ⟨q, hq, e2⟩ := tryE_3 h0 k
    rw [e2] at hc
    exact absurd hc (by show ¬ true = false; decide)
end Go.Proofs.Ytndekdgpibipnaa.Pl

namespace Go.Proofs.Ytndekdgpibipnaa.Pl

theorem toL_size (t : ByteArray) : t.data.toList.length = t.size := by simp
theorem padB_list (t : ByteArray) : (padB t).data.toList = t.data.toList ++ List.replicate (256 - t.size) 0 := by
  unfold padB zeros
  rw [ByteArray.data_append, Array.toList_append]
theorem pieceAt_list (t : ByteArray) (i : Nat) : (pieceAt t i).data.toList = (t.data.toList.drop (256 * i)).take 256 ++ List.replicate (256 - min 256 (t.size - 256 * i)) 0 := by
  unfold pieceAt
  rw [padB_list]
  have e : (t.extract (256 * i) (256 * i + 256)).data.toList = (t.data.toList.drop (256 * i)).take 256 := by
    simp [ByteArray.data_extract, Array.toList_extract, List.extract_eq_take_drop]
  have e2 : (t.extract (256 * i) (256 * i + 256)).size = min 256 (t.size - 256 * i) := by
    rw [ByteArray.size_extract]
    omega
  rw [e, e2]
theorem pieces_flat (t : ByteArray) : ∀ k, k ≤ pieceN t.size → ((List.range k).map (pieceAt t)).flatMap (·.data.toList) = t.data.toList.take (256 * k) ++ List.replicate (256 * k - t.size) 0
  | 0, _ => by simp
  | k + 1, h => by
    have ih := pieces_flat t k (by omega)
    have hk : 256 * k < t.size := by unfold pieceN at h; omega
    rw [List.range_succ, List.map_append, List.flatMap_append, ih, List.map_singleton, List.flatMap_singleton, pieceAt_list]
    have e0 : 256 * k - t.size = 0 := by omega
    have e1 : 256 - min 256 (t.size - 256 * k) = 256 * (k + 1) - t.size := by omega
    have e2 : 256 * (k + 1) = 256 * k + 256 := by omega
    rw [e0, List.replicate_zero, List.append_nil, e1, ← List.append_assoc]
    congr 1
    rw [e2, List.take_add]
/-- a text's pieces, one behind the other, are the text, with noughts behind -/
theorem piecesOf_flat (t : ByteArray) : (piecesOf t).flatMap (·.data.toList) = t.data.toList ++ List.replicate (256 * pieceN t.size - t.size) 0 := by
  unfold piecesOf
  rw [pieces_flat t _ (Nat.le_refl _), List.take_of_length_le]
  rw [toL_size]
  unfold pieceN
  omega
variable {s s' : Dv}
/-- blocks to which pieces were written -/
theorem bytesL_read : ∀ (bl : List Int) (ps : List ByteArray), bl.length = ps.length → (∀ (j : Nat) (h : j < bl.length) (h2 : j < ps.length), s'.read bl[j].toNat = ps[j]) → bytesL s' bl = ps.flatMap (·.data.toList)
  | [], [], _, _ => rfl
  | [], _ :: _, h, _ => by cases h
  | _ :: _, [], h, _ => by cases h
  | b :: bl, p :: ps, h, hr => by
    have h0 := hr 0 (by simp) (by simp)
    have h1 := bytesL_read bl ps (by simpa using h) (fun j h1 h2 => hr (j + 1) (by simpa using h1) (by simpa using h2))
    unfold bytesL at *
    rw [List.flatMap_cons, List.flatMap_cons, h1]
    have h00 : s'.read b.toNat = p := h0
    rw [h00]
theorem zipB_mem {fr : List Int} {ps : List ByteArray} {j : Nat} (h : j < fr.length) (h2 : j < ps.length) : (fr[j].toNat, ps[j]) ∈ zipB fr ps := by
  unfold zipB
  refine List.mem_map.2 ⟨(fr[j], ps[j]), ?_, rfl⟩
  rw [List.mem_iff_getElem]
  exact ⟨j, by rw [List.length_zip]; omega, by simp⟩
/-- a file whose bytes are written anew from its first block on that is not whole -/
theorem cont_plan {y : HF} (hwf : s.WF) (hb : y.blocks.length = (y.old + 255) / 256) (hin : ∀ q ∈ y.blocks, 0 ≤ q ∧ q < (s.safe.length : Int)) (hold : ∀ q ∈ y.blocks, s'.read q.toNat = s.read q.toNat) {fr : List Int} (hfr : (newOf s y).length ≤ fr.length) (hnew : ∀ p ∈ zipB fr (newOf s y), s'.read p.1 = p.2) :
    cont s' ⟨y.blocks.take (y.old / 256) ++ fr.take (newOf s y).length, y.size, .empty⟩ = cont s y := by
  obtain ⟨bl, old, ad⟩ := y
  simp only at hb hin hold
  obtain ⟨Q, hQ⟩ : ∃ Q : ByteArray, Q = bytesOf s ⟨bl, old, ad⟩ (old / 256) bl.length ++ ad := ⟨_, rfl⟩
  have hNew : newOf s ⟨bl, old, ad⟩ = piecesOf Q := by rw [hQ]; rfl
  rw [hNew] at hnew hfr ⊢
  have hz : (fr.take (piecesOf Q).length).length = (piecesOf Q).length := by rw [List.length_take]; omega
  have h1 : bytesL s' (fr.take (piecesOf Q).length) = Q.data.toList ++ List.replicate (256 * pieceN Q.size - Q.size) 0 := by
    rw [bytesL_read _ (piecesOf Q) hz (fun j h1 h2 => by
      rw [List.getElem_take]
      exact hnew _ (zipB_mem (by omega) h2)), piecesOf_flat]
  have h2 : bytesL s' (bl.take (old / 256)) = bytesL s (bl.take (old / 256)) := bytesL_congr (fun q hq => hold q (List.mem_of_mem_take hq))
  have hlen : (bytesL s bl).length = bl.length * 256 := bytesL_length hwf bl hin
  have hl1 : (bytesL s (bl.take (old / 256))).length = old / 256 * 256 := by
    rw [bytesL_length hwf _ (fun q hq => hin q (List.mem_of_mem_take hq)), List.length_take, Nat.min_eq_left (by omega)]
  have hsp : bytesL s bl = bytesL s (bl.take (old / 256)) ++ bytesL s (bl.drop (old / 256)) := by
    unfold bytesL
    rw [← List.flatMap_append, List.take_append_drop]
  have hQl : Q.data.toList = (bytesL s (bl.drop (old / 256))).take (old - old / 256 * 256) ++ ad.data.toList := by
    rw [hQ, ByteArray.data_append, Array.toList_append, bytesOf_list, List.take_length]
  have hl2 : (bytesL s (bl.drop (old / 256))).length = bl.length * 256 - old / 256 * 256 := by
    have := congrArg List.length hsp
    rw [List.length_append, hlen, hl1] at this
    omega
  have hQs : Q.size = old - old / 256 * 256 + ad.size := by
    rw [← toL_size, hQl, List.length_append, List.length_take, hl2, toL_size]
    omega
  apply eq_of_list
  rw [cont_list, cont_list]
  have e0 : (ByteArray.empty).data.toList = ([] : List UInt8) := rfl
  have e1 : bytesL s' (bl.take (old / 256) ++ fr.take (piecesOf Q).length) = bytesL s' (bl.take (old / 256)) ++ bytesL s' (fr.take (piecesOf Q).length) := by unfold bytesL; rw [List.flatMap_append]
  show (bytesL s' (bl.take (old / 256) ++ fr.take (piecesOf Q).length)).take (old + ad.size) ++ (ByteArray.empty).data.toList = (bytesL s bl).take old ++ ad.data.toList
  have e3 : old + ad.size = old / 256 * 256 + Q.size := by omega
  have e4 : old = old / 256 * 256 + (old - old / 256 * 256) := by omega
  rw [e0, List.append_nil, e1, h1, h2, e3]
  have t1 : ∀ (A B : List UInt8) (a b : Nat), A.length = a → (A ++ B).take (a + b) = A ++ B.take b := by
    intro A B a b h
    subst h
    rw [List.take_append, List.take_of_length_le (by omega)]
    congr 2
    omega
  rw [t1 _ _ _ _ hl1, ← toL_size Q, List.take_left, hQl]
  conv => rhs; rw [hsp, e4, t1 _ _ _ _ (by rw [← e4]; exact hl1), ← e4]
  rw [List.append_assoc]
/-- the files of a plan: each has what stands at hand -/
structure PkC (s' s : Dv) (l : List (ByteArray × HF)) (fs : List FileP) : Prop where
  len : fs.length = l.length
  each : ∀ (i : Nat) (h : i < fs.length) (h2 : i < l.length), fs[i].name = l[i].1 ∧ cont s' ⟨fs[i].blocks, fs[i].size.toNat, .empty⟩ = cont s l[i].2
theorem planK_cont {fr : List Int} (hwf : s.WF) : ∀ (l : List (ByteArray × HF)) (st : PlSt), planK s fr l = some st → (∀ p ∈ l, p.2.blocks.length = (p.2.old + 255) / 256 ∧ ∀ q ∈ p.2.blocks, (0 ≤ q ∧ q < (s.safe.length : Int)) ∧ s'.read q.toNat = s.read q.toNat) → (∀ p ∈ st.l, s'.read p.1 = p.2) → PkC s' s l st.fs := by
  refine snoc_ind (P := fun l => ∀ st : PlSt, planK s fr l = some st → (∀ p ∈ l, p.2.blocks.length = (p.2.old + 255) / 256 ∧ ∀ q ∈ p.2.blocks, (0 ≤ q ∧ q < (s.safe.length : Int)) ∧ s'.read q.toNat = s.read q.toNat) → (∀ p ∈ st.l, s'.read p.1 = p.2) → PkC s' s l st.fs) ?_ ?_
  · intro st h _ _
    obtain rfl := Option.some.inj h
    exact ⟨rfl, fun i h => absurd h (Nat.not_lt_zero i)⟩
  · intro l p ih st h hl hw
    have e : planK s fr (l ++ [p]) = planStep s (planK s fr l) p := by unfold planK; rw [List.foldl_append]; rfl
    rw [e] at h
    have snoc : ∀ (fs : List FileP) (f : FileP), PkC s' s l fs → f.name = p.1 → cont s' ⟨f.blocks, f.size.toNat, .empty⟩ = cont s p.2 → PkC s' s (l ++ [p]) (fs ++ [f]) := by
      intro fs f hc hn hc2
      refine ⟨by rw [List.length_append, List.length_append, hc.len]; rfl, fun i h1 h2 => ?_⟩
      by_cases hi : i < l.length
      · rw [List.getElem_append_left (by rw [hc.len]; exact hi), List.getElem_append_left hi]
        exact hc.each i _ hi
      · have : i = l.length := by rw [List.length_append, List.length_singleton] at h2; omega
        subst this
        rw [List.getElem_append_right (by rw [hc.len]; exact Nat.le_refl _), List.getElem_append_right (Nat.le_refl _)]
        simp only [hc.len, Nat.sub_self, List.getElem_singleton]
        exact ⟨hn, hc2⟩
    cases hp : planK s fr l with
    | none => rw [hp] at h; cases h
    | some st0 =>
      rw [hp] at h
      unfold planStep at h
      simp only [Option.bind_some] at h
      obtain ⟨q1, q2⟩ := hl p (by simp)
      have hl0 : ∀ p ∈ l, p.2.blocks.length = (p.2.old + 255) / 256 ∧ ∀ q ∈ p.2.blocks, (0 ≤ q ∧ q < (s.safe.length : Int)) ∧ s'.read q.toNat = s.read q.toNat := fun p hp => hl p (List.mem_append_left _ hp)
      split at h
      · rename_i ha
        obtain rfl := Option.some.inj h
        refine snoc _ _ (ih st0 hp hl0 hw) rfl ?_
        have h3 : p.2.added = .empty := eq_of_list (by
          have : p.2.added.data.toList.length = 0 := by simpa using ha
          rw [List.length_eq_zero_iff.1 this]; rfl)
        have h4 : (⟨p.2.blocks, ((p.2.size : Nat) : Int).toNat, .empty⟩ : HF) = p.2 := by
          have h5 : p.2.size = p.2.old := by unfold HF.size; omega
          rw [Int.toNat_natCast, h5, ← h3]
        show cont s' ⟨p.2.blocks, ((p.2.size : Nat) : Int).toNat, .empty⟩ = cont s p.2
        rw [h4]
        exact cont_congr (fun q hq => (q2 q hq).2)
      · split at h
        · cases h
        · rename_i ha hn
          obtain rfl := Option.some.inj h
          refine snoc _ _ (ih st0 hp hl0 (fun q hq => hw q (List.mem_append_left _ hq))) rfl ?_
          show cont s' ⟨p.2.blocks.take (p.2.old / 256) ++ st0.fr.take (newOf s p.2).length, ((p.2.size : Nat) : Int).toNat, .empty⟩ = cont s p.2
          rw [Int.toNat_natCast]
          exact cont_plan hwf q1 (fun q hq => (q2 q hq).1) (fun q hq => (q2 q hq).2) (by omega) (fun q hq => hw q (List.mem_append_right _ hq))
theorem zip_fst {α β : Type} : ∀ (a : List α) (b : List β), (a.zip b).map Prod.fst = a.take b.length
  | [], _ => by simp
  | _ :: _, [] => by simp
  | x :: a, y :: b => by simp [zip_fst a b]
/-- where a plan writes: free blocks, one behind the other -/
theorem planK_at {fr : List Int} : ∀ (l : List (ByteArray × HF)) (st : PlSt), planK s fr l = some st → st.l.map (·.1) = (fr.take (fr.length - st.fr.length)).map Int.toNat := by
  refine snoc_ind (P := fun l => ∀ st : PlSt, planK s fr l = some st → st.l.map (·.1) = (fr.take (fr.length - st.fr.length)).map Int.toNat) ?_ ?_
  · intro st h
    obtain rfl := Option.some.inj h
    simp
  · intro l p ih st h
    have e : planK s fr (l ++ [p]) = planStep s (planK s fr l) p := by unfold planK; rw [List.foldl_append]; rfl
    rw [e] at h
    cases hp : planK s fr l with
    | none => rw [hp] at h; cases h
    | some st0 =>
      have hf := planK_fr _ _ hp
      have hl := (planK_len _ _ hp).2
      have i1 := ih st0 hp
      rw [hp] at h
      unfold planStep at h
      simp only [Option.bind_some] at h
      split at h
      · obtain rfl := Option.some.inj h
        exact i1
      · split at h
        · cases h
        · rename_i ha hn
          obtain rfl := Option.some.inj h
          have hz : (zipB st0.fr (newOf s p.2)).map (·.1) = (st0.fr.take (newOf s p.2).length).map Int.toNat := by
            unfold zipB
            rw [List.map_map]
            have : ((fun x : Nat × ByteArray => x.1) ∘ fun q : Int × ByteArray => (q.1.toNat, q.2)) = Int.toNat ∘ Prod.fst := rfl
            rw [this, ← List.map_map]
            congr 1
            exact zip_fst _ _
          show (st0.l ++ zipB st0.fr (newOf s p.2)).map (·.1) = (fr.take (fr.length - (st0.fr.drop (newOf s p.2).length).length)).map Int.toNat
          rw [List.map_append, i1, hz, List.length_drop]
          have e3 : fr.length - (st0.fr.length - (newOf s p.2).length) = (fr.length - st0.fr.length) + (newOf s p.2).length := by omega
          rw [e3, List.take_add, List.map_append, ← hf]
/-- the files of a root, at hand, by their names -/
theorem handOf_fold (fs : List FileP) : ∀ (acc : List (ByteArray × HF)), HN acc → (fs.map (·.name)).Nodup → (∀ f ∈ fs, hget acc f.name = none) →
    HN (fs.foldl (fun l y => hput l y.name ⟨y.blocks, y.size.toNat, .empty⟩) acc) ∧ (fs.foldl (fun l y => hput l y.name ⟨y.blocks, y.size.toNat, .empty⟩) acc).length = acc.length + fs.length ∧
      (∀ nm, nm ∉ fs.map (·.name) → hget (fs.foldl (fun l y => hput l y.name ⟨y.blocks, y.size.toNat, .empty⟩) acc) nm = hget acc nm) ∧
      ∀ f ∈ fs, hget (fs.foldl (fun l y => hput l y.name ⟨y.blocks, y.size.toNat, .empty⟩) acc) f.name = some ⟨f.blocks, f.size.toNat, .empty⟩ := by
  induction fs with
  | nil => intro acc h _ _; exact ⟨h, rfl, fun _ _ => rfl, fun f hf => (List.not_mem_nil hf).elim⟩
  | cons f fs ih =>
    intro acc h hd hn
    rw [List.map_cons, List.nodup_cons] at hd
    have hne : ∀ g ∈ fs, f.name ≠ g.name := fun g hg e => hd.1 (List.mem_map.2 ⟨g, hg, e.symm⟩)
    obtain ⟨i1, i2, i3, i4⟩ := ih (hput acc f.name ⟨f.blocks, f.size.toNat, .empty⟩) (h.put _ _) hd.2 (fun g hg => by rw [hget_hput_ne (hne g hg)]; exact hn g (List.mem_cons_of_mem _ hg))
    refine ⟨i1, ?_, fun nm hnm => ?_, fun g hg => ?_⟩
    · rw [List.foldl_cons, i2]
      unfold hput
      rw [hins_length, hdel_self (hn f List.mem_cons_self), List.length_cons]
      omega
    · rw [List.map_cons, List.mem_cons, not_or] at hnm
      rw [List.foldl_cons, i3 nm hnm.2, hget_hput_ne (fun e => hnm.1 e.symm)]
    · rcases List.mem_cons.1 hg with rfl | hg
      · rw [List.foldl_cons, i3 _ hd.1, hget_hput_self]
      · rw [List.foldl_cons]; exact i4 g hg
theorem handOf_hn (r : RootP) : HN (handOf r) := by
  have : ∀ (fs : List FileP) (acc : List (ByteArray × HF)), HN acc → HN (fs.foldl (fun l y => hput l y.name ⟨y.blocks, y.size.toNat, .empty⟩) acc) := by
    intro fs
    induction fs with
    | nil => intro acc h; exact h
    | cons f fs ih => intro acc h; exact ih _ (h.put _ _)
  exact this _ _ HN.nil
theorem handOf_hb (r : RootP) : HB (flatB r.files) (handOf r) := by
  have : ∀ (fs : List FileP), (∀ f ∈ fs, f ∈ r.files) → ∀ (acc : List (ByteArray × HF)), HB (flatB r.files) acc → HB (flatB r.files) (fs.foldl (fun l y => hput l y.name ⟨y.blocks, y.size.toNat, .empty⟩) acc) := by
    intro fs
    induction fs with
    | nil => intro _ acc h; exact h
    | cons f fs ih =>
      intro hf acc h
      refine ih (fun g hg => hf g (List.mem_cons_of_mem _ hg)) _ (fun p hp => ?_)
      rcases hput_mem hp with rfl | hp
      · exact fun q hq => List.mem_flatMap.2 ⟨f, hf f List.mem_cons_self, hq⟩
      · exact h p hp
  exact this r.files (fun _ h => h) [] (fun p hp => (List.not_mem_nil hp).elim)
/-- behind a commit the files of the new root stand for the plain files at hand -/
theorem Rep.commit {l : List (ByteArray × HF)} {ns ds : List ByteArray} (h : Rep s l ns ds) (hn : HN l) {g : Nat} {fs : List FileP} (hc : PkC s' s l fs) : Rep s' (handOf ⟨g, fs⟩) ns ds := by
  have hnm : fs.map (·.name) = l.map (·.1) := by
    apply List.ext_getElem
    · rw [List.length_map, List.length_map, hc.len]
    · intro i h1 h2
      rw [List.getElem_map, List.getElem_map]
      exact (hc.each i (by simpa using h1) (by simpa using h2)).1
  obtain ⟨i1, i2, _, i4⟩ := handOf_fold fs [] HN.nil (by rw [hnm]; exact hn) (fun _ _ => rfl)
  refine ⟨h.nodup, h.eqlen, ?_, fun j nm d h1 h2 => ?_⟩
  · unfold handOf
    rw [i2, List.length_nil, Nat.zero_add, hc.len, h.len]
  · obtain ⟨y, hy, hcy⟩ := h.get j nm d h1 h2
    obtain ⟨i, hi, e⟩ := List.mem_iff_getElem.1 (hget_mem hy)
    have hi2 : i < fs.length := by rw [hc.len]; exact hi
    obtain ⟨c1, c2⟩ := hc.each i hi2 hi
    rw [e] at c1 c2
    refine ⟨_, ?_, c2.trans hcy⟩
    have := i4 fs[i] (List.getElem_mem hi2)
    rw [c1] at this
    exact this
end Go.Proofs.Ytndekdgpibipnaa.Pl

namespace Go.Proofs.Ytndekdgpibipnaa.Pl

theorem uintR_back {most n : Nat} (h : n ≤ most) (hm : most ≤ 4611686018427387904) (r : List UInt8) : uintR most (putUint n ++ r) = some (n, r) := by
  unfold uintR
  rw [take_put n r (by omega)]
  simp only
  rw [if_neg (by omega), List.drop_left]
theorem textR_back {t : ByteArray} (h : t.size ≤ 32) (r : List UInt8) : textR (putText t.data.toList ++ r) = some (t, r) := by
  have hl : t.data.toList.length = t.size := by simp
  unfold textR
  rw [text_back' t.data.toList r 32 (by omega) (by omega)]
  simp only
  rw [if_neg (by decide), List.drop_left]
theorem runL_length (x : Int × Nat) : (runL x).length = x.2 := by simp [runL]
theorem runsK_back (rest : List UInt8) : ∀ (rs : List (Int × Nat)), (∀ x ∈ rs, 0 ≤ x.1 ∧ x.1 ≤ 16384 ∧ x.2 ≤ 16384) → (rs.flatMap runL).length ≤ 16384 → ∀ k, k ≤ rs.length → runsK k (rs.flatMap runBytes ++ rest) = some ((rs.take k).flatMap runL, (rs.drop k).flatMap runBytes ++ rest)
  | rs, _, _, 0, _ => by simp [runsK]
  | rs, hx, hl, k + 1, hk => by
    have ih := runsK_back rest rs hx hl k (by omega)
    have hk2 : k < rs.length := by omega
    show runStep (runsK k _) = _
    rw [ih]
    obtain ⟨x1, x2, x3⟩ := hx _ (List.getElem_mem hk2)
    have hd := flat_drop (f := runBytes) hk2
    have ht := flat_take_succ (f := runL) hk2
    have hle : ((rs.take (k + 1)).flatMap runL).length ≤ 16384 := Nat.le_trans (flat_take_le rs (k + 1)) hl
    rw [ht, List.length_append, runL_length] at hle
    rw [ht, hd]
    unfold runStep
    simp only [Option.bind_some]
    have e1 : runBytes rs[k] ++ (rs.drop (k + 1)).flatMap runBytes ++ rest = putUint rs[k].1.toNat ++ (putUint rs[k].2 ++ ((rs.drop (k + 1)).flatMap runBytes ++ rest)) := by
      unfold runBytes
      simp only [List.append_assoc]
    rw [e1, uintR_back (by omega) (by omega), Option.bind_some, uintR_back (by omega) (by omega), Option.bind_some]
    simp only
    rw [if_pos (by omega)]
    have e2 : (List.range rs[k].2).map (fun j => ((rs[k].1.toNat + j : Nat) : Int)) = runL rs[k] := by
      unfold runL
      refine List.map_congr_left (fun j _ => ?_)
      omega
    rw [e2]
theorem runs_inner {lo hi : Int} (n : Nat) : ∀ (l : List Int), l.length ≤ n → (∀ b ∈ l, lo ≤ b ∧ b < hi) → ∀ x ∈ runsOf l, lo ≤ x.1 ∧ x.1 < hi ∧ x.2 ≤ l.length := by
  induction n with
  | zero => intro l h _ x hx; obtain rfl : l = [] := List.length_eq_zero_iff.1 (by omega); rw [runsOf_nil] at hx; cases hx
  | succ n ih =>
    intro l h hb x hx
    cases l with
    | nil => rw [runsOf_nil] at hx; cases hx
    | cons a l =>
      rw [runsOf_cons] at hx
      have hp := upR_pos a l
      rcases List.mem_cons.1 hx with rfl | hx
      · exact ⟨(hb a List.mem_cons_self).1, (hb a List.mem_cons_self).2, upR_le _ _⟩
      · have := ih ((a :: l).drop (upR a (a :: l))) (by simp only [List.length_drop, List.length_cons] at *; omega) (fun b hb2 => hb b (List.mem_of_mem_drop hb2)) x hx
        refine ⟨this.1, this.2.1, Nat.le_trans this.2.2 ?_⟩
        rw [List.length_drop]
        omega
theorem fileR_back {N : Int} {r : RootP} (h : May N r) (hN : N ≤ 16384) {f : FileP} (hf : f ∈ r.files) (rest : List UInt8) : fileR (fileBytes f ++ rest) = some (f, rest) := by
  obtain ⟨b1, b2, b3, b4, b5⟩ := h.blocks hN hf
  have hr := runs_inner _ f.blocks (Nat.le_refl _) b2
  have hx := expand_runs _ f.blocks (Nat.le_refl _)
  have hln := runsOf_length _ f.blocks (Nat.le_refl _)
  have hk := runsK_back rest (runsOf f.blocks) (fun x hx => by have := hr x hx; omega) (by rw [hx]; exact b1) _ (Nat.le_refl _)
  rw [List.take_length, hx, List.drop_length, List.flatMap_nil, List.nil_append] at hk
  have e1 : fileBytes f ++ rest = putText f.name.data.toList ++ (putUint f.size.toNat ++ (putUint (runsOf f.blocks).length ++ ((runsOf f.blocks).flatMap runBytes ++ rest))) := by
    unfold fileBytes
    simp only [List.append_assoc]
  unfold fileR
  rw [e1, textR_back b5, Option.bind_some]
  simp only
  rw [uintR_back (by omega) (by omega), Option.bind_some]
  simp only
  rw [uintR_back (by omega) (by omega), Option.bind_some]
  simp only
  rw [hk, Option.bind_some]
  obtain ⟨nm, sz, bl⟩ := f
  simp only at b3 ⊢
  rw [Int.toNat_of_nonneg b3]
theorem filesK_back {N : Int} {r : RootP} (h : May N r) (hN : N ≤ 16384) (rest : List UInt8) : ∀ k, k ≤ r.files.length → filesK k (r.files.flatMap fileBytes ++ rest) = some (r.files.take k, (r.files.drop k).flatMap fileBytes ++ rest)
  | 0, _ => by simp [filesK]
  | k + 1, hk => by
    have ih := filesK_back h hN rest k (by omega)
    have hk2 : k < r.files.length := by omega
    show fileStep (filesK k _) = _
    rw [ih, flat_drop (f := fileBytes) hk2, List.take_succ_eq_append_getElem hk2]
    unfold fileStep
    simp only [Option.bind_some]
    rw [List.append_assoc, fileR_back h hN (List.getElem_mem hk2), Option.bind_some]
/-- a root's bytes are read as that root -/
theorem rootR_back {N : Int} {r : RootP} (h : May N r) (hN : N ≤ 16384) : rootR (rootBytes r) = some r := by
  have hk := filesK_back h hN [] _ (Nat.le_refl _)
  rw [List.take_length, List.drop_length, List.flatMap_nil, List.append_nil, List.nil_append] at hk
  have e1 : rootBytes r = putUint r.gen ++ (putUint r.files.length ++ r.files.flatMap fileBytes) := by
    unfold rootBytes
    simp only [List.append_assoc]
  have h1 := h.g2
  have h2 := h.many
  unfold rootR
  rw [e1, uintR_back h1 (by omega), Option.bind_some]
  simp only
  rw [uintR_back h2 (by omega), Option.bind_some]
  simp only
  rw [hk, Option.bind_some]
  simp only [if_true]
/-- a slot that begins with a root's frame is decoded to that root -/
theorem decRt_back {N : Int} {r : RootP} {S : ByteArray} {rest : List UInt8} (h : (encRt (min N 16384) r).2 = 0) (hS : S.data.toList = (encRt (min N 16384) r).1 ++ rest) : decRt N S = some r := by
  obtain ⟨hm, he, h1, h2⟩ := encRt_yes h
  have e1 : (encRt (min N 16384) r).1 = frame 1 (rootBytes r) := by rw [he]
  rw [e1] at hS
  have ht := takeFrame_back 1 (rootBytes r) rest (by decide) h1
  unfold decRt
  rw [hS, ht]
  simp only
  rw [if_neg (by
    rintro (h3 | h3 | h3)
    · exact h3 rfl
    · omega
    · exact h3 rfl), rootR_back hm (by omega), Option.bind_some, e1, h, if_neg]
  rw [List.take_left]
  simp
theorem decRt_may {N : Int} {r : RootP} {S : ByteArray} (h : decRt N S = some r) : (encRt (min N 16384) r).2 = 0 := by
  unfold decRt at h
  split at h
  · cases h
  · cases hr : rootR (takeFrame S.data.toList).1.2 with
    | none => rw [hr] at h; cases h
    | some q =>
      rw [hr, Option.bind_some] at h
      split at h
      · cases h
      · rename_i hn
        obtain rfl := Option.some.inj h
        by_cases he : (encRt (min N 16384) q).2 = 0
        · exact he
        · exact absurd (.inl he) hn
end Go.Proofs.Ytndekdgpibipnaa.Pl

namespace Go.Proofs.Ytndekdgpibipnaa.Pl

theorem digit_eq {a b m : Nat} (h : a / (m * 256) = b / (m * 256)) (h2 : a / m % 256 = b / m % 256) : a / m = b / m := by
  rw [← Nat.div_div_eq_div_mul, ← Nat.div_div_eq_div_mul] at h
  omega
theorem be8_inj {a b : Nat} (ha : a < 18446744073709551616) (hb : b < 18446744073709551616) (h : be8 a = be8 b) : a = b := by
  have key : ∀ i, i < 8 → a / 2 ^ (8 * (7 - i)) % 256 = b / 2 ^ (8 * (7 - i)) % 256 := by
    intro i hi
    have h1 : (be8 a)[i]? = (be8 b)[i]? := by rw [h]
    unfold be8 at h1
    rw [List.getElem?_map, List.getElem?_map, List.getElem?_range hi] at h1
    have h2 := congrArg UInt8.toNat (Option.some.inj h1)
    rw [UInt8.toNat_ofNat', UInt8.toNat_ofNat'] at h2
    omega
  have k0 := key 0 (by omega)
  have k1 := key 1 (by omega)
  have k2 := key 2 (by omega)
  have k3 := key 3 (by omega)
  have k4 := key 4 (by omega)
  have k5 := key 5 (by omega)
  have k6 := key 6 (by omega)
  have k7 := key 7 (by omega)
  simp only [Nat.sub_zero, Nat.reduceSub, Nat.reduceMul, Nat.reducePow] at k0 k1 k2 k3 k4 k5 k6 k7
  have e8 : a / (72057594037927936 * 256) = b / (72057594037927936 * 256) := by omega
  have e7 := digit_eq e8 k0
  have e6 := digit_eq (m := 281474976710656) e7 k1
  have e5 := digit_eq (m := 1099511627776) e6 k2
  have e4 := digit_eq (m := 4294967296) e5 k3
  have e3 := digit_eq (m := 16777216) e4 k4
  have e2 := digit_eq (m := 65536) e3 k5
  have e1 := digit_eq (m := 256) e2 k6
  have e0 := digit_eq (m := 1) e1 k7
  omega
theorem headB_front (g : Nat) : (headB g).data.toList.take 8 = be8 g := by
  show (headL g).take 8 = _
  unfold headL
  rw [List.take_left' (be8_length g)]
theorem headB_back (g : Nat) : (headB g).data.toList.drop 248 = be8 g := by
  show (headL g).drop 248 = _
  unfold headL
  rw [← List.append_assoc, List.drop_left' (by rw [List.length_append, be8_length, List.length_replicate])]
/-- the other slot's head, as it may be beside a root of this generation -/
def OthOk (g : Nat) (H : ByteArray) : Prop := (H.data.toList.take 8 = be8 (g + 1) ∧ H ≠ headB (g + 1)) ∨ ∃ g', g' < g ∧ H.data.toList.drop 248 = be8 g'
theorem tear_list (a b : ByteArray) (n : Nat) : (tear a b n).data.toList = a.data.toList.take n ++ b.data.toList.drop n := by
  unfold tear
  rw [ByteArray.data_append, Array.toList_append]
  congr 1
  · simp [ByteArray.data_extract, Array.toList_extract, List.extract_eq_take_drop]
  · have e : (b.extract n b.size).data.toList = (b.data.toList.drop n).take (b.size - n) := by simp [ByteArray.data_extract, Array.toList_extract, List.extract_eq_take_drop]
    rw [e, List.take_of_length_le]
    rw [List.length_drop]
    simp
theorem OthOk.tear {g n : Nat} {H : ByteArray} (h : OthOk g H) (hH : H.size = 256) (hne : tear (headB (g + 1)) H n ≠ headB (g + 1)) : OthOk g (tear (headB (g + 1)) H n) := by
  have hh : (headB (g + 1)).data.toList.length = 256 := by have := headB_size (g + 1); simpa using this
  have hHl : H.data.toList.length = 256 := by simpa using hH
  have front : ∀ m, m ≤ 8 → (headB (g + 1)).data.toList.take m = (be8 (g + 1)).take m := by
    intro m hm
    rw [← headB_front (g + 1), List.take_take, Nat.min_eq_left hm]
  by_cases hn : 8 ≤ n
  · refine .inl ⟨?_, hne⟩
    rw [tear_list, List.take_append, List.length_take, hh, List.take_take, show 8 - min n 256 = 0 by omega, List.take_zero, List.append_nil, show min 8 n = 8 by omega, headB_front]
  · rcases h with ⟨h1, _⟩ | ⟨g', hg, h1⟩
    · refine .inl ⟨?_, hne⟩
      rw [tear_list, List.take_append, List.length_take, hh, List.take_take, show min 8 n = n by omega, show min n 256 = n by omega, front n (by omega)]
      have e : (H.data.toList.drop n).take (8 - n) = (be8 (g + 1)).drop n := by
        rw [← h1, List.drop_take]
      rw [e, List.take_append_drop]
    · refine .inr ⟨g', hg, ?_⟩
      rw [tear_list, List.drop_append, List.length_take, hh, List.drop_drop, List.drop_eq_nil_of_le (by rw [List.length_take]; omega), List.nil_append, show n + (248 - min n 256) = 248 by omega, h1]
variable {N T : Nat} {x : Fs} {s s' : Dv} {r r' : RootP}
/-- a disk on which a root is found -/
structure Good (N : Nat) (s : Dv) (r : RootP) : Prop where
  fits : (encRt (min (N : Int) 16384) r).2 = 0
  head : s.read (slotOf r.gen) = headB r.gen
  dec : decRt (N : Int) (slotS s (r.gen % 2)) = some r
  other : OthOk r.gen (s.read (slotOf (r.gen + 1)))
theorem Good.may (h : Good N s r) : May (min (N : Int) 16384) r := (encRt_yes h.fits).1
theorem openStep_none {dec : Nat → Option RootP} {a : RootP} {k : Nat} (h : dec k = none) : openStep s dec a k = a := by unfold openStep; rw [h]
theorem openStep_some {dec : Nat → Option RootP} {a q : RootP} {k : Nat} (h : dec k = some q) : openStep s dec a k = if q.gen % 2 ≠ k ∨ s.read (k * 16) ≠ headB q.gen ∨ q.gen < a.gen then a else q := by unfold openStep; rw [h]
theorem Good.open (h : Good N s r) : openK s (fun k => decRt (N : Int) (slotS s k)) 2 = r := by
  have hg := h.may.g1
  have hg2 := h.may.g2
  have mine : ∀ a : RootP, a.gen ≤ r.gen → openStep s (fun k => decRt (N : Int) (slotS s k)) a (r.gen % 2) = r := by
    intro a ha
    rw [openStep_some h.dec, if_neg]
    rintro (h1 | h1 | h1)
    · exact h1 rfl
    · exact h1 h.head
    · omega
  have other : ∀ (a : RootP) (k : Nat), k = (r.gen + 1) % 2 → openStep s (fun k => decRt (N : Int) (slotS s k)) a k = a ∨ ((openStep s (fun k => decRt (N : Int) (slotS s k)) a k).gen < r.gen ∧ a.gen < r.gen) := by
    intro a k hk
    cases hd : decRt (N : Int) (slotS s k) with
    | none => exact .inl (openStep_none (dec := fun k => decRt (N : Int) (slotS s k)) hd)
    | some q =>
      rw [openStep_some (dec := fun k => decRt (N : Int) (slotS s k)) hd]
      split
      · exact .inl rfl
      · rename_i hn
        simp only [not_or, Classical.not_not] at hn
        obtain ⟨h1, h2, h3⟩ := hn
        have hq := (encRt_yes (decRt_may hd)).1.g2
        have hlt : q.gen < r.gen := by
          have ho := h.other
          have es : slotOf (r.gen + 1) = k * 16 := by unfold slotOf; rw [← hk]
          rw [es, h2] at ho
          rcases ho with ⟨o1, o2⟩ | ⟨g', o1, o2⟩
          · rw [headB_front] at o1
            have := be8_inj (by omega) (by omega) o1
            exact absurd (by rw [this]) o2
          · rw [headB_back] at o2
            have := be8_inj (by omega) (by omega) o2
            omega
        exact .inr ⟨hlt, by omega⟩
  show openStep s _ (openStep s _ ⟨0, []⟩ 0) 1 = r
  rcases Nat.mod_two_eq_zero_or_one r.gen with e | e
  · have m := mine ⟨0, []⟩ (Nat.zero_le _)
    rw [e] at m
    rw [m]
    rcases other r 1 (by omega) with h1 | h1
    · exact h1
    · omega
  · have m := mine (openStep s (fun k => decRt (N : Int) (slotS s k)) ⟨0, []⟩ 0)
    rw [e] at m
    apply m
    rcases other ⟨0, []⟩ 0 (by omega) with h1 | h1
    · rw [h1]; exact Nat.zero_le _
    · omega
theorem Good.openE (h : Good N s r) : openE s (fun k => decRt (N : Int) (slotS s k)) = ((some (Fs.revert ⟨s.epoch, r, [], false⟩), s), 0) := by
  unfold Pl.openE
  rw [h.open, if_neg (by have := h.may.g1; omega)]
theorem slotS_congr {k : Nat} (h : ∀ i, i < 15 → s'.read (k * 16 + (i + 1)) = s.read (k * 16 + (i + 1))) : slotS s' k = slotS s k := by
  unfold slotS
  rw [bytesL_congr]
  intro q hq
  unfold slotB at hq
  obtain ⟨i, hi, rfl⟩ := List.mem_map.1 hq
  rw [Int.toNat_natCast]
  exact h i (List.mem_range.1 hi)
theorem Good.congr (h : Good N s r) (h1 : ∀ i, i < 16 → s'.read (slotOf r.gen + i) = s.read (slotOf r.gen + i)) (h2 : OthOk r.gen (s'.read (slotOf (r.gen + 1)))) : Good N s' r :=
  ⟨h.fits, (h1 0 (by omega)).trans h.head, by rw [slotS_congr (s := s) (fun i hi => h1 (i + 1) (by omega))]; exact h.dec, h2⟩
theorem Rep.congr {l : List (ByteArray × HF)} {ns ds : List ByteArray} {bs : List Int} (h : Rep s l ns ds) (hb : HB bs l) (hr : ∀ q ∈ bs, s'.read q.toNat = s.read q.toNat) : Rep s' l ns ds :=
  ⟨h.nodup, h.eqlen, h.len, fun j nm d h1 h2 => by
    obtain ⟨y, hy, hc⟩ := h.get j nm d h1 h2
    exact ⟨y, hy, (cont_congr (fun q hq => hr q (hb _ (hget_mem hy) q hq))).trans hc⟩⟩
/-- writes to blocks that all differ -/
theorem lastW_no {w : List (Nat × ByteArray)} {i : Nat} (h : ∀ p ∈ w, p.1 ≠ i) : lastW w i = none := by
  cases hl : lastW w i with
  | none => rfl
  | some z => exact absurd rfl (h _ (lastW_mem hl))
theorem lastW_of {p : Nat × ByteArray} : ∀ w : List (Nat × ByteArray), (w.map (·.1)).Nodup → p ∈ w → lastW w p.1 = some p.2 := by
  refine snoc_ind (P := fun w => (w.map (·.1)).Nodup → p ∈ w → lastW w p.1 = some p.2) (fun _ h => (List.not_mem_nil h).elim) ?_
  intro w q ih hd hp
  rw [List.map_append, List.nodup_append] at hd
  rw [lastW_snoc]
  rcases List.mem_append.1 hp with hp | hp
  · rw [if_neg (fun e => hd.2.2 _ (List.mem_map.2 ⟨p, hp, rfl⟩) q.1 (by simp) e.symm)]
    exact ih hd.1 hp
  · rw [List.mem_singleton.1 hp, if_pos rfl]
theorem setAll_no {l : List ByteArray} {w : List (Nat × ByteArray)} {i : Nat} (hi : i < l.length) (h : ∀ p ∈ w, p.1 ≠ i) : (setAll l w).getD i .empty = l.getD i .empty := by
  rw [setAll_get w l i hi, lastW_no h]
  rfl
theorem setAll_of {l : List ByteArray} {w : List (Nat × ByteArray)} (hd : (w.map (·.1)).Nodup) {p : Nat × ByteArray} (hp : p ∈ w) (hi : p.1 < l.length) : (setAll l w).getD p.1 .empty = p.2 := by
  rw [setAll_get w l p.1 hi, lastW_of w hd hp]
  rfl
/-- what a commit's writes come to -/
theorem wrE_safe (s : Dv) (i : Nat) (y : ByteArray) : (s.wrE i y).1.safe = s.safe := by unfold Dv.wrE; split <;> rfl
theorem wrE_wait {s : Dv} {i : Nat} {y : ByteArray} (h : (s.wrE i y).2 = 0) : (s.wrE i y).1.wait = s.wait ++ [(i, y)] := by
  unfold Dv.wrE at *
  split at h
  · exact absurd (show (4 : Int) = 0 from h) (by decide)
  · rename_i h0; rw [if_neg h0]; rfl
theorem wrAll_snoc (s : Dv) (l : List (Nat × ByteArray)) (p : Nat × ByteArray) : wrAll s (l ++ [p]) = wrStep (wrAll s l) p := by unfold wrAll; rw [List.foldl_append]; rfl
theorem wrAll_safe (s : Dv) : ∀ l : List (Nat × ByteArray), (wrAll s l).1.safe = s.safe := by
  refine snoc_ind (P := fun l => (wrAll s l).1.safe = s.safe) rfl ?_
  intro l p ih
  rw [wrAll_snoc]
  unfold wrStep
  split
  · rw [wrE_safe, ih]
  · exact ih
theorem wrAll_all {s : Dv} : ∀ l : List (Nat × ByteArray), (wrAll s l).2 = 0 → (wrAll s l).1.wait = s.wait ++ l := by
  refine snoc_ind (P := fun l => (wrAll s l).2 = 0 → (wrAll s l).1.wait = s.wait ++ l) (fun _ => by rw [List.append_nil]; rfl) ?_
  intro l p ih h
  rw [wrAll_snoc] at h ⊢
  unfold wrStep at *
  split at h
  · rename_i h0
    rw [if_pos h0, wrE_wait h, ih h0, List.append_assoc]
  · rename_i h0; exact absurd h h0
theorem syE_yes {s : Dv} (h : s.syE.2 = 0) : s.syE.1.safe = setAll s.safe s.wait ∧ s.syE.1.wait = [] := by
  unfold Dv.syE at *
  split at h
  · exact absurd (show (4 : Int) = 0 from h) (by decide)
  · rename_i h0
    rw [if_neg h0]
    split at h
    · exact absurd (show (4 : Int) = 0 from h) (by decide)
    · rename_i h1; rw [if_neg h1]; exact ⟨rfl, rfl⟩
theorem syE_no {s : Dv} (h : s.syE.2 ≠ 0) : s.syE.1.safe = s.safe ∧ s.syE.1.wait = s.wait ∧ s.syE.2 = 4 := by
  unfold Dv.syE at *
  split at h
  · rename_i h0; rw [if_pos h0]; exact ⟨rfl, rfl, rfl⟩
  · rename_i h0
    rw [if_neg h0]
    split at h
    · rename_i h1; rw [if_pos h1]; exact ⟨rfl, rfl, rfl⟩
    · exact absurd rfl h
theorem err_4 {s : Dv} (h : s.err ≠ 0) : s.err = 4 := by
  unfold Dv.err at *
  split at h
  · rename_i h0; rw [if_pos h0]
  · exact absurd rfl h
theorem wrE_4 {i : Nat} {y : ByteArray} (h : (s.wrE i y).2 ≠ 0) : (s.wrE i y).2 = 4 := by
  unfold Dv.wrE at *
  split at h
  · rename_i h0; rw [if_pos h0]
  · rename_i h0; rw [if_neg h0]; exact err_4 h
theorem wrE_no {i : Nat} {y : ByteArray} : (s.wrE i y).1.wait = s.wait ∨ (s.wrE i y).1.wait = s.wait ++ [(i, y)] := by
  unfold Dv.wrE
  split
  · exact .inl rfl
  · exact .inr rfl
theorem wrAll_4 : ∀ l : List (Nat × ByteArray), (wrAll s l).2 ≠ 0 → (wrAll s l).2 = 4 := by
  refine snoc_ind (P := fun l => (wrAll s l).2 ≠ 0 → (wrAll s l).2 = 4) (fun h => absurd rfl h) ?_
  intro l p ih h
  rw [wrAll_snoc] at h ⊢
  unfold wrStep at *
  split at h
  · rename_i h0; rw [if_pos h0]; exact wrE_4 h
  · rename_i h0; rw [if_neg h0]; exact ih h
theorem wrEnd_three {g : Nat} {l : List (Nat × ByteArray)} (hw : s.wait = []) :
    ((wrEnd g (wrAll s l)).2 = 4 ∧ (wrEnd g (wrAll s l)).1.safe = s.safe ∧ ∀ p ∈ (wrEnd g (wrAll s l)).1.wait, p ∈ l) ∨
    ((wrEnd g (wrAll s l)).2 = 4 ∧ (wrEnd g (wrAll s l)).1.safe = setAll s.safe l ∧ ((wrEnd g (wrAll s l)).1.wait = [] ∨ (wrEnd g (wrAll s l)).1.wait = [(slotOf g, headB g)])) ∨
    ((wrEnd g (wrAll s l)).2 = 0 ∧ (wrEnd g (wrAll s l)).1.safe = (setAll s.safe l).set (slotOf g) (headB g) ∧ (wrEnd g (wrAll s l)).1.wait = []) := by
  have hmem : ∀ p ∈ (wrAll s l).1.wait, p ∈ l := fun p hp => by
    rcases wrAll_wait l hp with h | h
    · rw [hw] at h; exact (List.not_mem_nil h).elim
    · exact h
  have hsf := wrAll_safe s l
  unfold wrEnd
  by_cases h0 : (wrAll s l).2 ≠ 0
  · rw [if_pos h0]
    exact .inl ⟨wrAll_4 l h0, hsf, hmem⟩
  rw [if_neg h0]
  have h0' : (wrAll s l).2 = 0 := by simpa using h0
  have hwt := wrAll_all l h0'
  rw [hw, List.nil_append] at hwt
  by_cases h1 : (wrAll s l).1.syE.2 ≠ 0
  · rw [if_pos h1]
    obtain ⟨e1, e2, e3⟩ := syE_no h1
    exact .inl ⟨e3, e1.trans hsf, fun p hp => by rw [e2, hwt] at hp; exact hp⟩
  rw [if_neg h1]
  have h1' : (wrAll s l).1.syE.2 = 0 := by simpa using h1
  obtain ⟨e1, e2⟩ := syE_yes h1'
  rw [hsf, hwt] at e1
  generalize (wrAll s l).1.syE.1 = s1 at *
  by_cases h2 : (s1.wrE (slotOf g) (headB g)).2 ≠ 0
  · rw [if_pos h2]
    refine .inr (.inl ⟨wrE_4 h2, (wrE_safe _ _ _).trans e1, ?_⟩)
    rcases wrE_no (s := s1) (i := slotOf g) (y := headB g) with h | h
    · exact .inl (h.trans e2)
    · exact .inr (by rw [h, e2]; rfl)
  rw [if_neg h2]
  have h2' : (s1.wrE (slotOf g) (headB g)).2 = 0 := by simpa using h2
  have w2 := wrE_wait h2'
  rw [e2, List.nil_append] at w2
  have f2 := (wrE_safe s1 (slotOf g) (headB g)).trans e1
  generalize (s1.wrE (slotOf g) (headB g)).1 = s2 at *
  by_cases h3 : s2.syE.2 ≠ 0
  · obtain ⟨d1, d2, d3⟩ := syE_no h3
    exact .inr (.inl ⟨d3, d1.trans f2, .inr (d2.trans w2)⟩)
  · obtain ⟨d1, d2⟩ := syE_yes (by simpa using h3)
    refine .inr (.inr ⟨by simpa using h3, ?_, d2⟩)
    rw [d1, w2, f2]
    rfl
theorem crash_read (s : Dv) (keep : List Bool) (torn : Int) (n i : Nat) : (s.crash keep torn n).read i = (crashN keep torn n s.wait s.wait.length s.safe).getD i .empty := rfl
theorem read_nil (h : s.wait = []) (i : Nat) : s.read i = s.safe.getD i .empty := by unfold Dv.read; rw [h]; rfl
theorem getD_set_ne {l : List ByteArray} {i j : Nat} (h : i ≠ j) (y : ByteArray) : (l.set i y).getD j .empty = l.getD j .empty := by simp [List.getD_eq_getElem?_getD, h]
theorem getD_set_eq {l : List ByteArray} {i : Nat} (h : i < l.length) (y : ByteArray) : (l.set i y).getD i .empty = y := by simp [List.getD_eq_getElem?_getD, h]
theorem freeU_nodup (r : RootP) (n : Nat) : ((freeU r n).map Int.toNat).Nodup := by
  have : (freeU r n).map Int.toNat = (List.range n).filter (okF r) := by
    unfold freeU
    rw [List.map_map]
    have e : (Int.toNat ∘ fun (b : Nat) => (b : Int)) = id := by funext b; simp
    rw [e, List.map_id]
  rw [this]
  exact List.Nodup.sublist List.filter_sublist List.nodup_range
theorem placesK_keys (g : Nat) (ps : List ByteArray) : (placesK g ps).map (·.1) = (List.range ps.length).map (fun i => slotOf g + (i + 1)) := by
  unfold placesK
  apply List.ext_getElem
  · simp
  · intro i h1 h2
    simp
/-- where a commit writes -/
structure Wr (N : Nat) (x : Fs) (s : Dv) (l : List (Nat × ByteArray)) (r' : RootP) : Prop where
  nodup : ((toWrite s l r').map (·.1)).Nodup
  lt : ∀ p ∈ toWrite s l r', p.1 < N
  slot : ∀ p ∈ toWrite s l r', ¬ (slotOf x.safe.gen ≤ p.1 ∧ p.1 < slotOf x.safe.gen + 16)
  head : ∀ p ∈ toWrite s l r', p.1 ≠ slotOf r'.gen
  free : ∀ p ∈ toWrite s l r', ((p.1 : Nat) : Int) ∉ flatB x.safe.files
theorem wr_of {l : List (Nat × ByteArray)} (hlen : s.safe.length = N) (hN1 : 40 ≤ N) (hm : May (N : Int) x.safe) (hN : N ≤ 16384) (po : PlanOk N x s l r') : Wr N x s l r' := by
  have hlow : ∀ q ∈ flatB x.safe.files, (32 : Int) ≤ q := by
    have := (hm.seen x.safe.files.length (Nat.le_refl _)).lo
    rwa [List.take_length] at this
  have hg := po.gen
  have h15 : (piecesOf (encB s r')).length ≤ 15 := piecesOf_few (by have := po.fits; rw [← hlen] at this; exact this)
  have hl : ∀ p ∈ l, 32 ≤ p.1 ∧ p.1 < N ∧ ((p.1 : Nat) : Int) ∉ flatB x.safe.files := fun p hp => by
    obtain ⟨a1, a2, a3⟩ := po.at' p hp
    have a4 := freeU_pos a3
    exact ⟨by omega, a1, a4.2.2⟩
  have hpl : ∀ p ∈ placesK r'.gen (piecesOf (encB s r')), ∃ i, i < 15 ∧ p.1 = slotOf r'.gen + (i + 1) := fun p hp => by
    have : p.1 ∈ (placesK r'.gen (piecesOf (encB s r'))).map (·.1) := List.mem_map.2 ⟨p, hp, rfl⟩
    rw [placesK_keys] at this
    obtain ⟨i, hi, e⟩ := List.mem_map.1 this
    exact ⟨i, by have := List.mem_range.1 hi; omega, e.symm⟩
  have hcase : ∀ p ∈ toWrite s l r', p ∈ l ∨ p ∈ placesK r'.gen (piecesOf (encB s r')) := fun p hp => List.mem_append.1 hp
  have hs1 : slotOf x.safe.gen ≤ 16 := by unfold slotOf; omega
  have hs2 : slotOf r'.gen ≤ 16 := by unfold slotOf; omega
  have hs3 : slotOf r'.gen + slotOf x.safe.gen = 16 := by unfold slotOf; omega
  have hs4 : slotOf r'.gen = 0 ∨ slotOf r'.gen = 16 := by unfold slotOf; omega
  refine ⟨?_, fun p hp => ?_, fun p hp => ?_, fun p hp => ?_, fun p hp => ?_⟩
  · obtain ⟨st, e1, e2, e3⟩ := po.laid
    unfold toWrite
    rw [List.map_append, List.nodup_append]
    refine ⟨?_, ?_, fun a ha b hb e => ?_⟩
    · rw [e2, planK_at _ _ e1]
      exact List.Nodup.sublist (List.Sublist.map _ (List.take_sublist _ _)) (freeU_nodup _ _)
    · rw [placesK_keys, List.nodup_iff_pairwise_ne, List.pairwise_map]
      exact (List.nodup_iff_pairwise_ne.1 List.nodup_range).imp (fun {a b} h e => h (by omega))
    · obtain ⟨p, hp, rfl⟩ := List.mem_map.1 ha
      obtain ⟨q, hq, rfl⟩ := List.mem_map.1 hb
      have h1 := hl p hp
      obtain ⟨i, hi, h2⟩ := hpl q hq
      omega
  · rcases hcase p hp with h | h
    · exact (hl p h).2.1
    · obtain ⟨i, hi, e⟩ := hpl p h
      omega
  · rcases hcase p hp with h | h
    · have := hl p h; omega
    · obtain ⟨i, hi, e⟩ := hpl p h
      omega
  · rcases hcase p hp with h | h
    · have := hl p h; omega
    · obtain ⟨i, hi, e⟩ := hpl p h
      omega
  · rcases hcase p hp with h | h
    · exact (hl p h).2.2
    · obtain ⟨i, hi, e⟩ := hpl p h
      intro hq
      have := hlow _ hq
      omega
/-- the root's bytes behind its slot's head are decoded to it -/
theorem slot_young {r' : RootP} (hfit : (encRt (min (N : Int) 16384) r').2 = 0) (hlen : s.safe.length = N) (h : ∀ p ∈ placesK r'.gen (piecesOf (encB s r')), s'.read p.1 = p.2) : decRt (N : Int) (slotS s' (r'.gen % 2)) = some r' := by
  have h15 : (piecesOf (encB s r')).length ≤ 15 := piecesOf_few (N := min ((s.safe.length : Nat) : Int) 16384) (by rw [hlen]; exact hfit)
  have hb : bytesL s' ((slotB (r'.gen % 2)).take (piecesOf (encB s r')).length) = (piecesOf (encB s r')).flatMap (·.data.toList) := by
    refine bytesL_read _ _ (by rw [List.length_take, slotB_length]; omega) (fun j h1 h2 => ?_)
    rw [List.getElem_take, slotB_get (by omega), Int.toNat_natCast]
    have hm : (slotOf r'.gen + (j + 1), (piecesOf (encB s r'))[j]) ∈ placesK r'.gen (piecesOf (encB s r')) := by
      unfold placesK
      rw [List.mem_mapIdx]
      exact ⟨j, h2, rfl⟩
    exact h _ hm
  rw [piecesOf_flat] at hb
  have he : (encB s r').data.toList = (encRt (min (N : Int) 16384) r').1 := by
    unfold encB
    rw [hlen]
  refine decRt_back hfit (rest := List.replicate (256 * pieceN (encB s r').size - (encB s r').size) 0 ++ bytesL s' ((slotB (r'.gen % 2)).drop (piecesOf (encB s r')).length)) ?_
  have hsp : (slotS s' (r'.gen % 2)).data.toList = bytesL s' ((slotB (r'.gen % 2)).take (piecesOf (encB s r')).length) ++ bytesL s' ((slotB (r'.gen % 2)).drop (piecesOf (encB s r')).length) := by
    unfold bytesL
    rw [← List.flatMap_append, List.take_append_drop]
    rfl
  rw [hsp, hb, he, List.append_assoc]
/-- a file system that is up, its disk, the plain files of its root and those at hand -/
structure Al (N T : Nat) (x : Fs) (s : Dv) (nsS dsS nsH dsH : List ByteArray) : Prop where
  kp : Kp N T x s
  good : Good N s x.safe
  repS : Rep s (handOf x.safe) nsS dsS
  repH : Rep s x.hand nsH dsH
  hn : HN x.hand
  hb : HB (flatB x.safe.files) x.hand
  chg : x.changed = false → Rep s (handOf x.safe) nsH dsH
/-- what is found behind a loss of power -/
def Surv (N : Nat) (s : Dv) (nsS dsS nsH dsH : List ByteArray) (cut : Bool) : Prop := ∀ (keep : List Bool) (torn : Int) (n : Nat), n ≤ 256 → ∃ r, Good N (s.crash keep torn n) r ∧ (Rep (s.crash keep torn n) (handOf r) nsS dsS ∨ (cut = true ∧ Rep (s.crash keep torn n) (handOf r) nsH dsH))
variable {nsS dsS nsH dsH : List ByteArray}
theorem Al.surv (h : Al N T x s nsS dsS nsH dsH) (cut : Bool) : Surv N s nsS dsS nsH dsH cut := by
  intro keep torn n _
  have hr : ∀ i, (s.crash keep torn n).read i = s.read i := fun i => by
    rw [crash_read, read_nil h.kp.wait, h.kp.wait]
    rfl
  exact ⟨x.safe, h.good.congr (fun i _ => hr _) (by rw [hr]; exact h.good.other), .inl (h.repS.congr (handOf_hb _) (fun q _ => hr _))⟩
theorem Good.mayN (hN : N ≤ 16384) (h : Good N s r) : May (N : Int) r := by
  have := h.may
  rwa [Int.min_eq_left (by omega)] at this
/-- a commit -/
theorem Al.commit (h : Al N T x s nsS dsS nsH dsH) (hwf : s.WF) (hd : x.dead s = false) (hT : T ≤ 4611686018427387904) (hN1 : 40 ≤ N) (hN : N ≤ 16384) :
    ((x.commitE s).2 = 0 ∧ Al N T (x.commitE s).1.1 (x.commitE s).1.2 nsH dsH nsH dsH) ∨ ((x.commitE s).2 = 5 ∧ (x.commitE s).1 = (x, s)) ∨
    ((x.commitE s).2 = 4 ∧ (x.commitE s).1.1 = x ∧ (x.commitE s).1.2.down = true ∧ Surv N (x.commitE s).1.2 nsS dsS nsH dsH true) := by
  have hK := h.kp.commit hd hT hN1 hN
  unfold Fs.commitE at *
  rw [if_neg (by rw [hd]; exact Bool.false_ne_true)] at hK ⊢
  split
  · rename_i hc
    exact .inl ⟨rfl, h.kp, h.good, h.chg hc, h.repH, h.hn, h.hb, fun _ => h.chg hc⟩
  rename_i hch
  rw [if_neg hch] at hK
  cases hp : x.planE s with
  | none => exact .inr (.inl ⟨rfl, rfl⟩)
  | some lr =>
    obtain ⟨l, r'⟩ := lr
    rw [hp] at hK
    simp only at hK ⊢
    have hlen := h.kp.len
    have po := planE_ok hlen (h.kp.hand.ok hT) hp
    have hw := wr_of hlen hN1 h.kp.safe hN po
    have he : (encRt (min (s.safe.length : Int) 16384) r').2 = 0 := by have := po.fits; rw [hlen]; exact this
    have hg := po.gen
    have hslot : slotOf (x.safe.gen + 1) = slotOf r'.gen := by rw [hg]
    have hs1 : slotOf x.safe.gen ≤ 16 := by unfold slotOf; omega
    have hs2 : slotOf r'.gen ≤ 16 := by unfold slotOf; omega
    have hs3 : slotOf r'.gen + slotOf x.safe.gen = 16 := by unfold slotOf; omega
    have hs4 : slotOf r'.gen = 0 ∨ slotOf r'.gen = 16 := by unfold slotOf; omega
    have hrd : ∀ i, s.read i = s.safe.getD i .empty := read_nil h.kp.wait
    have hseen := h.kp.safe.seen x.safe.files.length (Nat.le_refl _)
    rw [List.take_length] at hseen
    -- the old root
    have old : ∀ s' : Dv, (∀ i, i < N → (∀ p ∈ toWrite s l r', p.1 ≠ i) → i ≠ slotOf r'.gen → s'.read i = s.read i) → OthOk x.safe.gen (s'.read (slotOf r'.gen)) → Good N s' x.safe ∧ Rep s' (handOf x.safe) nsS dsS := by
      intro s' h1 h2
      refine ⟨h.good.congr (fun i hi => h1 _ (by omega) (fun p hp e => hw.slot p hp (by omega)) (by omega)) (by rw [hslot]; exact h2), h.repS.congr (handOf_hb _) (fun q hq => ?_)⟩
      have q1 := hseen.lo q hq
      have q2 := hseen.hi q hq
      exact h1 _ (by omega) (fun p hp e => hw.free p hp (by rw [e, Int.toNat_of_nonneg (by omega)]; exact hq)) (by omega)
    -- the young one
    have young : ∀ s' : Dv, (∀ i, i < N → i ≠ slotOf r'.gen → s'.read i = (setAll s.safe (toWrite s l r')).getD i .empty) → s'.read (slotOf r'.gen) = headB r'.gen → Good N s' r' ∧ Rep s' (handOf r') nsH dsH := by
      intro s' h1 h2
      have hwr : ∀ p ∈ toWrite s l r', s'.read p.1 = p.2 := fun p hp => by
        rw [h1 _ (hw.lt p hp) (hw.head p hp)]
        exact setAll_of hw.nodup hp (by rw [hlen]; exact hw.lt p hp)
      have hst : ∀ i, i < N → (∀ p ∈ toWrite s l r', p.1 ≠ i) → i ≠ slotOf r'.gen → s'.read i = s.read i := fun i hi hp hne => by
        rw [h1 i hi hne, hrd]
        exact setAll_no (by rw [hlen]; exact hi) hp
      refine ⟨⟨po.fits, h2, slot_young po.fits hlen (fun p hp => hwr p (List.mem_append_right _ hp)), ?_⟩, ?_⟩
      · have e : slotOf (r'.gen + 1) = slotOf x.safe.gen := by unfold slotOf; omega
        rw [e, hst _ (by omega) (fun p hp e => hw.slot p hp (by omega)) (by omega), h.good.head]
        exact .inr ⟨x.safe.gen, by omega, headB_back _⟩
      · obtain ⟨st, e1, e2, e3⟩ := po.laid
        rw [e3]
        refine h.repH.commit h.hn (planK_cont hwf _ _ e1 (fun p hp => ⟨(h.kp.hand.all p hp).blocks, fun q hq => ?_⟩) (fun p hp => hwr p (List.mem_append_left _ (by rw [e2]; exact hp))))
        have q0 := h.hb p hp q hq
        have q1 := hseen.lo q q0
        have q2 := hseen.hi q q0
        refine ⟨⟨by omega, by omega⟩, hst _ (by omega) (fun p hp e => hw.free p hp (by rw [e, Int.toNat_of_nonneg (by omega)]; exact q0)) (by omega)⟩
    have hwt := h.kp.wait
    have hroot : wrRoot s l r' = wrEnd r'.gen (wrAll s (toWrite s l r')) := by unfold wrRoot; rw [if_neg (by rw [he]; decide)]
    rcases wrEnd_three (g := r'.gen) (l := toWrite s l r') hwt with ⟨a1, a2, a3⟩ | ⟨a1, a2, a3⟩ | ⟨a1, a2, a3⟩
    · rw [← hroot] at a1 a2 a3
      have hne : (wrRoot s l r').2 ≠ 0 := by rw [a1]; decide
      rw [if_pos hne]
      have hwx : x.writeE s l r' = x := by unfold Fs.writeE; rw [if_neg hne]
      refine .inr (.inr ⟨a1, hwx, wrRoot_down he hne, ?_⟩)
      intro keep torn n hn
      have hr : ∀ i, i < N → (∀ p ∈ toWrite s l r', p.1 ≠ i) → ((wrRoot s l r').1.crash keep torn n).read i = s.read i := fun i hi hp => by
        rw [crash_read, crashN_get (fun p hp2 => hp p (a3 p hp2)), a2, hrd]
      obtain ⟨o1, o2⟩ := old ((wrRoot s l r').1.crash keep torn n) (fun i hi hp _ => hr i hi hp) (by rw [hr _ (by omega) hw.head, ← hslot]; exact h.good.other)
      exact ⟨x.safe, o1, .inl o2⟩
    · rw [← hroot] at a1 a2 a3
      have hne : (wrRoot s l r').2 ≠ 0 := by rw [a1]; decide
      rw [if_pos hne]
      have hwx : x.writeE s l r' = x := by unfold Fs.writeE; rw [if_neg hne]
      refine .inr (.inr ⟨a1, hwx, wrRoot_down he hne, ?_⟩)
      intro keep torn n hn
      have hL : (setAll s.safe (toWrite s l r')).length = N := by rw [setAll_length, hlen]
      -- any disk that differs in the head alone
      have fin : ∀ s' : Dv, (∀ i, i < N → i ≠ slotOf r'.gen → s'.read i = (setAll s.safe (toWrite s l r')).getD i .empty) → (s'.read (slotOf r'.gen) = headB r'.gen ∨ OthOk x.safe.gen (s'.read (slotOf r'.gen))) → ∃ q, Good N s' q ∧ (Rep s' (handOf q) nsS dsS ∨ (true = true ∧ Rep s' (handOf q) nsH dsH)) := by
        intro s' h1 h2
        rcases h2 with h2 | h2
        · obtain ⟨o1, o2⟩ := young s' h1 h2
          exact ⟨r', o1, .inr ⟨rfl, o2⟩⟩
        · obtain ⟨o1, o2⟩ := old s' (fun i hi hp hne => by rw [h1 i hi hne, hrd]; exact setAll_no (by rw [hlen]; exact hi) hp) h2
          exact ⟨x.safe, o1, .inl o2⟩
      have hhead : (setAll s.safe (toWrite s l r')).getD (slotOf r'.gen) .empty = s.read (slotOf r'.gen) := by rw [hrd]; exact setAll_no (by omega) hw.head
      have hoth : OthOk x.safe.gen (s.read (slotOf r'.gen)) := by rw [← hslot]; exact h.good.other
      have hsz : (s.read (slotOf r'.gen)).size = 256 := hwf.read (by omega)
      rcases a3 with a3 | a3
      · refine fin _ (fun i hi hne => ?_) ?_
        · rw [crash_read, a2, a3]; rfl
        · refine .inr ?_
          rw [crash_read, a2, a3]
          show OthOk x.safe.gen ((setAll s.safe (toWrite s l r')).getD (slotOf r'.gen) .empty)
          rw [hhead]; exact hoth
      · have hcr : ∀ i, ((wrRoot s l r').1.crash keep torn n).read i = (crash1 keep torn n 0 (setAll s.safe (toWrite s l r')) (slotOf r'.gen, headB r'.gen)).getD i .empty := fun i => by
          rw [crash_read, a2, a3]
          rfl
        refine fin _ (fun i hi hne => ?_) ?_
        · rw [hcr, crash1_get (fun e => hne e.symm)]
        · rw [hcr]
          by_cases ht : ((0 : Nat) : Int) = torn
          · rw [crash1_torn ht, getD_set_eq (by omega)]
            show tear (headB r'.gen) ((setAll s.safe (toWrite s l r')).getD (slotOf r'.gen) .empty) n = headB r'.gen ∨ OthOk x.safe.gen (tear (headB r'.gen) ((setAll s.safe (toWrite s l r')).getD (slotOf r'.gen) .empty) n)
            rw [hhead, hg]
            rw [hg] at hoth hsz
            by_cases hh : tear (headB (x.safe.gen + 1)) (s.read (slotOf (x.safe.gen + 1))) n = headB (x.safe.gen + 1)
            · exact .inl hh
            · exact .inr (hoth.tear hsz hh)
          · cases hkp : keep.getD 0 false with
            | true =>
              rw [crash1_keep ht hkp, getD_set_eq (by omega)]
              exact .inl rfl
            | false =>
              rw [crash1_lose ht hkp, hhead]
              exact .inr hoth
    · rw [← hroot] at a1 a2 a3
      rw [if_neg (by rw [a1]; decide)] at hK ⊢
      refine .inl ⟨rfl, ?_⟩
      obtain ⟨k1, k2, k3, k4, k5, k6⟩ := hK
      obtain ⟨u1, u2⟩ := wrRoot_up a1
      have hwr : x.writeE s l r' = { x with safe := r' } := by unfold Fs.writeE; rw [if_pos a1]
      have hal : ({ x with safe := r' } : Fs).dead (wrRoot s l r').1 = false := by
        unfold Fs.dead at hd ⊢
        simp only [Bool.or_eq_false_iff] at hd ⊢
        exact ⟨u1, by rw [wrRoot_epoch]; exact hd.2⟩
      have hrv : (x.writeE s l r').revertE (wrRoot s l r').1 = ({ x with safe := r' } : Fs).revert := by
        rw [hwr]
        unfold Fs.revertE
        rw [if_neg (by rw [hal]; exact Bool.false_ne_true)]
      simp only [hrv] at k6 ⊢
      rcases k6 with k6 | k6
      · rw [u1] at k6; cases k6
      have hL : (setAll s.safe (toWrite s l r')).length = N := by rw [setAll_length, hlen]
      have hrd2 : ∀ i, (wrRoot s l r').1.read i = ((setAll s.safe (toWrite s l r')).set (slotOf r'.gen) (headB r'.gen)).getD i .empty := fun i => by rw [read_nil a3, a2]
      obtain ⟨o1, o2⟩ := young (wrRoot s l r').1 (fun i hi hne => by rw [hrd2, getD_set_ne (fun e => hne e.symm)]) (by rw [hrd2, getD_set_eq (by omega)])
      exact ⟨k6, o1, o2, o2, handOf_hn _, handOf_hb _, fun _ => o2⟩
/-- a new disk, opened -/
theorem good_new (n : Nat) (h1 : 40 ≤ n) : Good n (dv1 n) ⟨1, []⟩ := by
  have he := enc1 (min ((n : Nat) : Int) 16384)
  have hlen : (Dv.new n).safe.length = n := by simp [Dv.new]
  have he2 : (encRt (min ((Dv.new n).safe.length : Int) 16384) ⟨1, []⟩).2 = 0 := enc1 _
  have hroot : wrRoot (Dv.new n) [] ⟨1, []⟩ = wrEnd 1 (wrAll (Dv.new n) (toWrite (Dv.new n) [] ⟨1, []⟩)) := by unfold wrRoot; rw [if_neg (by rw [he2]; decide)]
  have h0 := (wr1 n).2
  have h15 : (piecesOf (encB (Dv.new n) ⟨1, []⟩)).length ≤ 15 := piecesOf_few he2
  have hT : toWrite (Dv.new n) [] ⟨1, []⟩ = placesK 1 (piecesOf (encB (Dv.new n) ⟨1, []⟩)) := rfl
  have hkeys : ∀ p ∈ toWrite (Dv.new n) [] ⟨1, []⟩, 17 ≤ p.1 ∧ p.1 < 32 := fun p hp => by
    rw [hT] at hp
    have hm : p.1 ∈ (placesK 1 (piecesOf (encB (Dv.new n) ⟨1, []⟩))).map (·.1) := List.mem_map.2 ⟨p, hp, rfl⟩
    rw [placesK_keys] at hm
    obtain ⟨i, hi, e⟩ := List.mem_map.1 hm
    have := List.mem_range.1 hi
    have e2 : slotOf 1 = 16 := rfl
    omega
  have hnd : ((toWrite (Dv.new n) [] ⟨1, []⟩).map (·.1)).Nodup := by
    rw [hT, placesK_keys, List.nodup_iff_pairwise_ne, List.pairwise_map]
    exact (List.nodup_iff_pairwise_ne.1 List.nodup_range).imp (fun {a b} h e => h (by omega))
  rcases wrEnd_three (s := Dv.new n) (g := 1) (l := toWrite (Dv.new n) [] ⟨1, []⟩) rfl with ⟨a1, _⟩ | ⟨a1, _⟩ | ⟨a1, a2, a3⟩
  · rw [← hroot, h0] at a1; exact absurd a1 (by decide)
  · rw [← hroot, h0] at a1; exact absurd a1 (by decide)
  · rw [← hroot] at a2 a3
    have hL : (setAll (Dv.new n).safe (toWrite (Dv.new n) [] ⟨1, []⟩)).length = n := by rw [setAll_length, hlen]
    have hrd : ∀ i, (dv1 n).read i = ((setAll (Dv.new n).safe (toWrite (Dv.new n) [] ⟨1, []⟩)).set 16 (headB 1)).getD i .empty := fun i => by
      show (wrRoot (Dv.new n) [] ⟨1, []⟩).1.read i = _
      rw [read_nil a3, a2]
      rfl
    refine ⟨he, ?_, slot_young (s := Dv.new n) he hlen (fun p hp => ?_), .inr ⟨0, by decide, ?_⟩⟩
    · show (dv1 n).read 16 = headB 1
      rw [hrd, getD_set_eq (by omega)]
    · have hp2 : p ∈ toWrite (Dv.new n) [] ⟨1, []⟩ := hp
      have hk := hkeys p hp2
      rw [hrd, getD_set_ne (by omega)]
      exact setAll_of hnd hp2 (by omega)
    · show ((dv1 n).read 0).data.toList.drop 248 = be8 0
      rw [hrd, getD_set_ne (by decide), setAll_no (by omega) (fun p hp => by have := hkeys p hp; omega)]
      have hz : (Dv.new n).safe.getD 0 .empty = zeros 256 := by
        show (List.replicate n (zeros 256)).getD 0 .empty = zeros 256
        rw [List.getD_eq_getElem?_getD, List.getElem?_replicate_of_lt (by omega)]
        rfl
      have hz2 : (zeros 256).data.toList = List.replicate 256 0 := by unfold zeros; simp
      rw [hz, hz2, List.drop_replicate]
      decide
theorem al_new (n : Nat) (h1 : 40 ≤ n) (h2 : n ≤ 16384) : Al n 0 fs1 (dv1 n) [] [] [] [] :=
  ⟨kp1 n h2, good_new n h1, Rep.nil _, Rep.nil _, HN.nil, fun p hp => (List.not_mem_nil hp).elim, fun _ => Rep.nil _⟩
end Go.Proofs.Ytndekdgpibipnaa.Pl
