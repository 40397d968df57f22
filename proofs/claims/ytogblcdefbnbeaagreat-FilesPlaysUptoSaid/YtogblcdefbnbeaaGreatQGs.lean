
/- Plain: files at hand as plain files. Condition: none. -/
import Derived.Test.YtogblcdefbnbeaaGreatQGm
import Derived.Test.YtogblcdefbnbeaaGreatQGo
set_option maxRecDepth 100000
namespace Go.Proofs.YtogblcdefbnbeaaGreat
namespace Pl
theorem eq_of_list {a b : ByteArray} (h : a.data.toList = b.data.toList) : a = b := ByteArray.ext (Array.ext' h)
theorem hget_cons (p : ByteArray × HF) (l : List (ByteArray × HF)) (nm : ByteArray) : hget (p :: l) nm = if p.1 = nm then some p.2 else hget l nm := by
 unfold hget
 rw [List.find?_cons]
 by_cases h : p.1 = nm
 ·rw [if_pos h]
  have : (p.1.data.toList == nm.data.toList) = true := by simp [h]
  rw [this]; rfl
 ·rw [if_neg h]
  have : (p.1.data.toList == nm.data.toList) = false := by
   rw [beq_eq_false_iff_ne]
   exact fun e => h (eq_of_list e)
  rw [this]
theorem hget_mem {l : List (ByteArray × HF)} {nm : ByteArray} {y : HF} (h : hget l nm = some y) : (nm, y) ∈ l := by
 obtain ⟨p, hp, e1, e2⟩ := hget_some h
 rw [← e1, ← eq_of_list e2]
 exact hp
theorem hget_hins_ne {x : ByteArray × HF} {nm : ByteArray} (h : x.1 ≠ nm) : ∀ l, hget (hins x l) nm = hget l nm
 | [] => by rw [hins, hget_cons, if_neg h]
 | y :: r => by
  unfold hins
  split
  ·rw [hget_cons, if_neg h]
  ·rw [hget_cons, hget_cons, hget_hins_ne h r]
theorem hget_hins_self {x : ByteArray × HF} : ∀ l : List (ByteArray × HF), (∀ p ∈ l, p.1 ≠ x.1) → hget (hins x l) x.1 = some x.2
 | [], _ => by rw [hins, hget_cons, if_pos rfl]
 | y :: r, h => by
  unfold hins
  split
  ·rw [hget_cons, if_pos rfl]
  ·rw [hget_cons, if_neg (h y List.mem_cons_self), hget_hins_self r (fun p hp => h p (List.mem_cons_of_mem _ hp))]
theorem hdel_cons (p : ByteArray × HF) (l : List (ByteArray × HF)) (nm : ByteArray) : hdel (p :: l) nm = if p.1 = nm then hdel l nm else p :: hdel l nm := by
 unfold hdel
 by_cases h : p.1 = nm
 ·rw [if_pos h, List.filter_cons_of_neg (by simp [h])]
 ·rw [if_neg h, List.filter_cons_of_pos (by
   have : (p.1.data.toList == nm.data.toList) = false := by
    rw [beq_eq_false_iff_ne]
    exact fun e => h (eq_of_list e)
   rw [this]; rfl)]
theorem hget_hdel_ne {nm k : ByteArray} (h : nm ≠ k) : ∀ l, hget (hdel l k) nm = hget l nm
 | [] => rfl
 | p :: l => by
  rw [hdel_cons, hget_cons]
  split
  ·rename_i e
   rw [if_neg (fun e2 => h (e2.symm.trans e)), hget_hdel_ne h l]
  ·rw [hget_cons, hget_hdel_ne h l]
theorem hdel_ne {l : List (ByteArray × HF)} {nm : ByteArray} {p : ByteArray × HF} (h : p ∈ hdel l nm) : p.1 ≠ nm := by
 intro e
 have := (List.mem_filter.1 h).2
 simp [e] at this
theorem hdel_self {l : List (ByteArray × HF)} {nm : ByteArray} (h : hget l nm = none) : hdel l nm = l := by
 induction l with
 | nil => rfl
 | cons p l ih =>
  rw [hget_cons] at h
  split at h
  ·cases h
  ·rename_i hne
   rw [hdel_cons, if_neg hne, ih h]
theorem hget_hput_ne {nm k : ByteArray} (h : k ≠ nm) (l : List (ByteArray × HF)) (y : HF) : hget (hput l k y) nm = hget l nm := by
 unfold hput
 rw [hget_hins_ne (x := (k, y)) h, hget_hdel_ne h.symm]
theorem hget_hput_self (l : List (ByteArray × HF)) (nm : ByteArray) (y : HF) : hget (hput l nm y) nm = some y :=
 hget_hins_self (x := (nm, y)) _ (fun _ hp => hdel_ne hp)
def HN (l : List (ByteArray × HF)) : Prop := (l.map (·.1)).Nodup
theorem HN.nil : HN [] := List.nodup_nil
theorem HN.del {l : List (ByteArray × HF)} (h : HN l) (nm : ByteArray) : HN (hdel l nm) := List.Nodup.sublist (List.Sublist.map _ List.filter_sublist) h
theorem HN.ins {l : List (ByteArray × HF)} (h : HN l) (x : ByteArray × HF) (hx : ∀ p ∈ l, p.1 ≠ x.1) : HN (hins x l) := by
 induction l with
 | nil => unfold HN hins; simp
 | cons y r ih =>
  have h' : y.1 ∉ r.map (·.1) ∧ HN r := by unfold HN at h; rw [List.map_cons, List.nodup_cons] at h; exact h
  unfold hins
  split
  ·show (x.1 :: y.1 :: r.map (·.1)).Nodup
   rw [List.nodup_cons]
   refine ⟨fun hm => ?_, h⟩
   rcases List.mem_cons.1 hm with e | hm
   ·exact hx y List.mem_cons_self e.symm
   ·obtain ⟨p, hp, e⟩ := List.mem_map.1 hm
    exact hx p (List.mem_cons_of_mem _ hp) e
  ·show (y.1 :: (hins x r).map (·.1)).Nodup
   rw [List.nodup_cons]
   refine ⟨fun hm => ?_, ih h'.2 (fun p hp => hx p (List.mem_cons_of_mem _ hp))⟩
   obtain ⟨p, hp, e⟩ := List.mem_map.1 hm
   rcases hins_mem _ hp with rfl | hp
   ·exact hx y List.mem_cons_self e.symm
   ·exact h'.1 (List.mem_map.2 ⟨p, hp, e⟩)
theorem HN.put {l : List (ByteArray × HF)} (h : HN l) (nm : ByteArray) (y : HF) : HN (hput l nm y) := (h.del nm).ins _ (fun _ hp => hdel_ne hp)
theorem HN.get {l : List (ByteArray × HF)} (h : HN l) {p : ByteArray × HF} (hp : p ∈ l) : hget l p.1 = some p.2 := by
 induction l with
 | nil => cases hp
 | cons q r ih =>
  have h' : q.1 ∉ r.map (·.1) ∧ HN r := by unfold HN at h; rw [List.map_cons, List.nodup_cons] at h; exact h
  rw [hget_cons]
  rcases List.mem_cons.1 hp with rfl | hp
  ·rw [if_pos rfl]
  ·rw [if_neg (fun e => h'.1 (List.mem_map.2 ⟨p, hp, e.symm⟩))]
   exact ih h'.2 hp
theorem hdel_length {l : List (ByteArray × HF)} (h : HN l) {nm : ByteArray} {y : HF} (hg : hget l nm = some y) : (hdel l nm).length + 1 = l.length := by
 induction l with
 | nil => cases hg
 | cons q r ih =>
  have h' : q.1 ∉ r.map (·.1) ∧ HN r := by unfold HN at h; rw [List.map_cons, List.nodup_cons] at h; exact h
  rw [hget_cons] at hg
  rw [hdel_cons]
  split at hg
  ·rename_i e
   rw [if_pos e, hdel_self]
   ·rfl
   ·cases hn : hget r nm with
    | none => rfl
    | some z => exact absurd (List.mem_map.2 ⟨(nm, z), hget_mem hn, e.symm⟩) h'.1
  ·rename_i e
   rw [if_neg e, List.length_cons, List.length_cons, ih h'.2 hg]
def cont (s : Dv) (y : HF) : ByteArray := bytesOf s y 0 y.blocks.length ++ y.added
theorem cont_added (s : Dv) (y : HF) (t : ByteArray) : cont s { y with added := y.added ++ t } = cont s y ++ t := by
 unfold cont
 rw [ByteArray.append_assoc]
 rfl
theorem cont_zero (s : Dv) : cont s HF.zero = .empty := by
 apply ByteArray.ext
 simp [cont, bytesOf, bytesL, HF.zero, ByteArray.data_append, ByteArray.data_extract]
theorem bytesOf_list (s : Dv) (y : HF) (fr tt : Nat) : (bytesOf s y fr tt).data.toList = (bytesL s ((y.blocks.take tt).drop fr)).take (y.old - fr * 256) := by
 have key : ∀ (l : List UInt8) (m : Nat), ((⟨l.toArray⟩ : ByteArray).extract 0 m).data.toList = l.take m := by
  intro l m
  simp [ByteArray.data_extract, Array.toList_extract, List.extract_eq_take_drop]
 unfold bytesOf
 rw [key, List.take_eq_take_iff]
 omega
theorem cont_list (s : Dv) (y : HF) : (cont s y).data.toList = (bytesL s y.blocks).take y.old ++ y.added.data.toList := by
 unfold cont
 rw [ByteArray.data_append, Array.toList_append, bytesOf_list, List.take_length, List.drop_zero, Nat.zero_mul, Nat.sub_zero]
def HB (bs : List Int) (l : List (ByteArray × HF)) : Prop := ∀ p ∈ l, ∀ q ∈ p.2.blocks, q ∈ bs
structure Rep (s : Dv) (l : List (ByteArray × HF)) (ns ds : List ByteArray) : Prop where
 nodup : ns.Nodup
 eqlen : ds.length = ns.length
 len : l.length = ns.length
 get : ∀ (j : Nat) (nm d : ByteArray), ns[j]? = some nm → ds[j]? = some d → ∃ y, hget l nm = some y ∧ cont s y = d
variable {s : Dv} {l : List (ByteArray × HF)} {ns ds : List ByteArray}
theorem Rep.nil (s : Dv) : Rep s [] [] [] := ⟨List.nodup_nil, rfl, rfl, fun j nm d h => by simp at h⟩
theorem Rep.has (h : Rep s l ns ds) {nm : ByteArray} (hm : nm ∈ ns) : ∃ y, hget l nm = some y := by
 obtain ⟨i, hi, rfl⟩ := List.mem_iff_getElem.1 hm
 obtain ⟨y, hy, _⟩ := h.get i ns[i] (ds[i]'(by rw [h.eqlen]; exact hi)) (List.getElem?_eq_getElem hi) (List.getElem?_eq_getElem _)
 exact ⟨y, hy⟩
theorem Rep.snoc (h : Rep s l ns ds) {nm : ByteArray} (hg : hget l nm = none) (y : HF) : Rep s (hins (nm, y) l) (ns ++ [nm]) (ds ++ [cont s y]) := by
 have hnot : nm ∉ ns := fun hm => by obtain ⟨z, hz⟩ := h.has hm; rw [hg] at hz; cases hz
 have hle : ∀ p ∈ l, p.1 ≠ nm := fun p hp e => by
  have : hdel l nm = l := hdel_self hg
  rw [← this] at hp
  exact hdel_ne hp e
 refine ⟨?_, by rw [List.length_append, List.length_append, h.eqlen]; rfl, by rw [hins_length, h.len, List.length_append]; rfl, fun j a d h1 h2 => ?_⟩
 ·rw [List.nodup_append]
  exact ⟨h.nodup, by simp, fun a ha b hb e => by rw [List.mem_singleton] at hb; subst hb e; exact hnot ha⟩
 ·by_cases hj : j < ns.length
  ·rw [List.getElem?_append_left hj] at h1
   rw [List.getElem?_append_left (by rw [h.eqlen]; exact hj)] at h2
   obtain ⟨z, hz, hc⟩ := h.get j a d h1 h2
   refine ⟨z, ?_, hc⟩
   rw [hget_hins_ne (x := (nm, y)) (fun e => ?_)]
   ·exact hz
   ·have e' : nm = a := e
    rw [← e', hg] at hz
    cases hz
  ·rw [List.getElem?_append_right (by omega)] at h1
   rw [List.getElem?_append_right (by rw [h.eqlen]; omega)] at h2
   have hj0 : j - ns.length = 0 := by
    rcases Nat.eq_zero_or_pos (j - ns.length) with e | e
    ·exact e
    ·rw [List.getElem?_eq_none (by show ([nm] : List ByteArray).length ≤ _; exact e)] at h1; cases h1
   rw [hj0] at h1
   rw [h.eqlen, hj0] at h2
   simp at h1 h2
   subst h1 h2
   exact ⟨y, hget_hins_self (x := (nm, y)) l hle, rfl⟩
theorem Rep.set (h : Rep s l ns ds) (hn : HN l) {i : Nat} (hi : i < ns.length) (y : HF) : Rep s (hput l ns[i] y) ns (ds.set i (cont s y)) := by
 obtain ⟨y0, hy0⟩ := h.has (List.getElem_mem hi)
 refine ⟨h.nodup, by rw [List.length_set]; exact h.eqlen, ?_, fun j a d h1 h2 => ?_⟩
 ·unfold hput
  rw [hins_length]
  have := hdel_length hn hy0
  have := h.len
  omega
 ·rw [List.getElem?_set] at h2
  obtain ⟨hj, e3⟩ := List.getElem?_eq_some_iff.1 h1
  by_cases hij : i = j
  ·subst hij
   rw [if_pos rfl, if_pos (by rw [h.eqlen]; exact hi)] at h2
   obtain rfl := Option.some.inj h2
   rw [← e3]
   exact ⟨y, hget_hput_self _ _ _, rfl⟩
  ·rw [if_neg hij] at h2
   obtain ⟨z, hz, hc⟩ := h.get j a d h1 h2
   refine ⟨z, ?_, hc⟩
   rw [hget_hput_ne (fun e => hij ((List.getElem_inj h.nodup).1 (e.trans e3.symm)))]
   exact hz
end Pl
namespace Pl
theorem toL_size (t : ByteArray) : t.data.toList.length = t.size := by simp
variable {s s' : Dv}
structure PkC (s' s : Dv) (l : List (ByteArray × HF)) (fs : List FileP) : Prop where
 len : fs.length = l.length
 each : ∀ (i : Nat) (h : i < fs.length) (h2 : i < l.length), fs[i].name = l[i].1 ∧ cont s' ⟨fs[i].blocks, fs[i].size.toNat, .empty⟩ = cont s l[i].2
theorem handOf_fold (fs : List FileP) : ∀ (acc : List (ByteArray × HF)), HN acc → (fs.map (·.name)).Nodup → (∀ f ∈ fs, hget acc f.name = none) →
  HN (fs.foldl (fun l y => hput l y.name ⟨y.blocks, y.size.toNat, .empty⟩) acc) ∧ (fs.foldl (fun l y => hput l y.name ⟨y.blocks, y.size.toNat, .empty⟩) acc).length = acc.length + fs.length ∧
   (∀ nm, nm ∉ fs.map (·.name) → hget (fs.foldl (fun l y => hput l y.name ⟨y.blocks, y.size.toNat, .empty⟩) acc) nm = hget acc nm) ∧
   ∀ f ∈ fs, hget (fs.foldl (fun l y => hput l y.name ⟨y.blocks, y.size.toNat, .empty⟩) acc) f.name = some ⟨f.blocks, f.size.toNat, .empty⟩ := by
 induction fs with
 | nil => intro acc h _ _; exact ⟨h, rfl, fun _ _ => rfl, fun f hf => (List.not_mem_nil hf).elim⟩
 | cons f fs ih =>
  intro acc h hd hn
  rw [List.map_cons, List.nodup_cons] at hd
  have hne : ∀ g ∈ fs, f.name ≠ g.name := fun g hg e => hd.1 (List.mem_map.2 ⟨g, hg, e.symm⟩)
  obtain ⟨i1, i2, i3, i4⟩ := ih (hput acc f.name ⟨f.blocks, f.size.toNat, .empty⟩) (h.put _ _) hd.2 (fun g hg => by rw [hget_hput_ne (hne g hg)]; exact hn g (List.mem_cons_of_mem _ hg))
  refine ⟨i1, ?_, fun nm hnm => ?_, fun g hg => ?_⟩
  ·rw [List.foldl_cons, i2]
   unfold hput
   rw [hins_length, hdel_self (hn f List.mem_cons_self), List.length_cons]
   omega
  ·rw [List.map_cons, List.mem_cons, not_or] at hnm
   rw [List.foldl_cons, i3 nm hnm.2, hget_hput_ne (fun e => hnm.1 e.symm)]
  ·rcases List.mem_cons.1 hg with rfl | hg
   ·rw [List.foldl_cons, i3 _ hd.1, hget_hput_self]
   ·rw [List.foldl_cons]; exact i4 g hg
theorem Rep.commit {l : List (ByteArray × HF)} {ns ds : List ByteArray} (h : Rep s l ns ds) (hn : HN l) {g : Nat} {fs : List FileP} (hc : PkC s' s l fs) : Rep s' (handOf ⟨g, fs⟩) ns ds := by
 have hnm : fs.map (·.name) = l.map (·.1) := by
  apply List.ext_getElem
  ·rw [List.length_map, List.length_map, hc.len]
  ·intro i h1 h2
   rw [List.getElem_map, List.getElem_map]
   exact (hc.each i (by simpa using h1) (by simpa using h2)).1
 obtain ⟨i1, i2, _, i4⟩ := handOf_fold fs [] HN.nil (by rw [hnm]; exact hn) (fun _ _ => rfl)
 refine ⟨h.nodup, h.eqlen, ?_, fun j nm d h1 h2 => ?_⟩
 ·unfold handOf
  rw [i2, List.length_nil, Nat.zero_add, hc.len, h.len]
 ·obtain ⟨y, hy, hcy⟩ := h.get j nm d h1 h2
  obtain ⟨i, hi, e⟩ := List.mem_iff_getElem.1 (hget_mem hy)
  have hi2 : i < fs.length := by rw [hc.len]; exact hi
  obtain ⟨c1, c2⟩ := hc.each i hi2 hi
  rw [e] at c1 c2
  refine ⟨_, ?_, c2.trans hcy⟩
  have := i4 fs[i] (List.getElem_mem hi2)
  rw [c1] at this
  exact this
end Pl
namespace Pl
theorem uintR_back {most n : Nat} (h : n ≤ most) (hm : most ≤ 4611686018427387904) (r : List UInt8) : uintR most (putUint n ++ r) = some (n, r) := by
 unfold uintR
 rw [take_put n r (by omega)]
 simp only
 rw [if_neg (by omega), List.drop_left]
theorem textR_back {t : ByteArray} (h : t.size ≤ 32) (r : List UInt8) : textR (putText t.data.toList ++ r) = some (t, r) := by
 have hl : t.data.toList.length = t.size := by simp
 unfold textR
 rw [text_back' t.data.toList r 32 (by omega) (by omega)]
 simp only
 rw [if_neg (by decide), List.drop_left]
theorem runL_length (x : Int × Nat) : (runL x).length = x.2 := by simp [runL]
theorem runsK_back (rest : List UInt8) : ∀ (rs : List (Int × Nat)), (∀ x ∈ rs, 0 ≤ x.1 ∧ x.1 ≤ 16384 ∧ x.2 ≤ 16384) → (rs.flatMap runL).length ≤ 16384 → ∀ k, k ≤ rs.length → runsK k (rs.flatMap runBytes ++ rest) = some ((rs.take k).flatMap runL, (rs.drop k).flatMap runBytes ++ rest)
 | rs, _, _, 0, _ => by simp [runsK]
 | rs, hx, hl, k + 1, hk => by
  have ih := runsK_back rest rs hx hl k (by omega)
  have hk2 : k < rs.length := by omega
  show runStep (runsK k _) = _
  rw [ih]
  obtain ⟨x1, x2, x3⟩ := hx _ (List.getElem_mem hk2)
  have hd := flat_drop (f := runBytes) hk2
  have ht := flat_take_succ (f := runL) hk2
  have hle : ((rs.take (k + 1)).flatMap runL).length ≤ 16384 := Nat.le_trans (flat_take_le rs (k + 1)) hl
  rw [ht, List.length_append, runL_length] at hle
  rw [ht, hd]
  unfold runStep
  simp only [Option.bind_some]
  have e1 : runBytes rs[k] ++ (rs.drop (k + 1)).flatMap runBytes ++ rest = putUint rs[k].1.toNat ++ (putUint rs[k].2 ++ ((rs.drop (k + 1)).flatMap runBytes ++ rest)) := by
   unfold runBytes
   simp only [List.append_assoc]
  rw [e1, uintR_back (by omega) (by omega), Option.bind_some, uintR_back (by omega) (by omega), Option.bind_some]
  simp only
  rw [if_pos (by omega)]
  have e2 : (List.range rs[k].2).map (fun j => ((rs[k].1.toNat + j : Nat) : Int)) = runL rs[k] := by
   unfold runL
   refine List.map_congr_left (fun j _ => ?_)
   omega
  rw [e2]
theorem runs_inner {lo hi : Int} (n : Nat) : ∀ (l : List Int), l.length ≤ n → (∀ b ∈ l, lo ≤ b ∧ b < hi) → ∀ x ∈ runsOf l, lo ≤ x.1 ∧ x.1 < hi ∧ x.2 ≤ l.length := by
 induction n with
 | zero => intro l h _ x hx; obtain rfl : l = [] := List.length_eq_zero_iff.1 (by omega); rw [runsOf_nil] at hx; cases hx
 | succ n ih =>
  intro l h hb x hx
  cases l with
  | nil => rw [runsOf_nil] at hx; cases hx
  | cons a l =>
   rw [runsOf_cons] at hx
   have hp := upR_pos a l
   rcases List.mem_cons.1 hx with rfl | hx
   ·exact ⟨(hb a List.mem_cons_self).1, (hb a List.mem_cons_self).2, upR_le _ _⟩
   ·have := ih ((a :: l).drop (upR a (a :: l))) (by simp only [List.length_drop, List.length_cons] at *; omega) (fun b hb2 => hb b (List.mem_of_mem_drop hb2)) x hx
    refine ⟨this.1, this.2.1, Nat.le_trans this.2.2 ?_⟩
    rw [List.length_drop]
    omega
theorem fileR_back {N : Int} {r : RootP} (h : May N r) (hN : N ≤ 16384) {f : FileP} (hf : f ∈ r.files) (rest : List UInt8) : fileR (fileBytes f ++ rest) = some (f, rest) := by
 obtain ⟨b1, b2, b3, b4, b5⟩ := h.blocks hN hf
 have hr := runs_inner _ f.blocks (Nat.le_refl _) b2
 have hx := expand_runs _ f.blocks (Nat.le_refl _)
 have hln := runsOf_length _ f.blocks (Nat.le_refl _)
 have hk := runsK_back rest (runsOf f.blocks) (fun x hx => by have := hr x hx; omega) (by rw [hx]; exact b1) _ (Nat.le_refl _)
 rw [List.take_length, hx, List.drop_length, List.flatMap_nil, List.nil_append] at hk
 have e1 : fileBytes f ++ rest = putText f.name.data.toList ++ (putUint f.size.toNat ++ (putUint (runsOf f.blocks).length ++ ((runsOf f.blocks).flatMap runBytes ++ rest))) := by
  unfold fileBytes
  simp only [List.append_assoc]
 unfold fileR
 rw [e1, textR_back b5, Option.bind_some]
 simp only
 rw [uintR_back (by omega) (by omega), Option.bind_some]
 simp only
 rw [uintR_back (by omega) (by omega), Option.bind_some]
 simp only
 rw [hk, Option.bind_some]
 obtain ⟨nm, sz, bl⟩ := f
 simp only at b3 ⊢
 rw [Int.toNat_of_nonneg b3]
theorem filesK_back {N : Int} {r : RootP} (h : May N r) (hN : N ≤ 16384) (rest : List UInt8) : ∀ k, k ≤ r.files.length → filesK k (r.files.flatMap fileBytes ++ rest) = some (r.files.take k, (r.files.drop k).flatMap fileBytes ++ rest)
 | 0, _ => by simp [filesK]
 | k + 1, hk => by
  have ih := filesK_back h hN rest k (by omega)
  have hk2 : k < r.files.length := by omega
  show fileStep (filesK k _) = _
  rw [ih, flat_drop (f := fileBytes) hk2, List.take_succ_eq_append_getElem hk2]
  unfold fileStep
  simp only [Option.bind_some]
  rw [List.append_assoc, fileR_back h hN (List.getElem_mem hk2), Option.bind_some]
theorem rootR_back {N : Int} {r : RootP} (h : May N r) (hN : N ≤ 16384) : rootR (rootBytes r) = some r := by
 have hk := filesK_back h hN [] _ (Nat.le_refl _)
 rw [List.take_length, List.drop_length, List.flatMap_nil, List.append_nil, List.nil_append] at hk
 have e1 : rootBytes r = putUint r.gen ++ (putUint r.files.length ++ r.files.flatMap fileBytes) := by
  unfold rootBytes
  simp only [List.append_assoc]
 have h1 := h.g2
 have h2 := h.many
 unfold rootR
 rw [e1, uintR_back h1 (by omega), Option.bind_some]
 simp only
 rw [uintR_back h2 (by omega), Option.bind_some]
 simp only
 rw [hk, Option.bind_some]
 simp only [if_true]
theorem decRt_may {N : Int} {r : RootP} {S : ByteArray} (h : decRt N S = some r) : (encRt (min N 16384) r).2 = 0 := by
 unfold decRt at h
 split at h
 ·cases h
 ·cases hr : rootR (takeFrame S.data.toList).1.2 with
  | none => rw [hr] at h; cases h
  | some q =>
   rw [hr, Option.bind_some] at h
   split at h
   ·cases h
   ·rename_i hn
    obtain rfl := Option.some.inj h
    by_cases he : (encRt (min N 16384) q).2 = 0
    ·exact he
    ·exact absurd (.inl he) hn
end Pl
end Go.Proofs.YtogblcdefbnbeaaGreat
