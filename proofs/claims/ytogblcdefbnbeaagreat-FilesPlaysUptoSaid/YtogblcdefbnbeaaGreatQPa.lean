
/- Plain: a file system as the document has it, beside the program's. Condition: none. -/
import Derived.Test.YtogblcdefbnbeaaGreatQGs
set_option maxRecDepth 100000
namespace Go.Proofs.YtogblcdefbnbeaaGreat
namespace Pl
theorem before_less : ∀ (a b : List UInt8), bytesBefore a b = Op.bytesLess a b
 | [], [] => rfl
 | [], _ :: _ => rfl
 | _ :: _, [] => rfl
 | a :: r, b :: s => by simp [bytesBefore, Op.bytesLess, before_less r s]
structure RF1 where
 name : ByteArray
 data : ByteArray
 old : Nat
 blocks : List Int
structure Rf where
 epoch : Nat
 safe : RootP
 hand : List RF1
 changed : Bool
def Rf.dead (x : Rf) (s : Dv) : Bool := s.down || decide (s.epoch ≠ x.epoch)
def docOf (s : Dv) (p : ByteArray × HF) : RF1 := ⟨p.1, cont s p.2, p.2.old, p.2.blocks⟩
def rins (x : RF1) : List RF1 → List RF1
 | [] => [x]
 | y :: r => if bytesBefore y.name.data.toList x.name.data.toList = true then y :: rins x r else x :: y :: r
def HS (l : List (ByteArray × HF)) : Prop := l.Pairwise (fun p q => bytesBefore p.1.data.toList q.1.data.toList = true)
theorem HS.nil : HS [] := List.Pairwise.nil
theorem HS.hn {l : List (ByteArray × HF)} (h : HS l) : HN l := by
 unfold HN
 rw [List.nodup_iff_pairwise_ne, List.pairwise_map]
 exact List.Pairwise.imp (fun {a b} h e => by rw [e, before_less, lt_irrefl] at h; cases h) h
theorem HS.del {l : List (ByteArray × HF)} (h : HS l) (nm : ByteArray) : HS (hdel l nm) := List.Pairwise.sublist List.filter_sublist h
theorem bytes_tr {a b c : List UInt8} (h1 : bytesBefore a b = true) (h2 : bytesBefore b c = true) : bytesBefore a c = true := by
 rw [before_less] at *
 exact lt_trans h1 h2
theorem HS.ins {x : ByteArray × HF} : ∀ {l : List (ByteArray × HF)}, HS l → (∀ p ∈ l, p.1 ≠ x.1) → HS (hins x l)
 | [], _, _ => by unfold hins HS; simp
 | y :: r, h, hx => by
  have h' := List.pairwise_cons.1 h
  unfold hins
  split
  ·rename_i hb
   refine List.pairwise_cons.2 ⟨fun q hq => ?_, h⟩
   rcases List.mem_cons.1 hq with rfl | hq
   ·exact hb
   ·exact bytes_tr hb (h'.1 q hq)
  ·rename_i hb
   have hyx : bytesBefore y.1.data.toList x.1.data.toList = true := by
    rw [before_less] at hb ⊢
    exact lt_total (by simpa using hb) (fun e => hx y List.mem_cons_self (eq_of_list e).symm)
   refine List.pairwise_cons.2 ⟨fun q hq => ?_, HS.ins h'.2 (fun p hp => hx p (List.mem_cons_of_mem _ hp))⟩
   rcases hins_mem _ hq with rfl | hq
   ·exact hyx
   ·exact h'.1 q hq
theorem HS.put {l : List (ByteArray × HF)} (h : HS l) (nm : ByteArray) (y : HF) : HS (hput l nm y) := (h.del nm).ins (fun _ hp => hdel_ne hp)
theorem doc_ins (s : Dv) (x : ByteArray × HF) : ∀ {l : List (ByteArray × HF)}, HS l → (∀ p ∈ l, p.1 ≠ x.1) → (hins x l).map (docOf s) = rins (docOf s x) (l.map (docOf s))
 | [], _, _ => rfl
 | y :: r, h, hx => by
  have h' := List.pairwise_cons.1 h
  have hne : x.1.data.toList ≠ y.1.data.toList := fun e => hx y List.mem_cons_self (eq_of_list e).symm
  unfold hins
  show (if bytesBefore x.1.data.toList y.1.data.toList = true then x :: y :: r else y :: hins x r).map (docOf s) = rins (docOf s x) (docOf s y :: r.map (docOf s))
  have hu : rins (docOf s x) (docOf s y :: r.map (docOf s)) = if bytesBefore y.1.data.toList x.1.data.toList = true then docOf s y :: rins (docOf s x) (r.map (docOf s)) else docOf s x :: docOf s y :: r.map (docOf s) := rfl
  rw [hu]
  by_cases hb : bytesBefore x.1.data.toList y.1.data.toList = true
  ·rw [if_pos hb, if_neg (by rw [before_less] at *; rw [lt_asymm hb]; exact Bool.false_ne_true)]
   rfl
  ·rw [if_neg hb, if_pos (by rw [before_less] at *; exact lt_total (by simpa using hb) hne), List.map_cons, doc_ins s x h'.2 (fun p hp => hx p (List.mem_cons_of_mem _ hp))]
theorem doc_del : ∀ {l : List (ByteArray × HF)}, HN l → ∀ (i : Nat) (h : i < l.length), hdel l l[i].1 = l.eraseIdx i
 | [], _, i, h => absurd h (Nat.not_lt_zero i)
 | y :: r, hn, 0, _ => by
  have h' : y.1 ∉ r.map (·.1) ∧ HN r := by unfold HN at hn; rw [List.map_cons, List.nodup_cons] at hn; exact hn
  show hdel (y :: r) y.1 = r
  rw [hdel_cons, if_pos rfl, hdel_self]
  cases hg : hget r y.1 with
  | none => rfl
  | some z => exact absurd (List.mem_map.2 ⟨_, hget_mem hg, rfl⟩) h'.1
 | y :: r, hn, i + 1, h => by
  have h' : y.1 ∉ r.map (·.1) ∧ HN r := by unfold HN at hn; rw [List.map_cons, List.nodup_cons] at hn; exact hn
  have hi : i < r.length := by simpa using h
  show hdel (y :: r) r[i].1 = y :: r.eraseIdx i
  rw [hdel_cons, if_neg (fun e => h'.1 (List.mem_map.2 ⟨r[i], List.getElem_mem hi, e.symm⟩)), doc_del h'.2 i hi]
theorem map_erase {α β : Type} (f : α → β) : ∀ (l : List α) (i : Nat), (l.eraseIdx i).map f = (l.map f).eraseIdx i
 | [], _ => by simp
 | _ :: _, 0 => by simp
 | x :: l, i + 1 => by simp [map_erase f l i]
theorem hput_set : ∀ {l : List (ByteArray × HF)}, HS l → ∀ (i : Nat) (h : i < l.length) (y : HF), hput l l[i].1 y = l.set i (l[i].1, y)
 | [], _, i, h, _ => absurd h (Nat.not_lt_zero i)
 | z :: r, hs, 0, _, y => by
  have h' := List.pairwise_cons.1 hs
  have hd := doc_del hs.hn 0 (by simp)
  show hins (z.1, y) (hdel (z :: r) z.1) = (z.1, y) :: r
  have hd2 : hdel (z :: r) z.1 = r := hd
  rw [hd2]
  cases r with
  | nil => rfl
  | cons q r => unfold hins; rw [if_pos (h'.1 q List.mem_cons_self)]
 | z :: r, hs, i + 1, h, y => by
  have h' := List.pairwise_cons.1 hs
  have hi : i < r.length := by simpa using h
  have ih := hput_set h'.2 i hi y
  have hlt := h'.1 r[i] (List.getElem_mem hi)
  have hne : z.1 ≠ r[i].1 := fun e => by rw [e, before_less, lt_irrefl] at hlt; cases hlt
  show hins (r[i].1, y) (hdel (z :: r) r[i].1) = z :: r.set i (r[i].1, y)
  rw [hdel_cons, if_neg hne]
  have hu : hins (r[i].1, y) (z :: hdel r r[i].1) = if bytesBefore r[i].1.data.toList z.1.data.toList = true then (r[i].1, y) :: z :: hdel r r[i].1 else z :: hins (r[i].1, y) (hdel r r[i].1) := rfl
  rw [hu, if_neg (by rw [before_less] at *; rw [lt_asymm hlt]; exact Bool.false_ne_true)]
  have ih2 : hins (r[i].1, y) (hdel r r[i].1) = r.set i (r[i].1, y) := ih
  rw [ih2]
theorem hget_idx {l : List (ByteArray × HF)} (h : HN l) {i : Nat} (hi : i < l.length) : hget l l[i].1 = some l[i].2 := h.get (List.getElem_mem hi)
def RPlace (ns : List ByteArray) (nm : ByteArray) (k : Int) : Prop := (k = -1 ∧ nm ∉ ns) ∨ ∃ (i : Nat) (h : i < ns.length), k = (i : Int) ∧ ns[i] = nm
theorem place_none {l : List (ByteArray × HF)} {nm : ByteArray} (h : nm ∉ l.map (·.1)) : hget l nm = none := by
 cases hg : hget l nm with
 | none => rfl
 | some z => exact absurd (List.mem_map.2 ⟨_, hget_mem hg, rfl⟩) h
theorem doc_names (s : Dv) (l : List (ByteArray × HF)) : (l.map (docOf s)).map (·.name) = l.map (·.1) := by
 rw [List.map_map]
 rfl
def Rf.createR (x : Rf) (s : Dv) (nm : ByteArray) (k : Int) : Rf × Int :=
 if x.dead s = true then (x, 4) else if named nm = false then (x, 1) else if 0 ≤ k then (x, 7) else if 64 ≤ x.hand.length then (x, 5) else ({ x with hand := rins ⟨nm, .empty, 0, []⟩ x.hand, changed := true }, 0)
def Rf.appendR (x : Rf) (s : Dv) (t : ByteArray) (k : Int) : Rf × Int :=
 if x.dead s = true then (x, 4) else if k < 0 then (x, 6) else ({ x with hand := x.hand.modify k.toNat (fun y => { y with data := y.data ++ t }), changed := x.changed || decide (0 < t.size) }, 0)
def Rf.deleteR (x : Rf) (s : Dv) (k : Int) : Rf × Int :=
 if x.dead s = true then (x, 4) else if k < 0 then (x, 6) else ({ x with hand := x.hand.eraseIdx k.toNat, changed := true }, 0)
structure Same (x : Fs) (y : Rf) (s : Dv) : Prop where
 epoch : y.epoch = x.epoch
 safe : y.safe = x.safe
 changed : y.changed = x.changed
 hand : y.hand = x.hand.map (docOf s)
variable {x : Fs} {y : Rf} {s : Dv} {nm t : ByteArray} {k : Int}
theorem Same.dead (h : Same x y s) : y.dead s = x.dead s := by unfold Rf.dead Fs.dead; rw [h.epoch]
theorem Same.create (h : Same x y s) (hs : HS x.hand) (hk : RPlace (y.hand.map (·.name)) nm k) : (y.createR s nm k).2 = (x.createE s nm).2 ∧ Same (x.createE s nm).1 (y.createR s nm k).1 s := by
 rw [h.hand, doc_names] at hk
 unfold Rf.createR Fs.createE Fs.create
 rw [h.dead]
 by_cases hd : x.dead s = true
 ·rw [if_pos hd, if_pos hd]; exact ⟨rfl, h⟩
 rw [if_neg hd, if_neg hd]
 by_cases hn : named nm = false
 ·rw [if_pos hn, if_pos hn]; exact ⟨rfl, h⟩
 rw [if_neg hn, if_neg hn]
 have hl : y.hand.length = x.hand.length := by rw [h.hand, List.length_map]
 rcases hk with ⟨rfl, hk⟩ | ⟨i, hi, rfl, hk⟩
 ·have hg := place_none hk
  rw [if_neg (show ¬ (0 : Int) ≤ -1 by decide), hg, if_neg (show ¬ (none : Option HF).isSome = true by decide), hl]
  split
  ·exact ⟨rfl, h⟩
  ·refine ⟨rfl, h.epoch, h.safe, rfl, ?_⟩
   show rins ⟨nm, .empty, 0, []⟩ y.hand = (hput x.hand nm HF.zero).map (docOf s)
   unfold hput
   have hd2 : hdel x.hand nm = x.hand := hdel_self hg
   rw [hd2, doc_ins s (nm, HF.zero) hs (fun p hp e => hk (List.mem_map.2 ⟨p, hp, e⟩)), h.hand]
   unfold docOf
   rw [cont_zero]
   rfl
 ·rw [if_pos (show (0 : Int) ≤ (i : Int) by omega)]
  have hi2 : i < x.hand.length := by simpa using hi
  have hg := hget_idx hs.hn hi2
  rw [List.getElem_map] at hk
  rw [hk] at hg
  rw [hg, if_pos (show (some x.hand[i].2).isSome = true from rfl)]
  exact ⟨rfl, h⟩
theorem Same.append (h : Same x y s) (hs : HS x.hand) (hk : RPlace (y.hand.map (·.name)) nm k) : (y.appendR s t k).2 = (x.appendE s nm t).2 ∧ Same (x.appendE s nm t).1 (y.appendR s t k).1 s := by
 rw [h.hand, doc_names] at hk
 unfold Rf.appendR Fs.appendE Fs.append
 rw [h.dead]
 by_cases hd : x.dead s = true
 ·rw [if_pos hd, if_pos hd]; exact ⟨rfl, h⟩
 rw [if_neg hd, if_neg hd]
 rcases hk with ⟨rfl, hk⟩ | ⟨i, hi, rfl, hk⟩
 ·rw [place_none hk, if_pos (show (-1 : Int) < 0 by decide)]
  exact ⟨rfl, h⟩
 ·rw [if_neg (show ¬ (i : Int) < 0 by omega)]
  have hi2 : i < x.hand.length := by simpa using hi
  have hg := hget_idx hs.hn hi2
  rw [List.getElem_map] at hk
  rw [hk] at hg
  rw [hg]
  refine ⟨rfl, h.epoch, h.safe, ?_, ?_⟩
  ·show (y.changed || decide (0 < t.size)) = (x.changed || decide (0 < t.size))
   rw [h.changed]
  ·show y.hand.modify (Int.toNat (i : Int)) _ = (hput x.hand nm { x.hand[i].2 with added := x.hand[i].2.added ++ t }).map (docOf s)
   have hps := hput_set hs i hi2 { x.hand[i].2 with added := x.hand[i].2.added ++ t }
   rw [hk] at hps
   rw [hps, h.hand, Int.toNat_natCast]
   apply List.ext_getElem
   ·simp
   ·intro j h1 h2
    rw [List.getElem_modify, List.getElem_map]
    simp only [List.getElem_map, List.getElem_set]
    split
    ·rename_i e
     subst e
     unfold docOf
     rw [cont_added]
     simp only [hk]
    ·rfl
theorem Same.delete (h : Same x y s) (hs : HS x.hand) (hk : RPlace (y.hand.map (·.name)) nm k) : (y.deleteR s k).2 = (x.deleteE s nm).2 ∧ Same (x.deleteE s nm).1 (y.deleteR s k).1 s := by
 rw [h.hand, doc_names] at hk
 unfold Rf.deleteR Fs.deleteE Fs.delete
 rw [h.dead]
 by_cases hd : x.dead s = true
 ·rw [if_pos hd, if_pos hd]; exact ⟨rfl, h⟩
 rw [if_neg hd, if_neg hd]
 rcases hk with ⟨rfl, hk⟩ | ⟨i, hi, rfl, hk⟩
 ·rw [place_none hk, if_pos (show (-1 : Int) < 0 by decide), if_pos (show (none : Option HF).isSome = false from rfl)]
  exact ⟨rfl, h⟩
 ·rw [if_neg (show ¬ (i : Int) < 0 by omega)]
  have hi2 : i < x.hand.length := by simpa using hi
  have hg := hget_idx hs.hn hi2
  rw [List.getElem_map] at hk
  rw [hk] at hg
  rw [hg, if_neg (show ¬ (some x.hand[i].2).isSome = false from (by decide : ¬ true = false))]
  refine ⟨rfl, h.epoch, h.safe, rfl, ?_⟩
  show y.hand.eraseIdx (Int.toNat (i : Int)) = (hdel x.hand nm).map (docOf s)
  have hd2 := doc_del hs.hn i hi2
  rw [hk] at hd2
  rw [hd2, map_erase, h.hand, Int.toNat_natCast]
def Rf.renameR (x : Rf) (s : Dv) (nm tn : ByteArray) (k j : Int) : Rf × Int :=
 if x.dead s = true then (x, 4) else if named tn = false then (x, 1) else if k < 0 then (x, 6) else if nm = tn then (x, 0) else
  ({ x with hand := rins { x.hand.getD k.toNat ⟨nm, .empty, 0, []⟩ with name := tn } (if j < 0 then x.hand.eraseIdx k.toNat else (x.hand.eraseIdx k.toNat).eraseIdx j.toNat), changed := true }, 0)
theorem Same.rename {tn : ByteArray} {j : Int} (h : Same x y s) (hs : HS x.hand) (hk : RPlace (y.hand.map (·.name)) nm k) (hj : 0 ≤ k → RPlace ((y.hand.eraseIdx k.toNat).map (·.name)) tn j) : (y.renameR s nm tn k j).2 = (x.renameE s nm tn).2 ∧ Same (x.renameE s nm tn).1 (y.renameR s nm tn k j).1 s := by
 rw [h.hand, doc_names] at hk
 unfold Rf.renameR Fs.renameE Fs.rename
 rw [h.dead]
 by_cases hd : x.dead s = true
 ·rw [if_pos hd, if_pos hd]; exact ⟨rfl, h⟩
 rw [if_neg hd, if_neg hd]
 by_cases hn : named tn = false
 ·rw [if_pos hn, if_pos hn]; exact ⟨rfl, h⟩
 rw [if_neg hn, if_neg hn]
 rcases hk with ⟨rfl, hk⟩ | ⟨i, hi, rfl, hk⟩
 ·rw [place_none hk, if_pos (show (-1 : Int) < 0 by decide)]
  exact ⟨rfl, h⟩
 ·rw [if_neg (show ¬ (i : Int) < 0 by omega)]
  have hi2 : i < x.hand.length := by simpa using hi
  have hg := hget_idx hs.hn hi2
  rw [List.getElem_map] at hk
  rw [hk] at hg
  rw [hg]
  by_cases e : nm = tn
  ·rw [if_pos e]
   show _ ∧ _
   simp only
   rw [if_pos (by rw [e])]
   exact ⟨rfl, h⟩
  ·rw [if_neg e]
   simp only
   rw [if_neg (fun e2 => e (eq_of_list e2))]
   refine ⟨rfl, h.epoch, h.safe, rfl, ?_⟩
   have hd2 := doc_del hs.hn i hi2
   rw [hk] at hd2
   have hj2 := hj (by omega)
   rw [Int.toNat_natCast] at hj2
   have he : y.hand.eraseIdx i = (hdel x.hand nm).map (docOf s) := by rw [hd2, map_erase, h.hand]
   rw [he, doc_names] at hj2
   have hx : { y.hand.getD (Int.toNat (i : Int)) ⟨nm, .empty, 0, []⟩ with name := tn } = docOf s (tn, x.hand[i].2) := by
    rw [Int.toNat_natCast, h.hand, List.getD_eq_getElem?_getD, List.getElem?_map, List.getElem?_eq_getElem hi2]
    rfl
   show rins { y.hand.getD (Int.toNat (i : Int)) ⟨nm, .empty, 0, []⟩ with name := tn } (if j < 0 then y.hand.eraseIdx (Int.toNat (i : Int)) else (y.hand.eraseIdx (Int.toNat (i : Int))).eraseIdx j.toNat) = (hput (hdel x.hand nm) tn x.hand[i].2).map (docOf s)
   rw [hx, Int.toNat_natCast, he]
   unfold hput
   have hsd := hs.del nm
   rcases hj2 with ⟨rfl, hj2⟩ | ⟨m, hm, rfl, hj2⟩
   ·rw [if_pos (show (-1 : Int) < 0 by decide)]
    have h3 : hdel (hdel x.hand nm) tn = hdel x.hand nm := hdel_self (place_none hj2)
    rw [h3, doc_ins s (tn, x.hand[i].2) hsd (fun p hp e => hj2 (List.mem_map.2 ⟨p, hp, e⟩))]
   ·rw [if_neg (show ¬ (m : Int) < 0 by omega), Int.toNat_natCast]
    have hm2 : m < (hdel x.hand nm).length := by simpa using hm
    rw [List.getElem_map] at hj2
    have h3 := doc_del hsd.hn m hm2
    rw [hj2] at h3
    rw [← map_erase, ← h3, doc_ins s (tn, x.hand[i].2) (hsd.del tn) (fun p hp => hdel_ne hp)]
end Pl
namespace Pl
variable {x : Fs} {y : Rf} {s : Dv} {N T : Nat}
def pPieces (x : RF1) : List ByteArray := piecesOf (x.data.extract (x.old / 256 * 256) x.data.size)
def pStep (st : Option PlSt) (x : RF1) : Option PlSt :=
 st.bind fun st => if x.data.size ≤ x.old then some ⟨st.fr, st.l, st.fs ++ [⟨x.name, x.data.size, x.blocks⟩]⟩ else
  if st.fr.length < (pPieces x).length then none else
   some ⟨st.fr.drop (pPieces x).length, st.l ++ zipB st.fr (pPieces x), st.fs ++ [⟨x.name, x.data.size, x.blocks.take (x.old / 256) ++ st.fr.take (pPieces x).length⟩]⟩
def pK (fr : List Int) (l : List RF1) : Option PlSt := l.foldl pStep (some ⟨fr, [], []⟩)
theorem pK_snoc (fr : List Int) (l : List RF1) (x : RF1) : pK fr (l ++ [x]) = pStep (pK fr l) x := by unfold pK; rw [List.foldl_append]; rfl
theorem pK_succ {fr : List Int} {l : List RF1} {k : Nat} (h : k < l.length) : pK fr (l.take (k + 1)) = pStep (pK fr (l.take k)) l[k] := by
 rw [List.take_succ_eq_append_getElem h, pK_snoc]
theorem pK_none : ∀ l : List RF1, l.foldl pStep none = none
 | [] => rfl
 | _ :: l => by rw [List.foldl_cons]; exact pK_none l
theorem pK_stop {fr : List Int} {l : List RF1} {k : Nat} (h : pK fr (l.take k) = none) : pK fr l = none := by
 have e : pK fr l = (l.drop k).foldl pStep (pK fr (l.take k)) := by
  unfold pK
  rw [← List.foldl_append, List.take_append_drop]
 rw [e, h, pK_none]
theorem cont_len {z : HF} (hwf : s.WF) (hb : z.blocks.length = (z.old + 255) / 256) (hin : ∀ q ∈ z.blocks, 0 ≤ q ∧ q < (s.safe.length : Int)) : (cont s z).size = z.old + z.added.size := by
 have h : (cont s z).data.toList.length = z.old + z.added.size := by
  rw [cont_list, List.length_append, List.length_take, bytesL_length hwf _ hin, toL_size]
  omega
 simpa using h
theorem bytesL_drop (hwf : s.WF) {l : List Int} (hin : ∀ q ∈ l, 0 ≤ q ∧ q < (s.safe.length : Int)) {j : Nat} (hj : j ≤ l.length) : (bytesL s l).drop (j * 256) = bytesL s (l.drop j) := by
 have hsp : bytesL s l = bytesL s (l.take j) ++ bytesL s (l.drop j) := by
  unfold bytesL
  rw [← List.flatMap_append, List.take_append_drop]
 have hl : (bytesL s (l.take j)).length = j * 256 := by
  rw [bytesL_length hwf _ (fun q hq => hin q (List.mem_of_mem_take hq)), List.length_take, Nat.min_eq_left hj]
 rw [hsp, List.drop_left' hl]
theorem newOf_doc {p : ByteArray × HF} (hwf : s.WF) (hb : p.2.blocks.length = (p.2.old + 255) / 256) (hin : ∀ q ∈ p.2.blocks, 0 ≤ q ∧ q < (s.safe.length : Int)) : pPieces (docOf s p) = newOf s p.2 := by
 unfold pPieces newOf docOf
 congr 1
 apply eq_of_list
 have e1 : ((cont s p.2).extract (p.2.old / 256 * 256) (cont s p.2).size).data.toList = (cont s p.2).data.toList.drop (p.2.old / 256 * 256) := by
  have e2 : ((cont s p.2).extract (p.2.old / 256 * 256) (cont s p.2).size).data.toList = ((cont s p.2).data.toList.drop (p.2.old / 256 * 256)).take ((cont s p.2).size - p.2.old / 256 * 256) := by
   simp [ByteArray.data_extract, Array.toList_extract, List.extract_eq_take_drop]
  rw [e2, List.take_of_length_le]
  rw [List.length_drop, toL_size]
  exact Nat.le_refl _
 show ((cont s p.2).extract (p.2.old / 256 * 256) (cont s p.2).size).data.toList = _
 rw [e1, cont_list, ByteArray.data_append, Array.toList_append, bytesOf_list, List.take_length]
 have hl : ((bytesL s p.2.blocks).take p.2.old).length = p.2.old := by
  rw [List.length_take, bytesL_length hwf _ hin]
  omega
 rw [List.drop_append_of_le_length (by rw [hl]; omega), List.drop_take, bytesL_drop hwf hin (by omega)]
theorem pK_plan (hwf : s.WF) (hk : HK N T x.hand) (hlen : s.safe.length = N) (fr : List Int) : ∀ l : List (ByteArray × HF), (∀ p ∈ l, p ∈ x.hand) → pK fr (l.map (docOf s)) = planK s fr l := by
 refine snoc_ind (P := fun l => (∀ p ∈ l, p ∈ x.hand) → pK fr (l.map (docOf s)) = planK s fr l) (fun _ => rfl) ?_
 intro l p ih hl
 have ih2 := ih (fun q hq => hl q (List.mem_append_left _ hq))
 have hp := hk.all p (hl p (by simp))
 have hin : ∀ q ∈ p.2.blocks, 0 ≤ q ∧ q < (s.safe.length : Int) := fun q hq => by have := hp.inner q hq; rw [hlen]; omega
 have e : planK s fr (l ++ [p]) = planStep s (planK s fr l) p := by unfold planK; rw [List.foldl_append]; rfl
 rw [List.map_append, List.map_singleton, pK_snoc, ih2, e]
 unfold pStep planStep
 cases planK s fr l with
 | none => rw [Option.bind_none, Option.bind_none]
 | some st =>
  simp only [Option.bind_some]
  have hc := cont_len hwf hp.blocks hin
  have hsz : (docOf s p).data.size = p.2.size := hc
  rw [newOf_doc hwf hp.blocks hin]
  by_cases ha : p.2.added.size = 0
  ·rw [if_pos ha, if_pos (by rw [hsz]; unfold HF.size; show _ ≤ p.2.old; omega)]
   rw [hsz]
   rfl
  ·rw [if_neg ha, if_neg (by rw [hsz]; unfold HF.size; show ¬ _ ≤ p.2.old; omega)]
   split
   ·rfl
   ·rw [hsz]
    rfl
def loadF (s : Dv) (f : FileP) : ByteArray := ⟨((bytesL s f.blocks).take f.size.toNat).toArray⟩
def loadR (s : Dv) (r : RootP) : List RF1 := r.files.map fun f => ⟨f.name, loadF s f, f.size.toNat, f.blocks⟩
def Rf.revertR (y : Rf) (s : Dv) : Rf := if y.dead s = true then y else { y with hand := loadR s y.safe, changed := false }
theorem May.rising {M : Int} {r : RootP} (h : May M r) : r.files.Pairwise (fun p q => bytesBefore p.name.data.toList q.name.data.toList = true) := by
 have key : ∀ (j i : Nat) (hj : j < r.files.length) (hi : i < j), bytesBefore (r.files[i]'(by omega)).name.data.toList r.files[j].name.data.toList = true := by
  intro j
  induction j with
  | zero => intro i hj hi; omega
  | succ j ih =>
   intro i hj hi
   have h1 := (h.head (j + 1) hj).2.1 (by omega)
   have h2 : bytesBefore (r.files[j]'(by omega)).name.data.toList r.files[j + 1].name.data.toList = true := by
    rw [before_less]
    rw [ByteArray.toList_eq, ByteArray.toList_eq] at h1
    exact h1
   by_cases e : i = j
   ·subst e; exact h2
   ·exact bytes_tr (ih i (by omega) (by omega)) h2
 rw [List.pairwise_iff_getElem]
 intro i j hi hj hij
 exact key j i hj hij
theorem hput_last {z : HF} {nm : ByteArray} : ∀ {l : List (ByteArray × HF)}, (∀ p ∈ l, bytesBefore p.1.data.toList nm.data.toList = true) → hput l nm z = l ++ [(nm, z)] := by
 intro l h
 have hd : hdel l nm = l := by
  unfold hdel
  rw [List.filter_eq_self]
  intro p hp
  have h1 := h p hp
  have : p.1.data.toList ≠ nm.data.toList := fun e => by rw [e, before_less, lt_irrefl] at h1; cases h1
  simpa using this
 unfold hput
 rw [hd]
 clear hd
 induction l with
 | nil => rfl
 | cons p l ih =>
  have h1 := h p List.mem_cons_self
  unfold hins
  rw [if_neg (by rw [before_less] at *; show ¬ Op.bytesLess nm.data.toList p.1.data.toList = true; rw [lt_asymm h1]; exact Bool.false_ne_true), ih (fun q hq => h q (List.mem_cons_of_mem _ hq))]
  rfl
def fileH (f : FileP) : ByteArray × HF := (f.name, ⟨f.blocks, f.size.toNat, .empty⟩)
theorem handOf_map {fs : List FileP} : ∀ acc : List (ByteArray × HF), fs.Pairwise (fun p q => bytesBefore p.name.data.toList q.name.data.toList = true) → (∀ p ∈ acc, ∀ f ∈ fs, bytesBefore p.1.data.toList f.name.data.toList = true) →
  fs.foldl (fun l y => hput l y.name ⟨y.blocks, y.size.toNat, .empty⟩) acc = acc ++ fs.map fileH := by
 induction fs with
 | nil => intro acc _ _; simp
 | cons f fs ih =>
  intro acc hp ha
  have hp' := List.pairwise_cons.1 hp
  rw [List.foldl_cons, hput_last (fun p hp => ha p hp f List.mem_cons_self), ih _ hp'.2 (fun p hq g hg => ?_), List.map_cons, List.append_assoc]
  ·rfl
  ·rcases List.mem_append.1 hq with hq | hq
   ·exact ha p hq g (List.mem_cons_of_mem _ hg)
   ·rw [List.mem_singleton.1 hq]; exact hp'.1 g hg
theorem May.hand {M : Int} {r : RootP} (h : May M r) : handOf r = r.files.map fileH := handOf_map [] h.rising (fun p hp => (List.not_mem_nil hp).elim)
theorem May.hs {M : Int} {r : RootP} (h : May M r) : HS (handOf r) := by
 rw [h.hand]
 unfold HS
 rw [List.pairwise_map]
 exact h.rising
theorem Same.revert (h : Same x y s) {M : Int} (hm : May M x.safe) : Same (x.revertE s) (y.revertR s) s := by
 unfold Fs.revertE Rf.revertR
 rw [h.dead]
 split
 ·exact h
 ·refine ⟨h.epoch, h.safe, rfl, ?_⟩
  show loadR s y.safe = (handOf x.safe).map (docOf s)
  rw [h.safe, hm.hand, List.map_map]
  unfold loadR
  refine List.map_congr_left (fun f _ => ?_)
  have : loadF s f = cont s ⟨f.blocks, f.size.toNat, .empty⟩ := by
   apply eq_of_list
   rw [cont_list]
   unfold loadF
   show (bytesL s f.blocks).take f.size.toNat = _ ++ []
   rw [List.append_nil]
  unfold Function.comp fileH docOf
  rw [this]
noncomputable def Rf.commitR (y : Rf) (s : Dv) : (Rf × Dv) × Int :=
 if y.dead s = true then ((y, s), 4) else if y.changed = false then ((y, s), 0) else
  match pK (freeU y.safe s.safe.length) y.hand with
  | none => ((y, s), 5)
  | some st => if (encRt (min (s.safe.length : Int) 16384) ⟨y.safe.gen + 1, st.fs⟩).2 ≠ 0 then ((y, s), 5) else
   if (wrRoot s st.l ⟨y.safe.gen + 1, st.fs⟩).2 ≠ 0 then ((y, (wrRoot s st.l ⟨y.safe.gen + 1, st.fs⟩).1), (wrRoot s st.l ⟨y.safe.gen + 1, st.fs⟩).2) else
    ((Rf.revertR { y with safe := ⟨y.safe.gen + 1, st.fs⟩ } (wrRoot s st.l ⟨y.safe.gen + 1, st.fs⟩).1, (wrRoot s st.l ⟨y.safe.gen + 1, st.fs⟩).1), 0)
theorem Same.commit (h : Same x y s) (hwf : s.WF) (hk : HK N T x.hand) (hlen : s.safe.length = N) :
  (y.commitR s).2 = (x.commitE s).2 ∧ (y.commitR s).1.2 = (x.commitE s).1.2 ∧ ((x.commitE s).1.2.down = true ∨ (x.commitE s).1.2 = s ∧ Same (x.commitE s).1.1 (y.commitR s).1.1 s ∨ ((x.commitE s).2 = 0 ∧ Same (x.commitE s).1.1 (y.commitR s).1.1 (x.commitE s).1.2)) := by
 have hpl : ∀ fr, pK fr y.hand = planK s fr x.hand := fun fr => by rw [h.hand]; exact pK_plan hwf hk hlen fr x.hand (fun _ h => h)
 unfold Rf.commitR Fs.commitE
 rw [h.dead]
 by_cases hd : x.dead s = true
 ·rw [if_pos hd, if_pos hd]
  exact ⟨rfl, rfl, .inr (.inl ⟨rfl, h⟩)⟩
 rw [if_neg hd, if_neg hd]
 by_cases hc : x.changed = false
 ·rw [if_pos hc, if_pos (h.changed.trans hc)]
  exact ⟨rfl, rfl, .inr (.inl ⟨rfl, h⟩)⟩
 rw [if_neg hc, if_neg (fun e => hc (h.changed.symm.trans e)), hpl, h.safe]
 unfold Fs.planE
 cases hp : planK s (freeU x.safe s.safe.length) x.hand with
 | none => exact ⟨rfl, rfl, .inr (.inl ⟨rfl, h⟩)⟩
 | some st =>
  simp only [Option.bind_some]
  by_cases he : (encRt (min (s.safe.length : Int) 16384) ⟨x.safe.gen + 1, st.fs⟩).2 = 0
  ·rw [if_neg (by rw [he]; decide), if_pos he]
   simp only
   have hmay : May (min (s.safe.length : Int) 16384) ⟨x.safe.gen + 1, st.fs⟩ := (encRt_yes he).1
   generalize (⟨x.safe.gen + 1, st.fs⟩ : RootP) = r at *
   by_cases hw : (wrRoot s st.l r).2 ≠ 0
   ·rw [if_pos hw, if_pos hw]
    exact ⟨rfl, rfl, .inl (wrRoot_down he hw)⟩
   ·rw [if_neg hw, if_neg hw]
    have h0 : (wrRoot s st.l r).2 = 0 := by simpa using hw
    have hwr : x.writeE s st.l r = { x with safe := r } := by unfold Fs.writeE; rw [if_pos h0]
    refine ⟨rfl, rfl, .inr (.inr ⟨rfl, ?_⟩)⟩
    show Same ((x.writeE s st.l r).revertE (wrRoot s st.l r).1) (Rf.revertR { y with safe := r } (wrRoot s st.l r).1) (wrRoot s st.l r).1
    rw [hwr]
    obtain ⟨u1, u2⟩ := wrRoot_up h0
    have hal : ({ x with safe := r } : Fs).dead (wrRoot s st.l r).1 = false := by
     unfold Fs.dead at hd ⊢
     simp only [Bool.or_eq_true, not_or] at hd
     simp only [Bool.or_eq_false_iff]
     exact ⟨u1, by rw [wrRoot_epoch]; simpa using hd.2⟩
    have hal2 : ({ y with safe := r } : Rf).dead (wrRoot s st.l r).1 = false := by
     have : ({ y with safe := r } : Rf).dead (wrRoot s st.l r).1 = ({ x with safe := r } : Fs).dead (wrRoot s st.l r).1 := by unfold Rf.dead Fs.dead; rw [h.epoch]
     rw [this]; exact hal
    unfold Fs.revertE Rf.revertR
    rw [if_neg (by rw [hal]; exact Bool.false_ne_true), if_neg (by rw [hal2]; exact Bool.false_ne_true)]
    refine ⟨h.epoch, rfl, rfl, ?_⟩
    show loadR (wrRoot s st.l r).1 r = (handOf r).map (docOf (wrRoot s st.l r).1)
    rw [hmay.hand, List.map_map]
    unfold loadR
    refine List.map_congr_left (fun f _ => ?_)
    have : loadF (wrRoot s st.l r).1 f = cont (wrRoot s st.l r).1 ⟨f.blocks, f.size.toNat, .empty⟩ := by
     apply eq_of_list
     rw [cont_list]
     unfold loadF
     show (bytesL (wrRoot s st.l r).1 f.blocks).take f.size.toNat = _ ++ []
     rw [List.append_nil]
    unfold Function.comp fileH docOf
    rw [this]
  ·rw [if_pos (by simpa using he), if_neg he]
   exact ⟨rfl, rfl, .inr (.inl ⟨rfl, h⟩)⟩
end Pl
namespace Pl
def dRunStep (lim : Nat) (st : Option (List Int × List UInt8)) : Option (List Int × List UInt8) :=
  st.bind fun st => (uintR 1048576 st.2).bind fun a => (uintR 1048576 a.2).bind fun b => if st.1.length + b.1 ≤ lim ∨ b.1 = 0 then some (st.1 ++ (List.range b.1).map (fun k => ((a.1 + k : Nat) : Int)), b.2) else none
def dRunsK (lim : Nat) : Nat → List UInt8 → Option (List Int × List UInt8)
  | 0, l => some ([], l)
  | k + 1, l => dRunStep lim (dRunsK lim k l)
def dFileR (lim : Nat) (l : List UInt8) : Option (FileP × List UInt8) :=
  (textR l).bind fun nm => (uintR 1073741824 nm.2).bind fun sz => (uintR 1048576 sz.2).bind fun c => (dRunsK lim c.1 c.2).bind fun b => some (⟨nm.1, (sz.1 : Int), b.1⟩, b.2)
def dFileStep (lim : Nat) (st : Option (List FileP × List UInt8)) : Option (List FileP × List UInt8) := st.bind fun st => (dFileR lim st.2).bind fun y => some (st.1 ++ [y.1], y.2)
def dFilesK (lim : Nat) : Nat → List UInt8 → Option (List FileP × List UInt8)
  | 0, l => some ([], l)
  | k + 1, l => dFileStep lim (dFilesK lim k l)
def dRootR (lim : Nat) (l : List UInt8) : Option RootP :=
  (uintR 4611686018427387904 l).bind fun g => (uintR 64 g.2).bind fun c => (dFilesK lim c.1 c.2).bind fun fs => if fs.2 = [] then some ⟨g.1, fs.1⟩ else none
theorem dRunsK_none {lim : Nat} {l : List UInt8} {k : Nat} (h : dRunsK lim k l = none) : ∀ n, k ≤ n → dRunsK lim n l = none
  | 0, hn => by obtain rfl : k = 0 := by omega
                exact h
  | n + 1, hn => by
    by_cases e : k = n + 1
    · rw [← e]; exact h
    · show dRunStep lim (dRunsK lim n l) = none
      rw [dRunsK_none h n (by omega)]
      rfl
theorem dFilesK_none {lim : Nat} {l : List UInt8} {k : Nat} (h : dFilesK lim k l = none) : ∀ n, k ≤ n → dFilesK lim n l = none
  | 0, hn => by obtain rfl : k = 0 := by omega
                exact h
  | n + 1, hn => by
    by_cases e : k = n + 1
    · rw [← e]; exact h
    · show dFileStep lim (dFilesK lim n l) = none
      rw [dFilesK_none h n (by omega)]
      rfl
theorem dRunsK_back {lim : Nat} (rest : List UInt8) : ∀ (rs : List (Int × Nat)), (∀ x ∈ rs, 0 ≤ x.1 ∧ x.1 ≤ 16384 ∧ x.2 ≤ 16384) → (rs.flatMap runL).length ≤ lim → ∀ k, k ≤ rs.length → dRunsK lim k (rs.flatMap runBytes ++ rest) = some ((rs.take k).flatMap runL, (rs.drop k).flatMap runBytes ++ rest)
  | rs, _, _, 0, _ => by simp [dRunsK]
  | rs, hx, hl, k + 1, hk => by
    have ih := dRunsK_back rest rs hx hl k (by omega)
    have hk2 : k < rs.length := by omega
    show dRunStep lim (dRunsK lim k _) = _
    rw [ih]
    obtain ⟨x1, x2, x3⟩ := hx _ (List.getElem_mem hk2)
    have hd := flat_drop (f := runBytes) hk2
    have ht := flat_take_succ (f := runL) hk2
    have hle : ((rs.take (k + 1)).flatMap runL).length ≤ lim := Nat.le_trans (flat_take_le rs (k + 1)) hl
    rw [ht, List.length_append, runL_length] at hle
    rw [ht, hd]
    unfold dRunStep
    simp only [Option.bind_some]
    have e1 : runBytes rs[k] ++ (rs.drop (k + 1)).flatMap runBytes ++ rest = putUint rs[k].1.toNat ++ (putUint rs[k].2 ++ ((rs.drop (k + 1)).flatMap runBytes ++ rest)) := by
      unfold runBytes
      simp only [List.append_assoc]
    rw [e1, uintR_back (by omega) (by omega), Option.bind_some, uintR_back (by omega) (by omega), Option.bind_some]
    simp only
    rw [if_pos (.inl (by omega))]
    have e2 : (List.range rs[k].2).map (fun j => ((rs[k].1.toNat + j : Nat) : Int)) = runL rs[k] := by
      unfold runL
      refine List.map_congr_left (fun j _ => ?_)
      omega
    rw [e2]
theorem dFileR_back {N : Int} {lim : Nat} {r : RootP} (h : May N r) (hN : N ≤ 16384) {f : FileP} (hf : f ∈ r.files) (hlim : f.blocks.length ≤ lim) (rest : List UInt8) : dFileR lim (fileBytes f ++ rest) = some (f, rest) := by
  obtain ⟨b1, b2, b3, b4, b5⟩ := h.blocks hN hf
  have hr := runs_inner _ f.blocks (Nat.le_refl _) b2
  have hx := expand_runs _ f.blocks (Nat.le_refl _)
  have hln := runsOf_length _ f.blocks (Nat.le_refl _)
  have hk := dRunsK_back (lim := lim) rest (runsOf f.blocks) (fun x hx => by have := hr x hx; omega) (by rw [hx]; exact hlim) _ (Nat.le_refl _)
  rw [List.take_length, hx, List.drop_length, List.flatMap_nil, List.nil_append] at hk
  have e1 : fileBytes f ++ rest = putText f.name.data.toList ++ (putUint f.size.toNat ++ (putUint (runsOf f.blocks).length ++ ((runsOf f.blocks).flatMap runBytes ++ rest))) := by
    unfold fileBytes
    simp only [List.append_assoc]
  unfold dFileR
  rw [e1, textR_back b5, Option.bind_some]
  simp only
  rw [uintR_back (by omega) (by omega), Option.bind_some]
  simp only
  rw [uintR_back (by omega) (by omega), Option.bind_some]
  simp only
  rw [hk, Option.bind_some]
  obtain ⟨nm, sz, bl⟩ := f
  simp only at b3 ⊢
  rw [Int.toNat_of_nonneg b3]
theorem dFilesK_back {N : Int} {lim : Nat} {r : RootP} (h : May N r) (hN : N ≤ 16384) (hlim : ∀ f ∈ r.files, f.blocks.length ≤ lim) (rest : List UInt8) : ∀ k, k ≤ r.files.length → dFilesK lim k (r.files.flatMap fileBytes ++ rest) = some (r.files.take k, (r.files.drop k).flatMap fileBytes ++ rest)
  | 0, _ => by simp [dFilesK]
  | k + 1, hk => by
    have ih := dFilesK_back h hN hlim rest k (by omega)
    have hk2 : k < r.files.length := by omega
    show dFileStep lim (dFilesK lim k _) = _
    rw [ih, flat_drop (f := fileBytes) hk2, List.take_succ_eq_append_getElem hk2]
    unfold dFileStep
    simp only [Option.bind_some]
    rw [List.append_assoc, dFileR_back h hN (List.getElem_mem hk2) (hlim _ (List.getElem_mem hk2)), Option.bind_some]
theorem dRootR_back {N : Int} {lim : Nat} {r : RootP} (h : May N r) (hN : N ≤ 16384) (hlim : ∀ f ∈ r.files, f.blocks.length ≤ lim) : dRootR lim (rootBytes r) = some r := by
  have hk := dFilesK_back h hN hlim [] _ (Nat.le_refl _)
  rw [List.take_length, List.drop_length, List.flatMap_nil, List.append_nil, List.nil_append] at hk
  have e1 : rootBytes r = putUint r.gen ++ (putUint r.files.length ++ r.files.flatMap fileBytes) := by
    unfold rootBytes
    simp only [List.append_assoc]
  have h1 := h.g2
  have h2 := h.many
  unfold dRootR
  rw [e1, uintR_back h1 (by omega), Option.bind_some]
  simp only
  rw [uintR_back h2 (by omega), Option.bind_some]
  simp only
  rw [hk, Option.bind_some]
  simp only [if_true]
def dLim (N : Int) : Nat := (min (max N 0) 16384).toNat
theorem May.few {N : Int} {r : RootP} (h : May (min N 16384) r) : ∀ f ∈ r.files, f.blocks.length ≤ dLim N := by
  intro f hf
  obtain ⟨i, hi, rfl⟩ := List.mem_iff_getElem.1 hf
  have h1 := h.seen (i + 1) hi
  rw [flatB_take hi] at h1
  have h2 := nodup_bound (dLim N) (r.files[i].blocks.map Int.toNat) (by
    rw [List.nodup_iff_pairwise_ne, List.pairwise_map]
    have hd := (List.nodup_append.1 h1.nodup).2.1
    refine (List.nodup_iff_pairwise_ne.1 hd).imp_of_mem (fun {a b} ha hb hab e => hab ?_)
    have q1 := h1.lo a (List.mem_append_right _ ha)
    have q2 := h1.lo b (List.mem_append_right _ hb)
    omega) (fun x hx => by
    obtain ⟨y, hy, rfl⟩ := List.mem_map.1 hx
    have q1 := h1.lo y (List.mem_append_right _ hy)
    have q2 := h1.hi y (List.mem_append_right _ hy)
    unfold dLim
    omega)
  simpa using h2
noncomputable def dRt (N : Int) (S : ByteArray) : Option RootP :=
  if (takeFrame S.data.toList).2.2 ≠ 0 ∨ 3840 < (takeFrame S.data.toList).2.1 ∨ (takeFrame S.data.toList).1.1 ≠ 1 then none else
    (dRootR (dLim N) (takeFrame S.data.toList).1.2).bind fun r => if (encRt (min N 16384) r).2 ≠ 0 ∨ (encRt (min N 16384) r).1 ≠ S.data.toList.take (takeFrame S.data.toList).2.1 then none else some r
theorem load_of {N : Int} {r : RootP} {S : ByteArray} (h : (encRt (min N 16384) r).2 = 0) (h2 : (encRt (min N 16384) r).1 = S.data.toList.take (takeFrame S.data.toList).2.1) : (takeFrame S.data.toList).1.2 = rootBytes r := by
  obtain ⟨hm, he, h1, _⟩ := encRt_yes h
  have e1 : (encRt (min N 16384) r).1 = frame 1 (rootBytes r) := by rw [he]
  rw [e1] at h2
  have hS : S.data.toList = frame 1 (rootBytes r) ++ S.data.toList.drop (takeFrame S.data.toList).2.1 := by
    rw [h2, List.take_append_drop]
  have ht := takeFrame_back 1 (rootBytes r) (S.data.toList.drop (takeFrame S.data.toList).2.1) (by decide) h1
  rw [← hS] at ht
  rw [ht]
theorem dRt_eq (N : Int) (S : ByteArray) : dRt N S = decRt N S := by
  unfold dRt decRt
  split
  · rfl
  · by_cases h : ∃ r, (encRt (min N 16384) r).2 = 0 ∧ (encRt (min N 16384) r).1 = S.data.toList.take (takeFrame S.data.toList).2.1
    · obtain ⟨r, h1, h2⟩ := h
      have hl := load_of h1 h2
      have hm := (encRt_yes h1).1
      rw [hl, rootR_back hm (by omega), dRootR_back hm (by omega) hm.few]
    · have key : ∀ o : Option RootP, (o.bind fun r => if (encRt (min N 16384) r).2 ≠ 0 ∨ (encRt (min N 16384) r).1 ≠ S.data.toList.take (takeFrame S.data.toList).2.1 then none else some r) = none := by
        intro o
        cases o with
        | none => rfl
        | some r =>
          rw [Option.bind_some, if_pos]
          by_cases e1 : (encRt (min N 16384) r).2 = 0
          · exact .inr (fun e2 => h ⟨r, e1, e2⟩)
          · exact .inl e1
      rw [key, key]
end Pl
end Go.Proofs.YtogblcdefbnbeaaGreat
