
/- Plain: the program's file system and the document's, side by side. Condition: none. -/
import Derived.Test.YtogblcdefbnbeaaGreatQPe
import Derived.Test.YtogblcdefbnbeaaGreatQPb
import Derived.Test.YtogblcdefbnbeaaGreatQWRf5
import Derived.Test.YtogblcdefbnbeaaGreatQHb
import Derived.Test.YtogblcdefbnbeaaGreatQGm
set_option maxRecDepth 100000
namespace Go.Proofs.YtogblcdefbnbeaaGreat
namespace Pl
def Fs.readE (x : Fs) (s : Dv) (nm : ByteArray) (fr n : Int) : ByteArray × Int :=
 if x.dead s = true then (.empty, 4) else if fr < 0 ∨ n < 0 then (.empty, 1) else match hget x.hand nm with | none => (.empty, 6) | some y => (readY s y fr.toNat n.toNat, 0)
theorem bytesL_take {s : Dv} (hwf : s.WF) {l : List Int} (hin : ∀ q ∈ l, 0 ≤ q ∧ q < (s.safe.length : Int)) {j : Nat} (hj : j ≤ l.length) : (bytesL s l).take (j * 256) = bytesL s (l.take j) := by
 have hsp : bytesL s l = bytesL s (l.take j) ++ bytesL s (l.drop j) := by
  unfold bytesL
  rw [← List.flatMap_append, List.take_append_drop]
 have hl : (bytesL s (l.take j)).length = j * 256 := by
  rw [bytesL_length hwf _ (fun q hq => hin q (List.mem_of_mem_take hq)), List.length_take, Nat.min_eq_left hj]
 rw [hsp, List.take_left' hl]
theorem cut_list (S : ByteArray) (a b : Nat) : (S.extract a b).data.toList = (S.data.toList.drop a).take (b - a) := by
 simp [ByteArray.data_extract, Array.toList_extract, List.extract_eq_take_drop]
theorem readOld_list {s : Dv} {y : HF} (hwf : s.WF) (hbn : y.blocks.length = (y.old + 255) / 256) (hin : ∀ q ∈ y.blocks, 0 ≤ q ∧ q < (s.safe.length : Int)) {a t : Nat} (ha : a < y.old) (hat : a ≤ t) :
  (readOld s y a t).data.toList = (((bytesL s y.blocks).take y.old).drop a).take (min t y.old - a) := by
 unfold readOld
 rw [takesB_nat, Int.toNat_natCast, cut_list]
 obtain ⟨tt, htt⟩ : ∃ tt, tt = (min t y.old + 255) / 256 := ⟨_, rfl⟩
 rw [← htt]
 have hle : tt ≤ y.blocks.length := by omega
 have hBl : (bytesL s y.blocks).length = y.blocks.length * 256 := bytesL_length hwf _ hin
 have hsz := bytesOf_size hwf y (a / 256) tt hle hin
 rw [hsz, bytesOf_list, ← bytesL_drop hwf (fun q hq => hin q (List.mem_of_mem_take hq)) (by rw [List.length_take]; omega), ← bytesL_take hwf hin hle]
 generalize bytesL s y.blocks = B at *
 obtain ⟨k, hk⟩ : ∃ k, k = a / 256 := ⟨_, rfl⟩
 rw [← hk]
 apply List.ext_getElem?
 intro i
 simp only [List.getElem?_take, List.getElem?_drop]
 by_cases hi : i < min t y.old - a
 ·have e1 : i < min (min ((tt - k) * 256) (y.old - k * 256)) (t - k * 256) - (a - k * 256) := by omega
  have e2 : a - k * 256 + i < y.old - k * 256 := by omega
  have e3 : k * 256 + (a - k * 256 + i) < tt * 256 := by omega
  have e4 : a + i < y.old := by omega
  have e5 : k * 256 + (a - k * 256 + i) = a + i := by omega
  rw [if_pos e1, if_pos e2, if_pos e3, if_pos hi, if_pos e4, e5]
 ·have e1 : ¬ i < min (min ((tt - k) * 256) (y.old - k * 256)) (t - k * 256) - (a - k * 256) := by omega
  rw [if_neg e1, if_neg hi]
set_option maxHeartbeats 2000000 in
theorem readY_cut {s : Dv} {y : HF} (hwf : s.WF) (hbn : y.blocks.length = (y.old + 255) / 256) (hin : ∀ q ∈ y.blocks, 0 ≤ q ∧ q < (s.safe.length : Int)) (fr n : Nat) : readY s y fr n = cutR (cont s y) fr n := by
 have hcl : (cont s y).size = y.size := cont_len hwf hbn hin
 apply eq_of_list
 unfold cutR
 rw [cut_list, cut_list, hcl, ByteArray.size_extract, hcl]
 obtain ⟨a, ha⟩ : ∃ a, a = min fr y.size := ⟨_, rfl⟩
 obtain ⟨m, hm⟩ : ∃ m, m = min n (y.size - a) := ⟨_, rfl⟩
 have e0 : min y.size y.size - min fr y.size = y.size - a := by omega
 rw [e0, ← hm, ← ha, List.drop_zero, Nat.sub_zero, List.take_take, show min m (y.size - a) = m by omega]
 have hU : readY s y fr n = readAt s y a (a + m) := by unfold readY; rw [← ha, ← hm]
 rw [hU, cont_list]
 unfold readAt
 rw [ByteArray.data_append, Array.toList_append]
 have hBl : (bytesL s y.blocks).length = y.blocks.length * 256 := bytesL_length hwf _ hin
 have hol : ((bytesL s y.blocks).take y.old).length = y.old := by rw [List.length_take]; omega
 have hat : a ≤ a + m := by omega
 have hRO := fun h => readOld_list hwf hbn hin (a := a) (t := a + m) h hat
 have hAl : y.added.data.toList.length = y.added.size := by simp
 have hts : a + m ≤ y.old + y.added.size := by unfold HF.size at *; omega
 have has : a ≤ y.old + y.added.size := by unfold HF.size at *; omega
 generalize (bytesL s y.blocks).take y.old = Bo at *
 rw [List.drop_append, List.take_append, hol, List.length_drop, hol]
 congr 1
 ·by_cases h1 : a < y.old
  ·rw [if_pos h1, hRO h1]
   apply List.ext_getElem?
   intro i
   simp only [List.getElem?_take, List.getElem?_drop]
   by_cases hi : i < min (a + m) y.old - a
   ·rw [if_pos hi, if_pos (by omega)]
   ·rw [if_neg hi]
    split
    ·rw [List.getElem?_eq_none (by omega)]
    ·rfl
  ·rw [if_neg h1, List.drop_of_length_le (by omega), List.take_nil]
   rfl
 ·by_cases h2 : y.old < a + m
  ·rw [if_pos h2, cut_list]
   congr 1
   omega
  ·rw [if_neg h2, show m - (y.old - a) = 0 by omega, List.take_zero]
   rfl
theorem place_ex (ns : List ByteArray) (nm : ByteArray) : ∃ k, RPlace ns nm k := by
 by_cases h : nm ∈ ns
 ·obtain ⟨i, hi, e⟩ := List.mem_iff_getElem.1 h
  exact ⟨(i : Int), .inr ⟨i, hi, rfl, e⟩⟩
 ·exact ⟨-1, .inl ⟨rfl, h⟩⟩
structure RelF (N T : Nat) (x : Fs) (y : Rf) (s : Dv) : Prop where
 hk : HK N T x.hand
 may : May (N : Int) x.safe
 len : s.safe.length = N
 wf : s.WF
 hs : HS x.hand
 old : ∃ s0 : Dv, s0.WF ∧ s0.safe.length = N ∧ Same x y s0
 live : x.dead s = false → s.wait = [] ∧ Same x y s
 ep : x.epoch ≤ s.epoch
variable {N T T' : Nat} {x : Fs} {y : Rf} {s : Dv} {nm t tn : ByteArray} {k j : Int}
theorem RelF.mono (h : RelF N T x y s) (hT : T ≤ T') : RelF N T' x y s := ⟨h.hk.mono hT, h.may, h.len, h.wf, h.hs, h.old, h.live, h.ep⟩
theorem RelF.dead (h : RelF N T x y s) : y.dead s = x.dead s := by
 obtain ⟨s0, _, _, h0⟩ := h.old
 unfold Rf.dead Fs.dead
 rw [h0.epoch]
theorem RelF.names (h : RelF N T x y s) : y.hand.map (·.name) = x.hand.map (·.1) := by
 obtain ⟨s0, _, _, h0⟩ := h.old
 rw [h0.hand, doc_names]
theorem RelF.few (h : RelF N T x y s) : y.hand.length ≤ 64 := by
 obtain ⟨s0, _, _, h0⟩ := h.old
 rw [h0.hand, List.length_map]
 exact h.hk.many
theorem RelF.ymay (h : RelF N T x y s) : May (N : Int) y.safe := by
 obtain ⟨s0, _, _, h0⟩ := h.old
 rw [h0.safe]
 exact h.may
theorem RelF.in0 (h : RelF N T x y s) {s0 : Dv} (hl : s0.safe.length = N) {p : ByteArray × HF} (hp : p ∈ x.hand) : ∀ q ∈ p.2.blocks, 0 ≤ q ∧ q < (s0.safe.length : Int) := fun q hq => by
 have := (h.hk.all p hp).inner q hq
 rw [hl]
 omega
theorem RelF.handD (h : RelF N T x y s) (hT : T ≤ 4611686018000000000) (hN : N ≤ 16384) : HandD y.hand := by
 obtain ⟨s0, w0, l0, h0⟩ := h.old
 refine ⟨h.few, fun z hz => ?_⟩
 rw [h0.hand] at hz
 obtain ⟨p, hp, rfl⟩ := List.mem_map.1 hz
 have hp2 := h.hk.all p hp
 have hc : (cont s0 p.2).size = p.2.old + p.2.added.size := cont_len w0 hp2.blocks (h.in0 l0 hp)
 have h1 := hp2.old
 have h2 := hp2.added
 have h3 := hp2.blocks
 exact ⟨by show p.2.old ≤ (cont s0 p.2).size; omega, by show (cont s0 p.2).size ≤ _; omega, by show p.2.old / 256 ≤ p.2.blocks.length; omega, h1⟩
theorem RelF.datas (h : RelF N T x y s) : ∀ z ∈ y.hand, z.data.size ≤ 4194304 + T := by
 obtain ⟨s0, w0, l0, h0⟩ := h.old
 intro z hz
 rw [h0.hand] at hz
 obtain ⟨p, hp, rfl⟩ := List.mem_map.1 hz
 have hp2 := h.hk.all p hp
 have hc : (cont s0 p.2).size = p.2.old + p.2.added.size := cont_len w0 hp2.blocks (h.in0 l0 hp)
 have h1 := hp2.old
 have h2 := hp2.added
 show (cont s0 p.2).size ≤ _
 omega
theorem RelF.plan (h : RelF N T x y s) (hT : T ≤ 4611686018427387904) (hN : N ≤ 16384) : ∀ st, pK (freeU y.safe N) y.hand = some st → (⟨y.safe.gen + 1, st.fs⟩ : RootP).fine ∧ st.l.length ≤ 16384 ∧ ∀ p ∈ st.l, p.1 < N ∧ p.2.size = 256 := by
 obtain ⟨s0, w0, l0, h0⟩ := h.old
 intro st hst
 rw [h0.hand, pK_plan w0 h.hk l0 _ x.hand (fun _ h => h), h0.safe] at hst
 have hfrp : ∀ q ∈ freeU x.safe N, 32 ≤ q ∧ q < (N : Int) := fun q hq => by
  have := freeU_pos hq
  exact ⟨this.1, this.2.1⟩
 obtain ⟨h1, h2⟩ := planK_inv hfrp _ _ (h.hk.ok hT) hst
 have e1 := (planK_len _ _ hst).2
 have e2 := freeU_length x.safe N
 have hg := h.may.g2
 refine ⟨⟨by show y.safe.gen + 1 ≤ _; rw [h0.safe]; omega, fun z hz => ?_⟩, by omega, fun p hp => ?_⟩
 ·obtain ⟨g1, g2, g3⟩ := h2 z hz
  exact ⟨⟨by omega, g2⟩, fun b hb => by have := g3 b hb; omega⟩
 ·have e1 := h1 p hp
  have e2 := hfrp _ e1.1
  exact ⟨by omega, e1.2⟩
theorem HS.create' (h : HS x.hand) (nm : ByteArray) : HS (x.create nm).1.hand := by
 unfold Fs.create
 split
 ·exact h
 ·split
  ·exact h
  ·split
   ·exact h
   ·exact h.put _ _
theorem HS.append' (h : HS x.hand) (nm t : ByteArray) : HS (x.append nm t).1.hand := by
 unfold Fs.append
 split
 ·exact h
 ·exact h.put _ _
theorem HS.rename' (h : HS x.hand) (nm tn : ByteArray) : HS (x.rename nm tn).1.hand := by
 unfold Fs.rename
 split
 ·exact h
 ·split
  ·exact h
  ·split
   ·exact h
   ·exact (h.del _).put _ _
theorem HS.delete' (h : HS x.hand) (nm : ByteArray) : HS (x.delete nm).1.hand := by
 unfold Fs.delete
 split
 ·exact h
 ·exact h.del _
theorem RelF.turn (h : RelF N T x y s) {x' : Fs} {y' : Rf} (h1 : x.dead s = true → x' = x ∧ y' = y) (h2 : x.dead s = false → x'.safe = x.safe ∧ x'.epoch = x.epoch ∧ HK N T' x'.hand ∧ HS x'.hand ∧ Same x' y' s) (hT : T ≤ T') : RelF N T' x' y' s := by
 cases hd : x.dead s with
 | true =>
  obtain ⟨rfl, rfl⟩ := h1 hd
  exact h.mono hT
 | false =>
  obtain ⟨e1, e2, e3, e4, e5⟩ := h2 hd
  exact ⟨e3, by rw [e1]; exact h.may, h.len, h.wf, e4, ⟨s, h.wf, h.len, e5⟩, fun _ => ⟨(h.live hd).1, e5⟩, by rw [e2]; exact h.ep⟩
theorem Fs.create_safe (x : Fs) (nm : ByteArray) : (x.create nm).1.safe = x.safe ∧ (x.create nm).1.epoch = x.epoch := by
 unfold Fs.create
 repeat' split
 all_goals exact ⟨rfl, rfl⟩
theorem Fs.append_safe (x : Fs) (nm t : ByteArray) : (x.append nm t).1.safe = x.safe ∧ (x.append nm t).1.epoch = x.epoch := by
 unfold Fs.append
 repeat' split
 all_goals exact ⟨rfl, rfl⟩
theorem Fs.rename_safe (x : Fs) (nm tn : ByteArray) : (x.rename nm tn).1.safe = x.safe ∧ (x.rename nm tn).1.epoch = x.epoch := by
 unfold Fs.rename
 repeat' split
 all_goals exact ⟨rfl, rfl⟩
theorem Fs.delete_safe (x : Fs) (nm : ByteArray) : (x.delete nm).1.safe = x.safe ∧ (x.delete nm).1.epoch = x.epoch := by
 unfold Fs.delete
 repeat' split
 all_goals exact ⟨rfl, rfl⟩
theorem RelF.create (h : RelF N T x y s) (hk : RPlace (y.hand.map (·.name)) nm k) : (y.createR s nm k).2 = (x.createE s nm).2 ∧ RelF N T (x.createE s nm).1 (y.createR s nm k).1 s := by
 have hdd := h.dead
 cases hd : x.dead s with
 | true =>
  have e1 : x.createE s nm = (x, 4) := by unfold Fs.createE; rw [if_pos hd]
  have e2 : y.createR s nm k = (y, 4) := by unfold Rf.createR; rw [if_pos (hdd.trans hd)]
  rw [e1, e2]
  exact ⟨rfl, h⟩
 | false =>
  have e1 : x.createE s nm = x.create nm := by unfold Fs.createE; rw [if_neg (by rw [hd]; exact Bool.false_ne_true)]
  obtain ⟨q1, q2⟩ := (h.live hd).2.create h.hs hk
  refine ⟨q1, h.turn (fun h3 => absurd h3 (by rw [hd]; exact Bool.false_ne_true)) (fun _ => ?_) (Nat.le_refl _)⟩
  rw [e1] at q2 ⊢
  exact ⟨(x.create_safe nm).1, (x.create_safe nm).2, h.hk.create nm, h.hs.create' nm, q2⟩
theorem RelF.append (h : RelF N T x y s) (hk : RPlace (y.hand.map (·.name)) nm k) : (y.appendR s t k).2 = (x.appendE s nm t).2 ∧ RelF N (T + t.size) (x.appendE s nm t).1 (y.appendR s t k).1 s := by
 have hdd := h.dead
 cases hd : x.dead s with
 | true =>
  have e1 : x.appendE s nm t = (x, 4) := by unfold Fs.appendE; rw [if_pos hd]
  have e2 : y.appendR s t k = (y, 4) := by unfold Rf.appendR; rw [if_pos (hdd.trans hd)]
  rw [e1, e2]
  exact ⟨rfl, h.mono (Nat.le_add_right _ _)⟩
 | false =>
  have e1 : x.appendE s nm t = x.append nm t := by unfold Fs.appendE; rw [if_neg (by rw [hd]; exact Bool.false_ne_true)]
  obtain ⟨q1, q2⟩ := (h.live hd).2.append (t := t) h.hs hk
  refine ⟨q1, h.turn (fun h3 => absurd h3 (by rw [hd]; exact Bool.false_ne_true)) (fun _ => ?_) (Nat.le_add_right _ _)⟩
  rw [e1] at q2 ⊢
  exact ⟨(x.append_safe nm t).1, (x.append_safe nm t).2, h.hk.append nm t, h.hs.append' nm t, q2⟩
theorem RelF.delete (h : RelF N T x y s) (hk : RPlace (y.hand.map (·.name)) nm k) : (y.deleteR s k).2 = (x.deleteE s nm).2 ∧ RelF N T (x.deleteE s nm).1 (y.deleteR s k).1 s := by
 have hdd := h.dead
 cases hd : x.dead s with
 | true =>
  have e1 : x.deleteE s nm = (x, 4) := by unfold Fs.deleteE; rw [if_pos hd]
  have e2 : y.deleteR s k = (y, 4) := by unfold Rf.deleteR; rw [if_pos (hdd.trans hd)]
  rw [e1, e2]
  exact ⟨rfl, h⟩
 | false =>
  have e1 : x.deleteE s nm = x.delete nm := by unfold Fs.deleteE; rw [if_neg (by rw [hd]; exact Bool.false_ne_true)]
  obtain ⟨q1, q2⟩ := (h.live hd).2.delete h.hs hk
  refine ⟨q1, h.turn (fun h3 => absurd h3 (by rw [hd]; exact Bool.false_ne_true)) (fun _ => ?_) (Nat.le_refl _)⟩
  rw [e1] at q2 ⊢
  exact ⟨(x.delete_safe nm).1, (x.delete_safe nm).2, h.hk.delete nm, h.hs.delete' nm, q2⟩
theorem RelF.rename (h : RelF N T x y s) (hk : RPlace (y.hand.map (·.name)) nm k) (hj : 0 ≤ k → y.dead s = true ∨ named tn = false ∨ nm = tn ∨ RPlace ((y.hand.eraseIdx k.toNat).map (·.name)) tn j) : (y.renameR s nm tn k j).2 = (x.renameE s nm tn).2 ∧ RelF N T (x.renameE s nm tn).1 (y.renameR s nm tn k j).1 s := by
 have hdd := h.dead
 cases hd : x.dead s with
 | true =>
  have e1 : x.renameE s nm tn = (x, 4) := by unfold Fs.renameE; rw [if_pos hd]
  have e2 : y.renameR s nm tn k j = (y, 4) := by unfold Rf.renameR; rw [if_pos (hdd.trans hd)]
  rw [e1, e2]
  exact ⟨rfl, h⟩
 | false =>
  have e1 : x.renameE s nm tn = x.rename nm tn := by unfold Fs.renameE; rw [if_neg (by rw [hd]; exact Bool.false_ne_true)]
  obtain ⟨j2, hj2, e2⟩ : ∃ j2, (0 ≤ k → RPlace ((y.hand.eraseIdx k.toNat).map (·.name)) tn j2) ∧ y.renameR s nm tn k j = y.renameR s nm tn k j2 := by
   obtain ⟨j0, hj0⟩ := place_ex ((y.hand.eraseIdx k.toNat).map (·.name)) tn
   by_cases hk0 : 0 ≤ k
   ·rcases hj hk0 with h1 | h1 | h1 | h1
    ·rw [hdd, hd] at h1; cases h1
    ·exact ⟨j0, fun _ => hj0, by unfold Rf.renameR; rw [if_pos h1, if_pos h1]⟩
    ·refine ⟨j0, fun _ => hj0, ?_⟩
     unfold Rf.renameR
     rw [if_pos h1, if_pos h1]
    ·exact ⟨j, fun _ => h1, rfl⟩
   ·exact ⟨j0, fun h1 => absurd h1 hk0, by unfold Rf.renameR; rw [if_pos (show k < 0 by omega), if_pos (show k < 0 by omega)]⟩
  rw [e2]
  obtain ⟨q1, q2⟩ := (h.live hd).2.rename h.hs hk hj2
  refine ⟨q1, h.turn (fun h3 => absurd h3 (by rw [hd]; exact Bool.false_ne_true)) (fun _ => ?_) (Nat.le_refl _)⟩
  rw [e1] at q2 ⊢
  exact ⟨(x.rename_safe nm tn).1, (x.rename_safe nm tn).2, h.hk.rename nm tn, h.hs.rename' nm tn, q2⟩
end Pl
namespace Pl
variable {N T T' m : Nat} {x : Fs} {y : Rf} {s : Dv} {nm t tn : ByteArray} {k j fr n : Int} {keep : List Bool}
theorem RelF.idx (h : RelF N T x y s) (hd : x.dead s = false) {i : Nat} (hi : i < (y.hand.map (·.name)).length) (hn : (y.hand.map (·.name))[i] = nm) : ∃ (hi2 : i < x.hand.length), hget x.hand nm = some x.hand[i].2 ∧ y.hand.getD i rf0 = docOf s x.hand[i] ∧ x.hand[i] ∈ x.hand := by
 have h0 := (h.live hd).2
 have hi2 : i < x.hand.length := by rw [List.length_map, h0.hand, List.length_map] at hi; exact hi
 have hg := hget_idx h.hs.hn hi2
 have e : x.hand[i].1 = nm := by
  have h1 := h.names
  have h2 : (y.hand.map (·.name))[i] = (x.hand.map (·.1))[i]'(by rw [List.length_map]; exact hi2) := by simp only [h1]
  rw [h2, List.getElem_map] at hn
  exact hn
 rw [e] at hg
 refine ⟨hi2, hg, ?_, List.getElem_mem hi2⟩
 rw [h0.hand, List.getD_eq_getElem?_getD, List.getElem?_map, List.getElem?_eq_getElem hi2]
 rfl
theorem RelF.none (h : RelF N T x y s) (hn : nm ∉ y.hand.map (·.name)) : hget x.hand nm = Option.none := by
 rw [h.names] at hn
 exact place_none hn
theorem RelF.size (h : RelF N T x y s) (hk : RPlace (y.hand.map (·.name)) nm k) : y.lengthR s k = x.sizeE s nm := by
 unfold Rf.lengthR Fs.sizeE
 rw [h.dead]
 cases hd : x.dead s with
 | true => rw [if_pos rfl, if_pos rfl]
 | false =>
  rw [if_neg Bool.false_ne_true, if_neg Bool.false_ne_true]
  rcases hk with ⟨rfl, hn⟩ | ⟨i, hi, rfl, hn⟩
  ·rw [h.none hn, if_pos (show (-1 : Int) < 0 by decide)]
  ·obtain ⟨hi2, hg, hg2, hm⟩ := h.idx hd hi hn
   rw [hg, if_neg (show ¬ (i : Int) < 0 by omega), Int.toNat_natCast, hg2]
   have hc : (cont s x.hand[i].2).size = x.hand[i].2.size := cont_len h.wf (h.hk.all _ hm).blocks (h.in0 h.len hm)
   show (((cont s x.hand[i].2).size : Int), (0 : Int)) = _
   rw [hc]
theorem RelF.read (h : RelF N T x y s) (hk : RPlace (y.hand.map (·.name)) nm k) : y.readR s k fr n = x.readE s nm fr n := by
 unfold Rf.readR Fs.readE
 rw [h.dead]
 cases hd : x.dead s with
 | true => rw [if_pos rfl, if_pos rfl]
 | false =>
  rw [if_neg Bool.false_ne_true, if_neg Bool.false_ne_true]
  by_cases hneg : fr < 0 ∨ n < 0
  ·rw [if_pos hneg, if_pos hneg]
  ·rw [if_neg hneg, if_neg hneg]
   rcases hk with ⟨rfl, hn⟩ | ⟨i, hi, rfl, hn⟩
   ·rw [h.none hn, if_pos (show (-1 : Int) < 0 by decide)]
   ·obtain ⟨hi2, hg, hg2, hm⟩ := h.idx hd hi hn
    rw [hg, if_neg (show ¬ (i : Int) < 0 by omega), Int.toNat_natCast, hg2]
    simp only
    rw [readY_cut h.wf (h.hk.all _ hm).blocks (h.in0 h.len hm)]
    rfl
theorem RelF.namesE (h : RelF N T x y s) : y.namesR s = x.namesE s := by
 unfold Rf.namesR Fs.namesE
 rw [h.dead, h.names]
 rfl
theorem RelF.safeE (h : RelF N T x y s) : y.safe = x.safe := by
 obtain ⟨_, _, _, h0⟩ := h.old
 exact h0.safe
theorem RelF.freeE (h : RelF N T x y s) : y.freeN s = x.freeN s := by
 unfold Rf.freeN Fs.freeN
 rw [h.dead, h.safeE]
theorem RelF.rootE (h : RelF N T x y s) : y.rootR s = x.rootE s := by
 unfold Rf.rootR Fs.rootE
 rw [h.dead, h.safeE]
theorem RelF.revert (h : RelF N T x y s) (hN : N ≤ 16384) : RelF N T (x.revertE s) (y.revertR s) s := by
 cases hd : x.dead s with
 | true =>
  have e1 : x.revertE s = x := by unfold Fs.revertE; rw [if_pos hd]
  have e2 : y.revertR s = y := by unfold Rf.revertR; rw [if_pos (h.dead.trans hd)]
  rw [e1, e2]
  exact h
 | false =>
  have e1 : x.revertE s = x.revert := by unfold Fs.revertE; rw [if_neg (by rw [hd]; exact Bool.false_ne_true)]
  have hS := (h.live hd).2.revert h.may
  rw [e1] at hS ⊢
  exact ⟨(HK.revert h.may hN).mono (Nat.zero_le _), h.may, h.len, h.wf, h.may.hs, ⟨s, h.wf, h.len, hS⟩, fun _ => ⟨(h.live hd).1, hS⟩, h.ep⟩
theorem commit_cases (hd : x.dead s = false) : ((x.commitE s).2 ≠ 0 ∧ (x.commitE s).1.1 = x) ∨ ((x.commitE s).2 = 0 ∧ (x.commitE s).1 = (x, s)) ∨ ((x.commitE s).2 = 0 ∧ (x.commitE s).1.2.down = false ∧ (x.commitE s).1.1.hand = handOf (x.commitE s).1.1.safe) := by
 unfold Fs.commitE
 rw [if_neg (by rw [hd]; exact Bool.false_ne_true)]
 split
 ·exact .inr (.inl ⟨rfl, rfl⟩)
 ·cases x.planE s with
  | none => exact .inl ⟨(by show (5 : Int) ≠ 0; decide), rfl⟩
  | some lr =>
   obtain ⟨l, r⟩ := lr
   simp only
   split
   ·rename_i hw
    left
    refine ⟨hw, ?_⟩
    show x.writeE s l r = x
    unfold Fs.writeE
    rw [if_neg hw]
   ·rename_i hw
    have h0 : (wrRoot s l r).2 = 0 := by simpa using hw
    obtain ⟨u1, u2⟩ := wrRoot_up h0
    have hwr : x.writeE s l r = { x with safe := r } := by unfold Fs.writeE; rw [if_pos h0]
    have hal : ({ x with safe := r } : Fs).dead (wrRoot s l r).1 = false := by
     unfold Fs.dead at hd ⊢
     simp only [Bool.or_eq_false_iff] at hd ⊢
     exact ⟨u1, by rw [wrRoot_epoch]; exact hd.2⟩
    right; right
    refine ⟨rfl, u1, ?_⟩
    show ((x.writeE s l r).revertE (wrRoot s l r).1).hand = handOf ((x.writeE s l r).revertE (wrRoot s l r).1).safe
    rw [hwr]
    unfold Fs.revertE
    rw [if_neg (by rw [hal]; exact Bool.false_ne_true)]
    rfl
theorem commitR_keeps (h : (y.commitR s).2 ≠ 0) : (y.commitR s).1.1 = y := by
 unfold Rf.commitR at h ⊢
 split at h
 ·rename_i h1; rw [if_pos h1]
 ·rename_i h1
  rw [if_neg h1]
  split at h
  ·rename_i h2; rw [if_pos h2]
  ·rename_i h2
   rw [if_neg h2]
   cases hp : pK (freeU y.safe s.safe.length) y.hand with
   | none => rfl
   | some st =>
    rw [hp] at h
    simp only at h ⊢
    split at h
    ·rename_i h3; rw [if_pos h3]
    ·rename_i h3
     rw [if_neg h3]
     split at h
     ·rename_i h4; rw [if_pos h4]
     ·exact absurd rfl h
theorem RelF.commit (h : RelF N T x y s) (hT : T ≤ 4611686018427387904) (hN1 : 40 ≤ N) (hN : N ≤ 16384) (hwf' : (x.commitE s).1.2.WF) :
  (y.commitR s).2 = (x.commitE s).2 ∧ (y.commitR s).1.2 = (x.commitE s).1.2 ∧ RelF N T (x.commitE s).1.1 (y.commitR s).1.1 (x.commitE s).1.2 := by
 cases hd : x.dead s with
 | true =>
  have e1 : x.commitE s = ((x, s), 4) := by unfold Fs.commitE; rw [if_pos hd]
  have e2 : y.commitR s = ((y, s), 4) := by unfold Rf.commitR; rw [if_pos (h.dead.trans hd)]
  rw [e1, e2]
  exact ⟨rfl, rfl, h⟩
 | false =>
  obtain ⟨hw, h0⟩ := h.live hd
  obtain ⟨q1, q2, q3⟩ := h0.commit h.wf h.hk h.len
  obtain ⟨-, k2, k3, k4, k5, k6⟩ := Kp.commit (⟨h.len, h.hk, h.may, hw⟩ : Kp N T x s) hd hT hN1 hN
  refine ⟨q1, q2, ?_⟩
  have hep : (x.commitE s).1.1.epoch ≤ (x.commitE s).1.2.epoch := by rw [k4, k5]; exact h.ep
  have hcR := commitR_keeps (y := y) (s := s)
  rw [q1] at hcR
  have hcc := commit_cases hd
  have hdown : x.dead s = false → s.down = false := fun hq => by
   unfold Fs.dead at hq
   simp only [Bool.or_eq_false_iff] at hq
   exact hq.1
  generalize x.commitE s = E at *
  generalize y.commitR s = R at *
  obtain ⟨⟨x', s'⟩, e⟩ := E
  obtain ⟨⟨y', s''⟩, e'⟩ := R
  simp only at *
  subst q2
  have hlive : s''.down = false → s''.wait = [] ∧ Same x' y' s'' → HS x'.hand → RelF N T x' y' s'' := fun hdn hh hhs => by
   rcases k6 with h1 | h1
   ·rw [hdn] at h1; cases h1
   ·exact ⟨h1.hand, k2, k3, hwf', hhs, ⟨s'', hwf', k3, hh.2⟩, fun _ => hh, hep⟩
  rcases hcc with ⟨c1, rfl⟩ | ⟨c1, c2⟩ | ⟨c1, c2, c3⟩
  ·obtain rfl := hcR c1
   rcases q3 with h1 | ⟨rfl, h1⟩ | ⟨h1, _⟩
   ·exact ⟨h.hk, h.may, k3, hwf', h.hs, ⟨s, h.wf, h.len, h0⟩, fun h2 => (by
     unfold Fs.dead at h2
     rw [h1] at h2
     cases h2), hep⟩
   ·exact h
   ·exact absurd h1 c1
  ·obtain ⟨rfl, rfl⟩ := Prod.mk.inj c2
   have hs2 : Same x' y' s'' := by
    rcases q3 with h1 | ⟨_, h1⟩ | ⟨_, h1⟩
    ·rw [hdown hd] at h1; cases h1
    ·exact h1
    ·exact h1
   exact hlive (hdown hd) ⟨hw, hs2⟩ h.hs
  ·have hhs : HS x'.hand := by rw [c3]; exact k2.hs
   have hwt : s''.wait = [] := by
    rcases k6 with h1 | h1
    ·rw [c2] at h1; cases h1
    ·exact h1.wait
   rcases q3 with h1 | ⟨rfl, h1⟩ | ⟨_, h1⟩
   ·rw [c2] at h1; cases h1
   ·exact hlive c2 ⟨hwt, h1⟩ hhs
   ·exact hlive c2 ⟨hwt, h1⟩ hhs
theorem RelF.crash (h : RelF N T x y s) (hm : m ≤ 256) : RelF N T x y (s.crash keep n m) :=
 ⟨h.hk, h.may, (crashN_length _ _ _ _ _ _).trans h.len, h.wf.crash hm, h.hs, h.old, fun hd => absurd hd (by
  have := h.ep
  unfold Fs.dead
  have h2 : ¬ (s.crash keep n m).epoch = x.epoch := by show ¬ s.epoch + 1 = x.epoch; omega
  simp [h2]), Nat.le_succ_of_le h.ep⟩
theorem RelF.arm (h : RelF N T x y s) : RelF N T x y (s.arm n) :=
 ⟨h.hk, h.may, h.len, ⟨h.wf.size, h.wf.wait⟩, h.hs, h.old, fun hd => ⟨(h.live hd).1, ⟨(h.live hd).2.epoch, (h.live hd).2.safe, (h.live hd).2.changed, (h.live hd).2.hand⟩⟩, h.ep⟩
theorem RelF.new {r : RootP} {s0 : Dv} (hm : May (N : Int) r) (hN : N ≤ 16384) (hl : s0.safe.length = N) (hwf : s0.WF) (hw : s0.wait = []) (hdn : s0.down = false) :
  Fs.revertE ⟨s0.epoch, r, [], false⟩ s0 = Fs.revert ⟨s0.epoch, r, [], false⟩ ∧ RelF N 0 (Fs.revert ⟨s0.epoch, r, [], false⟩) (Rf.revertR ⟨s0.epoch, r, [], false⟩ s0) s0 := by
 have hd : (⟨s0.epoch, r, [], false⟩ : Fs).dead s0 = false := by unfold Fs.dead; simp [hdn]
 have e1 : Fs.revertE ⟨s0.epoch, r, [], false⟩ s0 = Fs.revert ⟨s0.epoch, r, [], false⟩ := by unfold Fs.revertE; rw [if_neg (by rw [hd]; exact Bool.false_ne_true)]
 have hS : Same (⟨s0.epoch, r, [], false⟩ : Fs) ⟨s0.epoch, r, [], false⟩ s0 := ⟨rfl, rfl, rfl, rfl⟩
 have hS2 := hS.revert hm
 rw [e1] at hS2
 exact ⟨e1, HK.revert hm hN, hm, hl, hwf, hm.hs, ⟨s0, hwf, hl, hS2⟩, fun _ => ⟨hw, hS2⟩, Nat.le_refl _⟩
theorem RelF.opened (hF : Free s) (hw : s.wait = []) (hl : s.safe.length = N) (hN : N ≤ 16384) (hwf : s.WF) (hwf' : (openE s (decS s N)).1.2.WF) :
  ∃ x y s', openE s (decS s N) = ((some x, s'), 0) ∧ openR s (decS s N) = ((some y, s'), 0) ∧ RelF N 0 x y s' := by
 have hmay : ∀ k r0, decS s N k = some r0 → May (N : Int) r0 := fun k r0 h => by
  have := (encRt_yes (decRt_may h)).1
  rwa [show min (N : Int) 16384 = (N : Int) by omega] at this
 have hmk : (openK s (decS s N) 2).gen ≠ 0 → May (N : Int) (openK s (decS s N) 2) := fun h0 => (openK_all (s := s) (dec := decS s N) (P := fun a => a.gen = 0 ∨ May (N : Int) a) (.inl rfl) (fun k r0 h => .inr (hmay k r0 h)) 2).resolve_left h0
 unfold openE at hwf'
 unfold openE openR
 by_cases h0 : (openK s (decS s N) 2).gen = 0
 ·rw [if_pos h0] at hwf' ⊢
  rw [if_pos h0]
  obtain ⟨f1, f2⟩ := hF.wrRoot (l := []) (r := ⟨1, []⟩) (enc1 _)
  rw [if_neg (by rw [f2]; decide)] at hwf' ⊢
  rw [if_neg (by rw [f2]; decide)]
  obtain ⟨u1, u2⟩ := wrRoot_up f2
  have he := wrRoot_epoch s [] ⟨1, []⟩
  have hlw := (wrRoot_len s [] ⟨1, []⟩).trans hl
  simp only at hwf'
  generalize (wrRoot s [] ⟨1, []⟩).1 = s1 at *
  rw [← he]
  exact ⟨_, _, s1, rfl, rfl, (RelF.new (may1 _) hN hlw hwf' u2 u1).2⟩
 ·rw [if_neg h0, if_neg h0]
  exact ⟨_, _, s, rfl, rfl, (RelF.new (hmk h0) hN hl hwf hw hF.2).2⟩
end Pl
end Go.Proofs.YtogblcdefbnbeaaGreat
