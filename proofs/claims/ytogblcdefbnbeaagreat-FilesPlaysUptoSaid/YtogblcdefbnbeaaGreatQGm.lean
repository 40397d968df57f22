
/- Plain: what a file system keeps, whatever is done with it. Condition: none. -/
import Derived.Test.YtogblcdefbnbeaaGreatQWOpen
set_option maxRecDepth 100000
namespace Go.Proofs.YtogblcdefbnbeaaGreat
namespace Pl
theorem hins_mem {x p : ByteArray × HF} : ∀ l, p ∈ hins x l → p = x ∨ p ∈ l
 | [], h => .inl (List.mem_singleton.1 h)
 | y :: r, h => by
  unfold hins at h
  split at h
  ·rcases List.mem_cons.1 h with h | h
   ·exact .inl h
   ·exact .inr h
  ·rcases List.mem_cons.1 h with h | h
   ·exact .inr (h ▸ List.mem_cons_self)
   ·exact (hins_mem r h).imp id (List.mem_cons_of_mem _)
theorem hdel_mem {l : List (ByteArray × HF)} {nm : ByteArray} {p : ByteArray × HF} (h : p ∈ hdel l nm) : p ∈ l := (List.mem_filter.1 h).1
theorem hput_mem {l : List (ByteArray × HF)} {nm : ByteArray} {y : HF} {p : ByteArray × HF} (h : p ∈ hput l nm y) : p = (nm, y) ∨ p ∈ l := (hins_mem _ h).imp id hdel_mem
theorem hget_some {l : List (ByteArray × HF)} {nm : ByteArray} {y : HF} (h : hget l nm = some y) : ∃ p ∈ l, p.2 = y ∧ p.1.data.toList = nm.data.toList := by
 unfold hget at h
 cases hf : l.find? (fun p => p.1.data.toList == nm.data.toList) with
 | none => rw [hf] at h; cases h
 | some p =>
  rw [hf] at h
  exact ⟨p, List.mem_of_find?_eq_some hf, Option.some.inj h, by simpa using List.find?_some hf⟩
theorem hdel_lt {l : List (ByteArray × HF)} {nm : ByteArray} {y : HF} (h : hget l nm = some y) : (hdel l nm).length < l.length := by
 obtain ⟨p, hp, _, he⟩ := hget_some h
 unfold hdel
 rw [List.length_filter_lt_length_iff_exists]
 exact ⟨p, hp, by simp [he]⟩
theorem size_of_list {a b : ByteArray} (h : a.data.toList = b.data.toList) : a.size = b.size := by
 have := congrArg List.length h
 simpa using this
structure HE (N T : Nat) (p : ByteArray × HF) : Prop where
 name : p.1.size ≤ 32
 blocks : p.2.blocks.length = (p.2.old + 255) / 256
 old : p.2.old ≤ 4194304
 inner : ∀ q ∈ p.2.blocks, 32 ≤ q ∧ q < (N : Int)
 added : p.2.added.size ≤ T
structure HK (N T : Nat) (l : List (ByteArray × HF)) : Prop where
 all : ∀ p ∈ l, HE N T p
 many : l.length ≤ 64
variable {N T T' : Nat} {l : List (ByteArray × HF)} {x : Fs} {s : Dv}
theorem HE.mono {p : ByteArray × HF} (h : HE N T p) (hT : T ≤ T') : HE N T' p := ⟨h.name, h.blocks, h.old, h.inner, Nat.le_trans h.added hT⟩
theorem HK.mono (h : HK N T l) (hT : T ≤ T') : HK N T' l := ⟨fun p hp => (h.all p hp).mono hT, h.many⟩
theorem HK.ok (h : HK N T l) (hT : T ≤ 4611686018427387904) : HandOk N l :=
 ⟨by have := h.many; omega, fun p hp => by have := (h.all p hp).name; omega, fun p hp => (h.all p hp).blocks, fun p hp => (h.all p hp).old, fun p hp => (h.all p hp).inner, fun p hp => Nat.le_trans (h.all p hp).added hT⟩
theorem HK.del (h : HK N T l) (nm : ByteArray) : HK N T (hdel l nm) := ⟨fun p hp => h.all p (hdel_mem hp), Nat.le_trans (List.length_filter_le _ _) h.many⟩
theorem HK.create (h : HK N T x.hand) (nm : ByteArray) : HK N T (x.create nm).1.hand := by
 unfold Fs.create
 split
 ·exact h
 ·rename_i hn
  split
  ·exact h
  ·split
   ·exact h
   ·rename_i hl
    have hn2 : named nm = true := by simpa using hn
    unfold named at hn2
    have hn3 := of_decide_eq_true hn2
    refine ⟨fun p hp => ?_, ?_⟩
    ·rcases hput_mem hp with rfl | hp
     ·exact ⟨hn3.2, (by decide : (0 : Nat) = (0 + 255) / 256), Nat.zero_le _, fun _ h => (List.not_mem_nil h).elim, Nat.zero_le _⟩
     ·exact h.all p hp
    ·have := hput_length x.hand nm HF.zero
     show (hput x.hand nm HF.zero).length ≤ 64
     omega
theorem HK.append (h : HK N T x.hand) (nm t : ByteArray) : HK N (T + t.size) (x.append nm t).1.hand := by
 unfold Fs.append
 cases hg : hget x.hand nm with
 | none => exact h.mono (Nat.le_add_right _ _)
 | some y =>
  obtain ⟨p0, hp0, rfl, he⟩ := hget_some hg
  have hE := h.all p0 hp0
  have hz := size_of_list he
  refine ⟨fun p hp => ?_, ?_⟩
  ·rcases hput_mem hp with rfl | hp
   ·exact ⟨by show nm.size ≤ 32; rw [← hz]; exact hE.name, hE.blocks, hE.old, hE.inner, by show (p0.2.added ++ t).size ≤ _; rw [ByteArray.size_append]; have := hE.added; omega⟩
   ·exact (h.all p hp).mono (Nat.le_add_right _ _)
  ·have h1 := hdel_lt hg
   have h2 := h.many
   show (hins _ (hdel x.hand nm)).length ≤ 64
   rw [hins_length]
   omega
theorem HK.rename (h : HK N T x.hand) (nm tn : ByteArray) : HK N T (x.rename nm tn).1.hand := by
 unfold Fs.rename
 split
 ·exact h
 ·rename_i hn
  cases hg : hget x.hand nm with
  | none => exact h
  | some y =>
   simp only
   split
   ·exact h
   ·have hn2 : named tn = true := by simpa using hn
    unfold named at hn2
    have hn3 := of_decide_eq_true hn2
    obtain ⟨p0, hp0, rfl, he⟩ := hget_some hg
    have hE := h.all p0 hp0
    refine ⟨fun p hp => ?_, ?_⟩
    ·rcases hput_mem hp with rfl | hp
     ·exact ⟨hn3.2, hE.blocks, hE.old, hE.inner, hE.added⟩
     ·exact h.all p (hdel_mem hp)
    ·have h1 := hdel_lt hg
     have h2 := h.many
     have h3 := hput_length (hdel x.hand nm) tn p0.2
     show (hput (hdel x.hand nm) tn p0.2).length ≤ 64
     omega
theorem HK.delete (h : HK N T x.hand) (nm : ByteArray) : HK N T (x.delete nm).1.hand := by
 unfold Fs.delete
 split
 ·exact h
 ·exact h.del nm
theorem HK.revert {r : RootP} (hm : May (N : Int) r) (hN : N ≤ 16384) : HK N 0 (handOf r) := by
 have key : ∀ (fs : List FileP), (∀ f ∈ fs, f ∈ r.files) → ∀ acc : List (ByteArray × HF), (∀ p ∈ acc, HE N 0 p) → (∀ p ∈ fs.foldl (fun l y => hput l y.name ⟨y.blocks, y.size.toNat, .empty⟩) acc, HE N 0 p) ∧ (fs.foldl (fun l y => hput l y.name ⟨y.blocks, y.size.toNat, .empty⟩) acc).length ≤ acc.length + fs.length := by
  intro fs
  induction fs with
  | nil => intro _ acc h; exact ⟨h, Nat.le_refl _⟩
  | cons f fs ih =>
   intro hf acc h
   obtain ⟨b1, b2, b3, b4, b5⟩ := hm.blocks (by omega) (hf f List.mem_cons_self)
   obtain ⟨i, hi, e⟩ := List.mem_iff_getElem.1 (hf f List.mem_cons_self)
   have h4 := (hm.head i hi).2.2.2
   rw [e] at h4
   unfold takesB at h4
   have hb : f.blocks.length = (f.size.toNat + 255) / 256 := by split at h4 <;> omega
   obtain ⟨r1, r2⟩ := ih (fun g hg => hf g (List.mem_cons_of_mem _ hg)) (hput acc f.name ⟨f.blocks, f.size.toNat, .empty⟩) (fun p hp => by
    rcases hput_mem hp with rfl | hp
    ·exact ⟨b5, hb, by show f.size.toNat ≤ _; omega, b2, Nat.le_refl _⟩
    ·exact h p hp)
   have r3 := hput_length acc f.name ⟨f.blocks, f.size.toNat, .empty⟩
   exact ⟨r1, by rw [List.foldl_cons, List.length_cons]; omega⟩
 obtain ⟨h1, h2⟩ := key r.files (fun _ h => h) [] (fun _ h => (List.not_mem_nil h).elim)
 exact ⟨h1, by have := hm.many; unfold handOf; simpa using Nat.le_trans h2 (by simpa using this)⟩
theorem Dv.wrE_down {s : Dv} {i : Nat} {y : ByteArray} (h : (s.wrE i y).2 ≠ 0) : (s.wrE i y).1.down = true := by
 unfold Dv.wrE at *
 split at h
 ·rename_i h0; rw [if_pos h0]; exact h0
 ·rename_i h0
  rw [if_neg h0]
  cases hd : (s.put i y).act.down with
  | true => rfl
  | false => exact absurd (Dv.err_up hd) h
theorem Dv.syE_down {s : Dv} (h : s.syE.2 ≠ 0) : s.syE.1.down = true := by
 unfold Dv.syE at *
 split at h
 ·rename_i h0; rw [if_pos h0]; exact h0
 ·rename_i h0
  rw [if_neg h0]
  split at h
  ·rename_i h1; rw [if_pos h1]; exact h1
  ·exact absurd rfl h
theorem wrAll_down {s : Dv} : ∀ l : List (Nat × ByteArray), (wrAll s l).2 ≠ 0 → (wrAll s l).1.down = true := by
 refine snoc_ind (P := fun l => (wrAll s l).2 ≠ 0 → (wrAll s l).1.down = true) (fun h => absurd rfl h) ?_
 intro l p ih h
 have e : wrAll s (l ++ [p]) = wrStep (wrAll s l) p := by unfold wrAll; rw [List.foldl_append]; rfl
 rw [e] at h ⊢
 unfold wrStep at *
 split at h
 ·rename_i h0; rw [if_pos h0]; exact Dv.wrE_down h
 ·rename_i h0; rw [if_neg h0]; exact ih h
theorem wrEnd_down {g : Nat} {a : Dv × Int} (ha : a.2 ≠ 0 → a.1.down = true) (h : (wrEnd g a).2 ≠ 0) : (wrEnd g a).1.down = true := by
 unfold wrEnd at *
 split at h
 ·rename_i h0; rw [if_pos h0]; exact ha h0
 ·rename_i h0
  rw [if_neg h0]
  split at h
  ·rename_i h1; rw [if_pos h1]; exact Dv.syE_down h1
  ·rename_i h1
   rw [if_neg h1]
   split at h
   ·rename_i h2; rw [if_pos h2]; exact Dv.wrE_down h2
   ·rename_i h2
    rw [if_neg h2]
    exact Dv.syE_down h
theorem wrRoot_down {s : Dv} {l : List (Nat × ByteArray)} {r : RootP} (he : (encRt (min (s.safe.length : Int) 16384) r).2 = 0) (h : (wrRoot s l r).2 ≠ 0) : (wrRoot s l r).1.down = true := by
 unfold wrRoot at *
 rw [if_neg (by rw [he]; decide)] at h ⊢
 exact wrEnd_down (wrAll_down _) h
theorem Dv.wrE_wait {s : Dv} {i : Nat} {y : ByteArray} {p : Nat × ByteArray} (h : p ∈ (s.wrE i y).1.wait) : p ∈ s.wait ∨ p = (i, y) := by
 unfold Dv.wrE at h
 split at h
 ·exact .inl h
 ·rcases List.mem_append.1 (show p ∈ s.wait ++ [(i, y)] from h) with h | h
  ·exact .inl h
  ·exact .inr (List.mem_singleton.1 h)
theorem Dv.syE_wait {s : Dv} {p : Nat × ByteArray} (h : p ∈ s.syE.1.wait) : p ∈ s.wait := by
 unfold Dv.syE at h
 split at h
 ·exact h
 ·split at h
  ·exact h
  ·exact absurd h (List.not_mem_nil)
theorem wrAll_wait {s : Dv} {p : Nat × ByteArray} : ∀ l : List (Nat × ByteArray), p ∈ (wrAll s l).1.wait → p ∈ s.wait ∨ p ∈ l := by
 refine snoc_ind (P := fun l => p ∈ (wrAll s l).1.wait → p ∈ s.wait ∨ p ∈ l) (fun h => .inl h) ?_
 intro l q ih h
 have e : wrAll s (l ++ [q]) = wrStep (wrAll s l) q := by unfold wrAll; rw [List.foldl_append]; rfl
 rw [e] at h
 unfold wrStep at h
 split at h
 ·rcases Dv.wrE_wait h with h | h
  ·exact (ih h).imp id (List.mem_append_left _)
  ·exact .inr (List.mem_append_right _ (by rw [h]; exact List.mem_cons_self))
 ·exact (ih h).imp id (List.mem_append_left _)
theorem wrEnd_wait {g : Nat} {a : Dv × Int} {p : Nat × ByteArray} (h : p ∈ (wrEnd g a).1.wait) : p ∈ a.1.wait ∨ p = (slotOf g, headB g) := by
 unfold wrEnd at h
 split at h
 ·exact .inl h
 ·split at h
  ·exact .inl (Dv.syE_wait h)
  ·split at h
   ·exact (Dv.wrE_wait h).imp Dv.syE_wait id
   ·exact (Dv.wrE_wait (Dv.syE_wait h)).imp Dv.syE_wait id
theorem wrRoot_wait {s : Dv} {l : List (Nat × ByteArray)} {r : RootP} {p : Nat × ByteArray} (h : p ∈ (wrRoot s l r).1.wait) : p ∈ s.wait ∨ p ∈ toWrite s l r ∨ p = (slotOf r.gen, headB r.gen) := by
 unfold wrRoot at h
 split at h
 ·exact .inl h
 ·rcases wrEnd_wait h with h | h
  ·exact (wrAll_wait _ h).imp id .inl
  ·exact .inr (.inr h)
theorem Dv.wrE_len (s : Dv) (i : Nat) (y : ByteArray) : (s.wrE i y).1.safe.length = s.safe.length := by unfold Dv.wrE; split <;> rfl
theorem Dv.syE_len (s : Dv) : s.syE.1.safe.length = s.safe.length := by
 unfold Dv.syE
 split
 ·rfl
 ·split
  ·rfl
  ·exact setAll_length _ _
theorem wrAll_len (s : Dv) : ∀ l : List (Nat × ByteArray), (wrAll s l).1.safe.length = s.safe.length := by
 refine snoc_ind (P := fun l => (wrAll s l).1.safe.length = s.safe.length) rfl ?_
 intro l p ih
 have e : wrAll s (l ++ [p]) = wrStep (wrAll s l) p := by unfold wrAll; rw [List.foldl_append]; rfl
 rw [e]
 unfold wrStep
 split
 ·rw [Dv.wrE_len, ih]
 ·exact ih
theorem wrEnd_len (g : Nat) (a : Dv × Int) : (wrEnd g a).1.safe.length = a.1.safe.length := by
 unfold wrEnd
 split
 ·rfl
 ·split
  ·exact Dv.syE_len _
  ·split
   ·rw [Dv.wrE_len, Dv.syE_len]
   ·rw [Dv.syE_len, Dv.wrE_len, Dv.syE_len]
theorem wrRoot_len (s : Dv) (l : List (Nat × ByteArray)) (r : RootP) : (wrRoot s l r).1.safe.length = s.safe.length := by
 unfold wrRoot
 split
 ·rfl
 ·rw [wrEnd_len, wrAll_len]
structure Kp (N T : Nat) (x : Fs) (s : Dv) : Prop where
 len : s.safe.length = N
 hand : HK N T x.hand
 safe : May (N : Int) x.safe
 wait : s.wait = []
theorem Kp.mono (h : Kp N T x s) (hT : T ≤ T') : Kp N T' x s := ⟨h.len, h.hand.mono hT, h.safe, h.wait⟩
theorem Kp.commit (h : Kp N T x s) (hd : x.dead s = false) (hT : T ≤ 4611686018427387904) (hN1 : 40 ≤ N) (hN : N ≤ 16384) :
  (∀ p ∈ (x.commitE s).1.2.wait, ¬ (x.safe.gen % 2 * 16 ≤ p.1 ∧ p.1 < x.safe.gen % 2 * 16 + 16) ∧ ((p.1 : Nat) : Int) ∉ flatB x.safe.files) ∧ May (N : Int) (x.commitE s).1.1.safe ∧ (x.commitE s).1.2.safe.length = N ∧ (x.commitE s).1.2.epoch = s.epoch ∧ (x.commitE s).1.1.epoch = x.epoch ∧
   ((x.commitE s).1.2.down = true ∨ Kp N T (x.commitE s).1.1 (x.commitE s).1.2) := by
 have hsame : (∀ p ∈ s.wait, ¬ (x.safe.gen % 2 * 16 ≤ p.1 ∧ p.1 < x.safe.gen % 2 * 16 + 16) ∧ ((p.1 : Nat) : Int) ∉ flatB x.safe.files) := fun p hp => by rw [h.wait] at hp; exact (List.not_mem_nil hp).elim
 unfold Fs.commitE
 rw [if_neg (by rw [hd]; exact Bool.false_ne_true)]
 split
 ·exact ⟨hsame, h.safe, h.len, rfl, rfl, .inr h⟩
 ·cases hp : x.planE s with
  | none => exact ⟨hsame, h.safe, h.len, rfl, rfl, .inr h⟩
  | some lr =>
   obtain ⟨l, r⟩ := lr
   have po := planE_ok h.len (h.hand.ok hT) hp
   have hmin : min ((s.safe.length : Nat) : Int) 16384 = (N : Int) := by rw [h.len]; omega
   have he : (encRt (min (s.safe.length : Int) 16384) r).2 = 0 := by have := po.fits; rw [h.len]; exact this
   have hmr : May (N : Int) r := by have := (encRt_yes he).1; rwa [hmin] at this
   have hw : ∀ p ∈ (wrRoot s l r).1.wait, ¬ (x.safe.gen % 2 * 16 ≤ p.1 ∧ p.1 < x.safe.gen % 2 * 16 + 16) ∧ ((p.1 : Nat) : Int) ∉ flatB x.safe.files := by
    have hlow : ∀ q ∈ flatB x.safe.files, (32 : Int) ≤ q := by
     have := (h.safe.seen x.safe.files.length (Nat.le_refl _)).lo
     rwa [List.take_length] at this
    intro p hp
    rcases wrRoot_wait hp with h1 | h1 | h1
    ·exact hsame p h1
    ·unfold toWrite at h1
     rcases List.mem_append.1 h1 with h2 | h2
     ·have h3 := (po.at' p h2).2.2
      have h4 := freeU_pos h3
      exact ⟨by omega, h4.2.2⟩
     ·unfold placesK at h2
      rw [List.mem_mapIdx] at h2
      obtain ⟨i, hi, rfl⟩ := h2
      have h15 : (piecesOf (encB s r)).length ≤ 15 := piecesOf_few he
      have hg := po.gen
      unfold slotOf
      refine ⟨by show ¬ (_ ≤ r.gen % 2 * 16 + (i + 1) ∧ r.gen % 2 * 16 + (i + 1) < _); omega, fun hq => ?_⟩
      have := hlow _ hq
      have h5 : ((r.gen % 2 * 16 + (i + 1) : Nat) : Int) < 32 := by omega
      exact absurd this (by show ¬ (32 : Int) ≤ ((r.gen % 2 * 16 + (i + 1) : Nat) : Int); omega)
    ·rw [h1]
     have hg := po.gen
     unfold slotOf
     refine ⟨by show ¬ (_ ≤ r.gen % 2 * 16 ∧ r.gen % 2 * 16 < _); omega, fun hq => ?_⟩
     have := hlow _ hq
     exact absurd this (by show ¬ (32 : Int) ≤ ((r.gen % 2 * 16 : Nat) : Int); omega)
   simp only
   split
   ·rename_i hne
    refine ⟨hw, ?_, by show (wrRoot s l r).1.safe.length = N; rw [wrRoot_len, h.len], wrRoot_epoch s l r, ?_, .inl (wrRoot_down he hne)⟩
    ·show May (N : Int) (x.writeE s l r).safe
     unfold Fs.writeE
     rw [if_neg hne]
     exact h.safe
    ·show (x.writeE s l r).epoch = x.epoch
     unfold Fs.writeE
     rw [if_neg hne]
   ·rename_i hne
    have he0 : (wrRoot s l r).2 = 0 := by simpa using hne
    obtain ⟨u1, u2⟩ := wrRoot_up he0
    have hwr : x.writeE s l r = { x with safe := r } := by unfold Fs.writeE; rw [if_pos he0]
    have hal : ({ x with safe := r } : Fs).dead (wrRoot s l r).1 = false := by
     unfold Fs.dead at hd ⊢
     simp only [Bool.or_eq_false_iff] at hd ⊢
     exact ⟨u1, by rw [wrRoot_epoch]; exact hd.2⟩
    have hrv : (x.writeE s l r).revertE (wrRoot s l r).1 = ({ x with safe := r } : Fs).revert := by
     rw [hwr]
     unfold Fs.revertE
     rw [if_neg (by rw [hal]; exact Bool.false_ne_true)]
    simp only [hrv]
    exact ⟨hw, hmr, by rw [wrRoot_len, h.len], wrRoot_epoch s l r, rfl, .inr ⟨by rw [wrRoot_len, h.len], (HK.revert hmr hN).mono (Nat.zero_le _), hmr, u2⟩⟩
end Pl
section
open Go.RowKit Go.Shelf
attribute [local go_sem] Oper.semAt_some
set_option maxHeartbeats 1600000 in
theorem decode_refused (S : ByteArray) (N0 : Int) (w : World) (hS : S.size ≤ 9223372036854775000) (he : (Pl.takeFrame S.data.toList).2.2 ≠ 0) :
  Calls Tryz.prog 51 #[.string S, .int .i64 N0] w (DecEnds w none) := by
 have P1 := Lib.hid (fun w => takeFrame_big S w hS)
 generalize Pl.takeFrame S.data.toList = t at P1 he
 obtain ⟨⟨kd, ld⟩, n, E⟩ := t
 unfold tupF at P1
 simp only at P1 he
 have hne : ((E : Int) != 0) = true := by simp; omega
 have hb0 : Below w.heap.size w ((w.alloc (.cells #[.int .u64 0, .slice none 0 0] 71)).alloc (.cells #[.int .i64 0] 25)) := ((Below.refl _ _).alloc (Nat.le_refl _) _).alloc (by rw [World.size_alloc]; omega) _
 have hR0 : ((w.alloc (.cells #[.int .u64 0, .slice none 0 0] 71)).alloc (.cells #[.int .i64 0] 25)).heap[w.heap.size]? = some (.cells #[.int .u64 0, .slice none 0 0] 71 (0, 0)) := by
  exact (((Below.refl _ (w.alloc (.cells #[.int .u64 0, .slice none 0 0] 71))).alloc (Nat.le_refl _) _).block w.heap.size (by rw [World.size_alloc]; omega)).trans (World.alloc_heap_new _ _)
 have hE0 : ((w.alloc (.cells #[.int .u64 0, .slice none 0 0] 71)).alloc (.cells #[.int .i64 0] 25)).heap[w.heap.size + 1]? = some (.cells #[.int .i64 0] 25 (0, 0)) := by
  have := World.alloc_heap_new (w.alloc (.cells #[.int .u64 0, .slice none 0 0] 71)) (.cells #[.int .i64 0] 25)
  rwa [World.size_alloc] at this
 go_enter_defers Tryz.func51, Tryz.ntmps51
 go_wp2_with fail
 generalize ((w.alloc (.cells #[.int .u64 0, .slice none 0 0] 71)).alloc (.cells #[.int .i64 0] 25)) = W0 at *
 refine (P1.out W0).mono ?_
 rintro e w1 ⟨rfl, b1⟩
 have hz1 := (Array.getElem?_eq_some_iff.1 hE0).1
 have hR1 := (b1.block w.heap.size (by omega)).trans hR0
 have hE1 := (b1.block (w.heap.size + 1) (by omega)).trans hE0
 clear hR0 hE0
 go_upto_region 3 with (fail)
 have hb2 : Below w.heap.size w w1 := hb0.trans (b1.mono (by omega))
 have hb3 := hb2.alloc hb2.size (.cells #[.int .u8 (kd.toNat : Int), .string ⟨ld.toArray⟩] 128)
 have hR2 := (show Blk w1 w.heap.size #[.int .u64 0, .slice none 0 0] 71 from hR1).alloc (.cells #[.int .u8 (kd.toNat : Int), .string ⟨ld.toArray⟩] 128)
 have hE2 := (show Blk w1 (w.heap.size + 1) #[.int .i64 0] 25 from hE1).alloc (.cells #[.int .u8 (kd.toNat : Int), .string ⟨ld.toArray⟩] 128)
 clear hb0 hb2 hR1 hE1 b1 hz1 P1
 generalize w1.alloc (.cells #[.int .u8 (kd.toNat : Int), .string ⟨ld.toArray⟩] 128) = w2 at hb3 hR2 hE2 ⊢
 have c0 : w2.cell? ⟨w.heap.size, 0, none⟩ = some (.int .u64 0) := by simp [hR2.cell]
 have c1 : w2.cell? ⟨w.heap.size, 1, none⟩ = some (.slice none 0 0) := by simp [hR2.cell]
 have f0 := hR2.frozen 0
 have f1 := hR2.frozen 1
 have d0 : w2.cell? ⟨w.heap.size + 1, 0, none⟩ = some (.int .i64 0) := by simp [hE2.cell]
 have g0 := hE2.frozen 0
 have hR3 := ((hR2.set 0 (.int .u64 0)).set 1 (.slice none 0 0)).keep (keep_set _ (w.heap.size + 1) 0 (.int .i64 3)) (by omega)
 have hE3 := (((hE2.keep (keep_set w2 w.heap.size 0 (.int .u64 0)) (by omega)).keep (keep_set _ w.heap.size 1 (.slice none 0 0)) (by omega))).set 0 (.int .i64 3)
 have hb4 := ((hb3.setCell (p := ⟨w.heap.size, 0, none⟩) (Nat.le_refl _) (.int .u64 0)).setCell (p := ⟨w.heap.size, 1, none⟩) (Nat.le_refl _) (.slice none 0 0)).setCell (p := ⟨w.heap.size + 1, 0, none⟩) (Nat.le_succ _) (.int .i64 3)
 have hend := Lib.hid (And.intro hR3 (And.intro hE3 hb4))
 clear hR3 hE3 hb4 hb3 hR2 hE2
 go_wp2_with fail
 obtain ⟨h1, h2, h3⟩ := hend.out
 unfold bodyPostD
 simp only [Leaves, settle]
 exact ⟨_, results_dec rfl rfl rfl h1 h2, h3, 0, none, 0, 0, 3, rfl, fun _ => by decide, fun r h => by cases h⟩
end
section
namespace Pl
theorem may1 (N : Int) : May N ⟨1, []⟩ := ⟨Nat.le_refl _, (by decide), Nat.zero_le _, fun i h => absurd h (Nat.not_lt_zero i), fun i h => absurd h (Nat.not_lt_zero i)⟩
def Free (s : Dv) : Prop := s.armed = 0 ∧ s.down = false
theorem Free.act {s : Dv} (h : Free s) : Free s.act := ⟨by show s.armed - 1 = 0; rw [h.1], by show (if s.armed = 0 then s.down else decide (s.armed = 1)) = false; rw [if_pos h.1]; exact h.2⟩
theorem Free.wrE {s : Dv} (h : Free s) (i : Nat) (y : ByteArray) : Free (s.wrE i y).1 ∧ (s.wrE i y).2 = 0 := by
 have h1 : Free (s.put i y).act := Free.act (s := s.put i y) ⟨h.1, h.2⟩
 unfold Dv.wrE
 rw [if_neg (by rw [h.2]; exact Bool.false_ne_true)]
 exact ⟨h1, Dv.err_up h1.2⟩
theorem Free.syE {s : Dv} (h : Free s) : Free s.syE.1 ∧ s.syE.2 = 0 := by
 have h1 := h.act
 unfold Dv.syE
 rw [if_neg (by rw [h.2]; exact Bool.false_ne_true), if_neg (by rw [h1.2]; exact Bool.false_ne_true)]
 exact ⟨⟨h1.1, h1.2⟩, rfl⟩
theorem Free.wrAll {s : Dv} (h : Free s) : ∀ l : List (Nat × ByteArray), Free (wrAll s l).1 ∧ (Pl.wrAll s l).2 = 0 := by
 refine snoc_ind (P := fun l => Free (Pl.wrAll s l).1 ∧ (Pl.wrAll s l).2 = 0) ⟨h, rfl⟩ ?_
 intro l p ih
 have e : Pl.wrAll s (l ++ [p]) = wrStep (Pl.wrAll s l) p := by unfold Pl.wrAll; rw [List.foldl_append]; rfl
 rw [e]
 unfold wrStep
 rw [if_pos ih.2]
 exact ih.1.wrE _ _
theorem Free.wrRoot {s : Dv} (h : Free s) {l : List (Nat × ByteArray)} {r : RootP} (he : (encRt (min (s.safe.length : Int) 16384) r).2 = 0) : Free (wrRoot s l r).1 ∧ (Pl.wrRoot s l r).2 = 0 := by
 obtain ⟨h1, h2⟩ := h.wrAll (toWrite s l r)
 unfold Pl.wrRoot wrEnd
 rw [if_neg (by rw [he]; decide), if_neg (by rw [h2]; decide)]
 obtain ⟨h3, h4⟩ := h1.syE
 rw [if_neg (by rw [h4]; decide)]
 obtain ⟨h5, h6⟩ := h3.wrE (slotOf r.gen) (headB r.gen)
 rw [if_neg (by rw [h6]; decide)]
 exact h5.syE
theorem enc1 (N : Int) : (encRt N ⟨1, []⟩).2 = 0 := by
 have h1 := putUint_length64 1 (by omega)
 have h2 := putUint_length64 0 (by omega)
 have h3 : (rootBytes ⟨1, []⟩).length ≤ 20 := by
  show (putUint 1 ++ putUint 0 ++ []).length ≤ 20
  rw [List.append_nil, List.length_append]
  omega
 have h4 := putUint_length64 (rootBytes ⟨1, []⟩).length (by omega)
 have h5 : (frame 1 (rootBytes ⟨1, []⟩)).length ≤ 40 := by
  rw [frame_length]
  unfold putText
  rw [List.length_append]
  omega
 unfold encRt
 rw [mayB_yes (may1 N), if_pos rfl]
 unfold encOf
 rw [if_neg (by omega)]
theorem new_free (n : Nat) : Free (Dv.new n) := ⟨rfl, rfl⟩
end Pl
noncomputable def Pl.dv1 (n : Nat) : Pl.Dv := (Pl.wrRoot (Pl.Dv.new n) [] ⟨1, []⟩).1
def Pl.fs1 : Pl.Fs := Pl.Fs.revert ⟨0, ⟨1, []⟩, [], false⟩
end
end Go.Proofs.YtogblcdefbnbeaaGreat
