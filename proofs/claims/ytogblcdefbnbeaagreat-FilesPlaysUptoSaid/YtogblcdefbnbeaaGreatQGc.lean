
/- Plain: a root, whether it may be, its runs, its bytes. -/
import Derived.Test.YtogblcdefbnbeaaGreatQGa
import Derived.Test.YtogblcdefbnbeaaGreatQGu
import Derived.Maps.OwnSet
set_option maxRecDepth 100000
namespace Go.Proofs.YtogblcdefbnbeaaGreat
namespace Pl
structure FileP where
 name : ByteArray
 size : Int
 blocks : List Int
structure RootP where
 gen : Nat
 files : List FileP
def upR : Int → List Int → Nat
 | _, [] => 0
 | a, b :: l => if b = a then upR (a + 1) l + 1 else 0
theorem upR_le : ∀ (a : Int) (l : List Int), upR a l ≤ l.length
 | _, [] => Nat.le_refl _
 | a, b :: l => by
  unfold upR
  split
  ·have := upR_le (a + 1) l; simp; omega
  ·omega
theorem upR_get : ∀ (a : Int) (l : List Int) (j : Nat) (h : j < l.length), j < upR a l → l[j] = a + (j : Int)
 | _, [], j, h, _ => by simp at h
 | a, b :: l, 0, _, h2 => by
  unfold upR at h2
  split at h2
  ·next e => simp [e]
  ·omega
 | a, b :: l, j + 1, h, h2 => by
  unfold upR at h2
  split at h2
  ·have := upR_get (a + 1) l j (by simpa using h) (by omega)
   simp only [List.getElem_cons_succ]
   rw [this]; omega
  ·omega
theorem upR_stop : ∀ (a : Int) (l : List Int), l[upR a l]? ≠ some (a + (upR a l : Int))
 | _, [] => by simp
 | a, b :: l => by
  unfold upR
  split
  ·next e =>
   have := upR_stop (a + 1) l
   intro h
   apply this
   rw [List.getElem?_cons_succ] at h
   rw [h]
   congr 1
   omega
  ·next e =>
   intro h
   apply e
   simpa using h
theorem upR_lt {a : Int} {l : List Int} {j : Nat} (h : j < l.length) (hj : j ≤ upR a l) : l[j] = a + (j : Int) ↔ j < upR a l := by
 constructor
 ·intro e
  rcases Nat.lt_or_eq_of_le hj with h1 | h1
  ·exact h1
  ·exfalso
   apply upR_stop a l
   rw [← h1, List.getElem?_eq_getElem h, e]
 ·exact upR_get a l j h
theorem upR_pos (a : Int) (l : List Int) : 1 ≤ upR a (a :: l) := by unfold upR; simp
def runsF : Nat → List Int → List (Int × Nat)
 | 0, _ => []
 | _ + 1, [] => []
 | f + 1, a :: l => (a, upR a (a :: l)) :: runsF f ((a :: l).drop (upR a (a :: l)))
def runsOf (l : List Int) : List (Int × Nat) := runsF l.length l
theorem runsF_enough : ∀ (f g : Nat) (l : List Int), l.length ≤ f → l.length ≤ g → runsF f l = runsF g l
 | 0, 0, _, _, _ => rfl
 | 0, g + 1, l, h, _ => by
  obtain rfl : l = [] := List.length_eq_zero_iff.1 (by omega)
  rfl
 | f + 1, 0, l, _, h => by
  obtain rfl : l = [] := List.length_eq_zero_iff.1 (by omega)
  rfl
 | f + 1, g + 1, [], _, _ => rfl
 | f + 1, g + 1, a :: l, h1, h2 => by
  have hp := upR_pos a l
  unfold runsF
  rw [runsF_enough f g]
  ·simp only [List.length_drop, List.length_cons] at *; omega
  ·simp only [List.length_drop, List.length_cons] at *; omega
theorem runsOf_nil : runsOf [] = [] := rfl
theorem runsOf_cons (a : Int) (l : List Int) : runsOf (a :: l) = (a, upR a (a :: l)) :: runsOf ((a :: l).drop (upR a (a :: l))) := by
 have hp := upR_pos a l
 unfold runsOf
 rw [List.length_cons, runsF]
 congr 1
 exact runsF_enough _ _ _ (by simp only [List.length_drop, List.length_cons]; omega) (Nat.le_refl _)
theorem runsOf_drop {l : List Int} {i : Nat} (h : i < l.length) : runsOf (l.drop i) = (l[i], upR l[i] (l.drop i)) :: runsOf (l.drop (i + upR l[i] (l.drop i))) := by
 have e : l.drop i = l[i] :: l.drop (i + 1) := List.drop_eq_getElem_cons h
 rw [e, runsOf_cons, ← e, List.drop_drop]
theorem upR_drop_pos {l : List Int} {i : Nat} (h : i < l.length) : 1 ≤ upR l[i] (l.drop i) := by
 rw [List.drop_eq_getElem_cons h]
 exact upR_pos _ _
theorem runsOf_length (n : Nat) : ∀ (l : List Int), l.length ≤ n → (runsOf l).length ≤ l.length := by
 induction n with
 | zero => intro l h; obtain rfl : l = [] := List.length_eq_zero_iff.1 (by omega); simp [runsOf_nil]
 | succ n ih =>
  intro l h
  cases l with
  | nil => simp [runsOf_nil]
  | cons a l =>
   have hp := upR_pos a l
   rw [runsOf_cons, List.length_cons]
   have := ih ((a :: l).drop (upR a (a :: l))) (by simp only [List.length_drop, List.length_cons] at *; omega)
   simp only [List.length_drop, List.length_cons] at *
   omega
def runBytes (x : Int × Nat) : List UInt8 := putUint x.1.toNat ++ putUint x.2
def fileBytes (f : FileP) : List UInt8 := putText f.name.data.toList ++ putUint f.size.toNat ++ putUint (runsOf f.blocks).length ++ (runsOf f.blocks).flatMap runBytes
def rootBytes (r : RootP) : List UInt8 := putUint r.gen ++ putUint r.files.length ++ r.files.flatMap fileBytes
def takesB (n : Int) : Int := n / 256 + if 0 < n % 256 then 1 else 0
def flatB (fs : List FileP) : List Int := fs.flatMap (·.blocks)
def blkOk (N : Int) (seen : List Int) (b : Int) : Prop := 32 ≤ b ∧ b < N ∧ b ∉ seen
def headOk (fs : List FileP) (i : Nat) (h : i < fs.length) : Prop :=
 (1 ≤ fs[i].name.size ∧ fs[i].name.size ≤ 32) ∧ (∀ h0 : 0 < i, Op.bytesLess (fs[i - 1]'(by omega)).name.toList fs[i].name.toList = true) ∧ 0 ≤ fs[i].size ∧ (fs[i].blocks.length : Int) = takesB fs[i].size
structure May (N : Int) (r : RootP) : Prop where
 g1 : 1 ≤ r.gen
 g2 : r.gen ≤ 4611686018427387904
 many : r.files.length ≤ 64
 head : ∀ i (h : i < r.files.length), headOk r.files i h
 blk : ∀ i (h : i < r.files.length) k (hk : k < r.files[i].blocks.length), blkOk N (flatB (r.files.take i) ++ r.files[i].blocks.take k) r.files[i].blocks[k]
theorem flatB_take {fs : List FileP} {i : Nat} (h : i < fs.length) : flatB (fs.take (i + 1)) = flatB (fs.take i) ++ fs[i].blocks := by
 unfold flatB
 rw [List.take_succ_eq_append_getElem h, List.flatMap_append]
 simp
structure Seen (N : Int) (l : List Int) : Prop where
 nodup : l.Nodup
 lo : ∀ b ∈ l, 32 ≤ b
 hi : ∀ b ∈ l, b < N
theorem Seen.nil (N : Int) : Seen N [] := ⟨List.nodup_nil, fun _ h => by (cases h), fun _ h => by (cases h)⟩
theorem Seen.snoc {N : Int} {l : List Int} {b : Int} (h : Seen N l) (hb : blkOk N l b) : Seen N (l ++ [b]) := by
 refine ⟨?_, fun x hx => ?_, fun x hx => ?_⟩
 ·rw [List.nodup_append]
  refine ⟨h.nodup, by simp, fun x hx y hy e => ?_⟩
  have := List.mem_singleton.1 hy
  subst this e
  exact hb.2.2 hx
 ·rcases List.mem_append.1 hx with h1 | h1
  ·exact h.lo x h1
  ·rw [List.mem_singleton.1 h1]; exact hb.1
 ·rcases List.mem_append.1 hx with h1 | h1
  ·exact h.hi x h1
  ·rw [List.mem_singleton.1 h1]; exact hb.2.1
theorem nodup_bound : ∀ (n : Nat) (l : List Nat), l.Nodup → (∀ x ∈ l, x < n) → l.length ≤ n
 | 0, [], _, _ => Nat.le_refl _
 | 0, x :: l, _, h => absurd (h x (by simp)) (by omega)
 | n + 1, l, hd, h => by
  have h1 : (l.filter (· ≠ n)).length ≤ n := nodup_bound n _ (hd.filter _) (fun x hx => by
   rw [List.mem_filter] at hx
   have := h x hx.1
   have : x ≠ n := by simpa using hx.2
   omega)
  have h2 : l.length ≤ (l.filter (· ≠ n)).length + 1 := by
   clear h h1
   induction l with
   | nil => simp
   | cons x l ih =>
    rw [List.nodup_cons] at hd
    by_cases e : x = n
    ·subst e
     rw [List.filter_cons_of_neg (by simp)]
     have : l.filter (· ≠ x) = l := by
      rw [List.filter_eq_self]
      intro y hy
      have : y ≠ x := fun e => hd.1 (e ▸ hy)
      simpa using this
     rw [this]
     simp
    ·rw [List.filter_cons_of_pos (by simpa using e)]
     have := ih hd.2
     simp only [List.length_cons]
     omega
  omega
theorem Seen.length {N : Int} {l : List Int} (h : Seen N l) (hN : N ≤ 16384) : l.length ≤ 16384 := by
 have h1 := nodup_bound 16384 (l.map Int.toNat) (by
  rw [List.nodup_iff_pairwise_ne, List.pairwise_map]
  refine h.nodup.imp_of_mem (fun {a b} ha hb hab e => hab ?_)
  have h1 := h.lo a ha
  have h2 := h.lo b hb
  omega) (fun x hx => by
   obtain ⟨y, hy, rfl⟩ := List.mem_map.1 hx
   have h1 := h.lo y hy
   have h2 := h.hi y hy
   omega)
 simpa using h1
theorem May.seen {N : Int} {r : RootP} (h : May N r) : ∀ i (hi : i ≤ r.files.length), Seen N (flatB (r.files.take i))
 | 0, _ => by simpa [flatB] using Seen.nil N
 | i + 1, hi => by
  have hlt : i < r.files.length := by omega
  rw [flatB_take hlt]
  have h0 := h.seen i (by omega)
  have : ∀ k, k ≤ r.files[i].blocks.length → Seen N (flatB (r.files.take i) ++ r.files[i].blocks.take k) := by
   intro k
   induction k with
   | zero => intro _; simpa using h0
   | succ k ih =>
    intro hk
    have hk' : k < r.files[i].blocks.length := by omega
    rw [List.take_succ_eq_append_getElem hk', ← List.append_assoc]
    exact (ih (by omega)).snoc (h.blk i hlt k hk')
  simpa using this _ (Nat.le_refl _)
theorem May.blocks {N : Int} {r : RootP} (h : May N r) (hN : N ≤ 16384) {f : FileP} (hf : f ∈ r.files) : f.blocks.length ≤ 16384 ∧ (∀ b ∈ f.blocks, 32 ≤ b ∧ b < N) ∧ 0 ≤ f.size ∧ f.size ≤ 4194304 ∧ f.name.size ≤ 32 := by
 obtain ⟨i, hi, rfl⟩ := List.mem_iff_getElem.1 hf
 have h1 := h.seen (i + 1) hi
 rw [flatB_take hi] at h1
 have h2 := h1.length hN
 rw [List.length_append] at h2
 have h3 := h.head i hi
 have h4 := h3.2.2.2
 unfold takesB at h4
 refine ⟨by omega, fun b hb => ⟨h1.lo b (by simp [hb]), h1.hi b (by simp [hb])⟩, h3.2.2.1, ?_, h3.1.2⟩
 have := h3.2.2.1
 split at h4 <;> omega
end Pl
namespace Pl
structure Dv where
 safe : List ByteArray
 wait : List (Nat × ByteArray)
 down : Bool
 armed : Nat
 acts : Nat
 epoch : Nat
def Dv.act (s : Dv) : Dv := { s with acts := s.acts + 1, armed := s.armed - 1, down := if s.armed = 0 then s.down else decide (s.armed = 1) }
def Dv.put (s : Dv) (i : Nat) (x : ByteArray) : Dv := { s with wait := s.wait ++ [(i, x)] }
def setAll (l : List ByteArray) (w : List (Nat × ByteArray)) : List ByteArray := w.foldl (fun l p => l.set p.1 p.2) l
def Dv.flush (s : Dv) : Dv := { s with safe := setAll s.safe s.wait, wait := [] }
def Dv.arm (s : Dv) (n : Int) : Dv := { s with armed := n.toNat }
def tear (a b : ByteArray) (n : Nat) : ByteArray := a.extract 0 n ++ b.extract n b.size
def crash1 (keep : List Bool) (torn : Int) (n : Nat) (k : Nat) (l : List ByteArray) (p : Nat × ByteArray) : List ByteArray :=
 if (k : Int) = torn then l.set p.1 (tear p.2 (l.getD p.1 .empty) n) else if keep.getD k false then l.set p.1 p.2 else l
def crashN (keep : List Bool) (torn : Int) (n : Nat) (w : List (Nat × ByteArray)) : Nat → List ByteArray → List ByteArray
 | 0, l => l
 | m + 1, l => match w[m]? with
  | some p => crash1 keep torn n m (crashN keep torn n w m l) p
  | none => crashN keep torn n w m l
def Dv.crash (s : Dv) (keep : List Bool) (torn : Int) (n : Nat) : Dv :=
 { safe := crashN keep torn n s.wait s.wait.length s.safe, wait := [], down := false, armed := 0, acts := s.acts, epoch := s.epoch + 1 }
def lastW (w : List (Nat × ByteArray)) (i : Nat) : Option ByteArray := (w.reverse.find? fun p => p.1 == i).map (·.2)
theorem crashN_succ {keep : List Bool} {torn : Int} {n : Nat} {w : List (Nat × ByteArray)} {m : Nat} (h : m < w.length) (l : List ByteArray) : crashN keep torn n w (m + 1) l = crash1 keep torn n m (crashN keep torn n w m l) w[m] := by
 conv => lhs; unfold crashN
 rw [List.getElem?_eq_getElem h]
theorem crash1_torn {keep : List Bool} {torn : Int} {n k : Nat} {l : List ByteArray} {p : Nat × ByteArray} (h : (k : Int) = torn) : crash1 keep torn n k l p = l.set p.1 (tear p.2 (l.getD p.1 .empty) n) := by unfold crash1; rw [if_pos h]
theorem crash1_keep {keep : List Bool} {torn : Int} {n k : Nat} {l : List ByteArray} {p : Nat × ByteArray} (h : (k : Int) ≠ torn) (h2 : keep.getD k false = true) : crash1 keep torn n k l p = l.set p.1 p.2 := by unfold crash1; rw [if_neg h, if_pos h2]
theorem crash1_lose {keep : List Bool} {torn : Int} {n k : Nat} {l : List ByteArray} {p : Nat × ByteArray} (h : (k : Int) ≠ torn) (h2 : keep.getD k false = false) : crash1 keep torn n k l p = l := by unfold crash1; rw [if_neg h, if_neg (by rw [h2]; exact Bool.false_ne_true)]
theorem crash1_length (keep : List Bool) (torn : Int) (n k : Nat) (l : List ByteArray) (p : Nat × ByteArray) : (crash1 keep torn n k l p).length = l.length := by
 unfold crash1
 split
 ·simp
 ·split <;> simp
theorem crashN_length (keep : List Bool) (torn : Int) (n : Nat) (w : List (Nat × ByteArray)) (m : Nat) (l : List ByteArray) : (crashN keep torn n w m l).length = l.length := by
 induction m with
 | zero => rfl
 | succ m ih =>
  unfold crashN
  split
  ·rw [crash1_length, ih]
  ·exact ih
theorem setAll_length (w : List (Nat × ByteArray)) : ∀ l : List ByteArray, (setAll l w).length = l.length := by
 induction w with
 | nil => intro l; rfl
 | cons p w ih => intro l; show (setAll (l.set p.1 p.2) w).length = _; rw [ih]; simp
theorem setAll_snoc (l : List ByteArray) (w : List (Nat × ByteArray)) (p : Nat × ByteArray) : setAll l (w ++ [p]) = (setAll l w).set p.1 p.2 := by simp [setAll]
structure Dv.WF (s : Dv) : Prop where
 size : ∀ x ∈ s.safe, x.size = 256
 wait : ∀ p ∈ s.wait, p.1 < s.safe.length ∧ p.2.size = 256
theorem tear_size {a b : ByteArray} {n : Nat} (ha : a.size = 256) (hb : b.size = 256) (hn : n ≤ 256) : (tear a b n).size = 256 := by
 unfold tear
 rw [ByteArray.size_append, ByteArray.size_extract, ByteArray.size_extract]
 omega
theorem mem_set_of {l : List ByteArray} {i : Nat} {x y : ByteArray} (h : y ∈ l.set i x) : y ∈ l ∨ y = x := List.mem_or_eq_of_mem_set h
theorem setAll_size {w : List (Nat × ByteArray)} (hw : ∀ p ∈ w, p.2.size = 256) : ∀ {l : List ByteArray}, (∀ x ∈ l, x.size = 256) → ∀ x ∈ setAll l w, x.size = 256 := by
 induction w with
 | nil => intro l h; exact h
 | cons p w ih =>
  intro l h
  refine ih (fun q hq => hw q (List.mem_cons_of_mem _ hq)) (l := l.set p.1 p.2) (fun x hx => ?_)
  rcases mem_set_of hx with h1 | rfl
  ·exact h x h1
  ·exact hw p List.mem_cons_self
theorem crash1_size {keep : List Bool} {torn : Int} {n k : Nat} {l : List ByteArray} {p : Nat × ByteArray} (hn : n ≤ 256) (hp : p.1 < l.length ∧ p.2.size = 256) (h : ∀ x ∈ l, x.size = 256) : ∀ x ∈ crash1 keep torn n k l p, x.size = 256 := by
 intro x hx
 unfold crash1 at hx
 split at hx
 ·rcases mem_set_of hx with h1 | rfl
  ·exact h x h1
  ·refine tear_size hp.2 (h _ ?_) hn
   rw [List.getD_eq_getElem?_getD, List.getElem?_eq_getElem hp.1]
   exact List.getElem_mem hp.1
 ·split at hx
  ·rcases mem_set_of hx with h1 | rfl
   ·exact h x h1
   ·exact hp.2
  ·exact h x hx
theorem crashN_size {keep : List Bool} {torn : Int} {n : Nat} {w : List (Nat × ByteArray)} {l : List ByteArray} (hn : n ≤ 256) (hw : ∀ p ∈ w, p.1 < l.length ∧ p.2.size = 256) (h : ∀ x ∈ l, x.size = 256) (m : Nat) : ∀ x ∈ crashN keep torn n w m l, x.size = 256 := by
 induction m with
 | zero => exact h
 | succ m ih =>
  unfold crashN
  split
  ·rename_i p hp
   have := hw p (List.mem_of_getElem? hp)
   exact crash1_size hn (by rw [crashN_length]; exact this) ih
  ·exact ih
theorem Dv.WF.act {s : Dv} (h : s.WF) : s.act.WF := ⟨h.size, h.wait⟩
theorem Dv.WF.put {s : Dv} (h : s.WF) {i : Nat} {x : ByteArray} (hi : i < s.safe.length) (hx : x.size = 256) : (s.put i x).WF :=
 ⟨h.size, fun p hp => by
  rcases List.mem_append.1 hp with hp | hp
  ·exact h.wait p hp
  ·obtain rfl := List.mem_singleton.1 hp; exact ⟨hi, hx⟩⟩
theorem Dv.WF.flush {s : Dv} (h : s.WF) : s.flush.WF := ⟨setAll_size (fun p hp => (h.wait p hp).2) h.size, fun p hp => by cases hp⟩
theorem Dv.WF.arm {s : Dv} (h : s.WF) (n : Int) : (s.arm n).WF := ⟨h.size, h.wait⟩
theorem Dv.WF.crash {s : Dv} (h : s.WF) {keep : List Bool} {torn : Int} {n : Nat} (hn : n ≤ 256) : (s.crash keep torn n).WF := ⟨crashN_size hn h.wait h.size _, fun p hp => by cases hp⟩
end Pl
namespace Pl
theorem snoc_ind {α : Type} {P : List α → Prop} (h0 : P []) (h1 : ∀ l x, P l → P (l ++ [x])) (l : List α) : P l := by
 suffices h : ∀ n (l : List α), l.length = n → P l from h _ l rfl
 intro n
 induction n with
 | zero => intro l hl; rw [List.length_eq_zero_iff.1 hl]; exact h0
 | succ n ih =>
  intro l hl
  have hne : l ≠ [] := fun e => by rw [e] at hl; cases hl
  rw [← List.dropLast_concat_getLast hne]
  exact h1 _ _ (ih _ (by simp [hl]))
def Dv.err (s : Dv) : Int := if s.down = true then 4 else 0
theorem Dv.err_down {s : Dv} (h : s.down = true) : s.err = 4 := by unfold Dv.err; rw [if_pos h]
theorem Dv.err_up {s : Dv} (h : s.down = false) : s.err = 0 := by unfold Dv.err; rw [if_neg (by rw [h]; exact Bool.false_ne_true)]
theorem lastW_snoc (w : List (Nat × ByteArray)) (p : Nat × ByteArray) (i : Nat) : lastW (w ++ [p]) i = if p.1 = i then some p.2 else lastW w i := by
 unfold lastW
 rw [List.reverse_append]
 by_cases h : p.1 = i
 ·simp [h]
 ·have : (p.1 == i) = false := by simpa using h
  simp [h, this]
theorem lastW_mem {w : List (Nat × ByteArray)} {i : Nat} {x : ByteArray} (h : lastW w i = some x) : (i, x) ∈ w := by
 unfold lastW at h
 cases hf : w.reverse.find? fun p => p.1 == i with
 | none => rw [hf] at h; cases h
 | some p =>
  rw [hf] at h
  have h1 := List.find?_some hf
  have h2 := List.mem_of_find?_eq_some hf
  simp at h h1 h2
  obtain ⟨a, b⟩ := p
  simp at h h1
  subst h h1
  exact h2
def Dv.read (s : Dv) (i : Nat) : ByteArray := (lastW s.wait i).getD (s.safe.getD i .empty)
theorem Dv.WF.read {s : Dv} (h : s.WF) {i : Nat} (hi : i < s.safe.length) : (s.read i).size = 256 := by
 unfold Dv.read
 cases hl : lastW s.wait i with
 | none =>
  simp only [Option.getD_none, List.getD_eq_getElem?_getD, List.getElem?_eq_getElem hi, Option.getD_some]
  exact h.size _ (List.getElem_mem hi)
 | some x => exact (h.wait _ (lastW_mem hl)).2
end Pl
namespace Pl
def runL (x : Int × Nat) : List Int := (List.range x.2).map fun (k : Nat) => x.1 + (k : Int)
theorem runL_take {a : Int} {l : List Int} : runL (a, upR a l) = l.take (upR a l) := by
 apply List.ext_getElem
 ·have := upR_le a l
  simp [runL]; omega
 ·intro i h1 h2
  have hi : i < upR a l := by simpa [runL] using h1
  have hl := upR_le a l
  rw [List.getElem_take, upR_get a l i (by omega) hi]
  simp [runL]
theorem expand_runs : ∀ (n : Nat) (l : List Int), l.length ≤ n → (runsOf l).flatMap runL = l
 | 0, l, h => by
  obtain rfl : l = [] := List.length_eq_zero_iff.1 (by omega)
  rfl
 | n + 1, [], _ => rfl
 | n + 1, a :: l, h => by
  have hp := upR_pos a l
  rw [runsOf_cons, List.flatMap_cons, expand_runs n _ (by simp only [List.length_drop, List.length_cons] at *; omega), runL_take, List.take_append_drop]
theorem flat_take_succ {α β : Type} {f : α → List β} {l : List α} {i : Nat} (h : i < l.length) : (l.take (i + 1)).flatMap f = (l.take i).flatMap f ++ f l[i] := by
 rw [List.take_succ_eq_append_getElem h, List.flatMap_append]; simp
theorem flat_drop {α β : Type} {f : α → List β} {l : List α} {i : Nat} (h : i < l.length) : (l.drop i).flatMap f = f l[i] ++ (l.drop (i + 1)).flatMap f := by
 rw [List.drop_eq_getElem_cons h, List.flatMap_cons]
theorem flat_take_le {α β : Type} {f : α → List β} (l : List α) (i : Nat) : ((l.take i).flatMap f).length ≤ (l.flatMap f).length := by
 conv => rhs; rw [← List.take_append_drop i l, List.flatMap_append, List.length_append]
 omega
end Pl
namespace Pl
structure HF where
 blocks : List Int
 old : Nat
 added : ByteArray
instance : Inhabited HF := ⟨⟨[], 0, .empty⟩⟩
def HF.zero : HF := ⟨[], 0, .empty⟩
def HF.size (x : HF) : Nat := x.old + x.added.size
def hget (l : List (ByteArray × HF)) (nm : ByteArray) : Option HF := (l.find? fun p => p.1.data.toList == nm.data.toList).map (·.2)
def hdel (l : List (ByteArray × HF)) (nm : ByteArray) : List (ByteArray × HF) := l.filter fun p => !(p.1.data.toList == nm.data.toList)
def hins (x : ByteArray × HF) : List (ByteArray × HF) → List (ByteArray × HF)
 | [] => [x]
 | y :: r => if bytesBefore x.1.data.toList y.1.data.toList = true then x :: y :: r else y :: hins x r
def hput (l : List (ByteArray × HF)) (nm : ByteArray) (x : HF) : List (ByteArray × HF) := hins (nm, x) (hdel l nm)
def toE (p : ByteArray × HF) : Lit × DataW HF := (.string p.1.data.toList, .held p.2)
def toD (l : List (ByteArray × HF)) : DataW HF := .map (l.map toE)
theorem map_hins (x : ByteArray × HF) : ∀ l : List (ByteArray × HF), (hins x l).map toE = DataW.insert (toE x) (l.map toE)
 | [] => rfl
 | y :: r => by
  simp only [hins, List.map_cons, DataW.insert]
  have e : (toE x).1.before (toE y).1 = bytesBefore x.1.data.toList y.1.data.toList := rfl
  rw [e]
  split
  ·rfl
  ·rw [List.map_cons, map_hins x r]
theorem map_hdel (l : List (ByteArray × HF)) (nm : ByteArray) : (hdel l nm).map toE = (l.map toE).filter (fun p => !p.1.sameKey (.string nm.data.toList)) := by
 unfold hdel
 rw [List.filter_map]
 rfl
theorem toD_put (l : List (ByteArray × HF)) (nm : ByteArray) (x : HF) : toD (hput l nm x) = (toD l).put (.string nm.data.toList) (.held x) := by
 unfold toD hput
 rw [map_hins, map_hdel]
 rfl
theorem toD_del (l : List (ByteArray × HF)) (nm : ByteArray) : toD (hdel l nm) = (toD l).del (.string nm.data.toList) := by
 unfold toD
 rw [map_hdel]
 rfl
theorem toD_has (l : List (ByteArray × HF)) (nm : ByteArray) : Maps.has (toD l) (.string nm.data.toList) = (hget l nm).isSome := by
 unfold toD hget
 rw [Maps.has_eq, List.any_map, Option.isSome_map]
 induction l with
 | nil => rfl
 | cons p l ih =>
  simp only [List.any_cons, List.find?_cons, Function.comp]
  have e : (toE p).1.sameKey (.string nm.data.toList) = (p.1.data.toList == nm.data.toList) := rfl
  rw [e]
  cases p.1.data.toList == nm.data.toList
  ·simpa [Function.comp] using ih
  ·rfl
theorem toD_at (l : List (ByteArray × HF)) (nm : ByteArray) (z : HF) : (toD l).atKey (.string nm.data.toList) (.held z) = .held ((hget l nm).getD z) := by
 unfold toD hget
 simp only [DataW.atKey, List.find?_map]
 have e : (fun p : Lit × DataW HF => p.1.sameKey (.string nm.data.toList)) ∘ toE = fun p : ByteArray × HF => p.1.data.toList == nm.data.toList := rfl
 rw [e]
 cases l.find? (fun p : ByteArray × HF => p.1.data.toList == nm.data.toList) <;> rfl
theorem toD_size (l : List (ByteArray × HF)) : Maps.size (toD l) = l.length := by
 unfold toD
 rw [Maps.size_eq, List.length_map]
structure Fs where
 epoch : Nat
 safe : RootP
 hand : List (ByteArray × HF)
 changed : Bool
def Fs.dead (x : Fs) (s : Dv) : Bool := s.down || decide (s.epoch ≠ x.epoch)
def named (s : ByteArray) : Bool := decide (1 ≤ s.size ∧ s.size ≤ 32)
def Fs.create (x : Fs) (nm : ByteArray) : Fs × Int :=
 if named nm = false then (x, 1) else if (hget x.hand nm).isSome = true then (x, 7) else if 64 ≤ x.hand.length then (x, 5)
 else ({ x with hand := hput x.hand nm HF.zero, changed := true }, 0)
def Fs.append (x : Fs) (nm s : ByteArray) : Fs × Int :=
 match hget x.hand nm with
 | none => (x, 6)
 | some y => ({ x with hand := hput x.hand nm { y with added := y.added ++ s }, changed := x.changed || decide (0 < s.size) }, 0)
def Fs.rename (x : Fs) (nm to : ByteArray) : Fs × Int :=
 if named to = false then (x, 1) else
 match hget x.hand nm with
 | none => (x, 6)
 | some y => if nm.data.toList = to.data.toList then (x, 0) else ({ x with hand := hput (hdel x.hand nm) to y, changed := true }, 0)
def Fs.delete (x : Fs) (nm : ByteArray) : Fs × Int :=
 if (hget x.hand nm).isSome = false then (x, 6) else ({ x with hand := hdel x.hand nm, changed := true }, 0)
def handOf (r : RootP) : List (ByteArray × HF) := r.files.foldl (fun l y => hput l y.name ⟨y.blocks, y.size.toNat, .empty⟩) []
def Fs.revert (x : Fs) : Fs := { x with hand := handOf x.safe, changed := false }
def freeL (r : RootP) (n : Nat) : List Nat := (List.range n).filter fun b => decide (32 ≤ b) && !decide ((b : Int) ∈ r.files.flatMap (·.blocks))
end Pl
namespace Pl
def fb (n : Int) (i : Nat) : UInt8 := UInt8.ofNat ((n + ((i % 7 : Nat) : Int)) % 256).toNat
def fillL (n : Int) (many : Nat) : List UInt8 := (List.range many).map (fb n)
def filled (n : Int) (many : Nat) : ByteArray := ⟨(fillL n many).toArray⟩
def fillK (n : Int) (many k : Nat) : List UInt8 := (List.range k).map (fb n) ++ List.replicate (many - k) 0
end Pl
end Go.Proofs.YtogblcdefbnbeaaGreat
