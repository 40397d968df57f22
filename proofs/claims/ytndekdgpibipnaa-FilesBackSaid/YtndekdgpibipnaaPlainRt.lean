
/- Plain: a root, whether it may be, its runs, its bytes. -/
import Derived.Test.YtndekdgpibipnaaPlainL
import Derived.Test.YtndekdgpibipnaaBase
namespace Go.Proofs.Ytndekdgpibipnaa.Pl

structure FileP where
  name : ByteArray
  size : Int
  blocks : List Int
structure RootP where
  gen : Nat
  files : List FileP

/-- how many of a list's first ones are a, a + 1, .. -/
def upR : Int → List Int → Nat
  | _, [] => 0
  | a, b :: l => if b = a then upR (a + 1) l + 1 else 0
theorem upR_le : ∀ (a : Int) (l : List Int), upR a l ≤ l.length
  | _, [] => Nat.le_refl _
  | a, b :: l => by
    unfold upR
    split
    · have := upR_le (a + 1) l; simp; omega
    · omega
theorem upR_get : ∀ (a : Int) (l : List Int) (j : Nat) (h : j < l.length), j < upR a l → l[j] = a + (j : Int)
  | _, [], j, h, _ => by simp at h
  | a, b :: l, 0, _, h2 => by
    unfold upR at h2
    split at h2
    · next e => simp [e]
    · omega
  | a, b :: l, j + 1, h, h2 => by
    unfold upR at h2
    split at h2
    · have := upR_get (a + 1) l j (by simpa using h) (by omega)
      simp only [List.getElem_cons_succ]
      rw [this]; omega
    · omega
theorem upR_stop : ∀ (a : Int) (l : List Int), l[upR a l]? ≠ some (a + (upR a l : Int))
  | _, [] => by simp
  | a, b :: l => by
    unfold upR
    split
    · next e =>
      have := upR_stop (a + 1) l
      intro h
      apply this
      rw [List.getElem?_cons_succ] at h
      rw [h]
      congr 1
      omega
    · next e =>
      intro h
      apply e
      simpa using h
theorem upR_lt {a : Int} {l : List Int} {j : Nat} (h : j < l.length) (hj : j ≤ upR a l) : l[j] = a + (j : Int) ↔ j < upR a l := by
  constructor
  · intro e
    rcases Nat.lt_or_eq_of_le hj with h1 | h1
    · exact h1
    · exfalso
      apply upR_stop a l
      rw [← h1, List.getElem?_eq_getElem h, e]
  · exact upR_get a l j h
theorem upR_pos (a : Int) (l : List Int) : 1 ≤ upR a (a :: l) := by unfold upR; simp

/-- the runs of blocks -/
def runsF : Nat → List Int → List (Int × Nat)
  | 0, _ => []
  | _ + 1, [] => []
  | f + 1, a :: l => (a, upR a (a :: l)) :: runsF f ((a :: l).drop (upR a (a :: l)))
def runsOf (l : List Int) : List (Int × Nat) := runsF l.length l
theorem runsF_enough : ∀ (f g : Nat) (l : List Int), l.length ≤ f → l.length ≤ g → runsF f l = runsF g l
  | 0, 0, _, _, _ => rfl
  | 0, g + 1, l, h, _ => by
    obtain rfl : l = [] := List.length_eq_zero_iff.1 (by omega)
    rfl
  | f + 1, 0, l, _, h => by
    obtain rfl : l = [] := List.length_eq_zero_iff.1 (by omega)
    rfl
  | f + 1, g + 1, [], _, _ => rfl
  | f + 1, g + 1, a :: l, h1, h2 => by
    have hp := upR_pos a l
    unfold runsF
    rw [runsF_enough f g]
    · simp only [List.length_drop, List.length_cons] at *; omega
    · simp only [List.length_drop, List.length_cons] at *; omega
theorem runsOf_nil : runsOf [] = [] := rfl
theorem runsOf_cons (a : Int) (l : List Int) : runsOf (a :: l) = (a, upR a (a :: l)) :: runsOf ((a :: l).drop (upR a (a :: l))) := by
  have hp := upR_pos a l
  unfold runsOf
  rw [List.length_cons, runsF]
  congr 1
  exact runsF_enough _ _ _ (by simp only [List.length_drop, List.length_cons]; omega) (Nat.le_refl _)
theorem runsOf_drop {l : List Int} {i : Nat} (h : i < l.length) : runsOf (l.drop i) = (l[i], upR l[i] (l.drop i)) :: runsOf (l.drop (i + upR l[i] (l.drop i))) := by
  have e : l.drop i = l[i] :: l.drop (i + 1) := List.drop_eq_getElem_cons h
  rw [e, runsOf_cons, ← e, List.drop_drop]
theorem upR_drop_pos {l : List Int} {i : Nat} (h : i < l.length) : 1 ≤ upR l[i] (l.drop i) := by
  rw [List.drop_eq_getElem_cons h]
  exact upR_pos _ _
theorem runsOf_length (n : Nat) : ∀ (l : List Int), l.length ≤ n → (runsOf l).length ≤ l.length := by
  induction n with
  | zero => intro l h; obtain rfl : l = [] := List.length_eq_zero_iff.1 (by omega); simp [runsOf_nil]
  | succ n ih =>
    intro l h
    cases l with
    | nil => simp [runsOf_nil]
    | cons a l =>
      have hp := upR_pos a l
      rw [runsOf_cons, List.length_cons]
      have := ih ((a :: l).drop (upR a (a :: l))) (by simp only [List.length_drop, List.length_cons] at *; omega)
      simp only [List.length_drop, List.length_cons] at *
      omega

/-- a run as bytes, runs, a file, a root -/
def runBytes (x : Int × Nat) : List UInt8 := putUint x.1.toNat ++ putUint x.2
def fileBytes (f : FileP) : List UInt8 := putText f.name.data.toList ++ putUint f.size.toNat ++ putUint (runsOf f.blocks).length ++ (runsOf f.blocks).flatMap runBytes
def rootBytes (r : RootP) : List UInt8 := putUint r.gen ++ putUint r.files.length ++ r.files.flatMap fileBytes

/-- how many blocks so many bytes take -/
def takesB (n : Int) : Int := n / 256 + if 0 < n % 256 then 1 else 0
def flatB (fs : List FileP) : List Int := fs.flatMap (·.blocks)
def blkOk (N : Int) (seen : List Int) (b : Int) : Prop := 32 ≤ b ∧ b < N ∧ b ∉ seen
def headOk (fs : List FileP) (i : Nat) (h : i < fs.length) : Prop :=
  (1 ≤ fs[i].name.size ∧ fs[i].name.size ≤ 32) ∧ (∀ h0 : 0 < i, Op.bytesLess (fs[i - 1]'(by omega)).name.toList fs[i].name.toList = true) ∧ 0 ≤ fs[i].size ∧ (fs[i].blocks.length : Int) = takesB fs[i].size
structure May (N : Int) (r : RootP) : Prop where
  g1 : 1 ≤ r.gen
  g2 : r.gen ≤ 4611686018427387904
  many : r.files.length ≤ 64
  head : ∀ i (h : i < r.files.length), headOk r.files i h
  blk : ∀ i (h : i < r.files.length) k (hk : k < r.files[i].blocks.length), blkOk N (flatB (r.files.take i) ++ r.files[i].blocks.take k) r.files[i].blocks[k]

theorem flatB_take {fs : List FileP} {i : Nat} (h : i < fs.length) : flatB (fs.take (i + 1)) = flatB (fs.take i) ++ fs[i].blocks := by
  unfold flatB
  rw [List.take_succ_eq_append_getElem h, List.flatMap_append]
  simp
/-- what was seen so far is all different and in its bounds -/
structure Seen (N : Int) (l : List Int) : Prop where
  nodup : l.Nodup
  lo : ∀ b ∈ l, 32 ≤ b
  hi : ∀ b ∈ l, b < N
theorem Seen.nil (N : Int) : Seen N [] := ⟨List.nodup_nil, fun _ h => by (cases h), fun _ h => by (cases h)⟩
theorem Seen.snoc {N : Int} {l : List Int} {b : Int} (h : Seen N l) (hb : blkOk N l b) : Seen N (l ++ [b]) := by
  refine ⟨?_, fun x hx => ?_, fun x hx => ?_⟩
  · rw [List.nodup_append]
    refine ⟨h.nodup, by simp, fun x hx y hy e => ?_⟩
    have := List.mem_singleton.1 hy
    subst this e
    exact hb.2.2 hx
  · rcases List.mem_append.1 hx with h1 | h1
    · exact h.lo x h1
    · rw [List.mem_singleton.1 h1]; exact hb.1
  · rcases List.mem_append.1 hx with h1 | h1
    · exact h.hi x h1
    · rw [List.mem_singleton.1 h1]; exact hb.2.1
theorem nodup_bound : ∀ (n : Nat) (l : List Nat), l.Nodup → (∀ x ∈ l, x < n) → l.length ≤ n
  | 0, [], _, _ => Nat.le_refl _
  | 0, x :: l, _, h => absurd (h x (by simp)) (by omega)
  | n + 1, l, hd, h => by
    have h1 : (l.filter (· ≠ n)).length ≤ n := nodup_bound n _ (hd.filter _) (fun x hx => by
      rw [List.mem_filter] at hx
      have := h x hx.1
      have : x ≠ n := by simpa using hx.2
      omega)
    have h2 : l.length ≤ (l.filter (· ≠ n)).length + 1 := by
      clear h h1
      induction l with
      | nil => simp
      | cons x l ih =>
        rw [List.nodup_cons] at hd
        by_cases e : x = n
        · subst e
          rw [List.filter_cons_of_neg (by simp)]
          have : l.filter (· ≠ x) = l := by
            rw [List.filter_eq_self]
            intro y hy
            have : y ≠ x := fun e => hd.1 (e ▸ hy)
            simpa using this
          rw [this]
          simp
        · rw [List.filter_cons_of_pos (by simpa using e)]
          have := ih hd.2
          simp only [List.length_cons]
          omega
    omega
theorem Seen.length {N : Int} {l : List Int} (h : Seen N l) (hN : N ≤ 16384) : l.length ≤ 16384 := by
  have h1 := nodup_bound 16384 (l.map Int.toNat) (by
    rw [List.nodup_iff_pairwise_ne, List.pairwise_map]
    refine h.nodup.imp_of_mem (fun {a b} ha hb hab e => hab ?_)
    have h1 := h.lo a ha
    have h2 := h.lo b hb
    omega) (fun x hx => by
      obtain ⟨y, hy, rfl⟩ := List.mem_map.1 hx
      have h1 := h.lo y hy
      have h2 := h.hi y hy
      omega)
  simpa using h1
theorem May.seen {N : Int} {r : RootP} (h : May N r) : ∀ i (hi : i ≤ r.files.length), Seen N (flatB (r.files.take i))
  | 0, _ => by simpa [flatB] using Seen.nil N
  | i + 1, hi => by
    have hlt : i < r.files.length := by omega
    rw [flatB_take hlt]
    have h0 := h.seen i (by omega)
    have : ∀ k, k ≤ r.files[i].blocks.length → Seen N (flatB (r.files.take i) ++ r.files[i].blocks.take k) := by
      intro k
      induction k with
      | zero => intro _; simpa using h0
      | succ k ih =>
        intro hk
        have hk' : k < r.files[i].blocks.length := by omega
        rw [List.take_succ_eq_append_getElem hk', ← List.append_assoc]
        exact (ih (by omega)).snoc (h.blk i hlt k hk')
    simpa using this _ (Nat.le_refl _)
theorem May.blocks {N : Int} {r : RootP} (h : May N r) (hN : N ≤ 16384) {f : FileP} (hf : f ∈ r.files) : f.blocks.length ≤ 16384 ∧ (∀ b ∈ f.blocks, 32 ≤ b ∧ b < N) ∧ 0 ≤ f.size ∧ f.size ≤ 4194304 ∧ f.name.size ≤ 32 := by
  obtain ⟨i, hi, rfl⟩ := List.mem_iff_getElem.1 hf
  have h1 := h.seen (i + 1) hi
  rw [flatB_take hi] at h1
  have h2 := h1.length hN
  rw [List.length_append] at h2
  have h3 := h.head i hi
  have h4 := h3.2.2.2
  unfold takesB at h4
  refine ⟨by omega, fun b hb => ⟨h1.lo b (by simp [hb]), h1.hi b (by simp [hb])⟩, h3.2.2.1, ?_, h3.1.2⟩
  have := h3.2.2.1
  split at h4 <;> omega
end Go.Proofs.Ytndekdgpibipnaa.Pl
