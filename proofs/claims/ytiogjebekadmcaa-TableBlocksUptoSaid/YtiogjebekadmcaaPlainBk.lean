
/- Plain law: may versions stand in a block? what does one bear? Condition: none. -/
import Derived.Test.YtiogjebekadmcaaPlainTk
import Derived.Test.YtiogjebekadmcaaVers
namespace Go.Proofs.Ytiogjebekadmcaa.Pl

def mayB (x : Ver) : Bool := mayV x.key.data.toList x.val.data.toList x.seq x.del
def lessB (a b : Ver) : Bool := lessV a.key a.seq b.key b.seq
def chainB : List Ver → Bool
  | a :: b :: r => lessB a b && chainB (b :: r)
  | _ => true
/-- why versions have no block (0: they have one) -/
def riseC (l : List Ver) : Nat := if l.all mayB then (if chainB l then 0 else 8) else 1

theorem chainB_get {l : List Ver} (h : chainB l = true) : ∀ i (h1 : i + 1 < l.length), lessB (l[i]'(by omega)) l[i + 1] = true := by
  induction l with
  | nil => intro i h1; simp at h1
  | cons a r ih =>
    cases r with
    | nil => intro i h1; simp at h1
    | cons b r =>
      simp only [chainB, Bool.and_eq_true] at h
      intro i h1
      cases i with
      | zero => exact h.1
      | succ i => exact ih h.2 i (by simpa using h1)
theorem chainB_of {l : List Ver} (h : ∀ i (h1 : i + 1 < l.length), lessB (l[i]'(by omega)) l[i + 1] = true) : chainB l = true := by
  induction l with
  | nil => rfl
  | cons a r ih =>
    cases r with
    | nil => rfl
    | cons b r =>
      simp only [chainB, Bool.and_eq_true]
      exact ⟨h 0 (by simp), ih (fun i h1 => h (i + 1) (by simpa using h1))⟩
theorem riseC_bad {l : List Ver} {i : Nat} (h : i < l.length) (hm : mayB l[i] = false) : riseC l = 1 := by
  unfold riseC
  rw [if_neg]
  intro ha
  have := List.all_eq_true.1 ha _ (List.getElem_mem h)
  rw [hm] at this; cases this
theorem all_may {l : List Ver} (h : ∀ i (hi : i < l.length), mayB l[i] = true) : l.all mayB = true := by
  rw [List.all_eq_true]
  intro x hx
  obtain ⟨i, hi, rfl⟩ := List.getElem_of_mem hx
  exact h i hi
theorem riseC_order {l : List Ver} (h : ∀ i (hi : i < l.length), mayB l[i] = true) {i : Nat} (h1 : i + 1 < l.length) (hl : lessB (l[i]'(by omega)) l[i + 1] = false) : riseC l = 8 := by
  unfold riseC
  rw [if_pos (all_may h), if_neg]
  intro hc
  have := chainB_get hc i h1
  rw [hl] at this; cases this
theorem riseC_ok {l : List Ver} (h : ∀ i (hi : i < l.length), mayB l[i] = true) (h2 : ∀ i (h1 : i + 1 < l.length), lessB (l[i]'(by omega)) l[i + 1] = true) : riseC l = 0 := by
  unfold riseC
  rw [if_pos (all_may h), if_pos (chainB_of h2)]

def encB (x : Ver) : List UInt8 := encKey x.key.data.toList x.val.data.toList x.seq x.del
/-- a version in a block, behind another one's key -/
def entryL (x : Ver) (ahead : List UInt8) : List UInt8 :=
  putUint (common ahead (encB x)) ++ putText ((encB x).drop (common ahead (encB x))) ++ (if x.del then [] else putText x.val.data.toList)
/-- the key that stands ahead of the j-th one -/
def aheadN (l : List Ver) (j : Nat) : List UInt8 := match l[j - 1]? with | some x => if j = 0 then [] else encB x | none => []
/-- .. as far as it is used -/
def aheadU (l : List Ver) (j : Nat) : List UInt8 := if j % 16 = 0 then [] else aheadN l j
/-- what a block of the first j ones bears -/
def blkN (l : List Ver) : Nat → List UInt8
  | 0 => []
  | j + 1 => blkN l j ++ (match l[j]? with | some x => entryL x (aheadU l j) | none => [])
theorem blkN_succ {l : List Ver} {j : Nat} (h : j < l.length) : blkN l (j + 1) = blkN l j ++ entryL l[j] (aheadU l j) := by
  show _ ++ _ = _
  rw [List.getElem?_eq_getElem h]
theorem aheadN_succ {l : List Ver} {j : Nat} (h : j < l.length) : aheadN l (j + 1) = encB l[j] := by
  unfold aheadN
  rw [Nat.add_sub_cancel, List.getElem?_eq_getElem h]
  simp
theorem aheadN_zero (l : List Ver) : aheadN l 0 = [] := by
  unfold aheadN; split <;> simp
theorem encB_length {x : Ver} : (encB x).length ≤ 202 := by
  unfold encB
  by_cases h : mayV x.key.data.toList x.val.data.toList x.seq x.del = true
  · unfold encKey
    rw [if_pos h, List.length_append, big_length]
    have := mayV_len h
    have := esc_length x.key.data.toList
    unfold keyText
    simp only [List.length_append, List.length_cons, List.length_nil]
    omega
  · unfold encKey
    rw [if_neg h]; simp
theorem putText_length {t : List UInt8} (h : t.length < 18446744073709551616) : (putText t).length ≤ 10 + t.length := by
  have := putUint_length64 t.length h
  unfold putText
  rw [List.length_append]; omega
theorem val_length {x : Ver} (h : mayB x = true) : x.val.data.toList.length ≤ 16384 := by
  unfold mayB mayV at h
  simp only [Bool.and_eq_true, decide_eq_true_eq] at h
  exact h.1.2
theorem entryL_length {x : Ver} {ahead : List UInt8} (h : mayB x = true) : (entryL x ahead).length ≤ 16700 := by
  have h1 := encB_length (x := x)
  have h2 := val_length h
  have h3 := common_le_right ahead (encB x)
  have h4 := putUint_length64 (common ahead (encB x)) (by omega)
  have h5 := putText_length (t := (encB x).drop (common ahead (encB x))) (by rw [List.length_drop]; omega)
  have h6 := putText_length (t := x.val.data.toList) (by omega)
  rw [List.length_drop] at h5
  unfold entryL
  rw [List.length_append, List.length_append]
  split
  · simp; omega
  · omega
theorem blkN_length {l : List Ver} (h : ∀ i (hi : i < l.length), mayB l[i] = true) : ∀ j, j ≤ l.length → (blkN l j).length ≤ j * 16700
  | 0, _ => by simp [blkN]
  | j + 1, hj => by
    have := blkN_length h j (by omega)
    rw [blkN_succ (by omega), List.length_append]
    have := entryL_length (ahead := aheadU l j) (h j (by omega))
    omega
end Go.Proofs.Ytiogjebekadmcaa.Pl
