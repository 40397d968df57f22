
/- Plain law: a disk of blocks, its writes that are not safe, its power. Condition: none. -/
import Derived.Test.YtndekdgpibipnaaBase
namespace Go.Proofs.Ytndekdgpibipnaa.Pl

structure Dv where
  safe : List ByteArray
  wait : List (Nat × ByteArray)
  down : Bool
  armed : Nat
  acts : Nat
  epoch : Nat

/-- an act -/
def Dv.act (s : Dv) : Dv := { s with acts := s.acts + 1, armed := s.armed - 1, down := if s.armed = 0 then s.down else decide (s.armed = 1) }
def Dv.put (s : Dv) (i : Nat) (x : ByteArray) : Dv := { s with wait := s.wait ++ [(i, x)] }
def setAll (l : List ByteArray) (w : List (Nat × ByteArray)) : List ByteArray := w.foldl (fun l p => l.set p.1 p.2) l
def Dv.flush (s : Dv) : Dv := { s with safe := setAll s.safe s.wait, wait := [] }
def Dv.arm (s : Dv) (n : Int) : Dv := { s with armed := n.toNat }
/-- a torn block -/
def tear (a b : ByteArray) (n : Nat) : ByteArray := a.extract 0 n ++ b.extract n b.size
/-- what becomes of the k-th write at a loss of power -/
def crash1 (keep : List Bool) (torn : Int) (n : Nat) (k : Nat) (l : List ByteArray) (p : Nat × ByteArray) : List ByteArray :=
  if (k : Int) = torn then l.set p.1 (tear p.2 (l.getD p.1 .empty) n) else if keep.getD k false then l.set p.1 p.2 else l
def crashN (keep : List Bool) (torn : Int) (n : Nat) (w : List (Nat × ByteArray)) : Nat → List ByteArray → List ByteArray
  | 0, l => l
  | m + 1, l => match w[m]? with
    | some p => crash1 keep torn n m (crashN keep torn n w m l) p
    | none => crashN keep torn n w m l
def Dv.crash (s : Dv) (keep : List Bool) (torn : Int) (n : Nat) : Dv :=
  { safe := crashN keep torn n s.wait s.wait.length s.safe, wait := [], down := false, armed := 0, acts := s.acts, epoch := s.epoch + 1 }
/-- the last write to a block -/
def lastW (w : List (Nat × ByteArray)) (i : Nat) : Option ByteArray := (w.reverse.find? fun p => p.1 == i).map (·.2)

theorem crashN_succ {keep : List Bool} {torn : Int} {n : Nat} {w : List (Nat × ByteArray)} {m : Nat} (h : m < w.length) (l : List ByteArray) : crashN keep torn n w (m + 1) l = crash1 keep torn n m (crashN keep torn n w m l) w[m] := by
  conv => lhs; unfold crashN
  rw [List.getElem?_eq_getElem h]
theorem crash1_torn {keep : List Bool} {torn : Int} {n k : Nat} {l : List ByteArray} {p : Nat × ByteArray} (h : (k : Int) = torn) : crash1 keep torn n k l p = l.set p.1 (tear p.2 (l.getD p.1 .empty) n) := by unfold crash1; rw [if_pos h]
theorem crash1_keep {keep : List Bool} {torn : Int} {n k : Nat} {l : List ByteArray} {p : Nat × ByteArray} (h : (k : Int) ≠ torn) (h2 : keep.getD k false = true) : crash1 keep torn n k l p = l.set p.1 p.2 := by unfold crash1; rw [if_neg h, if_pos h2]
theorem crash1_lose {keep : List Bool} {torn : Int} {n k : Nat} {l : List ByteArray} {p : Nat × ByteArray} (h : (k : Int) ≠ torn) (h2 : keep.getD k false = false) : crash1 keep torn n k l p = l := by unfold crash1; rw [if_neg h, if_neg (by rw [h2]; exact Bool.false_ne_true)]
theorem crash1_length (keep : List Bool) (torn : Int) (n k : Nat) (l : List ByteArray) (p : Nat × ByteArray) : (crash1 keep torn n k l p).length = l.length := by
  unfold crash1
  split
  · simp
  · split <;> simp
theorem crashN_length (keep : List Bool) (torn : Int) (n : Nat) (w : List (Nat × ByteArray)) (m : Nat) (l : List ByteArray) : (crashN keep torn n w m l).length = l.length := by
  induction m with
  | zero => rfl
  | succ m ih =>
    unfold crashN
    split
    · rw [crash1_length, ih]
    · exact ih
theorem setAll_length (w : List (Nat × ByteArray)) : ∀ l : List ByteArray, (setAll l w).length = l.length := by
  induction w with
  | nil => intro l; rfl
  | cons p w ih => intro l; show (setAll (l.set p.1 p.2) w).length = _; rw [ih]; simp
theorem setAll_snoc (l : List ByteArray) (w : List (Nat × ByteArray)) (p : Nat × ByteArray) : setAll l (w ++ [p]) = (setAll l w).set p.1 p.2 := by simp [setAll]

/-- a disk as it may be -/
structure Dv.WF (s : Dv) : Prop where
  size : ∀ x ∈ s.safe, x.size = 256
  wait : ∀ p ∈ s.wait, p.1 < s.safe.length ∧ p.2.size = 256
theorem tear_size {a b : ByteArray} {n : Nat} (ha : a.size = 256) (hb : b.size = 256) (hn : n ≤ 256) : (tear a b n).size = 256 := by
  unfold tear
  rw [ByteArray.size_append, ByteArray.size_extract, ByteArray.size_extract]
  omega
theorem mem_set_of {l : List ByteArray} {i : Nat} {x y : ByteArray} (h : y ∈ l.set i x) : y ∈ l ∨ y = x := List.mem_or_eq_of_mem_set h
theorem setAll_size {w : List (Nat × ByteArray)} (hw : ∀ p ∈ w, p.2.size = 256) : ∀ {l : List ByteArray}, (∀ x ∈ l, x.size = 256) → ∀ x ∈ setAll l w, x.size = 256 := by
  induction w with
  | nil => intro l h; exact h
  | cons p w ih =>
    intro l h
    refine ih (fun q hq => hw q (List.mem_cons_of_mem _ hq)) (l := l.set p.1 p.2) (fun x hx => ?_)
    rcases mem_set_of hx with h1 | rfl
    · exact h x h1
    · exact hw p List.mem_cons_self
theorem crash1_size {keep : List Bool} {torn : Int} {n k : Nat} {l : List ByteArray} {p : Nat × ByteArray} (hn : n ≤ 256) (hp : p.1 < l.length ∧ p.2.size = 256) (h : ∀ x ∈ l, x.size = 256) : ∀ x ∈ crash1 keep torn n k l p, x.size = 256 := by
  intro x hx
  unfold crash1 at hx
  split at hx
  · rcases mem_set_of hx with h1 | rfl
    · exact h x h1
    · refine tear_size hp.2 (h _ ?_) hn
      rw [List.getD_eq_getElem?_getD, List.getElem?_eq_getElem hp.1]
      exact List.getElem_mem hp.1
  · split at hx
    · rcases mem_set_of hx with h1 | rfl
      · exact h x h1
      · exact hp.2
    · exact h x hx
theorem crashN_size {keep : List Bool} {torn : Int} {n : Nat} {w : List (Nat × ByteArray)} {l : List ByteArray} (hn : n ≤ 256) (hw : ∀ p ∈ w, p.1 < l.length ∧ p.2.size = 256) (h : ∀ x ∈ l, x.size = 256) (m : Nat) : ∀ x ∈ crashN keep torn n w m l, x.size = 256 := by
  induction m with
  | zero => exact h
  | succ m ih =>
    unfold crashN
    split
    · rename_i p hp
      have := hw p (List.mem_of_getElem? hp)
      exact crash1_size hn (by rw [crashN_length]; exact this) ih
    · exact ih
theorem Dv.WF.act {s : Dv} (h : s.WF) : s.act.WF := ⟨h.size, h.wait⟩
theorem Dv.WF.put {s : Dv} (h : s.WF) {i : Nat} {x : ByteArray} (hi : i < s.safe.length) (hx : x.size = 256) : (s.put i x).WF :=
  ⟨h.size, fun p hp => by
    rcases List.mem_append.1 hp with hp | hp
    · exact h.wait p hp
    · obtain rfl := List.mem_singleton.1 hp; exact ⟨hi, hx⟩⟩
theorem Dv.WF.flush {s : Dv} (h : s.WF) : s.flush.WF := ⟨setAll_size (fun p hp => (h.wait p hp).2) h.size, fun p hp => by cases hp⟩
theorem Dv.WF.arm {s : Dv} (h : s.WF) (n : Int) : (s.arm n).WF := ⟨h.size, h.wait⟩
theorem Dv.WF.crash {s : Dv} (h : s.WF) {keep : List Bool} {torn : Int} {n : Nat} (hn : n ≤ 256) : (s.crash keep torn n).WF := ⟨crashN_size hn h.wait h.size _, fun p hp => by cases hp⟩
end Go.Proofs.Ytndekdgpibipnaa.Pl
