/- Tables compared; what stands about the law CompactLeads. Condition: none. -/
import Derived.Test.YtekfaodjadinnaaPlainLd
import Derived.Test.YtekfaodjadinnaaWPk0
import Derived.Laws.StructEq
namespace Go.Proofs.Ytekfaodjadinnaa
open Go.RowKit

namespace Pl
/-- are two tables one? -/
def eqB (x y : Tb) : Bool := (x.num : Int) == (y.num : Int) && (x.level == y.level && (x.size == y.size && (x.count == y.count && (x.least.toList == y.least.toList && x.greatest.toList == y.greatest.toList))))
theorem eqB_iff {x y : Tb} : eqB x y = true ↔ x = y := by
  constructor
  · intro h
    unfold eqB at h
    simp only [Bool.and_eq_true, beq_iff_eq] at h
    obtain ⟨h1, h2, h3, h4, h5, h6⟩ := h
    cases x; cases y
    simp only at h1 h2 h3 h4 h5 h6
    have h1 : _ = _ := Int.ofNat.inj h1
    have h5 := toList_inj h5
    have h6 := toList_inj h6
    subst h1 h2 h3 h4 h5 h6
    rfl
  · rintro rfl
    simp [eqB]
def inB (l : List Tb) (x : Tb) : Bool := l.any fun y => eqB y x
theorem inB_iff {l : List Tb} {x : Tb} : inB l x = true ↔ x ∈ l := by
  unfold inB
  rw [List.any_eq_true]
  constructor
  · rintro ⟨y, hy, h⟩
    rw [eqB_iff] at h
    subst h; exact hy
  · intro h
    exact ⟨x, h, eqB_iff.2 rfl⟩
theorem inB_succ {l : List Tb} {m : Nat} (h : m < l.length) (x : Tb) : inB (l.take (m + 1)) x = (inB (l.take m) x || eqB l[m] x) := by
  unfold inB
  rw [List.take_succ_eq_append_getElem h, List.any_append]
  simp
theorem inB_overs {l : List Tb} {x : Tb} (hx : x ∈ l) (lo hi : ByteArray) : inB (overs l lo hi) x = overB x lo hi := by
  cases h : overB x lo hi with
  | true => exact inB_iff.2 (List.mem_filter.2 ⟨hx, h⟩)
  | false =>
    cases h2 : inB (overs l lo hi) x with
    | false => rfl
    | true =>
      have := (List.mem_filter.1 (inB_iff.1 h2)).2
      rw [h] at this; cases this
/-- is one of the tables of the levels from k + 2 on, up to the i-th one of level k + 2 + n, above? -/
def deepB (L : Lv) (A : List Tb) (k n i : Nat) : Bool := !(noneDeep L A k n && decide ((overs ((L.t (k + 2 + n)).take i) (spanLo A) (spanHi A)).length = 0))
theorem deepB_zero (L : Lv) (A : List Tb) (k n : Nat) : deepB L A k n 0 = !noneDeep L A k n := by simp [deepB, overs]
theorem deepB_all (L : Lv) (A : List Tb) (k n : Nat) : deepB L A k n (L.t (k + 2 + n)).length = !noneDeep L A k (n + 1) := by
  unfold deepB
  rw [List.take_of_length_le (Nat.le_refl _)]
  rfl
theorem deepB_succ (L : Lv) (A : List Tb) (k n i : Nat) (h : i < (L.t (k + 2 + n)).length) : deepB L A k n (i + 1) = (deepB L A k n i || overB (L.t (k + 2 + n))[i] (spanLo A) (spanHi A)) := by
  unfold deepB
  rw [overs_succ _ _ _ _ h]
  cases noneDeep L A k n
  · rfl
  · cases overB (L.t (k + 2 + n))[i] (spanLo A) (spanHi A)
    · simp
    · simp
theorem pick_some {c : Cfg} {L : Lv} {af : Nat → ByteArray} {J : Jb} (h : pick c L af = some J) : ∃ k, k < 3 ∧ J = pickAt L af k ∧ 0 < (L.t k).length := by
  unfold pick at h
  by_cases h0 : due c L 0 = true
  · rw [if_pos h0] at h
    exact ⟨0, by omega, (Option.some.inj h).symm, (due_some (by omega) h0).2⟩
  rw [if_neg h0] at h
  by_cases h1 : due c L 1 = true
  · rw [if_pos h1] at h
    exact ⟨1, by omega, (Option.some.inj h).symm, (due_some (by omega) h1).2⟩
  rw [if_neg h1] at h
  by_cases h2 : due c L 2 = true
  · rw [if_pos h2] at h
    exact ⟨2, by omega, (Option.some.inj h).symm, (due_some (by omega) h2).2⟩
  rw [if_neg h2] at h
  cases h
theorem span_again (F T : List Tb) (h : F ≠ []) : spanLo (F ++ (F ++ T)) = spanLo (F ++ T) ∧ spanHi (F ++ (F ++ T)) = spanHi (F ++ T) := by
  have h1 : ∀ x, x ∈ F ++ (F ++ T) ↔ x ∈ F ++ T := fun x => by
    simp only [List.mem_append]
    constructor
    · rintro (h | h)
      · exact .inl h
      · exact h
    · intro h; exact .inr h
  have h2 : F ++ (F ++ T) ≠ [] := by simp [h]
  exact ⟨spanLo_same h1 h2, spanHi_same h1 h2⟩
theorem minS_same (p : ByteArray) : Lib.minS p p = p := by rcases minS_or p p with h | h <;> exact h
theorem maxS_same (p : ByteArray) : Lib.maxS p p = p := by rcases maxS_or p p with h | h <;> exact h
theorem spanLo_step {F : List Tb} {n : Nat} (h : n < F.length) : Lib.minS (spanLo (F.take (max n 1))) F[n].least = spanLo (F.take (max (n + 1) 1)) := by
  rw [show max (n + 1) 1 = n + 1 by omega]
  rcases Nat.eq_zero_or_pos n with rfl | h0
  · rw [show max 0 1 = 0 + 1 by omega, spanLo_one (by omega), minS_same]
  · rw [show max n 1 = n by omega, ← spanLo_succ h0 h]
theorem spanHi_step {F : List Tb} {n : Nat} (h : n < F.length) : Lib.maxS (spanHi (F.take (max n 1))) F[n].greatest = spanHi (F.take (max (n + 1) 1)) := by
  rw [show max (n + 1) 1 = n + 1 by omega]
  rcases Nat.eq_zero_or_pos n with rfl | h0
  · rw [show max 0 1 = 0 + 1 by omega, spanHi_one (by omega), maxS_same]
  · rw [show max n 1 = n by omega, ← spanHi_succ h0 h]
end Pl

/-- a table as a value -/
def tabV (x : Pl.Tb) : Value := .agg #[.int .u64 (x.num : Int), .int .i64 x.level, .int .i64 x.size, .int .i64 x.count, .string x.least, .string x.greatest]
set_option maxRecDepth 100000 in
theorem eql_tab (x y : Pl.Tb) (w : World) : (binOp .eql 40 (tabV x) (tabV y)).run Try.prog w = .ok (.bool (Pl.eqB x y)) w := by
  have u3 := Try.underlying3
  have a3 := Try.isAgg3
  have z3 := Try.sizeOf3
  have u9 := Try.underlying9
  have a9 := Try.isAgg9
  have z9 := Try.sizeOf9
  have u22 := Try.underlying22
  have a22 := Try.isAgg22
  have z22 := Try.sizeOf22
  have hS : Try.prog.underlying 40 = some (.struct (Try.prog.fieldsOf 40)) := by kernel_rfl
  have hp : Try.prog.stoodInHeld 40 = false := by kernel_rfl
  unfold tabV Pl.eqB
  rw [run_eql_struct, show (10000 : Nat) = 9999 + 1 from rfl, run_equalIn_agg w 9999 40 _ _ hS hp]
  simp only [Program.fieldsOf, Try.underlying40]
  go_simp
  by_cases h1 : (x.num : Int) = (y.num : Int) <;> by_cases h2 : x.level = y.level <;> by_cases h3 : x.size = y.size <;> by_cases h4 : x.count = y.count <;> by_cases h5 : x.least.toList = y.least.toList <;> by_cases h6 : x.greatest.toList = y.greatest.toList <;> simp [h1, h2, h3, h4, h5, h6]
end Go.Proofs.Ytekfaodjadinnaa
