
/- Walks: the sequences that the law MergeSees makes of its rows; how many versions rows have. Condition: rows that the form's reach lets. -/
import Derived.Test.YtiogjebekadmcaaLMergeRows
import Derived.Test.YtiogjebekadmcaaLMergePairs
import Derived.Test.YtiogjebekadmcaaWKeep3
import Derived.Test.YtiogjebekadmcaaPlainSe
namespace Go.Proofs.Ytiogjebekadmcaa
open Go.RowKit

/-- in W, the sequence that row makes of a row lies ready -/
def RowIt (W : World) (v : Value) (l : List Ver) (r : Nat) : Prop := Boxed W r 22 v ∧ VersAt W v l ∧ (0 < l.length → ∀ k, v.ownBlock = some k → k < r)
theorem row_it (v : Value) (l : List Ver) (W : World) (hv : VersAt W v l) :
    Calls Try.prog 11 #[v] W fun e w' => ∃ r, e = .returned (.func (.func 34) #[] #[.pointer (some ⟨r, 0, none⟩)]) ∧ RowIt w' v l r ∧ Below W.heap.size W w' := by
  obtain ⟨ao, cap, rfl, c1, c2, hr⟩ := id hv
  refine (row_any ao l.length cap W).mono ?_
  rintro e w' ⟨rfl, rfl⟩
  have hb : Below W.heap.size W (W.alloc (.cells #[.slice ao l.length cap] 22)) := (Below.refl _ _).alloc (Nat.le_refl _) _
  refine ⟨W.heap.size, rfl, ⟨Boxed.new W _ _, hv.below hb, fun h0 k hk => ?_⟩, hb⟩
  obtain ⟨b, off, rfl, hr2⟩ := hr h0
  have e : b = k := by simpa [Value.ownBlock] using hk
  have := hr2.1
  omega
theorem keep_it (v fv : Value) (l : List Ver) (fs : List Nat) (bot : Bool) (r : Nat) (W : World) (h : RowIt W v l r) (hf : NumsAt W fv fs) (hfl : fs.length * 8 ≤ 140737488355328) :
    Calls Try.prog 18 #[.func (.func 34) #[] #[.pointer (some ⟨r, 0, none⟩)], fv, .bool bot] W fun e w' => ∃ s, e = .returned (.func (.func 40) #[] #[.pointer (some ⟨s, 0, none⟩), .pointer (some ⟨s + 1, 0, none⟩), .pointer (some ⟨s + 2, 0, none⟩)]) ∧ KeepIt w' v l fs bot r s ∧ Below W.heap.size W w' := by
  obtain ⟨h0, h1, h2⟩ := h
  refine (mkeep_func _ _ fv fs bot W hf hfl).mono ?_
  rintro e w' ⟨rfl, hk⟩
  exact ⟨_, rfl, keepIt_new h0 h1 h2 hk, hk.2.2.2⟩
theorem pairs_it (v : Value) (l : List Ver) (q : Int) (sq : Nat) (hq : q = (sq : Int)) (lo hi : ByteArray) (r : Nat) (W : World) (h : RowIt W v l r) :
    Calls Try.prog 10 #[.func (.func 34) #[] #[.pointer (some ⟨r, 0, none⟩)], .int .u64 q, .string lo, .string hi] W fun e w' => ∃ s, e = .returned (.func (.func 33) #[] #[.pointer (some ⟨s, 0, none⟩), .pointer (some ⟨s + 3, 0, none⟩), .pointer (some ⟨s + 2, 0, none⟩), .pointer (some ⟨s + 1, 0, none⟩)]) ∧ PairIt w' v l sq lo hi r s ∧ Below W.heap.size W w' := by
  subst hq
  obtain ⟨h0, h1, h2⟩ := h
  refine (mpairs_any _ _ _ lo hi W).mono ?_
  rintro e w' ⟨rfl, rfl⟩
  have hb : Below W.heap.size W ((((W.alloc (.cells #[.func (.func 34) #[] #[.pointer (some ⟨r, 0, none⟩)]] 30)).alloc (.cells #[.int .u64 (sq : Int)] 23)).alloc (.cells #[.string lo] 9)).alloc (.cells #[.string hi] 9)) := ((((Below.refl W.heap.size W).alloc (Nat.le_refl _) _).alloc (by simp) _).alloc (by simp; omega) _).alloc (by simp; omega) _
  have bS := (((Boxed.new W 30 (.func (.func 34) #[] #[.pointer (some ⟨r, 0, none⟩)])).alloc (.cells #[.int .u64 (sq : Int)] 23)).alloc (.cells #[.string lo] 9)).alloc (.cells #[.string hi] 9)
  have bQ := ((Boxed.new (W.alloc (.cells #[.func (.func 34) #[] #[.pointer (some ⟨r, 0, none⟩)]] 30)) 23 (.int .u64 (sq : Int))).alloc (.cells #[.string lo] 9)).alloc (.cells #[.string hi] 9)
  have bL := (Boxed.new ((W.alloc (.cells #[.func (.func 34) #[] #[.pointer (some ⟨r, 0, none⟩)]] 30)).alloc (.cells #[.int .u64 (sq : Int)] 23)) 9 (.string lo)).alloc (.cells #[.string hi] 9)
  have bH := Boxed.new (((W.alloc (.cells #[.func (.func 34) #[] #[.pointer (some ⟨r, 0, none⟩)]] 30)).alloc (.cells #[.int .u64 (sq : Int)] 23)).alloc (.cells #[.string lo] 9)) 9 (.string hi)
  simp only [World.size_alloc] at bS bQ bL bH
  exact ⟨W.heap.size, rfl, ⟨boxed_below hb h0, h1.below hb, bS, bQ, bL, bH, h2, h0.lt⟩, hb⟩

set_option maxRecDepth 100000 in
theorem countAll_any (v : Value) (ls : List (List Ver)) (w : World) (hv : LsAt w v ls) (_hl : ∀ l ∈ ls, l.length ≤ 2932031007317) (hll : ls.length ≤ 2932031007317) (ht : Pl.total ls ≤ 2932031007317) :
    Calls Try.prog 32 #[v] w fun e w' => e = .returned (.int .i64 (Pl.total ls : Nat)) ∧ w' = w := by
  obtain ⟨ao, cap, rfl, hv⟩ := hv
  go_enter Try.func32, Try.ntmps32
  go_wp2
  go_loopw [3, 4] (fun n i W => ∃ k : Nat, k ≤ ls.length ∧ i = .int .i64 k ∧ n = .int .i64 (Pl.total (ls.take k) : Nat) ∧ W = w) (fun _ i _ => ls.length - (intOf i).toNat)
  case atStart => exact ⟨0, by omega, rfl, rfl, rfl⟩
  case round =>
    obtain ⟨k, hk, rfl, rfl, rfl⟩ := hrel
    by_cases h1 : k < ls.length
    · obtain ⟨b, off, rfl, hbl, hc⟩ := hv (by omega)
      obtain ⟨u, g1, g2⟩ := hc k h1
      obtain ⟨ao2, cap2, rfl, c1, c2, _⟩ := g2
      have e1 : Pl.total (ls.take (k + 1)) = Pl.total (ls.take k) + ls[k].length := by
        rw [List.take_succ_eq_append_getElem h1]
        generalize ls.take k = a
        induction a with
        | nil => simp [Pl.total]
        | cons x a ih => rw [List.cons_append, Pl.total_cons, Pl.total_cons, ih]; omega
      have e2 : Pl.total (ls.take (k + 1)) ≤ Pl.total ls := by
        conv => rhs; rw [← List.take_append_drop (k + 1) ls]
        generalize ls.take (k + 1) = a
        generalize ls.drop (k + 1) = c
        induction a with
        | nil => simp [Pl.total]
        | cons x a ih => rw [List.cons_append, Pl.total_cons, Pl.total_cons]; omega
      have hs : IntKind.i64.wrap ((Pl.total (ls.take k) : Int) + (ls[k].length : Int)) = (Pl.total (ls.take (k + 1)) : Nat) := (IntWalk.i64_in _ (by omega)).trans (by omega)
      clear hc e1
      go_wp2
      go_roundw
      case rel => exact ⟨k + 1, by omega, by go_num, by first | rfl | go_num, by trivial⟩
      case measure => simp [intOf]; omega
    · obtain rfl : k = ls.length := by omega
      go_wp2
      go_ret
      exact ⟨ret_int (by rw [List.take_length]), rfl⟩
end Go.Proofs.Ytiogjebekadmcaa
