
/- Plain law: the newest version of a key up to a number, found one by one. Condition: none. -/
import Derived.Test.YtcfcijgnkbmlaaaWGet6
namespace Go.Proofs.Ytcfcijgnkbmlaaa.Pl

/-- is this one of the key, up to the number? -/
def nwOk (key : ByteArray) (sq : Nat) (x : Ver) : Bool := (x.key.toList == key.toList) && decide (x.seq ≤ sq)
theorem not_less {x : Ver} {key : ByteArray} {sq : Nat} (h : lessV x.key x.seq key sq = false) (he : x.key.toList = key.toList) : x.seq ≤ sq := by
  unfold lessV at h
  rw [he, lt_irrefl] at h
  simp at h
  exact h
theorem newest_hit {xs : List Ver} (hr : Ris xs) {key : ByteArray} {sq i : Nat} (hi : i < xs.length) (hp : nwOk key sq xs[i] = true) (hall : ∀ j (h : j < xs.length), j < i → nwOk key sq xs[j] = false) : getT xs key sq = (xs[i], true) := by
  have hA := ahead_less hr ⟨key, sq, false, ⟨#[]⟩⟩
  unfold getT
  generalize kOf xs ⟨key, sq, false, ⟨#[]⟩⟩ = k at *
  unfold nwOk at hp
  rw [Bool.and_eq_true, beq_iff_eq, decide_eq_true_eq] at hp
  have hki : k ≤ i := by
    rcases Nat.lt_or_ge i k with h | h
    · have h2 : lessV xs[i].key xs[i].seq key sq = true := hA.yes i hi h
      unfold lessV at h2
      rw [hp.1, lt_irrefl] at h2
      simp at h2
      omega
    · exact h
  have hke : k = i := by
    rcases Nat.lt_or_eq_of_le hki with h | h
    · exfalso
      have hn : lessV (xs[k]'(by omega)).key (xs[k]'(by omega)).seq key sq = false := hA.no k (by omega) (Nat.le_refl _)
      have hv : vlt (xs[k]'(by omega)) xs[i] := List.pairwise_iff_getElem.1 hr k i (by omega) hi h
      rcases vlt_cases hv with h1 | ⟨h1, h2⟩
      · rw [hp.1] at h1
        unfold lessV at hn
        rw [h1] at hn; cases hn
      · have h3 := not_less hn (h1.trans hp.1)
        have h4 := hall k (by omega) h
        unfold nwOk at h4
        rw [h1.trans hp.1] at h4
        simp at h4
        omega
    · exact h
  subst hke
  rw [List.getElem?_eq_getElem hi]
  simp [hp.1]
theorem newest_none {xs : List Ver} (hr : Ris xs) {key : ByteArray} {sq : Nat} (hall : ∀ j (h : j < xs.length), nwOk key sq xs[j] = false) : getT xs key sq = (⟨⟨#[]⟩, 0, false, ⟨#[]⟩⟩, false) := by
  have hA := ahead_less hr ⟨key, sq, false, ⟨#[]⟩⟩
  unfold getT
  generalize kOf xs ⟨key, sq, false, ⟨#[]⟩⟩ = k at *
  by_cases hk : k < xs.length
  · rw [List.getElem?_eq_getElem hk]
    have hn : lessV xs[k].key xs[k].seq key sq = false := hA.no k hk (Nat.le_refl _)
    cases he : xs[k].key.toList == key.toList
    · simp [he]
    · exfalso
      have h3 := not_less hn (by simpa using he)
      have h4 := hall k hk
      unfold nwOk at h4
      rw [he] at h4
      simp at h4
      omega
  · rw [List.getElem?_eq_none (by omega)]
end Go.Proofs.Ytcfcijgnkbmlaaa.Pl
