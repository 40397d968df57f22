
/- Slices of versions that a call makes. Condition: none. -/
import Derived.Test.YtcfcijgnkbmlaaaWFrom
import Derived.Test.YtcfcijgnkbmlaaaVers
namespace Go.Proofs.Ytcfcijgnkbmlaaa
open Go.RowKit

theorem vcells_get : ∀ (l : List Ver) (i : Nat) (h : i < l.length), (vcells l)[i * 4]? = some (.string l[i].key) ∧ (vcells l)[i * 4 + 1]? = some (.int .u64 (l[i].seq : Int)) ∧ (vcells l)[i * 4 + 2]? = some (.bool l[i].del) ∧ (vcells l)[i * 4 + 3]? = some (.string l[i].val)
  | x :: l, 0, _ => ⟨rfl, rfl, rfl, rfl⟩
  | x :: l, i + 1, h => by
    have := vcells_get l i (by simpa using h)
    rw [show (i + 1) * 4 = i * 4 + 1 + 1 + 1 + 1 from by omega]
    simpa [vcells] using this
theorem own_at {W : World} {base n sz : Nat} {e : TypeId} {v : Value} {xs : List Value} (h : W.ownsRow base e sz v n xs) :
    (n = 0 ∧ v = .slice none 0 0) ∨ ∃ g cap, v = .slice (some ⟨g, 0, none⟩) n cap ∧ base ≤ g ∧ g < W.heap.size ∧ n ≤ cap ∧ cap ≤ 9223372036854775807 ∧ ∀ j, j < n * sz → W.cell? ⟨g, j, none⟩ = xs[j]? := by
  have h' := h
  rcases h.2 with ⟨rfl, h0⟩ | ⟨g, cap, cur, rfl, h1, h2, h3, h4, _⟩
  · exact .inl ⟨h0, rfl⟩
  · exact .inr ⟨g, cap, rfl, h1, (Array.getElem?_eq_some_iff.1 h2).1, h3, by unfold maxLen at h4; exact h4, fun j hj => h'.cellAt j hj⟩
theorem own_vers {W : World} {base : Nat} {v : Value} {l : List Ver} (h : W.ownsRow base 24 4 v l.length (vcells l)) : VersAt W v l := by
  rcases own_at h with ⟨h0, rfl⟩ | ⟨g, cap, rfl, h1, h2, h3, h4, hc⟩
  · exact ⟨none, 0, by rw [h0], by omega, by omega, fun h => by omega⟩
  · refine ⟨_, cap, rfl, h3, h4, fun _ => ⟨g, 0, rfl, h2, fun i hi => ?_⟩⟩
    have hp := vcells_get l i hi
    simp only [Nat.zero_add]
    exact ⟨(hc _ (by omega)).trans hp.1, (hc _ (by omega)).trans hp.2.1, (hc _ (by omega)).trans hp.2.2.1, (hc _ (by omega)).trans hp.2.2.2⟩
end Go.Proofs.Ytcfcijgnkbmlaaa
