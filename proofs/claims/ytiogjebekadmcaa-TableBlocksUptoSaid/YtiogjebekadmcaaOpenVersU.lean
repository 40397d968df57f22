
/- The statement's own bound, of a slice of versions. Condition: none. -/
import Derived.Test.YtiogjebekadmcaaOpenVers
import Derived.Test.YtiogjebekadmcaaBulk
namespace Go.Proofs.Ytiogjebekadmcaa
open Go.ChangeShapes Go.WideShapes Go.ChangeAt Go.RowKit Go.Deep

theorem vers_small {H : Type} {ds : List (DataW H)} {d : DataW H} {l : List Ver} (hk : Rows.uptoSmall H ds = true) (hm : d ∈ ds) (hs : (d = .nil ∧ l = []) ∨ ∃ sp, d = .slice (l.map Ver.d) sp) : l.length ≤ 1048576 := by
  rcases hs with ⟨_, rfl⟩ | ⟨sp, rfl⟩
  · simp
  · have h1 := bulks.part_le hm
    have h2 := bulks.bound hk
    have h3 := bulks.slice_le (l.map (Ver.d (H := H))) sp
    rw [List.length_map] at h3
    omega
end Go.Proofs.Ytiogjebekadmcaa
