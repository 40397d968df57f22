/-
  No cell of these rows narrows 'for every input' (looked for: loops, veiled, ifaces, maps, wideKeys, modest, calm, conditions, laid).
  DERIVED. THE GIVEN ROWS OF THIS SEAT. 3 by the template 'for every input the law returns true; each argument reads behind the call as it read before'; 0 by the template 'total and deterministic' (their statements: YtekfaodjadinnaaTotals.lean).
  GIVEN WITH THE SEED: the statements are not yours to turn. If you find one false, say at which input.
  Laid BY PROGRAM, IN A SANDBOX (cutbox-rows.mjs): the forced cells as the released guide's own fill.sh prints them over the translation c1d17c0b2fa9eeeb… (all of the seat's roots in one cut). By AI agents, Wed Nov 11 2026. No macro, syntax, notation, axiom, sorry.
-/
import Derived.Test.YtekfaodjadinnaaChecked
import GoSem.Claim
import GoSem.ClaimJoined
import GoSem.ClaimMapViews
import Derived.JoinedTies
import Derived.KernelRfl
namespace Go.Proofs.Ytekfaodjadinnaa
/- THE CELL 'sum', in the pinned program and in every row, IS THE sha256 OF THE DUMP (.gsa) THAT YtekfaodjadinnaaProg.lean LOADS. Nothing in Lean hashes anything: it is a label: what it is worth is what the hold of that sum in a sandbox is worth. -/
noncomputable def Try.pinned : Pinned := { name := "ytekfaodjadinnaa", sum := "c1d17c0b2fa9eeeb73d44efc84aed5355e21b8fd2976bdf169b8f1ec821a89d1", checked := Try.checked }
namespace Rows
def none {H : Type} : Left H := { results := [], args := [] }

/-- 'tapestrylaw11.CompactPicks': WHATEVER THE INPUT: true; the input reads as it did. -/
def compactPicksSpec : ChangeSpec := { name := "compactPicks", fn := fun _ => fun
  | [d1, d2, d3] => { results := [.lit (.bool true)], args := [d1, d2, d3] }
  | _ => none }
def compactPicksRow : OpenClaim := { program := "ytekfaodjadinnaa", sum := "c1d17c0b2fa9eeeb73d44efc84aed5355e21b8fd2976bdf169b8f1ec821a89d1", func := "tapestry/tapestrylaw11.CompactPicks", spec := "compactPicks", unfollowed := true, recurses := true, apart := false }
def CompactPicksSaid : Prop := compactPicksRow.holds Try.pinned (OpenSpec.ofChange compactPicksSpec)

/-- ITS FALSE NEIGHBOUR: 'it returns false'. Refute it at one input. -/
def compactPicksWrong : ChangeSpec := { name := "compactPicks", fn := fun _ => fun
  | [d1, d2, d3] => { results := [.lit (.bool false)], args := [d1, d2, d3] }
  | _ => none }
def CompactPicksWrongFalsely : Prop := compactPicksRow.holds Try.pinned (OpenSpec.ofChange compactPicksWrong)

/-- 'tapestrylaw11.CompactLeads': WHATEVER THE INPUT: true; the input reads as it did. -/
def compactLeadsSpec : ChangeSpec := { name := "compactLeads", fn := fun _ => fun
  | [d1, d2, d3] => { results := [.lit (.bool true)], args := [d1, d2, d3] }
  | _ => none }
def compactLeadsRow : OpenClaim := { program := "ytekfaodjadinnaa", sum := "c1d17c0b2fa9eeeb73d44efc84aed5355e21b8fd2976bdf169b8f1ec821a89d1", func := "tapestry/tapestrylaw11.CompactLeads", spec := "compactLeads", unfollowed := true, recurses := true, apart := false }
def CompactLeadsSaid : Prop := compactLeadsRow.holds Try.pinned (OpenSpec.ofChange compactLeadsSpec)

/-- ITS FALSE NEIGHBOUR: 'it returns false'. Refute it at one input. -/
def compactLeadsWrong : ChangeSpec := { name := "compactLeads", fn := fun _ => fun
  | [d1, d2, d3] => { results := [.lit (.bool false)], args := [d1, d2, d3] }
  | _ => none }
def CompactLeadsWrongFalsely : Prop := compactLeadsRow.holds Try.pinned (OpenSpec.ofChange compactLeadsWrong)

/-- 'tapestrylaw11.CompactNil': WHATEVER THE INPUT: true; the input reads as it did. -/
def compactNilSpec : ChangeSpec := { name := "compactNil", fn := fun _ => fun
  | [d1, d2] => { results := [.lit (.bool true)], args := [d1, d2] }
  | _ => none }
def compactNilRow : OpenClaim := { program := "ytekfaodjadinnaa", sum := "c1d17c0b2fa9eeeb73d44efc84aed5355e21b8fd2976bdf169b8f1ec821a89d1", func := "tapestry/tapestrylaw11.CompactNil", spec := "compactNil", inPlace := ["internal/abi.NoEscape"], unfollowed := true, recurses := true, apart := false }
def CompactNilSaid : Prop := compactNilRow.holds Try.pinned (OpenSpec.ofChange compactNilSpec)

/-- ITS FALSE NEIGHBOUR: 'it returns false'. Refute it at one input. -/
def compactNilWrong : ChangeSpec := { name := "compactNil", fn := fun _ => fun
  | [d1, d2] => { results := [.lit (.bool false)], args := [d1, d2] }
  | _ => none }
def CompactNilWrongFalsely : Prop := compactNilRow.holds Try.pinned (OpenSpec.ofChange compactNilWrong)

/- THE SECOND FORM. 'bulk': how many values and letters a reading holds, each counted each time it is reached (what is shared counts as often as it is met; a slice's spare places count too). A statement '..UptoSaid' is the law's where the arguments, and the package variables that the reading takes, are together of bulk at most 1048576: NARROWER than '..Said'. Prove '..Said' where nothing that the law and all that it calls make is longer than what came in: it says more and counts as full. Else prove '..UptoSaid'. A law counts once. -/
mutual
def uptoBulk {H : Type} : DataW H → Nat
  | .lit (.string bytes) => bytes.length + 1
  | .lit _ => 1
  | .nil => 1
  | .ptr d => uptoBulk d + 1
  | .slice elems spare => uptoBulkAll elems + uptoBulkAll spare + 1
  | .agg parts => uptoBulkAll parts + 1
  | .iface _ d => uptoBulk d + 1
  | .map entries => uptoBulkEntries entries + 1
  | .held _ => 1
def uptoBulkAll {H : Type} : List (DataW H) → Nat
  | [] => 0
  | d :: r => uptoBulk d + uptoBulkAll r
def uptoBulkEntries {H : Type} : List (Lit × DataW H) → Nat
  | [] => 0
  | x :: r => uptoBulkEntry x + uptoBulkEntries r
def uptoBulkEntry {H : Type} : Lit × DataW H → Nat
  | (.string bytes, d) => bytes.length + uptoBulk d + 1
  | (_, d) => uptoBulk d + 1
 end
def uptoSmall : (H : Type) → List (DataW H) → Bool := fun _ ds => decide (uptoBulkAll ds ≤ 1048576)
def OpenSpec.upto (s : _root_.Go.ChangeSpec) : _root_.Go.OpenSpec := { _root_.Go.OpenSpec.ofChange s with cond := some uptoSmall }

/-- 'tapestrylaw11.CompactPicks', WHERE WHAT IT READS IS OF BULK AT MOST 1048576: true; the input reads as it did. -/
def compactPicksUptoRow : OpenClaim := { program := "ytekfaodjadinnaa", sum := "c1d17c0b2fa9eeeb73d44efc84aed5355e21b8fd2976bdf169b8f1ec821a89d1", func := "tapestry/tapestrylaw11.CompactPicks", spec := "compactPicks", unfollowed := true, recurses := true, apart := false, narrowed := true }
def CompactPicksUptoSaid : Prop := compactPicksUptoRow.holds Try.pinned (OpenSpec.upto compactPicksSpec)

/-- 'tapestrylaw11.CompactLeads', WHERE WHAT IT READS IS OF BULK AT MOST 1048576: true; the input reads as it did. -/
def compactLeadsUptoRow : OpenClaim := { program := "ytekfaodjadinnaa", sum := "c1d17c0b2fa9eeeb73d44efc84aed5355e21b8fd2976bdf169b8f1ec821a89d1", func := "tapestry/tapestrylaw11.CompactLeads", spec := "compactLeads", unfollowed := true, recurses := true, apart := false, narrowed := true }
def CompactLeadsUptoSaid : Prop := compactLeadsUptoRow.holds Try.pinned (OpenSpec.upto compactLeadsSpec)

/-- 'tapestrylaw11.CompactNil', WHERE WHAT IT READS IS OF BULK AT MOST 1048576: true; the input reads as it did. -/
def compactNilUptoRow : OpenClaim := { program := "ytekfaodjadinnaa", sum := "c1d17c0b2fa9eeeb73d44efc84aed5355e21b8fd2976bdf169b8f1ec821a89d1", func := "tapestry/tapestrylaw11.CompactNil", spec := "compactNil", inPlace := ["internal/abi.NoEscape"], unfollowed := true, recurses := true, apart := false, narrowed := true }
def CompactNilUptoSaid : Prop := compactNilUptoRow.holds Try.pinned (OpenSpec.upto compactNilSpec)

end Rows
end Go.Proofs.Ytekfaodjadinnaa
