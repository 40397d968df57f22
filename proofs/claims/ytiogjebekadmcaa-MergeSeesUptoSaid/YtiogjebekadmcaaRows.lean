/-
  No cell of these rows narrows 'for every input' (looked for: loops, veiled, ifaces, maps, wideKeys, modest, calm, conditions, laid).
  DERIVED. THE GIVEN ROWS OF THIS SEAT. 7 by the template 'for every input the law returns true; each argument reads behind the call as it read before'; 0 by the template 'total and deterministic' (their statements: YtiogjebekadmcaaTotals.lean).
  GIVEN WITH THE SEED: the statements are not yours to turn. If you find one false, say at which input.
  Laid BY PROGRAM, IN A SANDBOX (cutbox-rows.mjs): the forced cells as the released guide's own fill.sh prints them over the translation 927cd8c302281da8… (all of the seat's roots in one cut). By AI agents, Wed Nov 11 2026. No macro, syntax, notation, axiom, sorry.
-/
import Derived.Test.YtiogjebekadmcaaChecked
import GoSem.Claim
import GoSem.ClaimJoined
import GoSem.ClaimMapViews
import Derived.JoinedTies
import Derived.KernelRfl
namespace Go.Proofs.Ytiogjebekadmcaa
/- THE CELL 'sum', in the pinned program and in every row, IS THE sha256 OF THE DUMP (.gsa) THAT YtiogjebekadmcaaProg.lean LOADS. Nothing in Lean hashes anything: it is a label: what it is worth is what the hold of that sum in a sandbox is worth. -/
noncomputable def Try.pinned : Pinned := { name := "ytiogjebekadmcaa", sum := "927cd8c302281da8a86c8d90b7a018a12bd8c72327127a9770aabc41f4a73dd0", checked := Try.checked }
namespace Rows
def none {H : Type} : Left H := { results := [], args := [] }

/-- 'tapestrylaw09.MergePairs': WHATEVER THE INPUT: true; the input reads as it did. -/
def mergePairsSpec : ChangeSpec := { name := "mergePairs", fn := fun _ => fun
  | [d] => { results := [.lit (.bool true)], args := [d] }
  | _ => none }
def mergePairsRow : OpenClaim := { program := "ytiogjebekadmcaa", sum := "927cd8c302281da8a86c8d90b7a018a12bd8c72327127a9770aabc41f4a73dd0", func := "tapestry/tapestrylaw09.MergePairs", spec := "mergePairs", unfollowed := true, recurses := true, apart := false }
def MergePairsSaid : Prop := mergePairsRow.holds Try.pinned (OpenSpec.ofChange mergePairsSpec)

/-- ITS FALSE NEIGHBOUR: 'it returns false'. Refute it at one input. -/
def mergePairsWrong : ChangeSpec := { name := "mergePairs", fn := fun _ => fun
  | [d] => { results := [.lit (.bool false)], args := [d] }
  | _ => none }
def MergePairsWrongFalsely : Prop := mergePairsRow.holds Try.pinned (OpenSpec.ofChange mergePairsWrong)

/-- 'tapestrylaw09.MergeCuts': WHATEVER THE INPUT: true; the input reads as it did. -/
def mergeCutsSpec : ChangeSpec := { name := "mergeCuts", fn := fun _ => fun
  | [d1, d2] => { results := [.lit (.bool true)], args := [d1, d2] }
  | _ => none }
def mergeCutsRow : OpenClaim := { program := "ytiogjebekadmcaa", sum := "927cd8c302281da8a86c8d90b7a018a12bd8c72327127a9770aabc41f4a73dd0", func := "tapestry/tapestrylaw09.MergeCuts", spec := "mergeCuts", unfollowed := true, recurses := true, apart := false }
def MergeCutsSaid : Prop := mergeCutsRow.holds Try.pinned (OpenSpec.ofChange mergeCutsSpec)

/-- ITS FALSE NEIGHBOUR: 'it returns false'. Refute it at one input. -/
def mergeCutsWrong : ChangeSpec := { name := "mergeCuts", fn := fun _ => fun
  | [d1, d2] => { results := [.lit (.bool false)], args := [d1, d2] }
  | _ => none }
def MergeCutsWrongFalsely : Prop := mergeCutsRow.holds Try.pinned (OpenSpec.ofChange mergeCutsWrong)

/-- 'tapestrylaw09.MergeKeeps': WHATEVER THE INPUT: true; the input reads as it did. -/
def mergeKeepsSpec : ChangeSpec := { name := "mergeKeeps", fn := fun _ => fun
  | [d] => { results := [.lit (.bool true)], args := [d] }
  | _ => none }
def mergeKeepsRow : OpenClaim := { program := "ytiogjebekadmcaa", sum := "927cd8c302281da8a86c8d90b7a018a12bd8c72327127a9770aabc41f4a73dd0", func := "tapestry/tapestrylaw09.MergeKeeps", spec := "mergeKeeps", unfollowed := true, recurses := true, apart := false }
def MergeKeepsSaid : Prop := mergeKeepsRow.holds Try.pinned (OpenSpec.ofChange mergeKeepsSpec)

/-- ITS FALSE NEIGHBOUR: 'it returns false'. Refute it at one input. -/
def mergeKeepsWrong : ChangeSpec := { name := "mergeKeeps", fn := fun _ => fun
  | [d] => { results := [.lit (.bool false)], args := [d] }
  | _ => none }
def MergeKeepsWrongFalsely : Prop := mergeKeepsRow.holds Try.pinned (OpenSpec.ofChange mergeKeepsWrong)

/-- 'tapestrylaw09.MergeRows': WHATEVER THE INPUT: true; the input reads as it did. -/
def mergeRowsSpec : ChangeSpec := { name := "mergeRows", fn := fun _ => fun
  | [d1, d2] => { results := [.lit (.bool true)], args := [d1, d2] }
  | _ => none }
def mergeRowsRow : OpenClaim := { program := "ytiogjebekadmcaa", sum := "927cd8c302281da8a86c8d90b7a018a12bd8c72327127a9770aabc41f4a73dd0", func := "tapestry/tapestrylaw09.MergeRows", spec := "mergeRows", unfollowed := true, recurses := true, apart := false }
def MergeRowsSaid : Prop := mergeRowsRow.holds Try.pinned (OpenSpec.ofChange mergeRowsSpec)

/-- ITS FALSE NEIGHBOUR: 'it returns false'. Refute it at one input. -/
def mergeRowsWrong : ChangeSpec := { name := "mergeRows", fn := fun _ => fun
  | [d1, d2] => { results := [.lit (.bool false)], args := [d1, d2] }
  | _ => none }
def MergeRowsWrongFalsely : Prop := mergeRowsRow.holds Try.pinned (OpenSpec.ofChange mergeRowsWrong)

/-- 'tapestrylaw08.TableKeys': WHATEVER THE INPUT: true; the input reads as it did. -/
def tableKeysSpec : ChangeSpec := { name := "tableKeys", fn := fun _ => fun
  | [d1, d2, d3] => { results := [.lit (.bool true)], args := [d1, d2, d3] }
  | _ => none }
def tableKeysRow : OpenClaim := { program := "ytiogjebekadmcaa", sum := "927cd8c302281da8a86c8d90b7a018a12bd8c72327127a9770aabc41f4a73dd0", func := "tapestry/tapestrylaw08.TableKeys", spec := "tableKeys", unfollowed := true, recurses := true, apart := false }
def TableKeysSaid : Prop := tableKeysRow.holds Try.pinned (OpenSpec.ofChange tableKeysSpec)

/-- ITS FALSE NEIGHBOUR: 'it returns false'. Refute it at one input. -/
def tableKeysWrong : ChangeSpec := { name := "tableKeys", fn := fun _ => fun
  | [d1, d2, d3] => { results := [.lit (.bool false)], args := [d1, d2, d3] }
  | _ => none }
def TableKeysWrongFalsely : Prop := tableKeysRow.holds Try.pinned (OpenSpec.ofChange tableKeysWrong)

/-- 'tapestrylaw08.TableBlocks': WHATEVER THE INPUT: true; the input reads as it did. -/
def tableBlocksSpec : ChangeSpec := { name := "tableBlocks", fn := fun _ => fun
  | [d] => { results := [.lit (.bool true)], args := [d] }
  | _ => none }
def tableBlocksRow : OpenClaim := { program := "ytiogjebekadmcaa", sum := "927cd8c302281da8a86c8d90b7a018a12bd8c72327127a9770aabc41f4a73dd0", func := "tapestry/tapestrylaw08.TableBlocks", spec := "tableBlocks", inPlace := ["internal/abi.NoEscape"], unfollowed := true, recurses := true, apart := false }
def TableBlocksSaid : Prop := tableBlocksRow.holds Try.pinned (OpenSpec.ofChange tableBlocksSpec)

/-- ITS FALSE NEIGHBOUR: 'it returns false'. Refute it at one input. -/
def tableBlocksWrong : ChangeSpec := { name := "tableBlocks", fn := fun _ => fun
  | [d] => { results := [.lit (.bool false)], args := [d] }
  | _ => none }
def TableBlocksWrongFalsely : Prop := tableBlocksRow.holds Try.pinned (OpenSpec.ofChange tableBlocksWrong)

/-- 'tapestrylaw09.MergeSees': WHATEVER THE INPUT: true; the input reads as it did. -/
def mergeSeesSpec : ChangeSpec := { name := "mergeSees", fn := fun _ => fun
  | [d1, d2, d3] => { results := [.lit (.bool true)], args := [d1, d2, d3] }
  | _ => none }
def mergeSeesRow : OpenClaim := { program := "ytiogjebekadmcaa", sum := "927cd8c302281da8a86c8d90b7a018a12bd8c72327127a9770aabc41f4a73dd0", func := "tapestry/tapestrylaw09.MergeSees", spec := "mergeSees", unfollowed := true, recurses := true, apart := false }
def MergeSeesSaid : Prop := mergeSeesRow.holds Try.pinned (OpenSpec.ofChange mergeSeesSpec)

/-- ITS FALSE NEIGHBOUR: 'it returns false'. Refute it at one input. -/
def mergeSeesWrong : ChangeSpec := { name := "mergeSees", fn := fun _ => fun
  | [d1, d2, d3] => { results := [.lit (.bool false)], args := [d1, d2, d3] }
  | _ => none }
def MergeSeesWrongFalsely : Prop := mergeSeesRow.holds Try.pinned (OpenSpec.ofChange mergeSeesWrong)

/- THE SECOND FORM. 'bulk': how many values and letters a reading holds, each counted each time it is reached (what is shared counts as often as it is met; a slice's spare places count too). A statement '..UptoSaid' is the law's where the arguments, and the package variables that the reading takes, are together of bulk at most 1048576: NARROWER than '..Said'. Prove '..Said' where nothing that the law and all that it calls make is longer than what came in: it says more and counts as full. Else prove '..UptoSaid'. A law counts once. -/
mutual
def uptoBulk {H : Type} : DataW H → Nat
  | .lit (.string bytes) => bytes.length + 1
  | .lit _ => 1
  | .nil => 1
  | .ptr d => uptoBulk d + 1
  | .slice elems spare => uptoBulkAll elems + uptoBulkAll spare + 1
  | .agg parts => uptoBulkAll parts + 1
  | .iface _ d => uptoBulk d + 1
  | .map entries => uptoBulkEntries entries + 1
  | .held _ => 1
def uptoBulkAll {H : Type} : List (DataW H) → Nat
  | [] => 0
  | d :: r => uptoBulk d + uptoBulkAll r
def uptoBulkEntries {H : Type} : List (Lit × DataW H) → Nat
  | [] => 0
  | x :: r => uptoBulkEntry x + uptoBulkEntries r
def uptoBulkEntry {H : Type} : Lit × DataW H → Nat
  | (.string bytes, d) => bytes.length + uptoBulk d + 1
  | (_, d) => uptoBulk d + 1
 end
def uptoSmall : (H : Type) → List (DataW H) → Bool := fun _ ds => decide (uptoBulkAll ds ≤ 1048576)
def OpenSpec.upto (s : _root_.Go.ChangeSpec) : _root_.Go.OpenSpec := { _root_.Go.OpenSpec.ofChange s with cond := some uptoSmall }

/-- 'tapestrylaw09.MergePairs', WHERE WHAT IT READS IS OF BULK AT MOST 1048576: true; the input reads as it did. -/
def mergePairsUptoRow : OpenClaim := { program := "ytiogjebekadmcaa", sum := "927cd8c302281da8a86c8d90b7a018a12bd8c72327127a9770aabc41f4a73dd0", func := "tapestry/tapestrylaw09.MergePairs", spec := "mergePairs", unfollowed := true, recurses := true, apart := false, narrowed := true }
def MergePairsUptoSaid : Prop := mergePairsUptoRow.holds Try.pinned (OpenSpec.upto mergePairsSpec)

/-- 'tapestrylaw09.MergeCuts', WHERE WHAT IT READS IS OF BULK AT MOST 1048576: true; the input reads as it did. -/
def mergeCutsUptoRow : OpenClaim := { program := "ytiogjebekadmcaa", sum := "927cd8c302281da8a86c8d90b7a018a12bd8c72327127a9770aabc41f4a73dd0", func := "tapestry/tapestrylaw09.MergeCuts", spec := "mergeCuts", unfollowed := true, recurses := true, apart := false, narrowed := true }
def MergeCutsUptoSaid : Prop := mergeCutsUptoRow.holds Try.pinned (OpenSpec.upto mergeCutsSpec)

/-- 'tapestrylaw09.MergeKeeps', WHERE WHAT IT READS IS OF BULK AT MOST 1048576: true; the input reads as it did. -/
def mergeKeepsUptoRow : OpenClaim := { program := "ytiogjebekadmcaa", sum := "927cd8c302281da8a86c8d90b7a018a12bd8c72327127a9770aabc41f4a73dd0", func := "tapestry/tapestrylaw09.MergeKeeps", spec := "mergeKeeps", unfollowed := true, recurses := true, apart := false, narrowed := true }
def MergeKeepsUptoSaid : Prop := mergeKeepsUptoRow.holds Try.pinned (OpenSpec.upto mergeKeepsSpec)

/-- 'tapestrylaw09.MergeRows', WHERE WHAT IT READS IS OF BULK AT MOST 1048576: true; the input reads as it did. -/
def mergeRowsUptoRow : OpenClaim := { program := "ytiogjebekadmcaa", sum := "927cd8c302281da8a86c8d90b7a018a12bd8c72327127a9770aabc41f4a73dd0", func := "tapestry/tapestrylaw09.MergeRows", spec := "mergeRows", unfollowed := true, recurses := true, apart := false, narrowed := true }
def MergeRowsUptoSaid : Prop := mergeRowsUptoRow.holds Try.pinned (OpenSpec.upto mergeRowsSpec)

/-- 'tapestrylaw08.TableKeys', WHERE WHAT IT READS IS OF BULK AT MOST 1048576: true; the input reads as it did. -/
def tableKeysUptoRow : OpenClaim := { program := "ytiogjebekadmcaa", sum := "927cd8c302281da8a86c8d90b7a018a12bd8c72327127a9770aabc41f4a73dd0", func := "tapestry/tapestrylaw08.TableKeys", spec := "tableKeys", unfollowed := true, recurses := true, apart := false, narrowed := true }
def TableKeysUptoSaid : Prop := tableKeysUptoRow.holds Try.pinned (OpenSpec.upto tableKeysSpec)

/-- 'tapestrylaw08.TableBlocks', WHERE WHAT IT READS IS OF BULK AT MOST 1048576: true; the input reads as it did. -/
def tableBlocksUptoRow : OpenClaim := { program := "ytiogjebekadmcaa", sum := "927cd8c302281da8a86c8d90b7a018a12bd8c72327127a9770aabc41f4a73dd0", func := "tapestry/tapestrylaw08.TableBlocks", spec := "tableBlocks", inPlace := ["internal/abi.NoEscape"], unfollowed := true, recurses := true, apart := false, narrowed := true }
def TableBlocksUptoSaid : Prop := tableBlocksUptoRow.holds Try.pinned (OpenSpec.upto tableBlocksSpec)

/-- 'tapestrylaw09.MergeSees', WHERE WHAT IT READS IS OF BULK AT MOST 1048576: true; the input reads as it did. -/
def mergeSeesUptoRow : OpenClaim := { program := "ytiogjebekadmcaa", sum := "927cd8c302281da8a86c8d90b7a018a12bd8c72327127a9770aabc41f4a73dd0", func := "tapestry/tapestrylaw09.MergeSees", spec := "mergeSees", unfollowed := true, recurses := true, apart := false, narrowed := true }
def MergeSeesUptoSaid : Prop := mergeSeesUptoRow.holds Try.pinned (OpenSpec.upto mergeSeesSpec)

end Rows
end Go.Proofs.Ytiogjebekadmcaa
