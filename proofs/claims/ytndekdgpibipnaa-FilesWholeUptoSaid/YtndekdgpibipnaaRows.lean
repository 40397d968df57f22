/-
  No cell of these rows narrows 'for every input' (looked for: loops, veiled, ifaces, maps, wideKeys, modest, calm, conditions, laid).
  DERIVED. THE GIVEN ROWS OF THIS SEAT. 10 by the template 'for every input the law returns true; each argument reads behind the call as it read before'; 0 by the template 'total and deterministic' (their statements: YtndekdgpibipnaaTotals.lean).
  GIVEN WITH THE SEED: the statements are not yours to turn. If you find one false, say at which input.
  Laid BY PROGRAM, IN A SANDBOX (cutbox-rows.mjs): the forced cells as the released guide's own fill.sh prints them over the translation 953bf0082ae877da… (all of the seat's roots in one cut). By AI agents, Wed Nov 11 2026. No macro, syntax, notation, axiom, sorry.
-/
import Derived.Test.YtndekdgpibipnaaChecked
import GoSem.Claim
import GoSem.ClaimJoined
import GoSem.ClaimMapViews
import Derived.JoinedTies
import Derived.KernelRfl
namespace Go.Proofs.Ytndekdgpibipnaa
/- THE CELL 'sum', in the pinned program and in every row, IS THE sha256 OF THE DUMP (.gsa) THAT YtndekdgpibipnaaProg.lean LOADS. Nothing in Lean hashes anything: it is a label: what it is worth is what the hold of that sum in a sandbox is worth. -/
noncomputable def Try.pinned : Pinned := { name := "ytndekdgpibipnaa", sum := "953bf0082ae877daa48447cb7064fa4972707c8d500e212ff2ee3a1d87d5ea91", checked := Try.checked }
namespace Rows
def none {H : Type} : Left H := { results := [], args := [] }

/-- 'tapestrylaw03.BlockArmed': WHATEVER THE INPUT: true; the input reads as it did. -/
def blockArmedSpec : ChangeSpec := { name := "blockArmed", fn := fun _ => fun
  | [d1, d2] => { results := [.lit (.bool true)], args := [d1, d2] }
  | _ => none }
def blockArmedRow : OpenClaim := { program := "ytndekdgpibipnaa", sum := "953bf0082ae877daa48447cb7064fa4972707c8d500e212ff2ee3a1d87d5ea91", func := "tapestry/tapestrylaw03.BlockArmed", spec := "blockArmed", apart := false }
def BlockArmedSaid : Prop := blockArmedRow.holds Try.pinned (OpenSpec.ofChange blockArmedSpec)

/-- ITS FALSE NEIGHBOUR: 'it returns false'. Refute it at one input. -/
def blockArmedWrong : ChangeSpec := { name := "blockArmed", fn := fun _ => fun
  | [d1, d2] => { results := [.lit (.bool false)], args := [d1, d2] }
  | _ => none }
def BlockArmedWrongFalsely : Prop := blockArmedRow.holds Try.pinned (OpenSpec.ofChange blockArmedWrong)

/-- 'tapestrylaw03.BlockMixes': WHATEVER THE INPUT: true; the input reads as it did. -/
def blockMixesSpec : ChangeSpec := { name := "blockMixes", fn := fun _ => fun
  | [d1, d2] => { results := [.lit (.bool true)], args := [d1, d2] }
  | _ => none }
def blockMixesRow : OpenClaim := { program := "ytndekdgpibipnaa", sum := "953bf0082ae877daa48447cb7064fa4972707c8d500e212ff2ee3a1d87d5ea91", func := "tapestry/tapestrylaw03.BlockMixes", spec := "blockMixes", apart := false }
def BlockMixesSaid : Prop := blockMixesRow.holds Try.pinned (OpenSpec.ofChange blockMixesSpec)

/-- ITS FALSE NEIGHBOUR: 'it returns false'. Refute it at one input. -/
def blockMixesWrong : ChangeSpec := { name := "blockMixes", fn := fun _ => fun
  | [d1, d2] => { results := [.lit (.bool false)], args := [d1, d2] }
  | _ => none }
def BlockMixesWrongFalsely : Prop := blockMixesRow.holds Try.pinned (OpenSpec.ofChange blockMixesWrong)

/-- 'tapestrylaw03.BlockSafe': WHATEVER THE INPUT: true; the input reads as it did. -/
def blockSafeSpec : ChangeSpec := { name := "blockSafe", fn := fun _ => fun
  | [d1, d2, d3] => { results := [.lit (.bool true)], args := [d1, d2, d3] }
  | _ => none }
def blockSafeRow : OpenClaim := { program := "ytndekdgpibipnaa", sum := "953bf0082ae877daa48447cb7064fa4972707c8d500e212ff2ee3a1d87d5ea91", func := "tapestry/tapestrylaw03.BlockSafe", spec := "blockSafe", apart := false }
def BlockSafeSaid : Prop := blockSafeRow.holds Try.pinned (OpenSpec.ofChange blockSafeSpec)

/-- ITS FALSE NEIGHBOUR: 'it returns false'. Refute it at one input. -/
def blockSafeWrong : ChangeSpec := { name := "blockSafe", fn := fun _ => fun
  | [d1, d2, d3] => { results := [.lit (.bool false)], args := [d1, d2, d3] }
  | _ => none }
def BlockSafeWrongFalsely : Prop := blockSafeRow.holds Try.pinned (OpenSpec.ofChange blockSafeWrong)

/-- 'tapestrylaw03.BlockNil': WHATEVER THE INPUT: true; the input reads as it did. -/
def blockNilSpec : ChangeSpec := { name := "blockNil", fn := fun _ => fun
  | [d1, d2] => { results := [.lit (.bool true)], args := [d1, d2] }
  | _ => none }
def blockNilRow : OpenClaim := { program := "ytndekdgpibipnaa", sum := "953bf0082ae877daa48447cb7064fa4972707c8d500e212ff2ee3a1d87d5ea91", func := "tapestry/tapestrylaw03.BlockNil", spec := "blockNil", apart := false }
def BlockNilSaid : Prop := blockNilRow.holds Try.pinned (OpenSpec.ofChange blockNilSpec)

/-- ITS FALSE NEIGHBOUR: 'it returns false'. Refute it at one input. -/
def blockNilWrong : ChangeSpec := { name := "blockNil", fn := fun _ => fun
  | [d1, d2] => { results := [.lit (.bool false)], args := [d1, d2] }
  | _ => none }
def BlockNilWrongFalsely : Prop := blockNilRow.holds Try.pinned (OpenSpec.ofChange blockNilWrong)

/-- 'tapestrylaw04.FilesRoots': WHATEVER THE INPUT: true; the input reads as it did. -/
def filesRootsSpec : ChangeSpec := { name := "filesRoots", fn := fun _ => fun
  | [d1, d2] => { results := [.lit (.bool true)], args := [d1, d2] }
  | _ => none }
def filesRootsRow : OpenClaim := { program := "ytndekdgpibipnaa", sum := "953bf0082ae877daa48447cb7064fa4972707c8d500e212ff2ee3a1d87d5ea91", func := "tapestry/tapestrylaw04.FilesRoots", spec := "filesRoots", inPlace := ["internal/abi.NoEscape"], unfollowed := true, recurses := true, apart := false }
def FilesRootsSaid : Prop := filesRootsRow.holds Try.pinned (OpenSpec.ofChange filesRootsSpec)

/-- ITS FALSE NEIGHBOUR: 'it returns false'. Refute it at one input. -/
def filesRootsWrong : ChangeSpec := { name := "filesRoots", fn := fun _ => fun
  | [d1, d2] => { results := [.lit (.bool false)], args := [d1, d2] }
  | _ => none }
def FilesRootsWrongFalsely : Prop := filesRootsRow.holds Try.pinned (OpenSpec.ofChange filesRootsWrong)

/-- 'tapestrylaw03.BlockPlays': WHATEVER THE INPUT: true; the input reads as it did. -/
def blockPlaysSpec : ChangeSpec := { name := "blockPlays", fn := fun _ => fun
  | [d1, d2] => { results := [.lit (.bool true)], args := [d1, d2] }
  | _ => none }
def blockPlaysRow : OpenClaim := { program := "ytndekdgpibipnaa", sum := "953bf0082ae877daa48447cb7064fa4972707c8d500e212ff2ee3a1d87d5ea91", func := "tapestry/tapestrylaw03.BlockPlays", spec := "blockPlays", apart := false }
def BlockPlaysSaid : Prop := blockPlaysRow.holds Try.pinned (OpenSpec.ofChange blockPlaysSpec)

/-- ITS FALSE NEIGHBOUR: 'it returns false'. Refute it at one input. -/
def blockPlaysWrong : ChangeSpec := { name := "blockPlays", fn := fun _ => fun
  | [d1, d2] => { results := [.lit (.bool false)], args := [d1, d2] }
  | _ => none }
def BlockPlaysWrongFalsely : Prop := blockPlaysRow.holds Try.pinned (OpenSpec.ofChange blockPlaysWrong)

/-- 'tapestrylaw04.FilesBack': WHATEVER THE INPUT: true; the input reads as it did. -/
def filesBackSpec : ChangeSpec := { name := "filesBack", fn := fun _ => fun
  | [d1, d2, d3] => { results := [.lit (.bool true)], args := [d1, d2, d3] }
  | _ => none }
def filesBackRow : OpenClaim := { program := "ytndekdgpibipnaa", sum := "953bf0082ae877daa48447cb7064fa4972707c8d500e212ff2ee3a1d87d5ea91", func := "tapestry/tapestrylaw04.FilesBack", spec := "filesBack", inPlace := ["internal/abi.NoEscape"], unfollowed := true, recurses := true, apart := false }
def FilesBackSaid : Prop := filesBackRow.holds Try.pinned (OpenSpec.ofChange filesBackSpec)

/-- ITS FALSE NEIGHBOUR: 'it returns false'. Refute it at one input. -/
def filesBackWrong : ChangeSpec := { name := "filesBack", fn := fun _ => fun
  | [d1, d2, d3] => { results := [.lit (.bool false)], args := [d1, d2, d3] }
  | _ => none }
def FilesBackWrongFalsely : Prop := filesBackRow.holds Try.pinned (OpenSpec.ofChange filesBackWrong)

/-- 'tapestrylaw04.FilesKeeps': WHATEVER THE INPUT: true; the input reads as it did. -/
def filesKeepsSpec : ChangeSpec := { name := "filesKeeps", fn := fun _ => fun
  | [d] => { results := [.lit (.bool true)], args := [d] }
  | _ => none }
def filesKeepsRow : OpenClaim := { program := "ytndekdgpibipnaa", sum := "953bf0082ae877daa48447cb7064fa4972707c8d500e212ff2ee3a1d87d5ea91", func := "tapestry/tapestrylaw04.FilesKeeps", spec := "filesKeeps", inPlace := ["internal/abi.NoEscape"], unfollowed := true, recurses := true, apart := false }
def FilesKeepsSaid : Prop := filesKeepsRow.holds Try.pinned (OpenSpec.ofChange filesKeepsSpec)

/-- ITS FALSE NEIGHBOUR: 'it returns false'. Refute it at one input. -/
def filesKeepsWrong : ChangeSpec := { name := "filesKeeps", fn := fun _ => fun
  | [d] => { results := [.lit (.bool false)], args := [d] }
  | _ => none }
def FilesKeepsWrongFalsely : Prop := filesKeepsRow.holds Try.pinned (OpenSpec.ofChange filesKeepsWrong)

/-- 'tapestrylaw04.FilesNil': WHATEVER THE INPUT: true; the input reads as it did. -/
def filesNilSpec : ChangeSpec := { name := "filesNil", fn := fun _ => fun
  | [d1, d2] => { results := [.lit (.bool true)], args := [d1, d2] }
  | _ => none }
def filesNilRow : OpenClaim := { program := "ytndekdgpibipnaa", sum := "953bf0082ae877daa48447cb7064fa4972707c8d500e212ff2ee3a1d87d5ea91", func := "tapestry/tapestrylaw04.FilesNil", spec := "filesNil", inPlace := ["internal/abi.NoEscape"], unfollowed := true, recurses := true, apart := false }
def FilesNilSaid : Prop := filesNilRow.holds Try.pinned (OpenSpec.ofChange filesNilSpec)

/-- ITS FALSE NEIGHBOUR: 'it returns false'. Refute it at one input. -/
def filesNilWrong : ChangeSpec := { name := "filesNil", fn := fun _ => fun
  | [d1, d2] => { results := [.lit (.bool false)], args := [d1, d2] }
  | _ => none }
def FilesNilWrongFalsely : Prop := filesNilRow.holds Try.pinned (OpenSpec.ofChange filesNilWrong)

/-- 'tapestrylaw04.FilesWhole': WHATEVER THE INPUT: true; the input reads as it did. -/
def filesWholeSpec : ChangeSpec := { name := "filesWhole", fn := fun _ => fun
  | [d1, d2] => { results := [.lit (.bool true)], args := [d1, d2] }
  | _ => none }
def filesWholeRow : OpenClaim := { program := "ytndekdgpibipnaa", sum := "953bf0082ae877daa48447cb7064fa4972707c8d500e212ff2ee3a1d87d5ea91", func := "tapestry/tapestrylaw04.FilesWhole", spec := "filesWhole", inPlace := ["internal/abi.NoEscape"], unfollowed := true, recurses := true, apart := false }
def FilesWholeSaid : Prop := filesWholeRow.holds Try.pinned (OpenSpec.ofChange filesWholeSpec)

/-- ITS FALSE NEIGHBOUR: 'it returns false'. Refute it at one input. -/
def filesWholeWrong : ChangeSpec := { name := "filesWhole", fn := fun _ => fun
  | [d1, d2] => { results := [.lit (.bool false)], args := [d1, d2] }
  | _ => none }
def FilesWholeWrongFalsely : Prop := filesWholeRow.holds Try.pinned (OpenSpec.ofChange filesWholeWrong)

/- THE SECOND FORM. 'bulk': how many values and letters a reading holds, each counted each time it is reached (what is shared counts as often as it is met; a slice's spare places count too). A statement '..UptoSaid' is the law's where the arguments, and the package variables that the reading takes, are together of bulk at most 1048576: NARROWER than '..Said'. Prove '..Said' where nothing that the law and all that it calls make is longer than what came in: it says more and counts as full. Else prove '..UptoSaid'. A law counts once. -/
mutual
def uptoBulk {H : Type} : DataW H → Nat
  | .lit (.string bytes) => bytes.length + 1
  | .lit _ => 1
  | .nil => 1
  | .ptr d => uptoBulk d + 1
  | .slice elems spare => uptoBulkAll elems + uptoBulkAll spare + 1
  | .agg parts => uptoBulkAll parts + 1
  | .iface _ d => uptoBulk d + 1
  | .map entries => uptoBulkEntries entries + 1
  | .held _ => 1
def uptoBulkAll {H : Type} : List (DataW H) → Nat
  | [] => 0
  | d :: r => uptoBulk d + uptoBulkAll r
def uptoBulkEntries {H : Type} : List (Lit × DataW H) → Nat
  | [] => 0
  | x :: r => uptoBulkEntry x + uptoBulkEntries r
def uptoBulkEntry {H : Type} : Lit × DataW H → Nat
  | (.string bytes, d) => bytes.length + uptoBulk d + 1
  | (_, d) => uptoBulk d + 1
 end
def uptoSmall : (H : Type) → List (DataW H) → Bool := fun _ ds => decide (uptoBulkAll ds ≤ 1048576)
def OpenSpec.upto (s : _root_.Go.ChangeSpec) : _root_.Go.OpenSpec := { _root_.Go.OpenSpec.ofChange s with cond := some uptoSmall }

/-- 'tapestrylaw03.BlockArmed', WHERE WHAT IT READS IS OF BULK AT MOST 1048576: true; the input reads as it did. -/
def blockArmedUptoRow : OpenClaim := { program := "ytndekdgpibipnaa", sum := "953bf0082ae877daa48447cb7064fa4972707c8d500e212ff2ee3a1d87d5ea91", func := "tapestry/tapestrylaw03.BlockArmed", spec := "blockArmed", apart := false, narrowed := true }
def BlockArmedUptoSaid : Prop := blockArmedUptoRow.holds Try.pinned (OpenSpec.upto blockArmedSpec)

/-- 'tapestrylaw03.BlockMixes', WHERE WHAT IT READS IS OF BULK AT MOST 1048576: true; the input reads as it did. -/
def blockMixesUptoRow : OpenClaim := { program := "ytndekdgpibipnaa", sum := "953bf0082ae877daa48447cb7064fa4972707c8d500e212ff2ee3a1d87d5ea91", func := "tapestry/tapestrylaw03.BlockMixes", spec := "blockMixes", apart := false, narrowed := true }
def BlockMixesUptoSaid : Prop := blockMixesUptoRow.holds Try.pinned (OpenSpec.upto blockMixesSpec)

/-- 'tapestrylaw03.BlockSafe', WHERE WHAT IT READS IS OF BULK AT MOST 1048576: true; the input reads as it did. -/
def blockSafeUptoRow : OpenClaim := { program := "ytndekdgpibipnaa", sum := "953bf0082ae877daa48447cb7064fa4972707c8d500e212ff2ee3a1d87d5ea91", func := "tapestry/tapestrylaw03.BlockSafe", spec := "blockSafe", apart := false, narrowed := true }
def BlockSafeUptoSaid : Prop := blockSafeUptoRow.holds Try.pinned (OpenSpec.upto blockSafeSpec)

/-- 'tapestrylaw03.BlockNil', WHERE WHAT IT READS IS OF BULK AT MOST 1048576: true; the input reads as it did. -/
def blockNilUptoRow : OpenClaim := { program := "ytndekdgpibipnaa", sum := "953bf0082ae877daa48447cb7064fa4972707c8d500e212ff2ee3a1d87d5ea91", func := "tapestry/tapestrylaw03.BlockNil", spec := "blockNil", apart := false, narrowed := true }
def BlockNilUptoSaid : Prop := blockNilUptoRow.holds Try.pinned (OpenSpec.upto blockNilSpec)

/-- 'tapestrylaw04.FilesRoots', WHERE WHAT IT READS IS OF BULK AT MOST 1048576: true; the input reads as it did. -/
def filesRootsUptoRow : OpenClaim := { program := "ytndekdgpibipnaa", sum := "953bf0082ae877daa48447cb7064fa4972707c8d500e212ff2ee3a1d87d5ea91", func := "tapestry/tapestrylaw04.FilesRoots", spec := "filesRoots", inPlace := ["internal/abi.NoEscape"], unfollowed := true, recurses := true, apart := false, narrowed := true }
def FilesRootsUptoSaid : Prop := filesRootsUptoRow.holds Try.pinned (OpenSpec.upto filesRootsSpec)

/-- 'tapestrylaw03.BlockPlays', WHERE WHAT IT READS IS OF BULK AT MOST 1048576: true; the input reads as it did. -/
def blockPlaysUptoRow : OpenClaim := { program := "ytndekdgpibipnaa", sum := "953bf0082ae877daa48447cb7064fa4972707c8d500e212ff2ee3a1d87d5ea91", func := "tapestry/tapestrylaw03.BlockPlays", spec := "blockPlays", apart := false, narrowed := true }
def BlockPlaysUptoSaid : Prop := blockPlaysUptoRow.holds Try.pinned (OpenSpec.upto blockPlaysSpec)

/-- 'tapestrylaw04.FilesBack', WHERE WHAT IT READS IS OF BULK AT MOST 1048576: true; the input reads as it did. -/
def filesBackUptoRow : OpenClaim := { program := "ytndekdgpibipnaa", sum := "953bf0082ae877daa48447cb7064fa4972707c8d500e212ff2ee3a1d87d5ea91", func := "tapestry/tapestrylaw04.FilesBack", spec := "filesBack", inPlace := ["internal/abi.NoEscape"], unfollowed := true, recurses := true, apart := false, narrowed := true }
def FilesBackUptoSaid : Prop := filesBackUptoRow.holds Try.pinned (OpenSpec.upto filesBackSpec)

/-- 'tapestrylaw04.FilesKeeps', WHERE WHAT IT READS IS OF BULK AT MOST 1048576: true; the input reads as it did. -/
def filesKeepsUptoRow : OpenClaim := { program := "ytndekdgpibipnaa", sum := "953bf0082ae877daa48447cb7064fa4972707c8d500e212ff2ee3a1d87d5ea91", func := "tapestry/tapestrylaw04.FilesKeeps", spec := "filesKeeps", inPlace := ["internal/abi.NoEscape"], unfollowed := true, recurses := true, apart := false, narrowed := true }
def FilesKeepsUptoSaid : Prop := filesKeepsUptoRow.holds Try.pinned (OpenSpec.upto filesKeepsSpec)

/-- 'tapestrylaw04.FilesNil', WHERE WHAT IT READS IS OF BULK AT MOST 1048576: true; the input reads as it did. -/
def filesNilUptoRow : OpenClaim := { program := "ytndekdgpibipnaa", sum := "953bf0082ae877daa48447cb7064fa4972707c8d500e212ff2ee3a1d87d5ea91", func := "tapestry/tapestrylaw04.FilesNil", spec := "filesNil", inPlace := ["internal/abi.NoEscape"], unfollowed := true, recurses := true, apart := false, narrowed := true }
def FilesNilUptoSaid : Prop := filesNilUptoRow.holds Try.pinned (OpenSpec.upto filesNilSpec)

/-- 'tapestrylaw04.FilesWhole', WHERE WHAT IT READS IS OF BULK AT MOST 1048576: true; the input reads as it did. -/
def filesWholeUptoRow : OpenClaim := { program := "ytndekdgpibipnaa", sum := "953bf0082ae877daa48447cb7064fa4972707c8d500e212ff2ee3a1d87d5ea91", func := "tapestry/tapestrylaw04.FilesWhole", spec := "filesWhole", inPlace := ["internal/abi.NoEscape"], unfollowed := true, recurses := true, apart := false, narrowed := true }
def FilesWholeUptoSaid : Prop := filesWholeUptoRow.holds Try.pinned (OpenSpec.upto filesWholeSpec)

end Rows
end Go.Proofs.Ytndekdgpibipnaa
