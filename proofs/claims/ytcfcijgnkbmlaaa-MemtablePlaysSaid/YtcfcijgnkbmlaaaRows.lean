/-
  No cell of these rows narrows 'for every input' (looked for: loops, veiled, ifaces, maps, wideKeys, modest, calm, conditions, laid).
  DERIVED. THE GIVEN ROWS OF THIS SEAT. 9 by the template 'for every input the law returns true; each argument reads behind the call as it read before'; 0 by the template 'total and deterministic' (their statements: YtcfcijgnkbmlaaaTotals.lean).
  GIVEN WITH THE SEED: the statements are not yours to turn. If you find one false, say at which input.
  Laid BY PROGRAM, IN A SANDBOX (cutbox-rows.mjs): the forced cells as the released guide's own fill.sh prints them over the translation 178599ef9cf543d5… (all of the seat's roots in one cut). By AI agents, Wed Nov 11 2026. No macro, syntax, notation, axiom, sorry.
-/
import Derived.Test.YtcfcijgnkbmlaaaChecked
import GoSem.Claim
import GoSem.ClaimJoined
import GoSem.ClaimMapViews
import Derived.JoinedTies
import Derived.KernelRfl
namespace Go.Proofs.Ytcfcijgnkbmlaaa
/- THE CELL 'sum', in the pinned program and in every row, IS THE sha256 OF THE DUMP (.gsa) THAT YtcfcijgnkbmlaaaProg.lean LOADS. Nothing in Lean hashes anything: it is a label: what it is worth is what the hold of that sum in a sandbox is worth. -/
noncomputable def Try.pinned : Pinned := { name := "ytcfcijgnkbmlaaa", sum := "178599ef9cf543d54ef4d80952ffd380f265dfe6cf46711368c2d89267620e2c", checked := Try.checked }
namespace Rows
def none {H : Type} : Left H := { results := [], args := [] }

/-- 'tapestrylaw06.MemtableOrder': WHATEVER THE INPUT: true; the input reads as it did. -/
def memtableOrderSpec : ChangeSpec := { name := "memtableOrder", fn := fun _ => fun
  | [d1, d2, d3] => { results := [.lit (.bool true)], args := [d1, d2, d3] }
  | _ => none }
def memtableOrderRow : OpenClaim := { program := "ytcfcijgnkbmlaaa", sum := "178599ef9cf543d54ef4d80952ffd380f265dfe6cf46711368c2d89267620e2c", func := "tapestry/tapestrylaw06.MemtableOrder", spec := "memtableOrder", apart := false }
def MemtableOrderSaid : Prop := memtableOrderRow.holds Try.pinned (OpenSpec.ofChange memtableOrderSpec)

/-- ITS FALSE NEIGHBOUR: 'it returns false'. Refute it at one input. -/
def memtableOrderWrong : ChangeSpec := { name := "memtableOrder", fn := fun _ => fun
  | [d1, d2, d3] => { results := [.lit (.bool false)], args := [d1, d2, d3] }
  | _ => none }
def MemtableOrderWrongFalsely : Prop := memtableOrderRow.holds Try.pinned (OpenSpec.ofChange memtableOrderWrong)

/-- 'tapestrylaw07.BloomBuilds': WHATEVER THE INPUT: true; the input reads as it did. -/
def bloomBuildsSpec : ChangeSpec := { name := "bloomBuilds", fn := fun _ => fun
  | [d1, d2, d3] => { results := [.lit (.bool true)], args := [d1, d2, d3] }
  | _ => none }
def bloomBuildsRow : OpenClaim := { program := "ytcfcijgnkbmlaaa", sum := "178599ef9cf543d54ef4d80952ffd380f265dfe6cf46711368c2d89267620e2c", func := "tapestry/tapestrylaw07.BloomBuilds", spec := "bloomBuilds", unfollowed := true, recurses := true, apart := false }
def BloomBuildsSaid : Prop := bloomBuildsRow.holds Try.pinned (OpenSpec.ofChange bloomBuildsSpec)

/-- ITS FALSE NEIGHBOUR: 'it returns false'. Refute it at one input. -/
def bloomBuildsWrong : ChangeSpec := { name := "bloomBuilds", fn := fun _ => fun
  | [d1, d2, d3] => { results := [.lit (.bool false)], args := [d1, d2, d3] }
  | _ => none }
def BloomBuildsWrongFalsely : Prop := bloomBuildsRow.holds Try.pinned (OpenSpec.ofChange bloomBuildsWrong)

/-- 'tapestrylaw07.BloomUnion': WHATEVER THE INPUT: true; the input reads as it did. -/
def bloomUnionSpec : ChangeSpec := { name := "bloomUnion", fn := fun _ => fun
  | [d1, d2, d3] => { results := [.lit (.bool true)], args := [d1, d2, d3] }
  | _ => none }
def bloomUnionRow : OpenClaim := { program := "ytcfcijgnkbmlaaa", sum := "178599ef9cf543d54ef4d80952ffd380f265dfe6cf46711368c2d89267620e2c", func := "tapestry/tapestrylaw07.BloomUnion", spec := "bloomUnion", unfollowed := true, recurses := true, apart := false }
def BloomUnionSaid : Prop := bloomUnionRow.holds Try.pinned (OpenSpec.ofChange bloomUnionSpec)

/-- ITS FALSE NEIGHBOUR: 'it returns false'. Refute it at one input. -/
def bloomUnionWrong : ChangeSpec := { name := "bloomUnion", fn := fun _ => fun
  | [d1, d2, d3] => { results := [.lit (.bool false)], args := [d1, d2, d3] }
  | _ => none }
def BloomUnionWrongFalsely : Prop := bloomUnionRow.holds Try.pinned (OpenSpec.ofChange bloomUnionWrong)

/-- 'tapestrylaw07.BloomAsks': WHATEVER THE INPUT: true; the input reads as it did. -/
def bloomAsksSpec : ChangeSpec := { name := "bloomAsks", fn := fun _ => fun
  | [d1, d2] => { results := [.lit (.bool true)], args := [d1, d2] }
  | _ => none }
def bloomAsksRow : OpenClaim := { program := "ytcfcijgnkbmlaaa", sum := "178599ef9cf543d54ef4d80952ffd380f265dfe6cf46711368c2d89267620e2c", func := "tapestry/tapestrylaw07.BloomAsks", spec := "bloomAsks", unfollowed := true, recurses := true, apart := false }
def BloomAsksSaid : Prop := bloomAsksRow.holds Try.pinned (OpenSpec.ofChange bloomAsksSpec)

/-- ITS FALSE NEIGHBOUR: 'it returns false'. Refute it at one input. -/
def bloomAsksWrong : ChangeSpec := { name := "bloomAsks", fn := fun _ => fun
  | [d1, d2] => { results := [.lit (.bool false)], args := [d1, d2] }
  | _ => none }
def BloomAsksWrongFalsely : Prop := bloomAsksRow.holds Try.pinned (OpenSpec.ofChange bloomAsksWrong)

/-- 'tapestrylaw06.MemtableStays': WHATEVER THE INPUT: true; the input reads as it did. -/
def memtableStaysSpec : ChangeSpec := { name := "memtableStays", fn := fun _ => fun
  | [d1, d2] => { results := [.lit (.bool true)], args := [d1, d2] }
  | _ => none }
def memtableStaysRow : OpenClaim := { program := "ytcfcijgnkbmlaaa", sum := "178599ef9cf543d54ef4d80952ffd380f265dfe6cf46711368c2d89267620e2c", func := "tapestry/tapestrylaw06.MemtableStays", spec := "memtableStays", unfollowed := true, recurses := true, apart := false }
def MemtableStaysSaid : Prop := memtableStaysRow.holds Try.pinned (OpenSpec.ofChange memtableStaysSpec)

/-- ITS FALSE NEIGHBOUR: 'it returns false'. Refute it at one input. -/
def memtableStaysWrong : ChangeSpec := { name := "memtableStays", fn := fun _ => fun
  | [d1, d2] => { results := [.lit (.bool false)], args := [d1, d2] }
  | _ => none }
def MemtableStaysWrongFalsely : Prop := memtableStaysRow.holds Try.pinned (OpenSpec.ofChange memtableStaysWrong)

/-- 'tapestrylaw07.BloomNever': WHATEVER THE INPUT: true; the input reads as it did. -/
def bloomNeverSpec : ChangeSpec := { name := "bloomNever", fn := fun _ => fun
  | [d1, d2] => { results := [.lit (.bool true)], args := [d1, d2] }
  | _ => none }
def bloomNeverRow : OpenClaim := { program := "ytcfcijgnkbmlaaa", sum := "178599ef9cf543d54ef4d80952ffd380f265dfe6cf46711368c2d89267620e2c", func := "tapestry/tapestrylaw07.BloomNever", spec := "bloomNever", unfollowed := true, recurses := true, apart := false }
def BloomNeverSaid : Prop := bloomNeverRow.holds Try.pinned (OpenSpec.ofChange bloomNeverSpec)

/-- ITS FALSE NEIGHBOUR: 'it returns false'. Refute it at one input. -/
def bloomNeverWrong : ChangeSpec := { name := "bloomNever", fn := fun _ => fun
  | [d1, d2] => { results := [.lit (.bool false)], args := [d1, d2] }
  | _ => none }
def BloomNeverWrongFalsely : Prop := bloomNeverRow.holds Try.pinned (OpenSpec.ofChange bloomNeverWrong)

/-- 'tapestrylaw06.MemtableSame': WHATEVER THE INPUT: true; the input reads as it did. -/
def memtableSameSpec : ChangeSpec := { name := "memtableSame", fn := fun _ => fun
  | [d1, d2, d3] => { results := [.lit (.bool true)], args := [d1, d2, d3] }
  | _ => none }
def memtableSameRow : OpenClaim := { program := "ytcfcijgnkbmlaaa", sum := "178599ef9cf543d54ef4d80952ffd380f265dfe6cf46711368c2d89267620e2c", func := "tapestry/tapestrylaw06.MemtableSame", spec := "memtableSame", unfollowed := true, recurses := true, apart := false }
def MemtableSameSaid : Prop := memtableSameRow.holds Try.pinned (OpenSpec.ofChange memtableSameSpec)

/-- ITS FALSE NEIGHBOUR: 'it returns false'. Refute it at one input. -/
def memtableSameWrong : ChangeSpec := { name := "memtableSame", fn := fun _ => fun
  | [d1, d2, d3] => { results := [.lit (.bool false)], args := [d1, d2, d3] }
  | _ => none }
def MemtableSameWrongFalsely : Prop := memtableSameRow.holds Try.pinned (OpenSpec.ofChange memtableSameWrong)

/-- 'tapestrylaw06.MemtableNil': WHATEVER THE INPUT: true; the input reads as it did. -/
def memtableNilSpec : ChangeSpec := { name := "memtableNil", fn := fun _ => fun
  | [d1, d2] => { results := [.lit (.bool true)], args := [d1, d2] }
  | _ => none }
def memtableNilRow : OpenClaim := { program := "ytcfcijgnkbmlaaa", sum := "178599ef9cf543d54ef4d80952ffd380f265dfe6cf46711368c2d89267620e2c", func := "tapestry/tapestrylaw06.MemtableNil", spec := "memtableNil", unfollowed := true, recurses := true, apart := false }
def MemtableNilSaid : Prop := memtableNilRow.holds Try.pinned (OpenSpec.ofChange memtableNilSpec)

/-- ITS FALSE NEIGHBOUR: 'it returns false'. Refute it at one input. -/
def memtableNilWrong : ChangeSpec := { name := "memtableNil", fn := fun _ => fun
  | [d1, d2] => { results := [.lit (.bool false)], args := [d1, d2] }
  | _ => none }
def MemtableNilWrongFalsely : Prop := memtableNilRow.holds Try.pinned (OpenSpec.ofChange memtableNilWrong)

/-- 'tapestrylaw06.MemtablePlays': WHATEVER THE INPUT: true; the input reads as it did. -/
def memtablePlaysSpec : ChangeSpec := { name := "memtablePlays", fn := fun _ => fun
  | [d] => { results := [.lit (.bool true)], args := [d] }
  | _ => none }
def memtablePlaysRow : OpenClaim := { program := "ytcfcijgnkbmlaaa", sum := "178599ef9cf543d54ef4d80952ffd380f265dfe6cf46711368c2d89267620e2c", func := "tapestry/tapestrylaw06.MemtablePlays", spec := "memtablePlays", unfollowed := true, recurses := true, apart := false }
def MemtablePlaysSaid : Prop := memtablePlaysRow.holds Try.pinned (OpenSpec.ofChange memtablePlaysSpec)

/-- ITS FALSE NEIGHBOUR: 'it returns false'. Refute it at one input. -/
def memtablePlaysWrong : ChangeSpec := { name := "memtablePlays", fn := fun _ => fun
  | [d] => { results := [.lit (.bool false)], args := [d] }
  | _ => none }
def MemtablePlaysWrongFalsely : Prop := memtablePlaysRow.holds Try.pinned (OpenSpec.ofChange memtablePlaysWrong)

/- THE SECOND FORM. 'bulk': how many values and letters a reading holds, each counted each time it is reached (what is shared counts as often as it is met; a slice's spare places count too). A statement '..UptoSaid' is the law's where the arguments, and the package variables that the reading takes, are together of bulk at most 1048576: NARROWER than '..Said'. Prove '..Said' where nothing that the law and all that it calls make is longer than what came in: it says more and counts as full. Else prove '..UptoSaid'. A law counts once. -/
mutual
def uptoBulk {H : Type} : DataW H → Nat
  | .lit (.string bytes) => bytes.length + 1
  | .lit _ => 1
  | .nil => 1
  | .ptr d => uptoBulk d + 1
  | .slice elems spare => uptoBulkAll elems + uptoBulkAll spare + 1
  | .agg parts => uptoBulkAll parts + 1
  | .iface _ d => uptoBulk d + 1
  | .map entries => uptoBulkEntries entries + 1
  | .held _ => 1
def uptoBulkAll {H : Type} : List (DataW H) → Nat
  | [] => 0
  | d :: r => uptoBulk d + uptoBulkAll r
def uptoBulkEntries {H : Type} : List (Lit × DataW H) → Nat
  | [] => 0
  | x :: r => uptoBulkEntry x + uptoBulkEntries r
def uptoBulkEntry {H : Type} : Lit × DataW H → Nat
  | (.string bytes, d) => bytes.length + uptoBulk d + 1
  | (_, d) => uptoBulk d + 1
 end
def uptoSmall : (H : Type) → List (DataW H) → Bool := fun _ ds => decide (uptoBulkAll ds ≤ 1048576)
def OpenSpec.upto (s : _root_.Go.ChangeSpec) : _root_.Go.OpenSpec := { _root_.Go.OpenSpec.ofChange s with cond := some uptoSmall }

/-- 'tapestrylaw06.MemtableOrder', WHERE WHAT IT READS IS OF BULK AT MOST 1048576: true; the input reads as it did. -/
def memtableOrderUptoRow : OpenClaim := { program := "ytcfcijgnkbmlaaa", sum := "178599ef9cf543d54ef4d80952ffd380f265dfe6cf46711368c2d89267620e2c", func := "tapestry/tapestrylaw06.MemtableOrder", spec := "memtableOrder", apart := false, narrowed := true }
def MemtableOrderUptoSaid : Prop := memtableOrderUptoRow.holds Try.pinned (OpenSpec.upto memtableOrderSpec)

/-- 'tapestrylaw07.BloomBuilds', WHERE WHAT IT READS IS OF BULK AT MOST 1048576: true; the input reads as it did. -/
def bloomBuildsUptoRow : OpenClaim := { program := "ytcfcijgnkbmlaaa", sum := "178599ef9cf543d54ef4d80952ffd380f265dfe6cf46711368c2d89267620e2c", func := "tapestry/tapestrylaw07.BloomBuilds", spec := "bloomBuilds", unfollowed := true, recurses := true, apart := false, narrowed := true }
def BloomBuildsUptoSaid : Prop := bloomBuildsUptoRow.holds Try.pinned (OpenSpec.upto bloomBuildsSpec)

/-- 'tapestrylaw07.BloomUnion', WHERE WHAT IT READS IS OF BULK AT MOST 1048576: true; the input reads as it did. -/
def bloomUnionUptoRow : OpenClaim := { program := "ytcfcijgnkbmlaaa", sum := "178599ef9cf543d54ef4d80952ffd380f265dfe6cf46711368c2d89267620e2c", func := "tapestry/tapestrylaw07.BloomUnion", spec := "bloomUnion", unfollowed := true, recurses := true, apart := false, narrowed := true }
def BloomUnionUptoSaid : Prop := bloomUnionUptoRow.holds Try.pinned (OpenSpec.upto bloomUnionSpec)

/-- 'tapestrylaw07.BloomAsks', WHERE WHAT IT READS IS OF BULK AT MOST 1048576: true; the input reads as it did. -/
def bloomAsksUptoRow : OpenClaim := { program := "ytcfcijgnkbmlaaa", sum := "178599ef9cf543d54ef4d80952ffd380f265dfe6cf46711368c2d89267620e2c", func := "tapestry/tapestrylaw07.BloomAsks", spec := "bloomAsks", unfollowed := true, recurses := true, apart := false, narrowed := true }
def BloomAsksUptoSaid : Prop := bloomAsksUptoRow.holds Try.pinned (OpenSpec.upto bloomAsksSpec)

/-- 'tapestrylaw06.MemtableStays', WHERE WHAT IT READS IS OF BULK AT MOST 1048576: true; the input reads as it did. -/
def memtableStaysUptoRow : OpenClaim := { program := "ytcfcijgnkbmlaaa", sum := "178599ef9cf543d54ef4d80952ffd380f265dfe6cf46711368c2d89267620e2c", func := "tapestry/tapestrylaw06.MemtableStays", spec := "memtableStays", unfollowed := true, recurses := true, apart := false, narrowed := true }
def MemtableStaysUptoSaid : Prop := memtableStaysUptoRow.holds Try.pinned (OpenSpec.upto memtableStaysSpec)

/-- 'tapestrylaw07.BloomNever', WHERE WHAT IT READS IS OF BULK AT MOST 1048576: true; the input reads as it did. -/
def bloomNeverUptoRow : OpenClaim := { program := "ytcfcijgnkbmlaaa", sum := "178599ef9cf543d54ef4d80952ffd380f265dfe6cf46711368c2d89267620e2c", func := "tapestry/tapestrylaw07.BloomNever", spec := "bloomNever", unfollowed := true, recurses := true, apart := false, narrowed := true }
def BloomNeverUptoSaid : Prop := bloomNeverUptoRow.holds Try.pinned (OpenSpec.upto bloomNeverSpec)

/-- 'tapestrylaw06.MemtableSame', WHERE WHAT IT READS IS OF BULK AT MOST 1048576: true; the input reads as it did. -/
def memtableSameUptoRow : OpenClaim := { program := "ytcfcijgnkbmlaaa", sum := "178599ef9cf543d54ef4d80952ffd380f265dfe6cf46711368c2d89267620e2c", func := "tapestry/tapestrylaw06.MemtableSame", spec := "memtableSame", unfollowed := true, recurses := true, apart := false, narrowed := true }
def MemtableSameUptoSaid : Prop := memtableSameUptoRow.holds Try.pinned (OpenSpec.upto memtableSameSpec)

/-- 'tapestrylaw06.MemtableNil', WHERE WHAT IT READS IS OF BULK AT MOST 1048576: true; the input reads as it did. -/
def memtableNilUptoRow : OpenClaim := { program := "ytcfcijgnkbmlaaa", sum := "178599ef9cf543d54ef4d80952ffd380f265dfe6cf46711368c2d89267620e2c", func := "tapestry/tapestrylaw06.MemtableNil", spec := "memtableNil", unfollowed := true, recurses := true, apart := false, narrowed := true }
def MemtableNilUptoSaid : Prop := memtableNilUptoRow.holds Try.pinned (OpenSpec.upto memtableNilSpec)

/-- 'tapestrylaw06.MemtablePlays', WHERE WHAT IT READS IS OF BULK AT MOST 1048576: true; the input reads as it did. -/
def memtablePlaysUptoRow : OpenClaim := { program := "ytcfcijgnkbmlaaa", sum := "178599ef9cf543d54ef4d80952ffd380f265dfe6cf46711368c2d89267620e2c", func := "tapestry/tapestrylaw06.MemtablePlays", spec := "memtablePlays", unfollowed := true, recurses := true, apart := false, narrowed := true }
def MemtablePlaysUptoSaid : Prop := memtablePlaysUptoRow.holds Try.pinned (OpenSpec.upto memtablePlaysSpec)

end Rows
end Go.Proofs.Ytcfcijgnkbmlaaa
