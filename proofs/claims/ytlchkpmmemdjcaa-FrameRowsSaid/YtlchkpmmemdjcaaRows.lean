/-
  No cell of these rows narrows 'for every input' (looked for: loops, veiled, ifaces, maps, wideKeys, modest, calm, conditions, laid).
  DERIVED. THE GIVEN ROWS OF THIS SEAT. 11 by the template 'for every input the law returns true; each argument reads behind the call as it read before'; 0 by the template 'total and deterministic' (their statements: YtlchkpmmemdjcaaTotals.lean).
  GIVEN WITH THE SEED: the statements are not yours to turn. If you find one false, say at which input.
  Laid BY PROGRAM, IN A SANDBOX (cutbox-rows.mjs): the forced cells as the released guide's own fill.sh prints them over the translation 2914249570eb63df… (all of the seat's roots in one cut). By AI agents, Wed Nov 11 2026. No macro, syntax, notation, axiom, sorry.
-/
import Derived.Test.YtlchkpmmemdjcaaChecked
import GoSem.Claim
import GoSem.ClaimJoined
import GoSem.ClaimMapViews
import Derived.JoinedTies
import Derived.KernelRfl
namespace Go.Proofs.Ytlchkpmmemdjcaa
/- THE CELL 'sum', in the pinned program and in every row, IS THE sha256 OF THE DUMP (.gsa) THAT YtlchkpmmemdjcaaProg.lean LOADS. Nothing in Lean hashes anything: it is a label: what it is worth is what the hold of that sum in a sandbox is worth. -/
noncomputable def Try.pinned : Pinned := { name := "ytlchkpmmemdjcaa", sum := "2914249570eb63df9478599e6f79d8c08664776d26fae7a574c5cc1d51cf009d", checked := Try.checked }
namespace Rows
def none {H : Type} : Left H := { results := [], args := [] }

/-- 'tapestrylaw01.CodecBehind': WHATEVER THE INPUT: true; the input reads as it did. -/
def codecBehindSpec : ChangeSpec := { name := "codecBehind", fn := fun _ => fun
  | [d1, d2] => { results := [.lit (.bool true)], args := [d1, d2] }
  | _ => none }
def codecBehindRow : OpenClaim := { program := "ytlchkpmmemdjcaa", sum := "2914249570eb63df9478599e6f79d8c08664776d26fae7a574c5cc1d51cf009d", func := "tapestry/tapestrylaw01.CodecBehind", spec := "codecBehind", apart := false }
def CodecBehindSaid : Prop := codecBehindRow.holds Try.pinned (OpenSpec.ofChange codecBehindSpec)

/-- ITS FALSE NEIGHBOUR: 'it returns false'. Refute it at one input. -/
def codecBehindWrong : ChangeSpec := { name := "codecBehind", fn := fun _ => fun
  | [d1, d2] => { results := [.lit (.bool false)], args := [d1, d2] }
  | _ => none }
def CodecBehindWrongFalsely : Prop := codecBehindRow.holds Try.pinned (OpenSpec.ofChange codecBehindWrong)

/-- 'tapestrylaw01.CodecRises': WHATEVER THE INPUT: true; the input reads as it did. -/
def codecRisesSpec : ChangeSpec := { name := "codecRises", fn := fun _ => fun
  | [d1, d2] => { results := [.lit (.bool true)], args := [d1, d2] }
  | _ => none }
def codecRisesRow : OpenClaim := { program := "ytlchkpmmemdjcaa", sum := "2914249570eb63df9478599e6f79d8c08664776d26fae7a574c5cc1d51cf009d", func := "tapestry/tapestrylaw01.CodecRises", spec := "codecRises", unfollowed := true, recurses := true, apart := false }
def CodecRisesSaid : Prop := codecRisesRow.holds Try.pinned (OpenSpec.ofChange codecRisesSpec)

/-- ITS FALSE NEIGHBOUR: 'it returns false'. Refute it at one input. -/
def codecRisesWrong : ChangeSpec := { name := "codecRises", fn := fun _ => fun
  | [d1, d2] => { results := [.lit (.bool false)], args := [d1, d2] }
  | _ => none }
def CodecRisesWrongFalsely : Prop := codecRisesRow.holds Try.pinned (OpenSpec.ofChange codecRisesWrong)

/-- 'tapestrylaw02.FramePuts': WHATEVER THE INPUT: true; the input reads as it did. -/
def framePutsSpec : ChangeSpec := { name := "framePuts", fn := fun _ => fun
  | [d] => { results := [.lit (.bool true)], args := [d] }
  | _ => none }
def framePutsRow : OpenClaim := { program := "ytlchkpmmemdjcaa", sum := "2914249570eb63df9478599e6f79d8c08664776d26fae7a574c5cc1d51cf009d", func := "tapestry/tapestrylaw02.FramePuts", spec := "framePuts", apart := false }
def FramePutsSaid : Prop := framePutsRow.holds Try.pinned (OpenSpec.ofChange framePutsSpec)

/-- ITS FALSE NEIGHBOUR: 'it returns false'. Refute it at one input. -/
def framePutsWrong : ChangeSpec := { name := "framePuts", fn := fun _ => fun
  | [d] => { results := [.lit (.bool false)], args := [d] }
  | _ => none }
def FramePutsWrongFalsely : Prop := framePutsRow.holds Try.pinned (OpenSpec.ofChange framePutsWrong)

/-- 'tapestrylaw01.CodecPuts': WHATEVER THE INPUT: true; the input reads as it did. -/
def codecPutsSpec : ChangeSpec := { name := "codecPuts", fn := fun _ => fun
  | [d1, d2, d3] => { results := [.lit (.bool true)], args := [d1, d2, d3] }
  | _ => none }
def codecPutsRow : OpenClaim := { program := "ytlchkpmmemdjcaa", sum := "2914249570eb63df9478599e6f79d8c08664776d26fae7a574c5cc1d51cf009d", func := "tapestry/tapestrylaw01.CodecPuts", spec := "codecPuts", unfollowed := true, recurses := true, apart := false }
def CodecPutsSaid : Prop := codecPutsRow.holds Try.pinned (OpenSpec.ofChange codecPutsSpec)

/-- ITS FALSE NEIGHBOUR: 'it returns false'. Refute it at one input. -/
def codecPutsWrong : ChangeSpec := { name := "codecPuts", fn := fun _ => fun
  | [d1, d2, d3] => { results := [.lit (.bool false)], args := [d1, d2, d3] }
  | _ => none }
def CodecPutsWrongFalsely : Prop := codecPutsRow.holds Try.pinned (OpenSpec.ofChange codecPutsWrong)

/-- 'tapestrylaw02.FrameTakes': WHATEVER THE INPUT: true; the input reads as it did. -/
def frameTakesSpec : ChangeSpec := { name := "frameTakes", fn := fun _ => fun
  | [d] => { results := [.lit (.bool true)], args := [d] }
  | _ => none }
def frameTakesRow : OpenClaim := { program := "ytlchkpmmemdjcaa", sum := "2914249570eb63df9478599e6f79d8c08664776d26fae7a574c5cc1d51cf009d", func := "tapestry/tapestrylaw02.FrameTakes", spec := "frameTakes", apart := false }
def FrameTakesSaid : Prop := frameTakesRow.holds Try.pinned (OpenSpec.ofChange frameTakesSpec)

/-- ITS FALSE NEIGHBOUR: 'it returns false'. Refute it at one input. -/
def frameTakesWrong : ChangeSpec := { name := "frameTakes", fn := fun _ => fun
  | [d] => { results := [.lit (.bool false)], args := [d] }
  | _ => none }
def FrameTakesWrongFalsely : Prop := frameTakesRow.holds Try.pinned (OpenSpec.ofChange frameTakesWrong)

/-- 'tapestrylaw01.CodecTakes': WHATEVER THE INPUT: true; the input reads as it did. -/
def codecTakesSpec : ChangeSpec := { name := "codecTakes", fn := fun _ => fun
  | [d1, d2] => { results := [.lit (.bool true)], args := [d1, d2] }
  | _ => none }
def codecTakesRow : OpenClaim := { program := "ytlchkpmmemdjcaa", sum := "2914249570eb63df9478599e6f79d8c08664776d26fae7a574c5cc1d51cf009d", func := "tapestry/tapestrylaw01.CodecTakes", spec := "codecTakes", apart := false }
def CodecTakesSaid : Prop := codecTakesRow.holds Try.pinned (OpenSpec.ofChange codecTakesSpec)

/-- ITS FALSE NEIGHBOUR: 'it returns false'. Refute it at one input. -/
def codecTakesWrong : ChangeSpec := { name := "codecTakes", fn := fun _ => fun
  | [d1, d2] => { results := [.lit (.bool false)], args := [d1, d2] }
  | _ => none }
def CodecTakesWrongFalsely : Prop := codecTakesRow.holds Try.pinned (OpenSpec.ofChange codecTakesWrong)

/-- 'tapestrylaw02.FrameBack': WHATEVER THE INPUT: true; the input reads as it did. -/
def frameBackSpec : ChangeSpec := { name := "frameBack", fn := fun _ => fun
  | [d1, d2, d3] => { results := [.lit (.bool true)], args := [d1, d2, d3] }
  | _ => none }
def frameBackRow : OpenClaim := { program := "ytlchkpmmemdjcaa", sum := "2914249570eb63df9478599e6f79d8c08664776d26fae7a574c5cc1d51cf009d", func := "tapestry/tapestrylaw02.FrameBack", spec := "frameBack", apart := false }
def FrameBackSaid : Prop := frameBackRow.holds Try.pinned (OpenSpec.ofChange frameBackSpec)

/-- ITS FALSE NEIGHBOUR: 'it returns false'. Refute it at one input. -/
def frameBackWrong : ChangeSpec := { name := "frameBack", fn := fun _ => fun
  | [d1, d2, d3] => { results := [.lit (.bool false)], args := [d1, d2, d3] }
  | _ => none }
def FrameBackWrongFalsely : Prop := frameBackRow.holds Try.pinned (OpenSpec.ofChange frameBackWrong)

/-- 'tapestrylaw02.FrameTurned': WHATEVER THE INPUT: true; the input reads as it did. -/
def frameTurnedSpec : ChangeSpec := { name := "frameTurned", fn := fun _ => fun
  | [d1, d2, d3] => { results := [.lit (.bool true)], args := [d1, d2, d3] }
  | _ => none }
def frameTurnedRow : OpenClaim := { program := "ytlchkpmmemdjcaa", sum := "2914249570eb63df9478599e6f79d8c08664776d26fae7a574c5cc1d51cf009d", func := "tapestry/tapestrylaw02.FrameTurned", spec := "frameTurned", apart := false }
def FrameTurnedSaid : Prop := frameTurnedRow.holds Try.pinned (OpenSpec.ofChange frameTurnedSpec)

/-- ITS FALSE NEIGHBOUR: 'it returns false'. Refute it at one input. -/
def frameTurnedWrong : ChangeSpec := { name := "frameTurned", fn := fun _ => fun
  | [d1, d2, d3] => { results := [.lit (.bool false)], args := [d1, d2, d3] }
  | _ => none }
def FrameTurnedWrongFalsely : Prop := frameTurnedRow.holds Try.pinned (OpenSpec.ofChange frameTurnedWrong)

/-- 'tapestrylaw02.FrameWalks': WHATEVER THE INPUT: true; the input reads as it did. -/
def frameWalksSpec : ChangeSpec := { name := "frameWalks", fn := fun _ => fun
  | [d1, d2] => { results := [.lit (.bool true)], args := [d1, d2] }
  | _ => none }
def frameWalksRow : OpenClaim := { program := "ytlchkpmmemdjcaa", sum := "2914249570eb63df9478599e6f79d8c08664776d26fae7a574c5cc1d51cf009d", func := "tapestry/tapestrylaw02.FrameWalks", spec := "frameWalks", unfollowed := true, recurses := true, apart := false }
def FrameWalksSaid : Prop := frameWalksRow.holds Try.pinned (OpenSpec.ofChange frameWalksSpec)

/-- ITS FALSE NEIGHBOUR: 'it returns false'. Refute it at one input. -/
def frameWalksWrong : ChangeSpec := { name := "frameWalks", fn := fun _ => fun
  | [d1, d2] => { results := [.lit (.bool false)], args := [d1, d2] }
  | _ => none }
def FrameWalksWrongFalsely : Prop := frameWalksRow.holds Try.pinned (OpenSpec.ofChange frameWalksWrong)

/-- 'tapestrylaw02.FrameRows': WHATEVER THE INPUT: true; the input reads as it did. -/
def frameRowsSpec : ChangeSpec := { name := "frameRows", fn := fun _ => fun
  | [d1, d2] => { results := [.lit (.bool true)], args := [d1, d2] }
  | _ => none }
def frameRowsRow : OpenClaim := { program := "ytlchkpmmemdjcaa", sum := "2914249570eb63df9478599e6f79d8c08664776d26fae7a574c5cc1d51cf009d", func := "tapestry/tapestrylaw02.FrameRows", spec := "frameRows", unfollowed := true, recurses := true, apart := false }
def FrameRowsSaid : Prop := frameRowsRow.holds Try.pinned (OpenSpec.ofChange frameRowsSpec)

/-- ITS FALSE NEIGHBOUR: 'it returns false'. Refute it at one input. -/
def frameRowsWrong : ChangeSpec := { name := "frameRows", fn := fun _ => fun
  | [d1, d2] => { results := [.lit (.bool false)], args := [d1, d2] }
  | _ => none }
def FrameRowsWrongFalsely : Prop := frameRowsRow.holds Try.pinned (OpenSpec.ofChange frameRowsWrong)

/-- 'tapestrylaw01.CodecBack': WHATEVER THE INPUT: true; the input reads as it did. -/
def codecBackSpec : ChangeSpec := { name := "codecBack", fn := fun _ => fun
  | [d] => { results := [.lit (.bool true)], args := [d] }
  | _ => none }
def codecBackRow : OpenClaim := { program := "ytlchkpmmemdjcaa", sum := "2914249570eb63df9478599e6f79d8c08664776d26fae7a574c5cc1d51cf009d", func := "tapestry/tapestrylaw01.CodecBack", spec := "codecBack", unfollowed := true, recurses := true, apart := false }
def CodecBackSaid : Prop := codecBackRow.holds Try.pinned (OpenSpec.ofChange codecBackSpec)

/-- ITS FALSE NEIGHBOUR: 'it returns false'. Refute it at one input. -/
def codecBackWrong : ChangeSpec := { name := "codecBack", fn := fun _ => fun
  | [d] => { results := [.lit (.bool false)], args := [d] }
  | _ => none }
def CodecBackWrongFalsely : Prop := codecBackRow.holds Try.pinned (OpenSpec.ofChange codecBackWrong)

/- THE SECOND FORM. 'bulk': how many values and letters a reading holds, each counted each time it is reached (what is shared counts as often as it is met; a slice's spare places count too). A statement '..UptoSaid' is the law's where the arguments, and the package variables that the reading takes, are together of bulk at most 1048576: NARROWER than '..Said'. Prove '..Said' where nothing that the law and all that it calls make is longer than what came in: it says more and counts as full. Else prove '..UptoSaid'. A law counts once. -/
mutual
def uptoBulk {H : Type} : DataW H → Nat
  | .lit (.string bytes) => bytes.length + 1
  | .lit _ => 1
  | .nil => 1
  | .ptr d => uptoBulk d + 1
  | .slice elems spare => uptoBulkAll elems + uptoBulkAll spare + 1
  | .agg parts => uptoBulkAll parts + 1
  | .iface _ d => uptoBulk d + 1
  | .map entries => uptoBulkEntries entries + 1
  | .held _ => 1
def uptoBulkAll {H : Type} : List (DataW H) → Nat
  | [] => 0
  | d :: r => uptoBulk d + uptoBulkAll r
def uptoBulkEntries {H : Type} : List (Lit × DataW H) → Nat
  | [] => 0
  | x :: r => uptoBulkEntry x + uptoBulkEntries r
def uptoBulkEntry {H : Type} : Lit × DataW H → Nat
  | (.string bytes, d) => bytes.length + uptoBulk d + 1
  | (_, d) => uptoBulk d + 1
 end
def uptoSmall : (H : Type) → List (DataW H) → Bool := fun _ ds => decide (uptoBulkAll ds ≤ 1048576)
def OpenSpec.upto (s : _root_.Go.ChangeSpec) : _root_.Go.OpenSpec := { _root_.Go.OpenSpec.ofChange s with cond := some uptoSmall }

/-- 'tapestrylaw01.CodecBehind', WHERE WHAT IT READS IS OF BULK AT MOST 1048576: true; the input reads as it did. -/
def codecBehindUptoRow : OpenClaim := { program := "ytlchkpmmemdjcaa", sum := "2914249570eb63df9478599e6f79d8c08664776d26fae7a574c5cc1d51cf009d", func := "tapestry/tapestrylaw01.CodecBehind", spec := "codecBehind", apart := false, narrowed := true }
def CodecBehindUptoSaid : Prop := codecBehindUptoRow.holds Try.pinned (OpenSpec.upto codecBehindSpec)

/-- 'tapestrylaw01.CodecRises', WHERE WHAT IT READS IS OF BULK AT MOST 1048576: true; the input reads as it did. -/
def codecRisesUptoRow : OpenClaim := { program := "ytlchkpmmemdjcaa", sum := "2914249570eb63df9478599e6f79d8c08664776d26fae7a574c5cc1d51cf009d", func := "tapestry/tapestrylaw01.CodecRises", spec := "codecRises", unfollowed := true, recurses := true, apart := false, narrowed := true }
def CodecRisesUptoSaid : Prop := codecRisesUptoRow.holds Try.pinned (OpenSpec.upto codecRisesSpec)

/-- 'tapestrylaw02.FramePuts', WHERE WHAT IT READS IS OF BULK AT MOST 1048576: true; the input reads as it did. -/
def framePutsUptoRow : OpenClaim := { program := "ytlchkpmmemdjcaa", sum := "2914249570eb63df9478599e6f79d8c08664776d26fae7a574c5cc1d51cf009d", func := "tapestry/tapestrylaw02.FramePuts", spec := "framePuts", apart := false, narrowed := true }
def FramePutsUptoSaid : Prop := framePutsUptoRow.holds Try.pinned (OpenSpec.upto framePutsSpec)

/-- 'tapestrylaw01.CodecPuts', WHERE WHAT IT READS IS OF BULK AT MOST 1048576: true; the input reads as it did. -/
def codecPutsUptoRow : OpenClaim := { program := "ytlchkpmmemdjcaa", sum := "2914249570eb63df9478599e6f79d8c08664776d26fae7a574c5cc1d51cf009d", func := "tapestry/tapestrylaw01.CodecPuts", spec := "codecPuts", unfollowed := true, recurses := true, apart := false, narrowed := true }
def CodecPutsUptoSaid : Prop := codecPutsUptoRow.holds Try.pinned (OpenSpec.upto codecPutsSpec)

/-- 'tapestrylaw02.FrameTakes', WHERE WHAT IT READS IS OF BULK AT MOST 1048576: true; the input reads as it did. -/
def frameTakesUptoRow : OpenClaim := { program := "ytlchkpmmemdjcaa", sum := "2914249570eb63df9478599e6f79d8c08664776d26fae7a574c5cc1d51cf009d", func := "tapestry/tapestrylaw02.FrameTakes", spec := "frameTakes", apart := false, narrowed := true }
def FrameTakesUptoSaid : Prop := frameTakesUptoRow.holds Try.pinned (OpenSpec.upto frameTakesSpec)

/-- 'tapestrylaw01.CodecTakes', WHERE WHAT IT READS IS OF BULK AT MOST 1048576: true; the input reads as it did. -/
def codecTakesUptoRow : OpenClaim := { program := "ytlchkpmmemdjcaa", sum := "2914249570eb63df9478599e6f79d8c08664776d26fae7a574c5cc1d51cf009d", func := "tapestry/tapestrylaw01.CodecTakes", spec := "codecTakes", apart := false, narrowed := true }
def CodecTakesUptoSaid : Prop := codecTakesUptoRow.holds Try.pinned (OpenSpec.upto codecTakesSpec)

/-- 'tapestrylaw02.FrameBack', WHERE WHAT IT READS IS OF BULK AT MOST 1048576: true; the input reads as it did. -/
def frameBackUptoRow : OpenClaim := { program := "ytlchkpmmemdjcaa", sum := "2914249570eb63df9478599e6f79d8c08664776d26fae7a574c5cc1d51cf009d", func := "tapestry/tapestrylaw02.FrameBack", spec := "frameBack", apart := false, narrowed := true }
def FrameBackUptoSaid : Prop := frameBackUptoRow.holds Try.pinned (OpenSpec.upto frameBackSpec)

/-- 'tapestrylaw02.FrameTurned', WHERE WHAT IT READS IS OF BULK AT MOST 1048576: true; the input reads as it did. -/
def frameTurnedUptoRow : OpenClaim := { program := "ytlchkpmmemdjcaa", sum := "2914249570eb63df9478599e6f79d8c08664776d26fae7a574c5cc1d51cf009d", func := "tapestry/tapestrylaw02.FrameTurned", spec := "frameTurned", apart := false, narrowed := true }
def FrameTurnedUptoSaid : Prop := frameTurnedUptoRow.holds Try.pinned (OpenSpec.upto frameTurnedSpec)

/-- 'tapestrylaw02.FrameWalks', WHERE WHAT IT READS IS OF BULK AT MOST 1048576: true; the input reads as it did. -/
def frameWalksUptoRow : OpenClaim := { program := "ytlchkpmmemdjcaa", sum := "2914249570eb63df9478599e6f79d8c08664776d26fae7a574c5cc1d51cf009d", func := "tapestry/tapestrylaw02.FrameWalks", spec := "frameWalks", unfollowed := true, recurses := true, apart := false, narrowed := true }
def FrameWalksUptoSaid : Prop := frameWalksUptoRow.holds Try.pinned (OpenSpec.upto frameWalksSpec)

/-- 'tapestrylaw02.FrameRows', WHERE WHAT IT READS IS OF BULK AT MOST 1048576: true; the input reads as it did. -/
def frameRowsUptoRow : OpenClaim := { program := "ytlchkpmmemdjcaa", sum := "2914249570eb63df9478599e6f79d8c08664776d26fae7a574c5cc1d51cf009d", func := "tapestry/tapestrylaw02.FrameRows", spec := "frameRows", unfollowed := true, recurses := true, apart := false, narrowed := true }
def FrameRowsUptoSaid : Prop := frameRowsUptoRow.holds Try.pinned (OpenSpec.upto frameRowsSpec)

/-- 'tapestrylaw01.CodecBack', WHERE WHAT IT READS IS OF BULK AT MOST 1048576: true; the input reads as it did. -/
def codecBackUptoRow : OpenClaim := { program := "ytlchkpmmemdjcaa", sum := "2914249570eb63df9478599e6f79d8c08664776d26fae7a574c5cc1d51cf009d", func := "tapestry/tapestrylaw01.CodecBack", spec := "codecBack", unfollowed := true, recurses := true, apart := false, narrowed := true }
def CodecBackUptoSaid : Prop := codecBackUptoRow.holds Try.pinned (OpenSpec.upto codecBackSpec)

end Rows
end Go.Proofs.Ytlchkpmmemdjcaa
