
/- Walks: taking words. Condition: lengths that are ints. -/
import Derived.Test.YtndekdgpibipnaaWTake
import Derived.Test.YtndekdgpibipnaaPlainG
namespace Go.Proofs.Ytndekdgpibipnaa
open Go.RowKit

/-- what taking a word answers -/
def keyInt (l : List UInt8) : Value := if l.length < 8 then .tuple #[.int .i64 0, .int .i64 0, .int .i64 2] else .tuple #[.int .i64 (Pl.down (Pl.word (l.take 8))), .int .i64 8, .int .i64 0]

end Go.Proofs.Ytndekdgpibipnaa
