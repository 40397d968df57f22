
/- Walks: taking numbers from bytes. Condition: lengths that are ints. -/
import Derived.Test.YtiogjebekadmcaaWMisc
import Derived.Test.YtiogjebekadmcaaPlainF
import Derived.Test.YtiogjebekadmcaaWBehind
namespace Go.Proofs.Ytiogjebekadmcaa
open Go.RowKit

/-- a number, how many bytes, what is wrong -/
def tup3 (v : Nat × Nat × Nat) : Value := .tuple #[.int .u64 v.1, .int .i64 v.2.1, .int .i64 v.2.2]

theorem byte_lt' (x : UInt8) : x.toNat < 256 := x.toNat_lt

end Go.Proofs.Ytiogjebekadmcaa
