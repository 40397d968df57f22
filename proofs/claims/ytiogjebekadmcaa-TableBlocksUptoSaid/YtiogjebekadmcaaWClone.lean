
/- Walks: a copy of a text. Condition: a length that a text may have. -/
import Derived.Test.YtiogjebekadmcaaWPut
import Derived.Lib.Strings
import Derived.Lib.Walk
import Derived.Lib.BufferWrite
import Derived.Lib.UnsafeStr
import Derived.Laws.MakeOwn
namespace Go.Proofs.Ytiogjebekadmcaa
open Go.RowKit

end Go.Proofs.Ytiogjebekadmcaa
