
/- Walks: reading texts that are keys. Condition: a length that a text may have. -/
import Derived.Test.YtndekdgpibipnaaWTake2
import Derived.Test.YtndekdgpibipnaaPlainH
namespace Go.Proofs.Ytndekdgpibipnaa
open Go.RowKit

end Go.Proofs.Ytndekdgpibipnaa
