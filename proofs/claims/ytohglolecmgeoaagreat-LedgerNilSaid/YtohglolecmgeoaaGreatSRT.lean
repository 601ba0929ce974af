import Derived.Test.YtohglolecmgeoaaGreatSLT
import Derived.Test.YtohglolecmgeoaaGreatB2dc22f2e
import Derived.Shelf.SortM.Plain
import Derived.Shelf.SortM.SortNone
set_option linter.all false
set_option synthInstance.maxSize 100000
set_option synthInstance.maxHeartbeats 400000
namespace Go.Proofs
open Go

/-! ### slices.Sort of texts: the library's contract at this program's numbers -/
open Go.SL
end Go.Proofs
