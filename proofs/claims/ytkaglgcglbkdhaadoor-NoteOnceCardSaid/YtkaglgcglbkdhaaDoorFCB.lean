import Derived.Test.YtkaglgcglbkdhaaDoorRows
import Derived.WalkKit
import Derived.ProofKit
import Derived.OpenShut
set_option linter.all false
namespace Go.Proofs
open Go
theorem cf_heard : Tryd.prog.stopsHeard = true := by kernel_rfl
end Go.Proofs
