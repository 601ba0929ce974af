import Derived.Test.YtkmenmlojnklfaaGreatDoorRows
import Derived.WalkKit
import Derived.ProofKit
import Derived.OpenShut
set_option linter.all false
namespace Go.Proofs
open Go
theorem cf_heard : Tryz.prog.stopsHeard = true := by kernel_rfl
end Go.Proofs
