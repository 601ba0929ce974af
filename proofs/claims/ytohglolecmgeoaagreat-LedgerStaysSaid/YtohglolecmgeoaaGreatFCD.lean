import Derived.Test.YtohglolecmgeoaaGreatRows
import Derived.WalkKit
import Derived.ProofKit
import Derived.OpenShut
set_option linter.all false
set_option maxRecDepth 20000
namespace Go.Proofs
open Go
theorem cf_keys : Tryz.prog.plainKeys = true := by kernel_rfl
theorem cf_lifts : Tryz.prog.liftsFinal = false := by kernel_rfl
end Go.Proofs