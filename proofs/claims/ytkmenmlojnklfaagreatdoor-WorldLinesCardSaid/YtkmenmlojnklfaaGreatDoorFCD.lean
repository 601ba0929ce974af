import Derived.Test.YtkmenmlojnklfaaGreatDoorRows
import Derived.WalkKit
import Derived.ProofKit
import Derived.OpenShut
set_option linter.all false
namespace Go.Proofs
open Go
theorem cf_keys : Tryz.prog.plainKeys = true := by kernel_rfl
theorem cf_lifts : Tryz.prog.liftsFinal = false := by kernel_rfl
end Go.Proofs
