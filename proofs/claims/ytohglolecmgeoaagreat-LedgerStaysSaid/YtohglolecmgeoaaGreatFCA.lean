import Derived.Test.YtohglolecmgeoaaGreatRows
import Derived.WalkKit
import Derived.ProofKit
import Derived.OpenShut
set_option linter.all false
set_option maxRecDepth 20000
namespace Go.Proofs
open Go
theorem cf_laid : laidOutB Tryz.prog = true := by kernel_rfl
theorem cf_maps : mapsRowed Tryz.prog = true := by kernel_rfl
theorem cf_stops : Tryz.prog.stops = [] := by kernel_rfl
theorem cf_knobs : Tryz.prog.stopKnobs = [] := by kernel_rfl
end Go.Proofs