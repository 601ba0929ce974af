import Derived.Test.YtkaglgcglbkdhaaDoorRows
import Derived.WalkKit
import Derived.ProofKit
import Derived.OpenShut
set_option linter.all false
namespace Go.Proofs
open Go
theorem cf_laid : laidOutB Tryd.prog = true := by kernel_rfl
theorem cf_maps : mapsRowed Tryd.prog = true := by kernel_rfl
theorem cf_stops : Tryd.prog.stops = [] := by kernel_rfl
theorem cf_knobs : Tryd.prog.stopKnobs = [] := by kernel_rfl
end Go.Proofs
