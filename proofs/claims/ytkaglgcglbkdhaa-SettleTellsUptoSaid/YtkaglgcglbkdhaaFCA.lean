import Derived.Test.YtkaglgcglbkdhaaRows
import Derived.WalkKit
import Derived.ProofKit
import Derived.OpenShut
set_option linter.all false
namespace Go.Proofs
open Go
theorem cf_laid : laidOutB Try.prog = true := by kernel_rfl
theorem cf_maps : mapsRowed Try.prog = true := by kernel_rfl
theorem cf_stops : Try.prog.stops = [] := by kernel_rfl
theorem cf_knobs : Try.prog.stopKnobs = [] := by kernel_rfl
end Go.Proofs
