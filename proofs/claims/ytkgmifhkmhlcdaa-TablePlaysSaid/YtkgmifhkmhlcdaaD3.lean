import Derived.Test.YtkgmifhkmhlcdaaSLX
import Derived.Test.YtkgmifhkmhlcdaaL3P
set_option linter.all false
namespace Go.Proofs
open Go Go.SL
/-! the arguments of chapter 3's laws -/
def okA3 (_ : World) (a : Int × Int × Int) : Prop := wfI .i64 a.1 ∧ wfI .i64 a.2.1 ∧ wfI .i64 a.2.2
theorem dA3 : Dec Try.prog 90 encA3.f okA3 :=
  Dec.map (dec_struct Try.underlying90 (by kernel_rfl) (.cons (n := 1) (dec_int Try.underlying3) rfl (by kernel_rfl) (.cons (n := 1) (dec_int Try.underlying3) rfl (by kernel_rfl) (.cons (n := 1) (dec_int Try.underlying3) rfl (by kernel_rfl) .nil)))) _ _ (fun a => (a.1, a.2.1, a.2.2.1)) (fun _ => rfl) (fun _ _ h => ⟨h.1, h.2.1, h.2.2.1⟩)
end Go.Proofs
