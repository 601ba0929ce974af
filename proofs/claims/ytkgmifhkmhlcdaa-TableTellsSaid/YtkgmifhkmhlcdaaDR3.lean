import Derived.Test.YtkgmifhkmhlcdaaSLX
import Derived.Test.YtkgmifhkmhlcdaaTBii
set_option linter.all false
namespace Go.Proofs
open Go Go.SL
def okII (_ : World) (a : Int × Int) : Prop := wfI .i64 a.1 ∧ wfI .i64 a.2
theorem dR3 : Dec Try.prog 73 enc_ii.f okII :=
  Dec.map (dec_struct Try.underlying73 (by kernel_rfl) (.cons (n := 1) (dec_int Try.underlying3) rfl (by kernel_rfl) (.cons (n := 1) (dec_int Try.underlying3) rfl (by kernel_rfl) .nil))) _ _ (fun a => (a.1, a.2.1)) (fun _ => rfl) (fun _ _ h => ⟨h.1, h.2.1⟩)
end Go.Proofs
