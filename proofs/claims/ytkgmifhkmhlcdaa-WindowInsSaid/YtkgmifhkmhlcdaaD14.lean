import Derived.Test.YtkgmifhkmhlcdaaSLX
import Derived.Test.YtkgmifhkmhlcdaaL14O
set_option linter.all false
namespace Go.Proofs
open Go Go.SL
/-! the arguments of chapter 14's laws -/
def okA14 (w : World) (a : Int × Int × Value × List Int) : Prop := wfI .i64 a.1 ∧ wfI .i64 a.2.1 ∧ SlIn w (slV a.2.2.1) encI a.2.2.2
theorem dA14 : Dec Try.prog 133 encA14.f okA14 :=
  Dec.map2 (dec_struct Try.underlying133 (by kernel_rfl) (.cons (n := 1) (dec_int Try.underlying3) rfl (by kernel_rfl) (.cons (n := 1) (dec_int Try.underlying3) rfl (by kernel_rfl) (.cons (n := 1) (dec_slice encI Try.underlying113 (by kernel_rfl) (dec_intS Try.underlying3)) rfl (by kernel_rfl) .nil)))) _ _ (fun a => (a.1, a.2.1, a.2.2.1.1, a.2.2.1.2)) (fun w a h => by
    obtain ⟨h1, h2, ⟨h3, _⟩, _⟩ := h
    have e := slV_in h3
    exact ⟨by show _ = [Value.int .i64 a.1, .int .i64 a.2.1, slV a.2.2.1.1]; rw [e]; rfl, h1, h2, by show SlIn w (slV a.2.2.1.1) encI a.2.2.1.2; rw [e]; exact h3⟩)
end Go.Proofs
