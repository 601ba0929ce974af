import Derived.Test.YtgbimbagppoeaaaSLX
import Derived.Test.YtgbimbagppoeaaaSLT
set_option linter.all false
set_option synthInstance.maxSize 100000
set_option synthInstance.maxHeartbeats 400000
namespace Go.Proofs
open Go Go.SL
/-! the arguments of chapter 23's laws -/
/-- an act: its kind, a name, an amount, a day -/
@[reducible] def encA23 : Enc (Int × ByteArray × Int × Int) := ⟨4, fun r => [.int .i64 r.1, .string r.2.1, .int .i64 r.2.2.1, .int .i64 r.2.2.2], fun _ => rfl, fun r v h => by
  simp at h; rcases h with rfl | rfl | rfl | rfl <;> rfl⟩
def okA23 (_ : World) (a : Int × ByteArray × Int × Int) : Prop := wfI .i64 a.1 ∧ a.2.1.size ≤ maxLen ∧ wfI .i64 a.2.2.1 ∧ wfI .i64 a.2.2.2
theorem dA23 : Dec Try.prog 69 encA23.f okA23 :=
  Dec.map (dec_struct Try.underlying69 (by kernel_rfl) (.cons (n := 1) (dec_int Try.underlying3) rfl (by kernel_rfl) (.cons (n := 1) (dec_str Try.underlying9) rfl (by kernel_rfl) (.cons (n := 1) (dec_int Try.underlying2) rfl (by kernel_rfl) (.cons (n := 1) (dec_int Try.underlying3) rfl (by kernel_rfl) .nil))))) _ _ (fun a => (a.1, a.2.1, a.2.2.1, a.2.2.2.1)) (fun _ => rfl) (fun _ _ h => ⟨h.1, h.2.1, h.2.2.1, h.2.2.2.1⟩)
end Go.Proofs
