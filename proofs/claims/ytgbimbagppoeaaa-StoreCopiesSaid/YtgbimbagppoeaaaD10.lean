import Derived.Test.YtgbimbagppoeaaaSLXA
import Derived.Test.YtgbimbagppoeaaaSSF
set_option linter.all false
set_option synthInstance.maxSize 100000
set_option synthInstance.maxHeartbeats 400000
namespace Go.Proofs
open Go Go.SL
/-! the arguments of chapter 10's laws -/
def toSV : Value → SV
  | .slice p n c => (p, n, c)
  | _ => (none, 0, 0)
theorem dec_bsl {P : Program} {T el : TypeId} (h : P.underlying T = some (.slice el)) (hk : P.cellsOf el = 1) (he : P.underlying el = some (.int .u8)) :
    Dec P T (fun x : SV × List UInt8 => [.slice x.1.1 x.1.2.1 x.1.2.2]) (fun w x => SlIn w (svV x.1) encB x.2) :=
  Dec.map2 (dec_slice encB h hk (dec_byteS he)) _ _ (fun a : Value × List UInt8 => (toSV a.1, a.2)) fun w a ha => by
    have h1 := ha.1
    obtain ⟨p, c, hv, _, _⟩ := sliceIn_of h1
    rw [hv] at h1
    refine ⟨?_, ?_⟩
    · show [a.1] = _
      rw [hv]; rfl
    · show SlIn w (svV (toSV a.1)) encB a.2
      rw [hv]; exact h1
def okA10 (w : World) (a : A10) : Prop := wfI .i64 a.2.1 ∧ SlIn w (svV a.2.2.2.2.1) encB a.2.2.2.2.2
theorem dA10 : Dec Try.prog 159 encA10.f okA10 :=
  Dec.map (dec_struct Try.underlying159 (by kernel_rfl) (.cons (n := 1) (dec_int Try.underlying3) rfl (by kernel_rfl) (.cons (n := 1) (dec_int Try.underlying3) rfl (by kernel_rfl) (.cons (n := 1) (dec_str Try.underlying9) rfl (by kernel_rfl) (.cons (n := 1) (dec_str Try.underlying9) rfl (by kernel_rfl) (.cons (n := 1) (dec_bsl Try.underlying27 (by kernel_rfl) Try.underlying5) rfl (by kernel_rfl) .nil)))))) _ _ (fun a => (a.1, a.2.1, a.2.2.1, a.2.2.2.1, a.2.2.2.2.1)) (fun _ => rfl) (fun _ _ h => ⟨h.2.1, h.2.2.2.2.1⟩)
theorem okAct_of {w : World} {a : A10} (h : okA10 w a) : okAct [ro w] a := ⟨⟨fun w' s => SlIn.mono h.2 (ro_le s)⟩, (wf_i64 h.1).2⟩
end Go.Proofs
