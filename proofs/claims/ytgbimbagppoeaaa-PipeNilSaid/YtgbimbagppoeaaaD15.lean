import Derived.Test.YtgbimbagppoeaaaSLXA
import Derived.Test.YtgbimbagppoeaaaSLXH
import Derived.Test.YtgbimbagppoeaaaSLT
set_option linter.all false
set_option synthInstance.maxSize 100000
set_option synthInstance.maxHeartbeats 400000
namespace Go.Proofs
open Go Go.SL
/-! the arguments of chapter 15's laws -/
theorem dec_bslY {P : Program} {T el : TypeId} (h : P.underlying T = some (.slice el)) (hk : P.cellsOf el = 1) (he : P.underlying el = some (.int .u8)) :
    Dec P T (fun x : SB => [.slice x.1.1 x.1.2.1 x.1.2.2]) (fun w x => SlIn w (svY x.1) encB x.2) :=
  Dec.map2 (dec_slice encB h hk (dec_byteS he)) _ _ (fun a : Value × List UInt8 => (toSVy a.1, a.2)) fun w a ha => by
    have h1 := ha.1
    obtain ⟨p, c, hv, _, _⟩ := sliceIn_of h1
    rw [hv] at h1
    refine ⟨?_, ?_⟩
    · show [a.1] = _
      rw [hv]; rfl
    · show SlIn w (svY (toSVy a.1)) encB a.2
      rw [hv]; exact h1
abbrev PkA := Int × Int × Int × Int × SB
@[reducible] def encPk : Enc PkA := ⟨5, fun r => [.int .i64 r.1, .int .i64 r.2.1, .int .i64 r.2.2.1, .int .i64 r.2.2.2.1, .slice r.2.2.2.2.1.1 r.2.2.2.2.1.2.1 r.2.2.2.2.1.2.2], fun _ => rfl, fun r v h => by
  simp at h; rcases h with rfl | rfl | rfl | rfl | rfl <;> rfl⟩
def okPk (w : World) (a : PkA) : Prop := wfI .i64 a.2.2.2.1 ∧ SlIn w (svY a.2.2.2.2.1) encB a.2.2.2.2.2
theorem dPk : Dec Try.prog 129 encPk.f okPk :=
  Dec.map (dec_struct Try.underlying129 (by kernel_rfl) (.cons (n := 1) (dec_int Try.underlying3) rfl (by kernel_rfl) (.cons (n := 1) (dec_int Try.underlying3) rfl (by kernel_rfl) (.cons (n := 1) (dec_int Try.underlying3) rfl (by kernel_rfl) (.cons (n := 1) (dec_int Try.underlying3) rfl (by kernel_rfl) (.cons (n := 1) (dec_bslY Try.underlying27 (by kernel_rfl) Try.underlying5) rfl (by kernel_rfl) .nil)))))) _ _ (fun a => (a.1, a.2.1, a.2.2.1, a.2.2.2.1, a.2.2.2.2.1)) (fun _ => rfl) (fun _ _ h => ⟨h.2.2.2.1, h.2.2.2.2.1⟩)
theorem okPk_rd {w : World} {a : PkA} (h : okPk w a) : RdE [ro w] encB (.slice a.2.2.2.2.1.1 a.2.2.2.2.1.2.1 a.2.2.2.2.1.2.2) a.2.2.2.2.2 := ⟨fun w' s => SlIn.mono h.2 (ro_le s)⟩
end Go.Proofs
