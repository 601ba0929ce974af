/-
  CallNil returns true and leaves its arguments as they were, for every input: no condition.
-/
import Derived.Test.YtkgmifhkmhlcdaaRows
import Derived.WalkKit
import Derived.ProofKit
import Derived.OpenShut
import Derived.ShutString
import Derived.ChangeOld
import Derived.Below
import Derived.Test.YtkgmifhkmhlcdaaFCA
import Derived.Test.YtkgmifhkmhlcdaaFCB
import Derived.Test.YtkgmifhkmhlcdaaFCC
import Derived.Test.YtkgmifhkmhlcdaaFCD
import Derived.Test.YtkgmifhkmhlcdaaD23
import Derived.Test.YtkgmifhkmhlcdaaCA6
namespace Go.Proofs.Ytkgmifhkmhlcdaa.callNil
open Go.ChangeShapes Go.WideShapes Go.ChangeAt Go.RowKit
open Go.ChangeMaps (open_string shut_string)
set_option linter.unusedVariables false
set_option synthInstance.maxSize 100000
set_option synthInstance.maxHeartbeats 400000

theorem own : ownKnob Try.prog.godebug = none := by kernel_rfl
theorem laidOut : laidOutB Try.prog = true := cf_laid

theorem walk (w : World) (v0 : Value) (w0 : ∃ b, v0 = .agg (encA23.f b).toArray ∧ okA23 w b) :
    Calls Try.prog 16 #[v0] w fun e w' => e = .returned (.bool true) ∧ Below w.heap.size w w' := by
  obtain ⟨b0, rfl, ok0⟩ := w0
  exact SL.calls_of fun _ h => CallNil_spec h

/-! ### THE ROW's STEP: WRITTEN OUT: LEAVE IT -/
set_option maxRecDepth 100000 in
theorem lifted (os : Os) (started : os.Started) (H : Type) (enc : TypeId × Value → H) :
    ReturnsInHanded {} Try.checked os 16 .any (Rows.callNilSpec.pre6 enc Try.prog Try.f16 Rows.callNilRow.domain false) (Rows.callNilSpec.post enc Try.prog Try.f16 false true false false) := by
  refine returnsInHanded_of_change (C := Try.checked) own started (by kernel_rfl) Try.func16
    (ChangeSpec.witness6 (enc := enc) (C := Try.checked) false ⟨#[], #[.agg #[.int .i64 0, .string ⟨#[]⟩, .int .i64 0, .int .i64 0]], []⟩ 8 (by kernel_rfl) (by kernel_rfl) (by kernel_rfl) (by kernel_rfl)) ?_
  intro W base args ds gs before hval0 hW hcnd _
  have hval : ∀ (j : Nat) t v, Try.f16.params[j]? = some t → args[j]? = some v → Value.okWide Try.prog W .any base t v := hval0
  have hW' := hW
  obtain ⟨p, q, hA0, hV, rfl, hfz, hnd⟩ := hW
  have hA : DataW.TrodAll enc Try.prog W 0 (fun _ => true) true Try.f16.params.toList args.toList ds p := hA0
  rw [Try.params16] at hA hval
  obtain ⟨v0, vs0, d0, ds0, p0, q0, hargs, rfl, rfl, h0, r0⟩ := trodAll_cons hA
  obtain ⟨rfl, rfl, rfl⟩ := trodAll_nil r0
  obtain rfl : args = #[v0] := by cases args; simp_all
  obtain ⟨rfl, rfl⟩ := trodVars_none hV
  obtain ⟨p_c0, rfl, _⟩ := okWide_struct Try.underlying143 (hval 0 143 v0 rfl rfl)
  have k0 := h0
  have lt0 : ∀ x ∈ p0, x.block < W.heap.size := by obtain ⟨m, hm⟩ := k0; exact DataW.trod_lt m _ _ _ hm
  have w0 : ∃ b, Value.agg p_c0 = .agg (encA23.f b).toArray ∧ okA23 W b := by
    obtain ⟨fuel, hf⟩ := h0
    obtain ⟨b, hb, hk⟩ := (dA23).h hf
    exact ⟨b, by have := congrArg List.toArray hb; simpa [Value.cells] using this, hk⟩
  clear hA0 hval0
  refine (walk W _ w0).mono fun e W' ⟨he, bel⟩ => ?_
  subst he
  exact ⟨_, rfl, _, _, _, [], _, [], hW', trodAll_mk1 (shut_bool Try.underlying4 _), (trodAll_cons_mk (Below.trod laidOut (by kernel_rfl) (of_decide_eq_true (by kernel_rfl)) k0 bel lt0) trodAll_mk0), rfl, bel.frame _, fun h => by cases h⟩

theorem c1 : Rows.callNilRow.wf (OpenSpec.ofChange Rows.callNilSpec) = true := by kernel_rfl
theorem c4 : Try.f16.params.all (Try.prog.readableRec ·) = true := by kernel_rfl
theorem c7 : (Rows.callNilRow.inPlace == Try.prog.inPlace 16) = true := by kernel_rfl
theorem c8 : (Rows.callNilRow.unfollowed == Try.prog.unfollowed 16) = true := by kernel_rfl
theorem c9 : (Rows.callNilRow.recurses == Try.prog.recurses 16) = true := by kernel_rfl
theorem c10 : (Rows.callNilRow.named == Try.prog.varsNamed 16) = true := by kernel_rfl
theorem closed : joinedFacts Try.prog 16 Try.f16 Rows.callNilSpec Rows.callNilRow = true := by
  unfold joinedFacts
  rw [c1, cf_laid, cf_maps, c4, cf_stops, cf_knobs, c7, c8, c9, c10, cf_keys, cf_heard, cf_enter, cf_lifts]
  kernel_rfl
theorem over : Rows.callNilRow.holds Try.pinned (OpenSpec.ofChange Rows.callNilSpec) :=
  OpenClaim.holds_of_wide 16 Try.f16 rfl rfl rfl rfl rfl rfl rfl ⟨rfl, rfl, rfl, rfl, rfl⟩ rfl rfl rfl rfl rfl (by kernel_rfl) Try.func16 closed
    (of_decide_eq_true (by kernel_rfl)) (by unfold Func.isWrapper; first | (rw [if_pos (by decide +kernel)]; kernel_rfl) | (rw [if_neg (by decide +kernel)]; exact ⟨rfl, rfl⟩))
    (fun os started H enc _ => lifted os started H enc)

/-- THE STATEMENT -/
theorem proved : Rows.CallNilSaid := over
#print axioms proved
end Go.Proofs.Ytkgmifhkmhlcdaa.callNil
