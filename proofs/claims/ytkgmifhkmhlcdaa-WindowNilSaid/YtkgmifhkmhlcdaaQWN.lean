/-
  WindowNil returns true and leaves its arguments as they were, for every input: no condition.
-/
import Derived.Test.YtkgmifhkmhlcdaaRows
import Derived.WalkKit
import Derived.ProofKit
import Derived.OpenShut
import Derived.ShutString
import Derived.ChangeOld
import Derived.Below
import Derived.Test.YtkgmifhkmhlcdaaFCA
import Derived.Test.YtkgmifhkmhlcdaaFCB
import Derived.Test.YtkgmifhkmhlcdaaFCC
import Derived.Test.YtkgmifhkmhlcdaaFCD
import Derived.Test.YtkgmifhkmhlcdaaL14N
namespace Go.Proofs.Ytkgmifhkmhlcdaa.windowNil
open Go.ChangeShapes Go.WideShapes Go.ChangeAt Go.RowKit
open Go.ChangeMaps (open_string shut_string)
set_option linter.unusedVariables false
set_option synthInstance.maxSize 100000
set_option synthInstance.maxHeartbeats 400000

theorem own : ownKnob Try.prog.godebug = none := by kernel_rfl
theorem laidOut : laidOutB Try.prog = true := cf_laid

theorem walk (w : World) (a0 : Int) (w0 : (Lit.int .i64 a0).wf = true) :
    Calls Try.prog 14 #[.int .i64 a0] w fun e w' => e = .returned (.bool true) ∧ Below w.heap.size w w' := by
  exact SL.calls_of fun _ h => WindowNil_spec h

/-! ### THE ROW's STEP: WRITTEN OUT: LEAVE IT -/
set_option maxRecDepth 100000 in
theorem lifted (os : Os) (started : os.Started) (H : Type) (enc : TypeId × Value → H) :
    ReturnsInHanded {} Try.checked os 14 .any (Rows.windowNilSpec.pre6 enc Try.prog Try.f14 Rows.windowNilRow.domain false) (Rows.windowNilSpec.post enc Try.prog Try.f14 false true false false) := by
  refine returnsInHanded_of_change (C := Try.checked) own started (by kernel_rfl) Try.func14
    (ChangeSpec.witness6 (enc := enc) (C := Try.checked) false ⟨#[], #[.int .i64 0], []⟩ 8 (by kernel_rfl) (by kernel_rfl) (by kernel_rfl) (by kernel_rfl)) ?_
  intro W base args ds gs before hval0 hW hcnd _
  have hval : ∀ (j : Nat) t v, Try.f14.params[j]? = some t → args[j]? = some v → Value.okWide Try.prog W .any base t v := hval0
  have hW' := hW
  obtain ⟨p, q, hA0, hV, rfl, hfz, hnd⟩ := hW
  have hA : DataW.TrodAll enc Try.prog W 0 (fun _ => true) true Try.f14.params.toList args.toList ds p := hA0
  rw [Try.params14] at hA hval
  obtain ⟨v0, vs0, d0, ds0, p0, q0, hargs, rfl, rfl, h0, r0⟩ := trodAll_cons hA
  obtain ⟨rfl, rfl, rfl⟩ := trodAll_nil r0
  obtain rfl : args = #[v0] := by cases args; simp_all
  obtain ⟨rfl, rfl⟩ := trodVars_none hV
  obtain ⟨a0, rfl, rfl, rfl, w0⟩ := open_int Try.underlying3 (hval 0 3 v0 rfl rfl) h0
  clear hA0 hval0
  refine (walk W a0 w0).mono fun e W' ⟨he, bel⟩ => ?_
  subst he
  exact ⟨_, rfl, _, _, _, [], _, [], hW', trodAll_mk1 (shut_bool Try.underlying4 _), (trodAll_cons_mk (shut_int Try.underlying3 w0) trodAll_mk0), rfl, bel.frame _, fun h => by cases h⟩

theorem c1 : Rows.windowNilRow.wf (OpenSpec.ofChange Rows.windowNilSpec) = true := by kernel_rfl
theorem c4 : Try.f14.params.all (Try.prog.readableRec ·) = true := by kernel_rfl
theorem c7 : (Rows.windowNilRow.inPlace == Try.prog.inPlace 14) = true := by kernel_rfl
theorem c8 : (Rows.windowNilRow.unfollowed == Try.prog.unfollowed 14) = true := by kernel_rfl
theorem c9 : (Rows.windowNilRow.recurses == Try.prog.recurses 14) = true := by kernel_rfl
theorem c10 : (Rows.windowNilRow.named == Try.prog.varsNamed 14) = true := by kernel_rfl
theorem closed : joinedFacts Try.prog 14 Try.f14 Rows.windowNilSpec Rows.windowNilRow = true := by
  unfold joinedFacts
  rw [c1, cf_laid, cf_maps, c4, cf_stops, cf_knobs, c7, c8, c9, c10, cf_keys, cf_heard, cf_enter, cf_lifts]
  kernel_rfl
theorem over : Rows.windowNilRow.holds Try.pinned (OpenSpec.ofChange Rows.windowNilSpec) :=
  OpenClaim.holds_of_wide 14 Try.f14 rfl rfl rfl rfl rfl rfl rfl ⟨rfl, rfl, rfl, rfl, rfl⟩ rfl rfl rfl rfl rfl (by kernel_rfl) Try.func14 closed
    (of_decide_eq_true (by kernel_rfl)) (by unfold Func.isWrapper; first | (rw [if_pos (by decide +kernel)]; kernel_rfl) | (rw [if_neg (by decide +kernel)]; exact ⟨rfl, rfl⟩))
    (fun os started H enc _ => lifted os started H enc)

/-- THE STATEMENT -/
theorem proved : Rows.WindowNilSaid := over
#print axioms proved
end Go.Proofs.Ytkgmifhkmhlcdaa.windowNil
