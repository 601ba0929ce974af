/-
  SettleNil returns true and leaves its arguments as they were, for every input: no condition.
-/
import Derived.Test.YtohglolecmgeoaaGreatRows
import Derived.WalkKit
import Derived.ProofKit
import Derived.OpenShut
import Derived.ShutString
import Derived.ChangeOld
import Derived.Below
import Derived.Test.YtohglolecmgeoaaGreatFCA
import Derived.Test.YtohglolecmgeoaaGreatFCB
import Derived.Test.YtohglolecmgeoaaGreatFCC
import Derived.Test.YtohglolecmgeoaaGreatFCD
import Derived.Test.YtohglolecmgeoaaGreatBee69b7c7
namespace Go.Proofs.YtohglolecmgeoaaGreat.settleNil
open Go.ChangeShapes Go.WideShapes Go.ChangeAt Go.RowKit
open Go.ChangeMaps (open_string shut_string)
set_option linter.unusedVariables false
set_option synthInstance.maxSize 100000
set_option synthInstance.maxHeartbeats 400000

theorem own : ownKnob Tryz.prog.godebug = none := by kernel_rfl
theorem laidOut : laidOutB Tryz.prog = true := cf_laid

theorem walk (w : World) (a0 : Int) (w0 : (Lit.int .i64 a0).wf = true) :
    Calls Tryz.prog 6 #[.int .i64 a0] w fun e w' => e = .returned (.bool true) ∧ Below w.heap.size w w' := by
  exact SL.calls_of fun _ h => SettleNil_spec h

/-! ### THE ROW's STEP: WRITTEN OUT: LEAVE IT -/
set_option maxRecDepth 100000 in
theorem lifted (os : Os) (started : os.Started) (H : Type) (enc : TypeId × Value → H) :
    ReturnsInHanded {} Tryz.checked os 6 .any (Rows.settleNilSpec.pre6 enc Tryz.prog Tryz.f6 Rows.settleNilRow.domain false) (Rows.settleNilSpec.post enc Tryz.prog Tryz.f6 false true false false) := by
  refine returnsInHanded_of_change (C := Tryz.checked) own started (by kernel_rfl) Tryz.func6
    (ChangeSpec.witness6 (enc := enc) (C := Tryz.checked) false ⟨#[], #[.int .i64 0], []⟩ 8 (by kernel_rfl) (by kernel_rfl) (by kernel_rfl) (by kernel_rfl)) ?_
  intro W base args ds gs before hval0 hW hcnd _
  have hval : ∀ (j : Nat) t v, Tryz.f6.params[j]? = some t → args[j]? = some v → Value.okWide Tryz.prog W .any base t v := hval0
  have hW' := hW
  obtain ⟨p, q, hA0, hV, rfl, hfz, hnd⟩ := hW
  have hA : DataW.TrodAll enc Tryz.prog W 0 (fun _ => true) true Tryz.f6.params.toList args.toList ds p := hA0
  rw [Tryz.params6] at hA hval
  obtain ⟨v0, vs0, d0, ds0, p0, q0, hargs, rfl, rfl, h0, r0⟩ := trodAll_cons hA
  obtain ⟨rfl, rfl, rfl⟩ := trodAll_nil r0
  obtain rfl : args = #[v0] := by cases args; simp_all
  obtain ⟨rfl, rfl⟩ := trodVars_none hV
  obtain ⟨a0, rfl, rfl, rfl, w0⟩ := open_int Tryz.underlying3 (hval 0 3 v0 rfl rfl) h0
  clear hA0 hval0
  refine (walk W a0 w0).mono fun e W' ⟨he, bel⟩ => ?_
  subst he
  exact ⟨_, rfl, _, _, _, [], _, [], hW', trodAll_mk1 (shut_bool Tryz.underlying4 _), (trodAll_cons_mk (shut_int Tryz.underlying3 w0) trodAll_mk0), rfl, bel.frame _, fun h => by cases h⟩

theorem c1 : Rows.settleNilRow.wf (OpenSpec.ofChange Rows.settleNilSpec) = true := by kernel_rfl
theorem c4 : Tryz.f6.params.all (Tryz.prog.readableRec ·) = true := by kernel_rfl
theorem c7 : (Rows.settleNilRow.inPlace == Tryz.prog.inPlace 6) = true := by kernel_rfl
theorem c8 : (Rows.settleNilRow.unfollowed == Tryz.prog.unfollowed 6) = true := by kernel_rfl
theorem c9 : (Rows.settleNilRow.recurses == Tryz.prog.recurses 6) = true := by kernel_rfl
theorem c10 : (Rows.settleNilRow.named == Tryz.prog.varsNamed 6) = true := by kernel_rfl
theorem closed : joinedFacts Tryz.prog 6 Tryz.f6 Rows.settleNilSpec Rows.settleNilRow = true := by
  unfold joinedFacts
  rw [c1, cf_laid, cf_maps, c4, cf_stops, cf_knobs, c7, c8, c9, c10, cf_keys, cf_heard, cf_enter, cf_lifts]
  kernel_rfl
theorem over : Rows.settleNilRow.holds Tryz.pinned (OpenSpec.ofChange Rows.settleNilSpec) :=
  OpenClaim.holds_of_wide 6 Tryz.f6 rfl rfl rfl rfl rfl rfl rfl ⟨rfl, rfl, rfl, rfl, rfl⟩ rfl rfl rfl rfl rfl (by kernel_rfl) Tryz.func6 closed
    (of_decide_eq_true (by kernel_rfl)) (by unfold Func.isWrapper; first | (rw [if_pos (by decide +kernel)]; kernel_rfl) | (rw [if_neg (by decide +kernel)]; exact ⟨rfl, rfl⟩))
    (fun os started H enc _ => lifted os started H enc)

/-- THE STATEMENT -/
theorem proved : Rows.SettleNilSaid := over
#print axioms proved
end Go.Proofs.YtohglolecmgeoaaGreat.settleNil
