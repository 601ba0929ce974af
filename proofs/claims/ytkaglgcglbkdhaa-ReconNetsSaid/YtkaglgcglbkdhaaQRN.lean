/-
  ReconNets returns true and leaves its arguments as they were, for every input: no condition.
-/
import Derived.Test.YtkaglgcglbkdhaaRows
import Derived.WalkKit
import Derived.ProofKit
import Derived.OpenShut
import Derived.ShutString
import Derived.ChangeOld
import Derived.Below
import Derived.Test.YtkaglgcglbkdhaaFCA
import Derived.Test.YtkaglgcglbkdhaaFCB
import Derived.Test.YtkaglgcglbkdhaaFCC
import Derived.Test.YtkaglgcglbkdhaaFCD
import Derived.Test.YtkaglgcglbkdhaaB97a3643a
namespace Go.Proofs.Ytkaglgcglbkdhaa.reconNets
open Go.ChangeShapes Go.WideShapes Go.ChangeAt Go.RowKit
open Go.ChangeMaps (open_string shut_string)
set_option linter.unusedVariables false
set_option synthInstance.maxSize 100000
set_option synthInstance.maxHeartbeats 400000

theorem own : ownKnob Try.prog.godebug = none := by kernel_rfl
theorem laidOut : laidOutB Try.prog = true := cf_laid

theorem walk (w : World) (v0 : Value) (w0 : ∃ xs, SL.SlIn w v0 encRw xs ∧ ∀ x ∈ xs, okRw w x) (v1 : Value) (w1 : ∃ b, v1 = .agg (fHd b).toArray ∧ okHd w b) :
    Calls Try.prog 4 #[v0, v1] w fun e w' => e = .returned (.bool true) ∧ Below w.heap.size w w' := by
  obtain ⟨x0, hin0, ok0⟩ := w0
  haveI : SL.RoIn w v0 encRw x0 := ⟨hin0⟩
  obtain ⟨b1, rfl, ok1⟩ := w1
  exact SL.calls_of fun _ h => ReconNets_walk hin0 ok1 h

/-! ### THE ROW's STEP: WRITTEN OUT: LEAVE IT -/
set_option maxRecDepth 100000 in
theorem lifted (os : Os) (started : os.Started) (H : Type) (enc : TypeId × Value → H) :
    ReturnsInHanded {} Try.checked os 4 .any (Rows.reconNetsSpec.pre6 enc Try.prog Try.f4 Rows.reconNetsRow.domain false) (Rows.reconNetsSpec.post enc Try.prog Try.f4 false true false false) := by
  refine returnsInHanded_of_change (C := Try.checked) own started (by kernel_rfl) Try.func4
    (ChangeSpec.witness6 (enc := enc) (C := Try.checked) false ⟨#[], #[.slice none 0 0, .agg #[.slice none 0 0, .int .i64 0, .int .u64 0]], []⟩ 8 (by kernel_rfl) (by kernel_rfl) (by kernel_rfl) (by kernel_rfl)) ?_
  intro W base args ds gs before hval0 hW hcnd _
  have hval : ∀ (j : Nat) t v, Try.f4.params[j]? = some t → args[j]? = some v → Value.okWide Try.prog W .any base t v := hval0
  have hW' := hW
  obtain ⟨p, q, hA0, hV, rfl, hfz, hnd⟩ := hW
  have hA : DataW.TrodAll enc Try.prog W 0 (fun _ => true) true Try.f4.params.toList args.toList ds p := hA0
  rw [Try.params4] at hA hval
  obtain ⟨v0, vs0, d0, ds0, p0, q0, hargs, rfl, rfl, h0, r0⟩ := trodAll_cons hA
  obtain ⟨v1, vs1, d1, ds1, p1, q1, rfl, rfl, rfl, h1, r1⟩ := trodAll_cons r0
  obtain ⟨rfl, rfl, rfl⟩ := trodAll_nil r1
  obtain rfl : args = #[v0, v1] := by cases args; simp_all
  obtain ⟨rfl, rfl⟩ := trodVars_none hV
  obtain ⟨p_a0, p_len0, p_cap0, rfl⟩ := okWide_slice Try.underlying32 (hval 0 32 v0 rfl rfl)
  have k0 := h0
  have lt0 : ∀ x ∈ p0, x.block < W.heap.size := by obtain ⟨m, hm⟩ := k0; exact DataW.trod_lt m _ _ _ hm
  have w0 : ∃ xs, SL.SlIn W (.slice p_a0 p_len0 p_cap0) encRw xs ∧ ∀ x ∈ xs, okRw W x := by
    obtain ⟨fuel, hf⟩ := h0
    obtain ⟨b, hb, hk⟩ := (SL.dec_slice encRw Try.underlying32 (by kernel_rfl) dRw).h hf
    have hb' : Value.slice p_a0 p_len0 p_cap0 = b.1 := by simpa [Value.cells] using hb
    exact ⟨b.2, hb' ▸ hk.1, hk.2⟩
  obtain ⟨p_c1, rfl, _⟩ := okWide_struct Try.underlying34 (hval 1 34 v1 rfl rfl)
  have k1 := h1
  have lt1 : ∀ x ∈ p1, x.block < W.heap.size := by obtain ⟨m, hm⟩ := k1; exact DataW.trod_lt m _ _ _ hm
  have w1 : ∃ b, Value.agg p_c1 = .agg (fHd b).toArray ∧ okHd W b := by
    obtain ⟨fuel, hf⟩ := h1
    obtain ⟨b, hb, hk⟩ := (dHd).h hf
    exact ⟨b, by have := congrArg List.toArray hb; simpa [Value.cells] using this, hk⟩
  clear hA0 hval0
  refine (walk W _ w0 _ w1).mono fun e W' ⟨he, bel⟩ => ?_
  subst he
  exact ⟨_, rfl, _, _, _, [], _, [], hW', trodAll_mk1 (shut_bool Try.underlying4 _), (trodAll_cons_mk (Below.trod laidOut (by kernel_rfl) (of_decide_eq_true (by kernel_rfl)) k0 bel lt0) (trodAll_cons_mk (Below.trod laidOut (by kernel_rfl) (of_decide_eq_true (by kernel_rfl)) k1 bel lt1) trodAll_mk0)), rfl, bel.frame _, fun h => by cases h⟩

theorem c1 : Rows.reconNetsRow.wf (OpenSpec.ofChange Rows.reconNetsSpec) = true := by kernel_rfl
theorem c4 : Try.f4.params.all (Try.prog.readableRec ·) = true := by kernel_rfl
theorem c7 : (Rows.reconNetsRow.inPlace == Try.prog.inPlace 4) = true := by kernel_rfl
theorem c8 : (Rows.reconNetsRow.unfollowed == Try.prog.unfollowed 4) = true := by kernel_rfl
theorem c9 : (Rows.reconNetsRow.recurses == Try.prog.recurses 4) = true := by kernel_rfl
theorem c10 : (Rows.reconNetsRow.named == Try.prog.varsNamed 4) = true := by kernel_rfl
theorem closed : joinedFacts Try.prog 4 Try.f4 Rows.reconNetsSpec Rows.reconNetsRow = true := by
  unfold joinedFacts
  rw [c1, cf_laid, cf_maps, c4, cf_stops, cf_knobs, c7, c8, c9, c10, cf_keys, cf_heard, cf_enter, cf_lifts]
  kernel_rfl
theorem over : Rows.reconNetsRow.holds Try.pinned (OpenSpec.ofChange Rows.reconNetsSpec) :=
  OpenClaim.holds_of_wide 4 Try.f4 rfl rfl rfl rfl rfl rfl rfl ⟨rfl, rfl, rfl, rfl, rfl⟩ rfl rfl rfl rfl rfl (by kernel_rfl) Try.func4 closed
    (of_decide_eq_true (by kernel_rfl)) (by unfold Func.isWrapper; first | (rw [if_pos (by decide +kernel)]; kernel_rfl) | (rw [if_neg (by decide +kernel)]; exact ⟨rfl, rfl⟩))
    (fun os started H enc _ => lifted os started H enc)

/-- THE STATEMENT -/
theorem proved : Rows.ReconNetsSaid := over
#print axioms proved
end Go.Proofs.Ytkaglgcglbkdhaa.reconNets
