/-
  PipePlays returns true and leaves its arguments as they were, for every input: no condition.
-/
import Derived.Test.YtgbimbagppoeaaaRows
import Derived.WalkKit
import Derived.ProofKit
import Derived.OpenShut
import Derived.ShutString
import Derived.ChangeOld
import Derived.Below
import Derived.Test.YtgbimbagppoeaaaFCA
import Derived.Test.YtgbimbagppoeaaaFCB
import Derived.Test.YtgbimbagppoeaaaFCC
import Derived.Test.YtgbimbagppoeaaaFCD
import Derived.Test.YtgbimbagppoeaaaB346f347e
namespace Go.Proofs.Ytgbimbagppoeaaa.pipePlays
open Go.ChangeShapes Go.WideShapes Go.ChangeAt Go.RowKit
open Go.ChangeMaps (open_string shut_string)
set_option linter.unusedVariables false
set_option synthInstance.maxSize 100000
set_option synthInstance.maxHeartbeats 400000

theorem own : ownKnob Try.prog.godebug = none := by kernel_rfl
theorem laidOut : laidOutB Try.prog = true := cf_laid

theorem walk (w : World) (a0 : Int) (w0 : (Lit.int .i64 a0).wf = true) (a1 : Int) (w1 : (Lit.int .i64 a1).wf = true) (v2 : Value) (w2 : ∃ xs, SL.SlIn w v2 encA15 xs ∧ ∀ x ∈ xs, okA15 w x) :
    Calls Try.prog 8 #[.int .i64 a0, .int .i64 a1, v2] w fun e w' => e = .returned (.bool true) ∧ Below w.heap.size w w' := by
  obtain ⟨x2, hin2, ok2⟩ := w2
  haveI : SL.RoIn w v2 encA15 x2 := ⟨hin2⟩
  exact SL.calls_of fun _ h => PipePlays_spec (l := x2) (fun a ha => okAct15_of (ok2 a ha)) h

/-! ### THE ROW's STEP: WRITTEN OUT: LEAVE IT -/
set_option maxRecDepth 100000 in
theorem lifted (os : Os) (started : os.Started) (H : Type) (enc : TypeId × Value → H) :
    ReturnsInHanded {} Try.checked os 8 .any (Rows.pipePlaysSpec.pre6 enc Try.prog Try.f8 Rows.pipePlaysRow.domain false) (Rows.pipePlaysSpec.post enc Try.prog Try.f8 false true false false) := by
  refine returnsInHanded_of_change (C := Try.checked) own started (by kernel_rfl) Try.func8
    (ChangeSpec.witness6 (enc := enc) (C := Try.checked) false ⟨#[], #[.int .i64 0, .int .i64 0, .slice none 0 0], []⟩ 8 (by kernel_rfl) (by kernel_rfl) (by kernel_rfl) (by kernel_rfl)) ?_
  intro W base args ds gs before hval0 hW hcnd _
  have hval : ∀ (j : Nat) t v, Try.f8.params[j]? = some t → args[j]? = some v → Value.okWide Try.prog W .any base t v := hval0
  have hW' := hW
  obtain ⟨p, q, hA0, hV, rfl, hfz, hnd⟩ := hW
  have hA : DataW.TrodAll enc Try.prog W 0 (fun _ => true) true Try.f8.params.toList args.toList ds p := hA0
  rw [Try.params8] at hA hval
  obtain ⟨v0, vs0, d0, ds0, p0, q0, hargs, rfl, rfl, h0, r0⟩ := trodAll_cons hA
  obtain ⟨v1, vs1, d1, ds1, p1, q1, rfl, rfl, rfl, h1, r1⟩ := trodAll_cons r0
  obtain ⟨v2, vs2, d2, ds2, p2, q2, rfl, rfl, rfl, h2, r2⟩ := trodAll_cons r1
  obtain ⟨rfl, rfl, rfl⟩ := trodAll_nil r2
  obtain rfl : args = #[v0, v1, v2] := by cases args; simp_all
  obtain ⟨rfl, rfl⟩ := trodVars_none hV
  obtain ⟨a0, rfl, rfl, rfl, w0⟩ := open_int Try.underlying3 (hval 0 3 v0 rfl rfl) h0
  obtain ⟨a1, rfl, rfl, rfl, w1⟩ := open_int Try.underlying3 (hval 1 3 v1 rfl rfl) h1
  obtain ⟨p_a2, p_len2, p_cap2, rfl⟩ := okWide_slice Try.underlying119 (hval 2 119 v2 rfl rfl)
  have k2 := h2
  have lt2 : ∀ x ∈ p2, x.block < W.heap.size := by obtain ⟨m, hm⟩ := k2; exact DataW.trod_lt m _ _ _ hm
  have w2 : ∃ xs, SL.SlIn W (.slice p_a2 p_len2 p_cap2) encA15 xs ∧ ∀ x ∈ xs, okA15 W x := by
    obtain ⟨fuel, hf⟩ := h2
    obtain ⟨b, hb, hk⟩ := (SL.dec_slice encA15 Try.underlying119 (by kernel_rfl) dA15).h hf
    have hb' : Value.slice p_a2 p_len2 p_cap2 = b.1 := by simpa [Value.cells] using hb
    exact ⟨b.2, hb' ▸ hk.1, hk.2⟩
  clear hA0 hval0
  refine (walk W a0 w0 a1 w1 _ w2).mono fun e W' ⟨he, bel⟩ => ?_
  subst he
  exact ⟨_, rfl, _, _, _, [], _, [], hW', trodAll_mk1 (shut_bool Try.underlying4 _), (trodAll_cons_mk (shut_int Try.underlying3 w0) (trodAll_cons_mk (shut_int Try.underlying3 w1) (trodAll_cons_mk (Below.trod laidOut (by kernel_rfl) (of_decide_eq_true (by kernel_rfl)) k2 bel lt2) trodAll_mk0))), rfl, bel.frame _, fun h => by cases h⟩

theorem c1 : Rows.pipePlaysRow.wf (OpenSpec.ofChange Rows.pipePlaysSpec) = true := by kernel_rfl
theorem c4 : Try.f8.params.all (Try.prog.readableRec ·) = true := by kernel_rfl
theorem c7 : (Rows.pipePlaysRow.inPlace == Try.prog.inPlace 8) = true := by kernel_rfl
theorem c8 : (Rows.pipePlaysRow.unfollowed == Try.prog.unfollowed 8) = true := by kernel_rfl
theorem c9 : (Rows.pipePlaysRow.recurses == Try.prog.recurses 8) = true := by kernel_rfl
theorem c10 : (Rows.pipePlaysRow.named == Try.prog.varsNamed 8) = true := by kernel_rfl
theorem closed : joinedFacts Try.prog 8 Try.f8 Rows.pipePlaysSpec Rows.pipePlaysRow = true := by
  unfold joinedFacts
  rw [c1, cf_laid, cf_maps, c4, cf_stops, cf_knobs, c7, c8, c9, c10, cf_keys, cf_heard, cf_enter, cf_lifts]
  kernel_rfl
theorem over : Rows.pipePlaysRow.holds Try.pinned (OpenSpec.ofChange Rows.pipePlaysSpec) :=
  OpenClaim.holds_of_wide 8 Try.f8 rfl rfl rfl rfl rfl rfl rfl ⟨rfl, rfl, rfl, rfl, rfl⟩ rfl rfl rfl rfl rfl (by kernel_rfl) Try.func8 closed
    (of_decide_eq_true (by kernel_rfl)) (by unfold Func.isWrapper; first | (rw [if_pos (by decide +kernel)]; kernel_rfl) | (rw [if_neg (by decide +kernel)]; exact ⟨rfl, rfl⟩))
    (fun os started H enc _ => lifted os started H enc)

/-- THE STATEMENT -/
theorem proved : Rows.PipePlaysSaid := over
#print axioms proved
end Go.Proofs.Ytgbimbagppoeaaa.pipePlays
