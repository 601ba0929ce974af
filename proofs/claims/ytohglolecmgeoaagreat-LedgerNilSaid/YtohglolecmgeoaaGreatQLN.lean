/-
  LedgerNil returns true and leaves its arguments as they were, for every input: no condition.
-/
import Derived.Test.YtohglolecmgeoaaGreatRows
import Derived.WalkKit
import Derived.ProofKit
import Derived.OpenShut
import Derived.ShutString
import Derived.ChangeOld
import Derived.Below
import Derived.Test.YtohglolecmgeoaaGreatFCA
import Derived.Test.YtohglolecmgeoaaGreatFCB
import Derived.Test.YtohglolecmgeoaaGreatFCC
import Derived.Test.YtohglolecmgeoaaGreatFCD
import Derived.Test.YtohglolecmgeoaaGreatB3d6b0391
namespace Go.Proofs.YtohglolecmgeoaaGreat.ledgerNil
open Go.ChangeShapes Go.WideShapes Go.ChangeAt Go.RowKit
open Go.ChangeMaps (open_string shut_string)
set_option linter.unusedVariables false
set_option synthInstance.maxSize 100000
set_option synthInstance.maxHeartbeats 400000

theorem own : ownKnob Tryz.prog.godebug = none := by kernel_rfl
theorem laidOut : laidOutB Tryz.prog = true := cf_laid

theorem walk (w : World) (v0 : Value) (w0 : ∃ b, v0 = .agg (fNt b).toArray ∧ okNt w b) (a1 : Int) (w1 : (Lit.int .i64 a1).wf = true) :
    Calls Tryz.prog 5 #[v0, .int .i64 a1] w fun e w' => e = .returned (.bool true) ∧ Below w.heap.size w w' := by
  obtain ⟨b0, rfl, ok0⟩ := w0
  exact SL.calls_of fun _ h => LedgerNil_walk ok0 h

/-! ### THE ROW's STEP: WRITTEN OUT: LEAVE IT -/
set_option maxRecDepth 100000 in
theorem lifted (os : Os) (started : os.Started) (H : Type) (enc : TypeId × Value → H) :
    ReturnsInHanded {} Tryz.checked os 5 .any (Rows.ledgerNilSpec.pre6 enc Tryz.prog Tryz.f5 Rows.ledgerNilRow.domain false) (Rows.ledgerNilSpec.post enc Tryz.prog Tryz.f5 false true false false) := by
  refine returnsInHanded_of_change (C := Tryz.checked) own started (by kernel_rfl) Tryz.func5
    (ChangeSpec.witness6 (enc := enc) (C := Tryz.checked) false ⟨#[], #[.agg #[.int .i64 0, .int .i64 0, .int .i64 0, .int .i64 0, .string ⟨#[]⟩, .string ⟨#[]⟩, .string ⟨#[]⟩, .int .i64 0, .int .i64 0, .string ⟨#[]⟩, .int .i64 0, .slice none 0 0, .int .i64 0, .int .u64 0], .int .i64 0], []⟩ 8 (by kernel_rfl) (by kernel_rfl) (by kernel_rfl) (by kernel_rfl)) ?_
  intro W base args ds gs before hval0 hW hcnd _
  have hval : ∀ (j : Nat) t v, Tryz.f5.params[j]? = some t → args[j]? = some v → Value.okWide Tryz.prog W .any base t v := hval0
  have hW' := hW
  obtain ⟨p, q, hA0, hV, rfl, hfz, hnd⟩ := hW
  have hA : DataW.TrodAll enc Tryz.prog W 0 (fun _ => true) true Tryz.f5.params.toList args.toList ds p := hA0
  rw [Tryz.params5] at hA hval
  obtain ⟨v0, vs0, d0, ds0, p0, q0, hargs, rfl, rfl, h0, r0⟩ := trodAll_cons hA
  obtain ⟨v1, vs1, d1, ds1, p1, q1, rfl, rfl, rfl, h1, r1⟩ := trodAll_cons r0
  obtain ⟨rfl, rfl, rfl⟩ := trodAll_nil r1
  obtain rfl : args = #[v0, v1] := by cases args; simp_all
  obtain ⟨rfl, rfl⟩ := trodVars_none hV
  obtain ⟨p_c0, rfl, _⟩ := okWide_struct Tryz.underlying40 (hval 0 40 v0 rfl rfl)
  have k0 := h0
  have lt0 : ∀ x ∈ p0, x.block < W.heap.size := by obtain ⟨m, hm⟩ := k0; exact DataW.trod_lt m _ _ _ hm
  have w0 : ∃ b, Value.agg p_c0 = .agg (fNt b).toArray ∧ okNt W b := by
    obtain ⟨fuel, hf⟩ := h0
    obtain ⟨b, hb, hk⟩ := (dNt).h hf
    exact ⟨b, by have := congrArg List.toArray hb; simpa [Value.cells] using this, hk⟩
  obtain ⟨a1, rfl, rfl, rfl, w1⟩ := open_int Tryz.underlying3 (hval 1 3 v1 rfl rfl) h1
  clear hA0 hval0
  refine (walk W _ w0 a1 w1).mono fun e W' ⟨he, bel⟩ => ?_
  subst he
  exact ⟨_, rfl, _, _, _, [], _, [], hW', trodAll_mk1 (shut_bool Tryz.underlying4 _), (trodAll_cons_mk (Below.trod laidOut (by kernel_rfl) (of_decide_eq_true (by kernel_rfl)) k0 bel lt0) (trodAll_cons_mk (shut_int Tryz.underlying3 w1) trodAll_mk0)), rfl, bel.frame _, fun h => by cases h⟩

theorem c1 : Rows.ledgerNilRow.wf (OpenSpec.ofChange Rows.ledgerNilSpec) = true := by kernel_rfl
theorem c4 : Tryz.f5.params.all (Tryz.prog.readableRec ·) = true := by kernel_rfl
theorem c7 : (Rows.ledgerNilRow.inPlace == Tryz.prog.inPlace 5) = true := by kernel_rfl
theorem c8 : (Rows.ledgerNilRow.unfollowed == Tryz.prog.unfollowed 5) = true := by kernel_rfl
theorem c9 : (Rows.ledgerNilRow.recurses == Tryz.prog.recurses 5) = true := by kernel_rfl
theorem c10 : (Rows.ledgerNilRow.named == Tryz.prog.varsNamed 5) = true := by kernel_rfl
theorem closed : joinedFacts Tryz.prog 5 Tryz.f5 Rows.ledgerNilSpec Rows.ledgerNilRow = true := by
  unfold joinedFacts
  rw [c1, cf_laid, cf_maps, c4, cf_stops, cf_knobs, c7, c8, c9, c10, cf_keys, cf_heard, cf_enter, cf_lifts]
  kernel_rfl
theorem over : Rows.ledgerNilRow.holds Tryz.pinned (OpenSpec.ofChange Rows.ledgerNilSpec) :=
  OpenClaim.holds_of_wide 5 Tryz.f5 rfl rfl rfl rfl rfl rfl rfl ⟨rfl, rfl, rfl, rfl, rfl⟩ rfl rfl rfl rfl rfl (by kernel_rfl) Tryz.func5 closed
    (of_decide_eq_true (by kernel_rfl)) (by unfold Func.isWrapper; first | (rw [if_pos (by decide +kernel)]; kernel_rfl) | (rw [if_neg (by decide +kernel)]; exact ⟨rfl, rfl⟩))
    (fun os started H enc _ => lifted os started H enc)

/-- THE STATEMENT -/
theorem proved : Rows.LedgerNilSaid := over
#print axioms proved
end Go.Proofs.YtohglolecmgeoaaGreat.ledgerNil
