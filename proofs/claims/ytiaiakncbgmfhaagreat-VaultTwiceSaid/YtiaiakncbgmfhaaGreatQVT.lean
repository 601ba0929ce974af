/-
  VaultTwice returns true and leaves its arguments as they were, for every input: no condition.
-/
import Derived.Test.YtiaiakncbgmfhaaGreatRows
import Derived.WalkKit
import Derived.ProofKit
import Derived.OpenShut
import Derived.ShutString
import Derived.ChangeOld
import Derived.Below
import Derived.Test.YtiaiakncbgmfhaaGreatFCA
import Derived.Test.YtiaiakncbgmfhaaGreatFCB
import Derived.Test.YtiaiakncbgmfhaaGreatFCC
import Derived.Test.YtiaiakncbgmfhaaGreatFCD
import Derived.Test.YtiaiakncbgmfhaaGreatB1e9e3f8e
namespace Go.Proofs.YtiaiakncbgmfhaaGreat.vaultTwice
open Go.ChangeShapes Go.WideShapes Go.ChangeAt Go.RowKit
open Go.ChangeMaps (open_string shut_string)
set_option linter.unusedVariables false
set_option synthInstance.maxSize 100000
set_option synthInstance.maxHeartbeats 400000

theorem own : ownKnob Tryz.prog.godebug = none := by kernel_rfl
theorem laidOut : laidOutB Tryz.prog = true := cf_laid

theorem walk (w : World) (v0 : Value) (w0 : ∃ xs, SL.SlIn w v0 SL.encB xs ∧ ∀ x ∈ xs, SL.okB w x) (v1 : Value) (w1 : ∃ xs, SL.SlIn w v1 SL.encB xs ∧ ∀ x ∈ xs, SL.okB w x) :
    Calls Tryz.prog 4 #[v0, v1] w fun e w' => e = .returned (.bool true) ∧ Below w.heap.size w w' := by
  obtain ⟨x0, hin0, ok0⟩ := w0
  haveI : SL.RoIn w v0 SL.encB x0 := ⟨hin0⟩
  obtain ⟨x1, hin1, ok1⟩ := w1
  haveI : SL.RoIn w v1 SL.encB x1 := ⟨hin1⟩
  exact SL.calls_of fun _ h => VaultTwice_walk h

/-! ### THE ROW's STEP: WRITTEN OUT: LEAVE IT -/
set_option maxRecDepth 100000 in
theorem lifted (os : Os) (started : os.Started) (H : Type) (enc : TypeId × Value → H) :
    ReturnsInHanded {} Tryz.checked os 4 .any (Rows.vaultTwiceSpec.pre6 enc Tryz.prog Tryz.f4 Rows.vaultTwiceRow.domain false) (Rows.vaultTwiceSpec.post enc Tryz.prog Tryz.f4 false true false false) := by
  refine returnsInHanded_of_change (C := Tryz.checked) own started (by kernel_rfl) Tryz.func4
    (ChangeSpec.witness6 (enc := enc) (C := Tryz.checked) false ⟨#[], #[.slice none 0 0, .slice none 0 0], []⟩ 8 (by kernel_rfl) (by kernel_rfl) (by kernel_rfl) (by kernel_rfl)) ?_
  intro W base args ds gs before hval0 hW hcnd _
  have hval : ∀ (j : Nat) t v, Tryz.f4.params[j]? = some t → args[j]? = some v → Value.okWide Tryz.prog W .any base t v := hval0
  have hW' := hW
  obtain ⟨p, q, hA0, hV, rfl, hfz, hnd⟩ := hW
  have hA : DataW.TrodAll enc Tryz.prog W 0 (fun _ => true) true Tryz.f4.params.toList args.toList ds p := hA0
  rw [Tryz.params4] at hA hval
  obtain ⟨v0, vs0, d0, ds0, p0, q0, hargs, rfl, rfl, h0, r0⟩ := trodAll_cons hA
  obtain ⟨v1, vs1, d1, ds1, p1, q1, rfl, rfl, rfl, h1, r1⟩ := trodAll_cons r0
  obtain ⟨rfl, rfl, rfl⟩ := trodAll_nil r1
  obtain rfl : args = #[v0, v1] := by cases args; simp_all
  obtain ⟨rfl, rfl⟩ := trodVars_none hV
  obtain ⟨p_a0, p_len0, p_cap0, rfl⟩ := okWide_slice Tryz.underlying22 (hval 0 22 v0 rfl rfl)
  have k0 := h0
  have lt0 : ∀ x ∈ p0, x.block < W.heap.size := by obtain ⟨m, hm⟩ := k0; exact DataW.trod_lt m _ _ _ hm
  have w0 : ∃ xs, SL.SlIn W (.slice p_a0 p_len0 p_cap0) SL.encB xs ∧ ∀ x ∈ xs, SL.okB W x := by
    obtain ⟨fuel, hf⟩ := h0
    obtain ⟨b, hb, hk⟩ := (SL.dec_slice SL.encB Tryz.underlying22 (by kernel_rfl) dU11).h hf
    have hb' : Value.slice p_a0 p_len0 p_cap0 = b.1 := by simpa [Value.cells] using hb
    exact ⟨b.2, hb' ▸ hk.1, hk.2⟩
  obtain ⟨p_a1, p_len1, p_cap1, rfl⟩ := okWide_slice Tryz.underlying22 (hval 1 22 v1 rfl rfl)
  have k1 := h1
  have lt1 : ∀ x ∈ p1, x.block < W.heap.size := by obtain ⟨m, hm⟩ := k1; exact DataW.trod_lt m _ _ _ hm
  have w1 : ∃ xs, SL.SlIn W (.slice p_a1 p_len1 p_cap1) SL.encB xs ∧ ∀ x ∈ xs, SL.okB W x := by
    obtain ⟨fuel, hf⟩ := h1
    obtain ⟨b, hb, hk⟩ := (SL.dec_slice SL.encB Tryz.underlying22 (by kernel_rfl) dU11).h hf
    have hb' : Value.slice p_a1 p_len1 p_cap1 = b.1 := by simpa [Value.cells] using hb
    exact ⟨b.2, hb' ▸ hk.1, hk.2⟩
  clear hA0 hval0
  refine (walk W _ w0 _ w1).mono fun e W' ⟨he, bel⟩ => ?_
  subst he
  exact ⟨_, rfl, _, _, _, [], _, [], hW', trodAll_mk1 (shut_bool Tryz.underlying4 _), (trodAll_cons_mk (Below.trod laidOut (by kernel_rfl) (of_decide_eq_true (by kernel_rfl)) k0 bel lt0) (trodAll_cons_mk (Below.trod laidOut (by kernel_rfl) (of_decide_eq_true (by kernel_rfl)) k1 bel lt1) trodAll_mk0)), rfl, bel.frame _, fun h => by cases h⟩

theorem c1 : Rows.vaultTwiceRow.wf (OpenSpec.ofChange Rows.vaultTwiceSpec) = true := by kernel_rfl
theorem c4 : Tryz.f4.params.all (Tryz.prog.readableRec ·) = true := by kernel_rfl
theorem c7 : (Rows.vaultTwiceRow.inPlace == Tryz.prog.inPlace 4) = true := by kernel_rfl
theorem c8 : (Rows.vaultTwiceRow.unfollowed == Tryz.prog.unfollowed 4) = true := by kernel_rfl
theorem c9 : (Rows.vaultTwiceRow.recurses == Tryz.prog.recurses 4) = true := by kernel_rfl
theorem c10 : (Rows.vaultTwiceRow.named == Tryz.prog.varsNamed 4) = true := by kernel_rfl
theorem closed : joinedFacts Tryz.prog 4 Tryz.f4 Rows.vaultTwiceSpec Rows.vaultTwiceRow = true := by
  unfold joinedFacts
  rw [c1, cf_laid, cf_maps, c4, cf_stops, cf_knobs, c7, c8, c9, c10, cf_keys, cf_heard, cf_enter, cf_lifts]
  kernel_rfl
theorem over : Rows.vaultTwiceRow.holds Tryz.pinned (OpenSpec.ofChange Rows.vaultTwiceSpec) :=
  OpenClaim.holds_of_wide 4 Tryz.f4 rfl rfl rfl rfl rfl rfl rfl ⟨rfl, rfl, rfl, rfl, rfl⟩ rfl rfl rfl rfl rfl (by kernel_rfl) Tryz.func4 closed
    (of_decide_eq_true (by kernel_rfl)) (by unfold Func.isWrapper; first | (rw [if_pos (by decide +kernel)]; kernel_rfl) | (rw [if_neg (by decide +kernel)]; exact ⟨rfl, rfl⟩))
    (fun os started H enc _ => lifted os started H enc)

/-- THE STATEMENT -/
theorem proved : Rows.VaultTwiceSaid := over
#print axioms proved
end Go.Proofs.YtiaiakncbgmfhaaGreat.vaultTwice
