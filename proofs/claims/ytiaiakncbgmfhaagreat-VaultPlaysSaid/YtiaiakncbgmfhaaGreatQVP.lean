/-
  VaultPlays returns true and leaves its arguments as they were, for every input: no condition.
-/
import Derived.Test.YtiaiakncbgmfhaaGreatRows
import Derived.WalkKit
import Derived.ProofKit
import Derived.OpenShut
import Derived.ShutString
import Derived.ChangeOld
import Derived.Below
import Derived.Test.YtiaiakncbgmfhaaGreatFCA
import Derived.Test.YtiaiakncbgmfhaaGreatFCB
import Derived.Test.YtiaiakncbgmfhaaGreatFCC
import Derived.Test.YtiaiakncbgmfhaaGreatFCD
import Derived.Test.YtiaiakncbgmfhaaGreatB5dac7072
namespace Go.Proofs.YtiaiakncbgmfhaaGreat.vaultPlays
open Go.ChangeShapes Go.WideShapes Go.ChangeAt Go.RowKit
open Go.ChangeMaps (open_string shut_string)
set_option linter.unusedVariables false
set_option synthInstance.maxSize 100000
set_option synthInstance.maxHeartbeats 400000

theorem own : ownKnob Tryz.prog.godebug = none := by kernel_rfl
theorem laidOut : laidOutB Tryz.prog = true := cf_laid

theorem walk (w : World) (a0 : Int) (w0 : (Lit.int .i64 a0).wf = true) (v1 : Value) (w1 : ∃ xs, SL.SlIn w v1 encA13 xs ∧ ∀ x ∈ xs, okA13 w x) :
    Calls Tryz.prog 7 #[.int .i64 a0, v1] w fun e w' => e = .returned (.bool true) ∧ Below w.heap.size w w' := by
  obtain ⟨x1, hin1, ok1⟩ := w1
  haveI : SL.RoIn w v1 encA13 x1 := ⟨hin1⟩
  exact SL.calls_of fun _ h => VaultPlays_walk ok1 h

/-! ### THE ROW's STEP: WRITTEN OUT: LEAVE IT -/
set_option maxRecDepth 100000 in
theorem lifted (os : Os) (started : os.Started) (H : Type) (enc : TypeId × Value → H) :
    ReturnsInHanded {} Tryz.checked os 7 .any (Rows.vaultPlaysSpec.pre6 enc Tryz.prog Tryz.f7 Rows.vaultPlaysRow.domain false) (Rows.vaultPlaysSpec.post enc Tryz.prog Tryz.f7 false true false false) := by
  refine returnsInHanded_of_change (C := Tryz.checked) own started (by kernel_rfl) Tryz.func7
    (ChangeSpec.witness6 (enc := enc) (C := Tryz.checked) false ⟨#[], #[.int .i64 0, .slice none 0 0], []⟩ 8 (by kernel_rfl) (by kernel_rfl) (by kernel_rfl) (by kernel_rfl)) ?_
  intro W base args ds gs before hval0 hW hcnd _
  have hval : ∀ (j : Nat) t v, Tryz.f7.params[j]? = some t → args[j]? = some v → Value.okWide Tryz.prog W .any base t v := hval0
  have hW' := hW
  obtain ⟨p, q, hA0, hV, rfl, hfz, hnd⟩ := hW
  have hA : DataW.TrodAll enc Tryz.prog W 0 (fun _ => true) true Tryz.f7.params.toList args.toList ds p := hA0
  rw [Tryz.params7] at hA hval
  obtain ⟨v0, vs0, d0, ds0, p0, q0, hargs, rfl, rfl, h0, r0⟩ := trodAll_cons hA
  obtain ⟨v1, vs1, d1, ds1, p1, q1, rfl, rfl, rfl, h1, r1⟩ := trodAll_cons r0
  obtain ⟨rfl, rfl, rfl⟩ := trodAll_nil r1
  obtain rfl : args = #[v0, v1] := by cases args; simp_all
  obtain ⟨rfl, rfl⟩ := trodVars_none hV
  obtain ⟨a0, rfl, rfl, rfl, w0⟩ := open_int Tryz.underlying3 (hval 0 3 v0 rfl rfl) h0
  obtain ⟨p_a1, p_len1, p_cap1, rfl⟩ := okWide_slice Tryz.underlying50 (hval 1 50 v1 rfl rfl)
  have k1 := h1
  have lt1 : ∀ x ∈ p1, x.block < W.heap.size := by obtain ⟨m, hm⟩ := k1; exact DataW.trod_lt m _ _ _ hm
  have w1 : ∃ xs, SL.SlIn W (.slice p_a1 p_len1 p_cap1) encA13 xs ∧ ∀ x ∈ xs, okA13 W x := by
    obtain ⟨fuel, hf⟩ := h1
    obtain ⟨b, hb, hk⟩ := (SL.dec_slice encA13 Tryz.underlying50 (by kernel_rfl) dA13).h hf
    have hb' : Value.slice p_a1 p_len1 p_cap1 = b.1 := by simpa [Value.cells] using hb
    exact ⟨b.2, hb' ▸ hk.1, hk.2⟩
  clear hA0 hval0
  refine (walk W a0 w0 _ w1).mono fun e W' ⟨he, bel⟩ => ?_
  subst he
  exact ⟨_, rfl, _, _, _, [], _, [], hW', trodAll_mk1 (shut_bool Tryz.underlying4 _), (trodAll_cons_mk (shut_int Tryz.underlying3 w0) (trodAll_cons_mk (Below.trod laidOut (by kernel_rfl) (of_decide_eq_true (by kernel_rfl)) k1 bel lt1) trodAll_mk0)), rfl, bel.frame _, fun h => by cases h⟩

theorem c1 : Rows.vaultPlaysRow.wf (OpenSpec.ofChange Rows.vaultPlaysSpec) = true := by kernel_rfl
theorem c4 : Tryz.f7.params.all (Tryz.prog.readableRec ·) = true := by kernel_rfl
theorem c7 : (Rows.vaultPlaysRow.inPlace == Tryz.prog.inPlace 7) = true := by kernel_rfl
theorem c8 : (Rows.vaultPlaysRow.unfollowed == Tryz.prog.unfollowed 7) = true := by kernel_rfl
theorem c9 : (Rows.vaultPlaysRow.recurses == Tryz.prog.recurses 7) = true := by kernel_rfl
theorem c10 : (Rows.vaultPlaysRow.named == Tryz.prog.varsNamed 7) = true := by kernel_rfl
theorem closed : joinedFacts Tryz.prog 7 Tryz.f7 Rows.vaultPlaysSpec Rows.vaultPlaysRow = true := by
  unfold joinedFacts
  rw [c1, cf_laid, cf_maps, c4, cf_stops, cf_knobs, c7, c8, c9, c10, cf_keys, cf_heard, cf_enter, cf_lifts]
  kernel_rfl
theorem over : Rows.vaultPlaysRow.holds Tryz.pinned (OpenSpec.ofChange Rows.vaultPlaysSpec) :=
  OpenClaim.holds_of_wide 7 Tryz.f7 rfl rfl rfl rfl rfl rfl rfl ⟨rfl, rfl, rfl, rfl, rfl⟩ rfl rfl rfl rfl rfl (by kernel_rfl) Tryz.func7 closed
    (of_decide_eq_true (by kernel_rfl)) (by unfold Func.isWrapper; first | (rw [if_pos (by decide +kernel)]; kernel_rfl) | (rw [if_neg (by decide +kernel)]; exact ⟨rfl, rfl⟩))
    (fun os started H enc _ => lifted os started H enc)

/-- THE STATEMENT -/
theorem proved : Rows.VaultPlaysSaid := over
#print axioms proved
end Go.Proofs.YtiaiakncbgmfhaaGreat.vaultPlays
