/-
  JournalEnds returns true and leaves its arguments as they were, for every input: no condition.
-/
import Derived.Test.YtbdhnlcnllpfiaaRows
import Derived.WalkKit
import Derived.ProofKit
import Derived.OpenShut
import Derived.ShutString
import Derived.ChangeOld
import Derived.Below
import Derived.Test.YtbdhnlcnllpfiaaFCA
import Derived.Test.YtbdhnlcnllpfiaaFCB
import Derived.Test.YtbdhnlcnllpfiaaFCC
import Derived.Test.YtbdhnlcnllpfiaaFCD
import Derived.Test.YtbdhnlcnllpfiaaB6aed207f
namespace Go.Proofs.Ytbdhnlcnllpfiaa.journalEnds
open Go.ChangeShapes Go.WideShapes Go.ChangeAt Go.RowKit
open Go.ChangeMaps (open_string shut_string)
set_option linter.unusedVariables false
set_option synthInstance.maxSize 100000
set_option synthInstance.maxHeartbeats 400000

theorem own : ownKnob Try.prog.godebug = none := by kernel_rfl
theorem laidOut : laidOutB Try.prog = true := cf_laid

theorem walk (w : World) (v0 : Value) (w0 : ∃ xs, SL.SlIn w v0 encSB xs ∧ ∀ x ∈ xs, okSB w x) (v1 : Value) (w1 : ∃ xs, SL.SlIn w v1 SL.encB xs ∧ ∀ x ∈ xs, SL.okB w x) (a2 : Int) (w2 : (Lit.int .i64 a2).wf = true) (a3 : Int) (w3 : (Lit.int .i64 a3).wf = true) (a4 : Bool) :
    Calls Try.prog 9 #[v0, v1, .int .i64 a2, .int .i64 a3, .bool a4] w fun e w' => e = .returned (.bool true) ∧ Below w.heap.size w w' := by
  obtain ⟨x0, hin0, ok0⟩ := w0
  haveI : SL.RoIn w v0 encSB x0 := ⟨hin0⟩
  obtain ⟨x1, hin1, ok1⟩ := w1
  haveI : SL.RoIn w v1 SL.encB x1 := ⟨hin1⟩
  exact SL.calls_of fun _ h => JournalEnds_walk (ms := x0) (xs := x1) ok0 h

/-! ### THE ROW's STEP: WRITTEN OUT: LEAVE IT -/
set_option maxRecDepth 100000 in
theorem lifted (os : Os) (started : os.Started) (H : Type) (enc : TypeId × Value → H) :
    ReturnsInHanded {} Try.checked os 9 .any (Rows.journalEndsSpec.pre6 enc Try.prog Try.f9 Rows.journalEndsRow.domain false) (Rows.journalEndsSpec.post enc Try.prog Try.f9 false true false false) := by
  refine returnsInHanded_of_change (C := Try.checked) own started (by kernel_rfl) Try.func9
    (ChangeSpec.witness6 (enc := enc) (C := Try.checked) false ⟨#[], #[.slice none 0 0, .slice none 0 0, .int .i64 0, .int .i64 0, .bool false], []⟩ 8 (by kernel_rfl) (by kernel_rfl) (by kernel_rfl) (by kernel_rfl)) ?_
  intro W base args ds gs before hval0 hW hcnd _
  have hval : ∀ (j : Nat) t v, Try.f9.params[j]? = some t → args[j]? = some v → Value.okWide Try.prog W .any base t v := hval0
  have hW' := hW
  obtain ⟨p, q, hA0, hV, rfl, hfz, hnd⟩ := hW
  have hA : DataW.TrodAll enc Try.prog W 0 (fun _ => true) true Try.f9.params.toList args.toList ds p := hA0
  rw [Try.params9] at hA hval
  obtain ⟨v0, vs0, d0, ds0, p0, q0, hargs, rfl, rfl, h0, r0⟩ := trodAll_cons hA
  obtain ⟨v1, vs1, d1, ds1, p1, q1, rfl, rfl, rfl, h1, r1⟩ := trodAll_cons r0
  obtain ⟨v2, vs2, d2, ds2, p2, q2, rfl, rfl, rfl, h2, r2⟩ := trodAll_cons r1
  obtain ⟨v3, vs3, d3, ds3, p3, q3, rfl, rfl, rfl, h3, r3⟩ := trodAll_cons r2
  obtain ⟨v4, vs4, d4, ds4, p4, q4, rfl, rfl, rfl, h4, r4⟩ := trodAll_cons r3
  obtain ⟨rfl, rfl, rfl⟩ := trodAll_nil r4
  obtain rfl : args = #[v0, v1, v2, v3, v4] := by cases args; simp_all
  obtain ⟨rfl, rfl⟩ := trodVars_none hV
  obtain ⟨p_a0, p_len0, p_cap0, rfl⟩ := okWide_slice Try.underlying31 (hval 0 31 v0 rfl rfl)
  have k0 := h0
  have lt0 : ∀ x ∈ p0, x.block < W.heap.size := by obtain ⟨m, hm⟩ := k0; exact DataW.trod_lt m _ _ _ hm
  have w0 : ∃ xs, SL.SlIn W (.slice p_a0 p_len0 p_cap0) encSB xs ∧ ∀ x ∈ xs, okSB W x := by
    obtain ⟨fuel, hf⟩ := h0
    obtain ⟨b, hb, hk⟩ := (SL.dec_slice encSB Try.underlying31 (by kernel_rfl) dSB).h hf
    have hb' : Value.slice p_a0 p_len0 p_cap0 = b.1 := by simpa [Value.cells] using hb
    exact ⟨b.2, hb' ▸ hk.1, hk.2⟩
  obtain ⟨p_a1, p_len1, p_cap1, rfl⟩ := okWide_slice Try.underlying23 (hval 1 23 v1 rfl rfl)
  have k1 := h1
  have lt1 : ∀ x ∈ p1, x.block < W.heap.size := by obtain ⟨m, hm⟩ := k1; exact DataW.trod_lt m _ _ _ hm
  have w1 : ∃ xs, SL.SlIn W (.slice p_a1 p_len1 p_cap1) SL.encB xs ∧ ∀ x ∈ xs, SL.okB W x := by
    obtain ⟨fuel, hf⟩ := h1
    obtain ⟨b, hb, hk⟩ := (SL.dec_slice SL.encB Try.underlying23 (by kernel_rfl) dU11).h hf
    have hb' : Value.slice p_a1 p_len1 p_cap1 = b.1 := by simpa [Value.cells] using hb
    exact ⟨b.2, hb' ▸ hk.1, hk.2⟩
  obtain ⟨a2, rfl, rfl, rfl, w2⟩ := open_int Try.underlying3 (hval 2 3 v2 rfl rfl) h2
  obtain ⟨a3, rfl, rfl, rfl, w3⟩ := open_int Try.underlying3 (hval 3 3 v3 rfl rfl) h3
  obtain ⟨a4, rfl, rfl, rfl⟩ := open_bool Try.underlying4 (hval 4 4 v4 rfl rfl) h4
  clear hA0 hval0
  refine (walk W _ w0 _ w1 a2 w2 a3 w3 a4).mono fun e W' ⟨he, bel⟩ => ?_
  subst he
  exact ⟨_, rfl, _, _, _, [], _, [], hW', trodAll_mk1 (shut_bool Try.underlying4 _), (trodAll_cons_mk (Below.trod laidOut (by kernel_rfl) (of_decide_eq_true (by kernel_rfl)) k0 bel lt0) (trodAll_cons_mk (Below.trod laidOut (by kernel_rfl) (of_decide_eq_true (by kernel_rfl)) k1 bel lt1) (trodAll_cons_mk (shut_int Try.underlying3 w2) (trodAll_cons_mk (shut_int Try.underlying3 w3) (trodAll_cons_mk (shut_bool Try.underlying4 _) trodAll_mk0))))), rfl, bel.frame _, fun h => by cases h⟩

theorem c1 : Rows.journalEndsRow.wf (OpenSpec.ofChange Rows.journalEndsSpec) = true := by kernel_rfl
theorem c4 : Try.f9.params.all (Try.prog.readableRec ·) = true := by kernel_rfl
theorem c7 : (Rows.journalEndsRow.inPlace == Try.prog.inPlace 9) = true := by kernel_rfl
theorem c8 : (Rows.journalEndsRow.unfollowed == Try.prog.unfollowed 9) = true := by kernel_rfl
theorem c9 : (Rows.journalEndsRow.recurses == Try.prog.recurses 9) = true := by kernel_rfl
theorem c10 : (Rows.journalEndsRow.named == Try.prog.varsNamed 9) = true := by kernel_rfl
theorem closed : joinedFacts Try.prog 9 Try.f9 Rows.journalEndsSpec Rows.journalEndsRow = true := by
  unfold joinedFacts
  rw [c1, cf_laid, cf_maps, c4, cf_stops, cf_knobs, c7, c8, c9, c10, cf_keys, cf_heard, cf_enter, cf_lifts]
  kernel_rfl
theorem over : Rows.journalEndsRow.holds Try.pinned (OpenSpec.ofChange Rows.journalEndsSpec) :=
  OpenClaim.holds_of_wide 9 Try.f9 rfl rfl rfl rfl rfl rfl rfl ⟨rfl, rfl, rfl, rfl, rfl⟩ rfl rfl rfl rfl rfl (by kernel_rfl) Try.func9 closed
    (of_decide_eq_true (by kernel_rfl)) (by unfold Func.isWrapper; first | (rw [if_pos (by decide +kernel)]; kernel_rfl) | (rw [if_neg (by decide +kernel)]; exact ⟨rfl, rfl⟩))
    (fun os started H enc _ => lifted os started H enc)

/-- THE STATEMENT -/
theorem proved : Rows.JournalEndsSaid := over
#print axioms proved
end Go.Proofs.Ytbdhnlcnllpfiaa.journalEnds
