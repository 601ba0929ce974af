/-
  LedgerStays returns true and leaves its arguments as they were, for every input: no condition.
-/
import Derived.Test.YtohglolecmgeoaaGreatRows
import Derived.WalkKit
import Derived.ProofKit
import Derived.OpenShut
import Derived.ShutString
import Derived.ChangeOld
import Derived.Below
import Derived.Test.YtohglolecmgeoaaGreatFCA
import Derived.Test.YtohglolecmgeoaaGreatFCB
import Derived.Test.YtohglolecmgeoaaGreatFCC
import Derived.Test.YtohglolecmgeoaaGreatFCD
import Derived.Test.YtohglolecmgeoaaGreatB6eb12c03
namespace Go.Proofs.YtohglolecmgeoaaGreat.ledgerStays
open Go.ChangeShapes Go.WideShapes Go.ChangeAt Go.RowKit
open Go.ChangeMaps (open_string shut_string)
set_option linter.unusedVariables false
set_option synthInstance.maxSize 100000
set_option synthInstance.maxHeartbeats 400000

theorem own : ownKnob Tryz.prog.godebug = none := by kernel_rfl
theorem laidOut : laidOutB Tryz.prog = true := cf_laid

theorem walk (w : World) (v0 : Value) (w0 : ∃ b, v0 = .agg (fRo b).toArray ∧ okRo w b) (a1 : Int) (w1 : (Lit.int .i64 a1).wf = true) (v2 : Value) (w2 : ∃ xs, SL.SlIn w v2 encNs xs ∧ ∀ x ∈ xs, okNs w x) (v3 : Value) (w3 : ∃ xs, SL.SlIn w v3 encNs xs ∧ ∀ x ∈ xs, okNs w x) (a4 : Int) (w4 : (Lit.int .i64 a4).wf = true) :
    Calls Tryz.prog 4 #[v0, .int .i64 a1, v2, v3, .int .i64 a4] w fun e w' => e = .returned (.bool true) ∧ Below w.heap.size w w' := by
  obtain ⟨b0, rfl, ok0⟩ := w0
  obtain ⟨x2, hin2, ok2⟩ := w2
  haveI : SL.RoIn w v2 encNs x2 := ⟨hin2⟩
  obtain ⟨x3, hin3, ok3⟩ := w3
  haveI : SL.RoIn w v3 encNs x3 := ⟨hin3⟩
  exact SL.calls_of fun _ h => LedgerStays_walk ok0 ok2 ok3 h

/-! ### THE ROW's STEP: WRITTEN OUT: LEAVE IT -/
set_option maxRecDepth 100000 in
theorem lifted (os : Os) (started : os.Started) (H : Type) (enc : TypeId × Value → H) :
    ReturnsInHanded {} Tryz.checked os 4 .any (Rows.ledgerStaysSpec.pre6 enc Tryz.prog Tryz.f4 Rows.ledgerStaysRow.domain false) (Rows.ledgerStaysSpec.post enc Tryz.prog Tryz.f4 false true false false) := by
  refine returnsInHanded_of_change (C := Tryz.checked) own started (by kernel_rfl) Tryz.func4
    (ChangeSpec.witness6 (enc := enc) (C := Tryz.checked) false ⟨#[], #[.agg #[.int .i64 0, .slice none 0 0, .slice none 0 0], .int .i64 0, .slice none 0 0, .slice none 0 0, .int .i64 0], []⟩ 8 (by kernel_rfl) (by kernel_rfl) (by kernel_rfl) (by kernel_rfl)) ?_
  intro W base args ds gs before hval0 hW hcnd _
  have hval : ∀ (j : Nat) t v, Tryz.f4.params[j]? = some t → args[j]? = some v → Value.okWide Tryz.prog W .any base t v := hval0
  have hW' := hW
  obtain ⟨p, q, hA0, hV, rfl, hfz, hnd⟩ := hW
  have hA : DataW.TrodAll enc Tryz.prog W 0 (fun _ => true) true Tryz.f4.params.toList args.toList ds p := hA0
  rw [Tryz.params4] at hA hval
  obtain ⟨v0, vs0, d0, ds0, p0, q0, hargs, rfl, rfl, h0, r0⟩ := trodAll_cons hA
  obtain ⟨v1, vs1, d1, ds1, p1, q1, rfl, rfl, rfl, h1, r1⟩ := trodAll_cons r0
  obtain ⟨v2, vs2, d2, ds2, p2, q2, rfl, rfl, rfl, h2, r2⟩ := trodAll_cons r1
  obtain ⟨v3, vs3, d3, ds3, p3, q3, rfl, rfl, rfl, h3, r3⟩ := trodAll_cons r2
  obtain ⟨v4, vs4, d4, ds4, p4, q4, rfl, rfl, rfl, h4, r4⟩ := trodAll_cons r3
  obtain ⟨rfl, rfl, rfl⟩ := trodAll_nil r4
  obtain rfl : args = #[v0, v1, v2, v3, v4] := by cases args; simp_all
  obtain ⟨rfl, rfl⟩ := trodVars_none hV
  obtain ⟨p_c0, rfl, _⟩ := okWide_struct Tryz.underlying25 (hval 0 25 v0 rfl rfl)
  have k0 := h0
  have lt0 : ∀ x ∈ p0, x.block < W.heap.size := by obtain ⟨m, hm⟩ := k0; exact DataW.trod_lt m _ _ _ hm
  have w0 : ∃ b, Value.agg p_c0 = .agg (fRo b).toArray ∧ okRo W b := by
    obtain ⟨fuel, hf⟩ := h0
    obtain ⟨b, hb, hk⟩ := (dRo).h hf
    exact ⟨b, by have := congrArg List.toArray hb; simpa [Value.cells] using this, hk⟩
  obtain ⟨a1, rfl, rfl, rfl, w1⟩ := open_int Tryz.underlying3 (hval 1 3 v1 rfl rfl) h1
  obtain ⟨p_a2, p_len2, p_cap2, rfl⟩ := okWide_slice Tryz.underlying26 (hval 2 26 v2 rfl rfl)
  have k2 := h2
  have lt2 : ∀ x ∈ p2, x.block < W.heap.size := by obtain ⟨m, hm⟩ := k2; exact DataW.trod_lt m _ _ _ hm
  have w2 : ∃ xs, SL.SlIn W (.slice p_a2 p_len2 p_cap2) encNs xs ∧ ∀ x ∈ xs, okNs W x := by
    obtain ⟨fuel, hf⟩ := h2
    obtain ⟨b, hb, hk⟩ := (SL.dec_slice encNs Tryz.underlying26 (by kernel_rfl) dNs).h hf
    have hb' : Value.slice p_a2 p_len2 p_cap2 = b.1 := by simpa [Value.cells] using hb
    exact ⟨b.2, hb' ▸ hk.1, hk.2⟩
  obtain ⟨p_a3, p_len3, p_cap3, rfl⟩ := okWide_slice Tryz.underlying26 (hval 3 26 v3 rfl rfl)
  have k3 := h3
  have lt3 : ∀ x ∈ p3, x.block < W.heap.size := by obtain ⟨m, hm⟩ := k3; exact DataW.trod_lt m _ _ _ hm
  have w3 : ∃ xs, SL.SlIn W (.slice p_a3 p_len3 p_cap3) encNs xs ∧ ∀ x ∈ xs, okNs W x := by
    obtain ⟨fuel, hf⟩ := h3
    obtain ⟨b, hb, hk⟩ := (SL.dec_slice encNs Tryz.underlying26 (by kernel_rfl) dNs).h hf
    have hb' : Value.slice p_a3 p_len3 p_cap3 = b.1 := by simpa [Value.cells] using hb
    exact ⟨b.2, hb' ▸ hk.1, hk.2⟩
  obtain ⟨a4, rfl, rfl, rfl, w4⟩ := open_int Tryz.underlying3 (hval 4 3 v4 rfl rfl) h4
  clear hA0 hval0
  refine (walk W _ w0 a1 w1 _ w2 _ w3 a4 w4).mono fun e W' ⟨he, bel⟩ => ?_
  subst he
  exact ⟨_, rfl, _, _, _, [], _, [], hW', trodAll_mk1 (shut_bool Tryz.underlying4 _), (trodAll_cons_mk (Below.trod laidOut (by kernel_rfl) (of_decide_eq_true (by kernel_rfl)) k0 bel lt0) (trodAll_cons_mk (shut_int Tryz.underlying3 w1) (trodAll_cons_mk (Below.trod laidOut (by kernel_rfl) (of_decide_eq_true (by kernel_rfl)) k2 bel lt2) (trodAll_cons_mk (Below.trod laidOut (by kernel_rfl) (of_decide_eq_true (by kernel_rfl)) k3 bel lt3) (trodAll_cons_mk (shut_int Tryz.underlying3 w4) trodAll_mk0))))), rfl, bel.frame _, fun h => by cases h⟩

theorem c1 : Rows.ledgerStaysRow.wf (OpenSpec.ofChange Rows.ledgerStaysSpec) = true := by kernel_rfl
theorem c4 : Tryz.f4.params.all (Tryz.prog.readableRec ·) = true := by kernel_rfl
theorem c7 : (Rows.ledgerStaysRow.inPlace == Tryz.prog.inPlace 4) = true := by kernel_rfl
theorem c8 : (Rows.ledgerStaysRow.unfollowed == Tryz.prog.unfollowed 4) = true := by kernel_rfl
theorem c9 : (Rows.ledgerStaysRow.recurses == Tryz.prog.recurses 4) = true := by kernel_rfl
theorem c10 : (Rows.ledgerStaysRow.named == Tryz.prog.varsNamed 4) = true := by kernel_rfl
theorem closed : joinedFacts Tryz.prog 4 Tryz.f4 Rows.ledgerStaysSpec Rows.ledgerStaysRow = true := by
  unfold joinedFacts
  rw [c1, cf_laid, cf_maps, c4, cf_stops, cf_knobs, c7, c8, c9, c10, cf_keys, cf_heard, cf_enter, cf_lifts]
  kernel_rfl
theorem over : Rows.ledgerStaysRow.holds Tryz.pinned (OpenSpec.ofChange Rows.ledgerStaysSpec) :=
  OpenClaim.holds_of_wide 4 Tryz.f4 rfl rfl rfl rfl rfl rfl rfl ⟨rfl, rfl, rfl, rfl, rfl⟩ rfl rfl rfl rfl rfl (by kernel_rfl) Tryz.func4 closed
    (of_decide_eq_true (by kernel_rfl)) (by unfold Func.isWrapper; first | (rw [if_pos (by decide +kernel)]; kernel_rfl) | (rw [if_neg (by decide +kernel)]; exact ⟨rfl, rfl⟩))
    (fun os started H enc _ => lifted os started H enc)

/-- THE STATEMENT -/
theorem proved : Rows.LedgerStaysSaid := over
#print axioms proved
end Go.Proofs.YtohglolecmgeoaaGreat.ledgerStays
