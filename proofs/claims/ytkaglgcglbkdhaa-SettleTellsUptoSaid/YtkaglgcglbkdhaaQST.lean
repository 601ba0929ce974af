/-
  SettleTells returns true and leaves its arguments as they were, wherever what it reads is of a bulk of at most 1048576.
-/
import Derived.Test.YtkaglgcglbkdhaaRows
import Derived.WalkKit
import Derived.ProofKit
import Derived.OpenShut
import Derived.ShutString
import Derived.ChangeOld
import Derived.Below
import Derived.JoinedCond
import Derived.Test.YtkaglgcglbkdhaaFCA
import Derived.Test.YtkaglgcglbkdhaaFCB
import Derived.Test.YtkaglgcglbkdhaaFCC
import Derived.Test.YtkaglgcglbkdhaaFCD
import Derived.Test.YtkaglgcglbkdhaaBa7d80bd7
namespace Go.Proofs.Ytkaglgcglbkdhaa.settleTellsUpto
open Go.ChangeShapes Go.WideShapes Go.ChangeAt Go.RowKit
open Go.ChangeMaps (open_string shut_string)
set_option linter.unusedVariables false
set_option synthInstance.maxSize 100000
set_option synthInstance.maxHeartbeats 400000

theorem own : ownKnob Try.prog.godebug = none := by kernel_rfl
theorem laidOut : laidOutB Try.prog = true := cf_laid

theorem walk (w : World) (v0 : Value) (w0 : ∃ xs, SL.SlIn w v0 encIn xs ∧ (∀ x ∈ xs, okIn1 w x) ∧ xs.length ≤ 1048576) (a1 : ByteArray) (w1 : a1.size ≤ maxLen) :
    Calls Try.prog 3 #[v0, .string a1] w fun e w' => e = .returned (.bool true) ∧ Below w.heap.size w w' := by
  obtain ⟨x0, hin0, ok0⟩ := w0
  haveI : SL.RoIn w v0 encIn x0 := ⟨hin0⟩
  exact SL.calls_of fun _ h => SettleTells_walk hin0 (ok0).1 (ok0).2 h


/-! ### the bulk of what is read -/
theorem upto_mem {H : Type} : ∀ {ps : List (DataW H)} {p : DataW H}, p ∈ ps → Rows.uptoBulk p ≤ Rows.uptoBulkAll ps
  | q :: ps, p, h => by
    rw [Rows.uptoBulkAll]
    rcases List.mem_cons.1 h with h | h
    · rw [h]; omega
    · have := upto_mem h; omega
theorem upto_pos {H : Type} (d : DataW H) : 1 ≤ Rows.uptoBulk d := by
  unfold Rows.uptoBulk
  split <;> omega
theorem upto_len {H : Type} : ∀ (ps : List (DataW H)), ps.length ≤ Rows.uptoBulkAll ps
  | [] => Nat.zero_le _
  | q :: ps => by
    rw [Rows.uptoBulkAll, List.length_cons]
    have h1 := upto_len ps
    have h2 := upto_pos q
    omega
theorem upto_agg {H : Type} (ps : List (DataW H)) : Rows.uptoBulk (.agg ps) = Rows.uptoBulkAll ps + 1 := by rw [Rows.uptoBulk]
theorem upto_sl {H : Type} (ps rs : List (DataW H)) : Rows.uptoBulk (.slice ps rs) = Rows.uptoBulkAll ps + Rows.uptoBulkAll rs + 1 := by rw [Rows.uptoBulk]
theorem upto_str {H : Type} (bs : List UInt8) : Rows.uptoBulk (H := H) (.lit (.string bs)) = bs.length + 1 := by rw [Rows.uptoBulk]
def bulk (H : Type) : SL.Bulk H :=
  ⟨Rows.uptoBulk, fun bs => by rw [upto_str]; omega, fun ps p h => by rw [upto_agg]; have := upto_mem h; omega, fun ps rs p h => by rw [upto_sl]; have := upto_mem h; omega, fun ps rs => by rw [upto_sl]; have := upto_len ps; omega⟩

/-! ### THE ROW's STEP: WRITTEN OUT: LEAVE IT -/
set_option maxRecDepth 100000 in
theorem lifted (os : Os) (started : os.Started) (H : Type) (enc : TypeId × Value → H) (F0 : Stop.Interp) :
    ReturnsInHanded {} Try.checked os 3 .any ((Rows.OpenSpec.upto Rows.settleTellsSpec).pre6 enc Try.prog Try.f3 Rows.settleTellsUptoRow.domain false) (((Rows.OpenSpec.upto Rows.settleTellsSpec).at F0).post enc Try.prog Try.f3 false true false false) := by
  refine returnsInHanded_of_cond (C := Try.checked) (s := Rows.OpenSpec.upto Rows.settleTellsSpec) (k := Rows.uptoSmall) rfl own started (by kernel_rfl) Try.func3
    (OpenSpec.witness (enc := enc) (C := Try.checked) (s := Rows.OpenSpec.upto Rows.settleTellsSpec) (k := Rows.uptoSmall) rfl false ⟨#[], #[.slice none 0 0, .string ⟨#[]⟩], []⟩ 8 (by kernel_rfl) (by kernel_rfl) (by kernel_rfl)
      (x := ([.nil, .lit (.string [])], [], [])) (by kernel_rfl) (by kernel_rfl) (by kernel_rfl)) ?_
  intro W base args ds gs before hval0 hW hcnd hk _
  have hval : ∀ (j : Nat) t v, Try.f3.params[j]? = some t → args[j]? = some v → Value.okWide Try.prog W .any base t v := hval0
  have hW' := hW
  obtain ⟨p, q, hA0, hV, rfl, hfz, hnd⟩ := hW
  have hA : DataW.TrodAll enc Try.prog W 0 (fun _ => true) true Try.f3.params.toList args.toList ds p := hA0
  rw [Try.params3] at hA hval
  obtain ⟨v0, vs0, d0, ds0, p0, q0, hargs, rfl, rfl, h0, r0⟩ := trodAll_cons hA
  obtain ⟨v1, vs1, d1, ds1, p1, q1, rfl, rfl, rfl, h1, r1⟩ := trodAll_cons r0
  obtain ⟨rfl, rfl, rfl⟩ := trodAll_nil r1
  obtain rfl : args = #[v0, v1] := by cases args; simp_all
  obtain ⟨rfl, rfl⟩ := trodVars_none hV
  have hku : Rows.uptoBulkAll ([d0, d1] ++ []) ≤ 1048576 := of_decide_eq_true hk
  have hu0 : Rows.uptoBulk d0 ≤ 1048576 := Nat.le_trans (upto_mem (by simp)) hku
  have hu1 : Rows.uptoBulk d1 ≤ 1048576 := Nat.le_trans (upto_mem (by simp)) hku
  obtain ⟨p_a0, p_len0, p_cap0, rfl⟩ := okWide_slice Try.underlying22 (hval 0 22 v0 rfl rfl)
  have k0 := h0
  have lt0 : ∀ x ∈ p0, x.block < W.heap.size := by obtain ⟨m, hm⟩ := k0; exact DataW.trod_lt m _ _ _ hm
  have w0 : ∃ xs, SL.SlIn W (.slice p_a0 p_len0 p_cap0) encIn xs ∧ (∀ x ∈ xs, okIn1 W x) ∧ xs.length ≤ 1048576 := by
    obtain ⟨fuel, hf⟩ := h0
    obtain ⟨b, hb, hk⟩ := (SL.decB_slice encIn Try.underlying22 (by kernel_rfl) dInB).h (bulk H) hf hu0
    have hb' : Value.slice p_a0 p_len0 p_cap0 = b.1 := by simpa [Value.cells] using hb
    exact ⟨b.2, hb' ▸ hk.1, hk.2⟩
  obtain ⟨a1, rfl, rfl, rfl, w1⟩ := open_string Try.underlying9 (hval 1 9 v1 rfl rfl) h1
  clear hA0 hval0
  refine (walk W _ w0 a1 w1).mono fun e W' ⟨he, bel⟩ => ?_
  subst he
  exact ⟨_, rfl, _, _, _, [], _, [], hW', trodAll_mk1 (shut_bool Try.underlying4 _), (trodAll_cons_mk (Below.trod laidOut (by kernel_rfl) (of_decide_eq_true (by kernel_rfl)) k0 bel lt0) (trodAll_cons_mk (shut_string Try.underlying9 w1) trodAll_mk0)), rfl, bel.frame _, fun h => by cases h⟩

theorem c1 : Rows.settleTellsUptoRow.wf (OpenSpec.ofChange (Rows.OpenSpec.upto Rows.settleTellsSpec).bare) = true := by kernel_rfl
theorem c4 : Try.f3.params.all (Try.prog.readableRec ·) = true := by kernel_rfl
theorem c7 : (Rows.settleTellsUptoRow.inPlace == Try.prog.inPlace 3) = true := by kernel_rfl
theorem c8 : (Rows.settleTellsUptoRow.unfollowed == Try.prog.unfollowed 3) = true := by kernel_rfl
theorem c9 : (Rows.settleTellsUptoRow.recurses == Try.prog.recurses 3) = true := by kernel_rfl
theorem c10 : (Rows.settleTellsUptoRow.named == Try.prog.varsNamed 3) = true := by kernel_rfl
theorem closed : joinedFacts Try.prog 3 Try.f3 (Rows.OpenSpec.upto Rows.settleTellsSpec).bare Rows.settleTellsUptoRow = true := by
  unfold joinedFacts
  rw [c1, cf_laid, cf_maps, c4, cf_stops, cf_knobs, c7, c8, c9, c10, cf_keys, cf_heard, cf_enter, cf_lifts]
  kernel_rfl
theorem over : Rows.settleTellsUptoRow.holds Try.pinned (Rows.OpenSpec.upto Rows.settleTellsSpec) :=
  OpenClaim.holds_of_cond 3 Try.f3 rfl rfl rfl rfl rfl rfl rfl ⟨rfl, rfl, rfl, rfl, rfl⟩ rfl rfl rfl rfl rfl (by kernel_rfl) Try.func3 closed
    (of_decide_eq_true (by kernel_rfl)) (by unfold Func.isWrapper; first | (rw [if_pos (by decide +kernel)]; kernel_rfl) | (rw [if_neg (by decide +kernel)]; exact ⟨rfl, rfl⟩))
    (fun os started H enc _ F0 => lifted os started H enc F0)

/-- THE STATEMENT -/
theorem proved : Rows.SettleTellsUptoSaid := over
#print axioms proved
end Go.Proofs.Ytkaglgcglbkdhaa.settleTellsUpto
