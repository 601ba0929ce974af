/-
  NoteOnce returns true and leaves its arguments as they were, for every input; the listed library tables lie as the program lays them (the card's tie).
-/
import Derived.Test.YtkaglgcglbkdhaaDoorRows
import Derived.WalkKit
import Derived.ProofKit
import Derived.OpenShut
import Derived.ShutString
import Derived.ChangeOld
import Derived.Below
import Derived.LaidMore
import Derived.Stop.Joined
import Derived.Lib.LaidU8
import Derived.SevenTiedAt
import Derived.Test.YtkaglgcglbkdhaaDoorCards
import Derived.Test.YtkaglgcglbkdhaaDoorTie
import Derived.Test.YtkaglgcglbkdhaaDoorFCA
import Derived.Test.YtkaglgcglbkdhaaDoorFCB
import Derived.Test.YtkaglgcglbkdhaaDoorFCC
import Derived.Test.YtkaglgcglbkdhaaDoorFCD
import Derived.Test.YtkaglgcglbkdhaaDoorB053e1b34
namespace Go.Proofs.YtkaglgcglbkdhaaDoor.noteOnce
open Go.ChangeShapes Go.WideShapes Go.ChangeAt Go.RowKit
open Go.ChangeMaps (open_string shut_string)
set_option linter.unusedVariables false
set_option synthInstance.maxSize 100000
set_option synthInstance.maxHeartbeats 400000

theorem own : ownKnob Tryd.prog.godebug = none := by kernel_rfl
theorem laidOut : laidOutB Tryd.prog = true := cf_laid

theorem walk (w : World) (hT : ∀ c : UInt8, w.cell? ⟨0, c.toNat, none⟩ = some (.int .u8 (spB c))) (v0 : Value) (w0 : ∃ xs, SL.SlIn w v0 SL.encB xs ∧ ∀ x ∈ xs, SL.okB w x) (v1 : Value) (w1 : ∃ xs, SL.SlIn w v1 SL.encB xs ∧ ∀ x ∈ xs, SL.okB w x) :
    Calls Tryd.prog 6 #[v0, v1] w fun e w' => e = .returned (.bool true) ∧ Below w.heap.size w w' := by
  obtain ⟨x0, hin0, ok0⟩ := w0
  haveI : SL.RoIn w v0 SL.encB x0 := ⟨hin0⟩
  obtain ⟨x1, hin1, ok1⟩ := w1
  haveI : SL.RoIn w v1 SL.encB x1 := ⟨hin1⟩
  exact SL.calls_of fun _ h => NoteOnce_walk (a := x0) (b := x1) hT h

/-! ### THE LISTED VARIABLES -/
theorem gSp : Tryd.prog.globalNamed "strings.asciiSpace" = some 0 := by kernel_rfl
theorem tSp : (Tryd.prog.globals[0]?).map (·.type) = some 104 := by kernel_rfl
theorem cel1 : Tryd.prog.cellsOf 5 = 1 := by kernel_rfl
theorem cel2 : Tryd.prog.cellsOf 104 = 256 := by kernel_rfl
def spL : List Int := (List.range 256).map fun i => spB (UInt8.ofNat i)
theorem laidSp : (Rows.laid_strings_asciiSpace : DataW Unit) = Lib.tabData .u8 spL := by kernel_rfl
abbrev laid2 : List (String × DataW Unit) := [("unicode.White_Space", Rows.laid_unicode_White_Space), ("strings.asciiSpace", Rows.laid_strings_asciiSpace)]
theorem door_met (os : Os) (args : Array Value) : laidMetH Tryd.prog laid2 ((World.doorLaid Tryd.prog 400 os).forCall (fun _ _ => 0) ⟨#[], args, []⟩).memory :=
  laidMetH_of_parts3 (fuel := 8) (laidMet_of_run' 8 (by kernel_rfl) (by kernel_rfl)) (by kernel_rfl) (by kernel_rfl)
theorem of_laid {W : World} (h : laidMetH Tryd.prog laid2 W) (c : UInt8) : W.cell? ⟨0, c.toNat, none⟩ = some (.int .u8 (spB c)) := by
  rw [MakeChecks.laidMetH_plain _ _ _ (by kernel_rfl)] at h
  obtain ⟨g, t, cs, fuel, p, hg, ht, hv, hd⟩ := Lib.laidMet.reads h (n := "strings.asciiSpace") (d := Rows.laid_strings_asciiSpace) (List.mem_cons_of_mem _ List.mem_cons_self)
  obtain rfl := Option.some.inj (gSp.symm.trans hg)
  obtain rfl := Option.some.inj (tSp.symm.trans ht)
  rw [laidSp] at hd
  have hcs := Lib.cells_of_tab Tryd.underlying104 Tryd.underlying5 cel1 cel2 hd
  have h1 := World.var?_cell hg hv c.toNat
  rw [h1, ← Array.getElem?_toList, hcs]
  have hc : c.toNat < 256 := c.toNat_lt
  simp [spL, hc]

/-! ### THE ROW's STEP: WRITTEN OUT: LEAVE IT -/
set_option maxRecDepth 100000 in
theorem lifted (os : Os) (started : os.Started) (H : Type) (enc : TypeId × Value → H) :
    ReturnsInHanded {} Tryd.checked os 6 .any (fun w args => (Rows.noteOnceSpec.pre enc Tryd.prog Tryd.f6 [] false w args ∧ laidMetH Tryd.prog laid2 w) ∧ sizedMet enc Tryd.prog Tryd.f6 (OpenSpec.ofChange Rows.noteOnceSpec) false w args) (Rows.noteOnceSpec.post enc Tryd.prog Tryd.f6 false true false false) := by
  refine returnsInHanded_of_change_and (C := Tryd.checked) (X := fun w _ => laidMetH Tryd.prog laid2 w) (fun _ _ _ hh h => h.of_heap hh) own started (by kernel_rfl) Tryd.func6
    (ChangeSpec.witness_shaped (enc := enc) (C := Tryd.checked) (os := os) (X := fun w _ => laidMetH Tryd.prog laid2 w) false (World.doorLaid Tryd.prog 400 os) #[.slice none 0 0, .slice none 0 0] 8 rfl (World.shaped_of_RefB (by kernel_rfl) (by kernel_rfl)) (by kernel_rfl) (by kernel_rfl) (by kernel_rfl) (door_met os _)) ?_
  intro W base args ds gs before hval0 hW _ _ hL _
  have hval : ∀ (j : Nat) t v, Tryd.f6.params[j]? = some t → args[j]? = some v → Value.okWide Tryd.prog W .any base t v := hval0
  have hW' := hW
  obtain ⟨p, q, hA0, hV, rfl, hfz, hnd⟩ := hW
  have hA : DataW.TrodAll enc Tryd.prog W 0 (fun _ => true) true Tryd.f6.params.toList args.toList ds p := hA0
  rw [Tryd.params6] at hA hval
  obtain ⟨v0, vs0, d0, ds0, p0, q0, hargs, rfl, rfl, h0, r0⟩ := trodAll_cons hA
  obtain ⟨v1, vs1, d1, ds1, p1, q1, rfl, rfl, rfl, h1, r1⟩ := trodAll_cons r0
  obtain ⟨rfl, rfl, rfl⟩ := trodAll_nil r1
  obtain rfl : args = #[v0, v1] := by cases args; simp_all
  obtain ⟨rfl, rfl⟩ := trodVars_none hV
  obtain ⟨p_a0, p_len0, p_cap0, rfl⟩ := okWide_slice Tryd.underlying47 (hval 0 47 v0 rfl rfl)
  have k0 := h0
  have lt0 : ∀ x ∈ p0, x.block < W.heap.size := by obtain ⟨m, hm⟩ := k0; exact DataW.trod_lt m _ _ _ hm
  have w0 : ∃ xs, SL.SlIn W (.slice p_a0 p_len0 p_cap0) SL.encB xs ∧ ∀ x ∈ xs, SL.okB W x := by
    obtain ⟨fuel, hf⟩ := h0
    obtain ⟨b, hb, hk⟩ := (SL.dec_slice SL.encB Tryd.underlying47 (by kernel_rfl) dU09).h hf
    have hb' : Value.slice p_a0 p_len0 p_cap0 = b.1 := by simpa [Value.cells] using hb
    exact ⟨b.2, hb' ▸ hk.1, hk.2⟩
  obtain ⟨p_a1, p_len1, p_cap1, rfl⟩ := okWide_slice Tryd.underlying47 (hval 1 47 v1 rfl rfl)
  have k1 := h1
  have lt1 : ∀ x ∈ p1, x.block < W.heap.size := by obtain ⟨m, hm⟩ := k1; exact DataW.trod_lt m _ _ _ hm
  have w1 : ∃ xs, SL.SlIn W (.slice p_a1 p_len1 p_cap1) SL.encB xs ∧ ∀ x ∈ xs, SL.okB W x := by
    obtain ⟨fuel, hf⟩ := h1
    obtain ⟨b, hb, hk⟩ := (SL.dec_slice SL.encB Tryd.underlying47 (by kernel_rfl) dU09).h hf
    have hb' : Value.slice p_a1 p_len1 p_cap1 = b.1 := by simpa [Value.cells] using hb
    exact ⟨b.2, hb' ▸ hk.1, hk.2⟩
  clear hA0 hval0
  refine (walk W (of_laid hL) _ w0 _ w1).mono fun e W' ⟨he, bel⟩ => ?_
  subst he
  exact ⟨_, rfl, _, _, _, [], _, [], hW', trodAll_mk1 (shut_bool Tryd.underlying4 _), (trodAll_cons_mk (Below.trod laidOut (by kernel_rfl) (of_decide_eq_true (by kernel_rfl)) k0 bel lt0) (trodAll_cons_mk (Below.trod laidOut (by kernel_rfl) (of_decide_eq_true (by kernel_rfl)) k1 bel lt1) trodAll_mk0)), rfl, bel.frame _, fun h => by cases h⟩

theorem c1 : Rows.noteOnceRow.wf (OpenSpec.ofChange Rows.noteOnceSpec) = true := by kernel_rfl
theorem c4 : Tryd.f6.params.all (Tryd.prog.readableRec ·) = true := by kernel_rfl
theorem c7 : (Rows.noteOnceRow.inPlace == Tryd.prog.inPlace 6) = true := by kernel_rfl
theorem c8 : (Rows.noteOnceRow.unfollowed == Tryd.prog.unfollowed 6) = true := by kernel_rfl
theorem c9 : (Rows.noteOnceRow.recurses == Tryd.prog.recurses 6) = true := by kernel_rfl
theorem c10 : (Rows.noteOnceRow.named == Tryd.prog.varsNamed 6) = true := by kernel_rfl
theorem closed : joinedFacts Tryd.prog 6 Tryd.f6 Rows.noteOnceSpec Rows.noteOnceRow = true := by
  unfold joinedFacts
  rw [c1, cf_laid, cf_maps, c4, cf_stops, cf_knobs, c7, c8, c9, c10, cf_keys, cf_heard, cf_enter, cf_lifts]
  kernel_rfl
theorem over : Rows.noteOnceRow.holds Tryd.pinned (OpenSpec.ofChange Rows.noteOnceSpec) :=
  OpenClaim.holds_of_wide 6 Tryd.f6 rfl rfl rfl rfl rfl rfl rfl ⟨rfl, rfl, rfl, rfl, rfl⟩ rfl rfl rfl rfl rfl (by kernel_rfl) Tryd.func6 closed
    (of_decide_eq_true (by kernel_rfl)) (by unfold Func.isWrapper; first | (rw [if_pos (by decide +kernel)]; kernel_rfl) | (rw [if_neg (by decide +kernel)]; exact ⟨rfl, rfl⟩))
    (fun os started H enc _ => lifted os started H enc)

/-- THE STATEMENT: the card -/
theorem proved : Rows.NoteOnceCardSaid :=
  Claim7.holds_tied_plain_at .later [] [.listed, .data] true (true, "4392dc734a854366adb5f6ad72c483d4814e91a41a5565bcc5c40d50f04fbce3") false
    over (fun _ h => by cases h) (by kernel_rfl) (fun _ h => by cases h) noteOnce_row_tie rfl ⟨rfl, rfl⟩ (by kernel_rfl) rfl
    (fun f fn hf hfn => by
      obtain rfl : f = 6 := Option.some.inj ((show Tryd.prog.funcNamed "clevis/clevislaw09.NoteOnce" = some 6 by kernel_rfl).symm.trans hf) |>.symm
      obtain rfl : fn = Tryd.f6 := (Option.some.inj (Tryd.func6.symm.trans hfn)).symm
      exact ⟨by kernel_rfl, fun j t ht => by
        rw [Tryd.params6] at ht
        have hm : t ∈ [47, 47] := by simpa using Array.mem_of_getElem? ht
        have hall : ([47, 47].all fun u => !Tryd.prog.wantsStandIn u) = true := by kernel_rfl
        exact (show Tryd.prog.wantsStandIn t = false by simpa using List.all_eq_true.1 hall t hm)⟩)
    (by kernel_rfl)
#print axioms proved
end Go.Proofs.YtkaglgcglbkdhaaDoor.noteOnce
