/-
  WorldScripts returns true and leaves its arguments as they were, for every input; the listed library tables lie as the program lays them (the card's tie).
-/
import Derived.Test.YtkmenmlojnklfaaGreatDoorRows
import Derived.WalkKit
import Derived.ProofKit
import Derived.OpenShut
import Derived.ShutString
import Derived.ChangeOld
import Derived.Below
import Derived.LaidMore
import Derived.Lay
import Derived.Stop.Joined
import Derived.Lib.LaidU8
import Derived.SevenTiedAt
import Derived.Test.YtkmenmlojnklfaaGreatDoorCards
import Derived.Test.YtkmenmlojnklfaaGreatDoorTie
import Derived.Test.YtkmenmlojnklfaaGreatDoorFCA
import Derived.Test.YtkmenmlojnklfaaGreatDoorFCB
import Derived.Test.YtkmenmlojnklfaaGreatDoorFCC
import Derived.Test.YtkmenmlojnklfaaGreatDoorFCD
import Derived.Test.YtkmenmlojnklfaaGreatDoorB5a9c2170
namespace Go.Proofs.YtkmenmlojnklfaaGreatDoor.worldScripts
open Go.ChangeShapes Go.WideShapes Go.ChangeAt Go.RowKit
open Go.ChangeMaps (open_string shut_string)
set_option linter.unusedVariables false
set_option synthInstance.maxSize 100000
set_option synthInstance.maxHeartbeats 400000

theorem own : ownKnob Tryz.prog.godebug = none := by kernel_rfl
theorem laidOut : laidOutB Tryz.prog = true := cf_laid

theorem walk (w : World) (hT : ∀ c : UInt8, w.cell? ⟨0, c.toNat, none⟩ = some (.int .u8 (spB c))) (a0 : ByteArray) (w0 : a0.size ≤ maxLen) :
    Calls Tryz.prog 3 #[.string a0] w fun e w' => e = .returned (.bool true) ∧ Below w.heap.size w w' := by
  exact SL.calls_of fun _ h => WorldScripts_walk hT h

/-! ### THE LISTED VARIABLES -/
theorem gSp : Tryz.prog.globalNamed "strings.asciiSpace" = some 0 := by kernel_rfl
theorem tSp : (Tryz.prog.globals[0]?).map (·.type) = some 146 := by kernel_rfl
theorem cel1 : Tryz.prog.cellsOf 5 = 1 := by kernel_rfl
theorem cel2 : Tryz.prog.cellsOf 146 = 256 := by kernel_rfl
def spL : List Int := (List.range 256).map fun i => spB (UInt8.ofNat i)
theorem laidSp : (Rows.laid_strings_asciiSpace : DataW Unit) = Lib.tabData .u8 spL := by kernel_rfl
abbrev laid2 : List (String × DataW Unit) := [("unicode/utf8.acceptRanges", Rows.laid_unicode_utf8_acceptRanges), ("unicode.White_Space", Rows.laid_unicode_White_Space), ("strings.asciiSpace", Rows.laid_strings_asciiSpace), ("unicode/utf8.first", Rows.laid_unicode_utf8_first)]
theorem of_laid {W : World} (h : laidMetH Tryz.prog laid2 W) (c : UInt8) : W.cell? ⟨0, c.toNat, none⟩ = some (.int .u8 (spB c)) := by
  rw [MakeChecks.laidMetH_plain _ _ _ (by kernel_rfl)] at h
  obtain ⟨g, t, cs, fuel, p, hg, ht, hv, hd⟩ := Lib.laidMet.reads h (n := "strings.asciiSpace") (d := Rows.laid_strings_asciiSpace) (by simp)
  obtain rfl := Option.some.inj (gSp.symm.trans hg)
  obtain rfl := Option.some.inj (tSp.symm.trans ht)
  rw [laidSp] at hd
  have hcs := Lib.cells_of_tab Tryz.underlying146 Tryz.underlying5 cel1 cel2 hd
  have h1 := World.var?_cell hg hv c.toNat
  rw [h1, ← Array.getElem?_toList, hcs]
  have hc : c.toNat < 256 := c.toNat_lt
  simp [spL, hc]

/-! ### THE ROW's STEP: WRITTEN OUT: LEAVE IT -/
set_option maxRecDepth 100000 in
theorem lifted (os : Os) (started : os.Started) (H : Type) (enc : TypeId × Value → H) :
    ReturnsInHanded {} Tryz.checked os 3 .any (fun w args => (Rows.worldScriptsSpec.pre enc Tryz.prog Tryz.f3 [] false w args ∧ laidMetH Tryz.prog laid2 w) ∧ sizedMet enc Tryz.prog Tryz.f3 (OpenSpec.ofChange Rows.worldScriptsSpec) false w args) (Rows.worldScriptsSpec.post enc Tryz.prog Tryz.f3 false true false false) := by
  refine returnsInHanded_of_change_and (C := Tryz.checked) (X := fun w _ => laidMetH Tryz.prog laid2 w) (fun _ _ _ hh h => h.of_heap hh) own started (by kernel_rfl) Tryz.func3
    (ChangeSpec.witness_shaped (enc := enc) (C := Tryz.checked) (os := os) (X := fun w _ => laidMetH Tryz.prog laid2 w) false (World.laidAll Tryz.prog os laid2) #[.string ⟨#[]⟩] 8 (World.laidAll_os _ _ _) (World.shaped_of_ZipB (by kernel_rfl) (by kernel_rfl)) (by kernel_rfl) (by kernel_rfl) (by kernel_rfl) (by rw [MakeChecks.laidMetH_plain _ _ _ (by kernel_rfl)]; exact laidMet_laidAll _ (by kernel_rfl) (by kernel_rfl))) ?_
  intro W base args ds gs before hval0 hW _ _ hL _
  have hval : ∀ (j : Nat) t v, Tryz.f3.params[j]? = some t → args[j]? = some v → Value.okWide Tryz.prog W .any base t v := hval0
  have hW' := hW
  obtain ⟨p, q, hA0, hV, rfl, hfz, hnd⟩ := hW
  have hA : DataW.TrodAll enc Tryz.prog W 0 (fun _ => true) true Tryz.f3.params.toList args.toList ds p := hA0
  rw [Tryz.params3] at hA hval
  obtain ⟨v0, vs0, d0, ds0, p0, q0, hargs, rfl, rfl, h0, r0⟩ := trodAll_cons hA
  obtain ⟨rfl, rfl, rfl⟩ := trodAll_nil r0
  obtain rfl : args = #[v0] := by cases args; simp_all
  obtain ⟨rfl, rfl⟩ := trodVars_none hV
  obtain ⟨a0, rfl, rfl, rfl, w0⟩ := open_string Tryz.underlying9 (hval 0 9 v0 rfl rfl) h0
  clear hA0 hval0
  refine (walk W (of_laid hL) a0 w0).mono fun e W' ⟨he, bel⟩ => ?_
  subst he
  exact ⟨_, rfl, _, _, _, [], _, [], hW', trodAll_mk1 (shut_bool Tryz.underlying4 _), (trodAll_cons_mk (shut_string Tryz.underlying9 w0) trodAll_mk0), rfl, bel.frame _, fun h => by cases h⟩

theorem c1 : Rows.worldScriptsRow.wf (OpenSpec.ofChange Rows.worldScriptsSpec) = true := by kernel_rfl
theorem c4 : Tryz.f3.params.all (Tryz.prog.readableRec ·) = true := by kernel_rfl
theorem c7 : (Rows.worldScriptsRow.inPlace == Tryz.prog.inPlace 3) = true := by kernel_rfl
theorem c8 : (Rows.worldScriptsRow.unfollowed == Tryz.prog.unfollowed 3) = true := by kernel_rfl
theorem c9 : (Rows.worldScriptsRow.recurses == Tryz.prog.recurses 3) = true := by kernel_rfl
theorem c10 : (Rows.worldScriptsRow.named == Tryz.prog.varsNamed 3) = true := by kernel_rfl
theorem closed : joinedFacts Tryz.prog 3 Tryz.f3 Rows.worldScriptsSpec Rows.worldScriptsRow = true := by
  unfold joinedFacts
  rw [c1, cf_laid, cf_maps, c4, cf_stops, cf_knobs, c7, c8, c9, c10, cf_keys, cf_heard, cf_enter, cf_lifts]
  kernel_rfl
theorem over : Rows.worldScriptsRow.holds Tryz.pinned (OpenSpec.ofChange Rows.worldScriptsSpec) :=
  OpenClaim.holds_of_wide 3 Tryz.f3 rfl rfl rfl rfl rfl rfl rfl ⟨rfl, rfl, rfl, rfl, rfl⟩ rfl rfl rfl rfl rfl (by kernel_rfl) Tryz.func3 closed
    (of_decide_eq_true (by kernel_rfl)) (by unfold Func.isWrapper; first | (rw [if_pos (by decide +kernel)]; kernel_rfl) | (rw [if_neg (by decide +kernel)]; exact ⟨rfl, rfl⟩))
    (fun os started H enc _ => lifted os started H enc)

/-- THE STATEMENT: the card -/
theorem proved : Rows.WorldScriptsCardSaid :=
  Claim7.holds_tied_plain_at .later [] [.data, .listed, .data, .pinned] true (true, "54feb1bcfa349b8a439c9819d150ca7f37b41815f62f9c8403636e53e29de171") false
    over (fun _ h => by cases h) (by kernel_rfl) (fun _ h => by cases h) worldScripts_row_tie rfl ⟨rfl, rfl⟩ (by kernel_rfl) rfl
    (fun f fn hf hfn => by
      obtain rfl : f = 3 := Option.some.inj ((show Tryz.prog.funcNamed "clevis/clevislaw30.WorldScripts" = some 3 by kernel_rfl).symm.trans hf) |>.symm
      obtain rfl : fn = Tryz.f3 := (Option.some.inj (Tryz.func3.symm.trans hfn)).symm
      exact ⟨by kernel_rfl, fun j t ht => by
        rw [Tryz.params3] at ht
        have hm : t ∈ [9] := by simpa using Array.mem_of_getElem? ht
        have hall : ([9].all fun u => !Tryz.prog.wantsStandIn u) = true := by kernel_rfl
        exact (show Tryz.prog.wantsStandIn t = false by simpa using List.all_eq_true.1 hall t hm)⟩)
    (by kernel_rfl)
#print axioms proved
end Go.Proofs.YtkmenmlojnklfaaGreatDoor.worldScripts
