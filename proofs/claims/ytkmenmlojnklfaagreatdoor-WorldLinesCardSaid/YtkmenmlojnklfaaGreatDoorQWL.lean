/-
  WorldLines returns true and leaves its arguments as they were, for every input; the listed library tables lie as the program lays them (the card's tie).
-/
import Derived.Test.YtkmenmlojnklfaaGreatDoorRows
import Derived.WalkKit
import Derived.ProofKit
import Derived.OpenShut
import Derived.ShutString
import Derived.ChangeOld
import Derived.Below
import Derived.LaidMore
import Derived.Lay
import Derived.Stop.Joined
import Derived.Lib.LaidU8
import Derived.SevenTiedAt
import Derived.Test.YtkmenmlojnklfaaGreatDoorCards
import Derived.Test.YtkmenmlojnklfaaGreatDoorTie
import Derived.Test.YtkmenmlojnklfaaGreatDoorFCA
import Derived.Test.YtkmenmlojnklfaaGreatDoorFCB
import Derived.Test.YtkmenmlojnklfaaGreatDoorFCC
import Derived.Test.YtkmenmlojnklfaaGreatDoorFCD
import Derived.Test.YtkmenmlojnklfaaGreatDoorB04ffe79a
namespace Go.Proofs.YtkmenmlojnklfaaGreatDoor.worldLines
open Go.ChangeShapes Go.WideShapes Go.ChangeAt Go.RowKit
open Go.ChangeMaps (open_string shut_string)
set_option linter.unusedVariables false
set_option synthInstance.maxSize 100000
set_option synthInstance.maxHeartbeats 400000

theorem own : ownKnob Tryz.prog.godebug = none := by kernel_rfl
theorem laidOut : laidOutB Tryz.prog = true := cf_laid

theorem walk (w : World) (hT : ∀ c : UInt8, w.cell? ⟨0, c.toNat, none⟩ = some (.int .u8 (spB c))) (hG : Lib.TabIs Tryz.prog w "internal/strconv.uint64pow10" .u64 Lib.pow10Tab) (v0 : Value) (w0 : ∃ b, v0 = .agg (fSt30 b).toArray ∧ okSt30 w b) (a1 : ByteArray) (w1 : a1.size ≤ maxLen) :
    Calls Tryz.prog 4 #[v0, .string a1] w fun e w' => e = .returned (.bool true) ∧ Below w.heap.size w w' := by
  obtain ⟨b0, rfl, ok0⟩ := w0
  exact SL.calls_of fun _ h => WorldLines_walk hT hG ok0 h

/-! ### THE LISTED VARIABLES -/
theorem gSp : Tryz.prog.globalNamed "strings.asciiSpace" = some 0 := by kernel_rfl
theorem tSp : (Tryz.prog.globals[0]?).map (·.type) = some 146 := by kernel_rfl
theorem cel1 : Tryz.prog.cellsOf 5 = 1 := by kernel_rfl
theorem cel2 : Tryz.prog.cellsOf 146 = 256 := by kernel_rfl
def spL : List Int := (List.range 256).map fun i => spB (UInt8.ofNat i)
theorem laidSp : (Rows.laid_strings_asciiSpace : DataW Unit) = Lib.tabData .u8 spL := by kernel_rfl
abbrev laid2 : List (String × DataW Unit) := [("math/bits.deBruijn32tab", Rows.laid_math_bits_deBruijn32tab), ("math/bits.deBruijn64tab", Rows.laid_math_bits_deBruijn64tab), ("internal/strconv.uint64pow10", Rows.laid_internal_strconv_uint64pow10), ("unicode/utf8.acceptRanges", Rows.laid_unicode_utf8_acceptRanges), ("unicode.White_Space", Rows.laid_unicode_White_Space), ("strings.asciiSpace", Rows.laid_strings_asciiSpace), ("unicode/utf8.first", Rows.laid_unicode_utf8_first)]
theorem of_laid {W : World} (h : laidMetH Tryz.prog laid2 W) (c : UInt8) : W.cell? ⟨0, c.toNat, none⟩ = some (.int .u8 (spB c)) := by
  rw [MakeChecks.laidMetH_plain _ _ _ (by kernel_rfl)] at h
  obtain ⟨g, t, cs, fuel, p, hg, ht, hv, hd⟩ := Lib.laidMet.reads h (n := "strings.asciiSpace") (d := Rows.laid_strings_asciiSpace) (by simp)
  obtain rfl := Option.some.inj (gSp.symm.trans hg)
  obtain rfl := Option.some.inj (tSp.symm.trans ht)
  rw [laidSp] at hd
  have hcs := Lib.cells_of_tab Tryz.underlying146 Tryz.underlying5 cel1 cel2 hd
  have h1 := World.var?_cell hg hv c.toNat
  rw [h1, ← Array.getElem?_toList, hcs]
  have hc : c.toNat < 256 := c.toNat_lt
  simp [spL, hc]

theorem of_pow {W : World} (h : laidMetH Tryz.prog laid2 W) : Lib.TabIs Tryz.prog W "internal/strconv.uint64pow10" .u64 Lib.pow10Tab := by
  rw [MakeChecks.laidMetH_plain _ _ _ (by kernel_rfl)] at h
  obtain ⟨g, t, cs, fuel, p, hg, ht, hv, hd⟩ := Lib.laidMet.reads h (n := "internal/strconv.uint64pow10") (d := Rows.laid_internal_strconv_uint64pow10) (by simp)
  have hgn : Tryz.prog.globalNamed "internal/strconv.uint64pow10" = some 2 := by kernel_rfl
  have htn : (Tryz.prog.globals[2]?).map (·.type) = some 209 := by kernel_rfl
  obtain rfl := Option.some.inj (hgn.symm.trans hg)
  obtain rfl := Option.some.inj (htn.symm.trans ht)
  rw [show (Rows.laid_internal_strconv_uint64pow10 : DataW Unit) = Lib.tabData .u64 Lib.pow10Tab from by kernel_rfl] at hd
  have hcs := Lib.cells_of_tab Tryz.underlying209 Tryz.underlying34 (show Tryz.prog.cellsOf 34 = 1 from by kernel_rfl) (show Tryz.prog.cellsOf 209 = 20 from by kernel_rfl) hd
  unfold Lib.TabIs
  rw [hv, ← hcs]

/-! ### THE ROW's STEP: WRITTEN OUT: LEAVE IT -/
set_option maxRecDepth 100000 in
theorem lifted (os : Os) (started : os.Started) (H : Type) (enc : TypeId × Value → H) :
    ReturnsInHanded {} Tryz.checked os 4 .any (fun w args => (Rows.worldLinesSpec.pre enc Tryz.prog Tryz.f4 [] false w args ∧ laidMetH Tryz.prog laid2 w) ∧ sizedMet enc Tryz.prog Tryz.f4 (OpenSpec.ofChange Rows.worldLinesSpec) false w args) (Rows.worldLinesSpec.post enc Tryz.prog Tryz.f4 false true false false) := by
  refine returnsInHanded_of_change_and (C := Tryz.checked) (X := fun w _ => laidMetH Tryz.prog laid2 w) (fun _ _ _ hh h => h.of_heap hh) own started (by kernel_rfl) Tryz.func4
    (ChangeSpec.witness_shaped (enc := enc) (C := Tryz.checked) (os := os) (X := fun w _ => laidMetH Tryz.prog laid2 w) false (World.laidAll Tryz.prog os laid2) #[.agg #[.int .i64 0, .int .i64 0, .int .i64 0, .int .u8 0, .int .i64 0, .int .i64 0, .int .i64 0, .int .i64 0, .string ⟨#[]⟩, .string ⟨#[]⟩, .string ⟨#[]⟩, .int .i64 0, .int .i64 0, .string ⟨#[]⟩, .int .i64 0, .slice none 0 0, .int .i64 0, .int .u64 0], .string ⟨#[]⟩] 8 (World.laidAll_os _ _ _) (World.shaped_of_ZipB (by kernel_rfl) (by kernel_rfl)) (by kernel_rfl) (by kernel_rfl) (by kernel_rfl) (by rw [MakeChecks.laidMetH_plain _ _ _ (by kernel_rfl)]; exact laidMet_laidAll _ (by kernel_rfl) (by kernel_rfl))) ?_
  intro W base args ds gs before hval0 hW _ _ hL _
  have hval : ∀ (j : Nat) t v, Tryz.f4.params[j]? = some t → args[j]? = some v → Value.okWide Tryz.prog W .any base t v := hval0
  have hW' := hW
  obtain ⟨p, q, hA0, hV, rfl, hfz, hnd⟩ := hW
  have hA : DataW.TrodAll enc Tryz.prog W 0 (fun _ => true) true Tryz.f4.params.toList args.toList ds p := hA0
  rw [Tryz.params4] at hA hval
  obtain ⟨v0, vs0, d0, ds0, p0, q0, hargs, rfl, rfl, h0, r0⟩ := trodAll_cons hA
  obtain ⟨v1, vs1, d1, ds1, p1, q1, rfl, rfl, rfl, h1, r1⟩ := trodAll_cons r0
  obtain ⟨rfl, rfl, rfl⟩ := trodAll_nil r1
  obtain rfl : args = #[v0, v1] := by cases args; simp_all
  obtain ⟨rfl, rfl⟩ := trodVars_none hV
  obtain ⟨p_c0, rfl, _⟩ := okWide_struct Tryz.underlying38 (hval 0 38 v0 rfl rfl)
  have k0 := h0
  have lt0 : ∀ x ∈ p0, x.block < W.heap.size := by obtain ⟨m, hm⟩ := k0; exact DataW.trod_lt m _ _ _ hm
  have w0 : ∃ b, Value.agg p_c0 = .agg (fSt30 b).toArray ∧ okSt30 W b := by
    obtain ⟨fuel, hf⟩ := h0
    obtain ⟨b, hb, hk⟩ := (dSt30).h hf
    exact ⟨b, by have := congrArg List.toArray hb; simpa [Value.cells] using this, hk⟩
  obtain ⟨a1, rfl, rfl, rfl, w1⟩ := open_string Tryz.underlying9 (hval 1 9 v1 rfl rfl) h1
  clear hA0 hval0
  refine (walk W (of_laid hL) (of_pow hL) _ w0 a1 w1).mono fun e W' ⟨he, bel⟩ => ?_
  subst he
  exact ⟨_, rfl, _, _, _, [], _, [], hW', trodAll_mk1 (shut_bool Tryz.underlying4 _), (trodAll_cons_mk (Below.trod laidOut (by kernel_rfl) (of_decide_eq_true (by kernel_rfl)) k0 bel lt0) (trodAll_cons_mk (shut_string Tryz.underlying9 w1) trodAll_mk0)), rfl, bel.frame _, fun h => by cases h⟩

theorem c1 : Rows.worldLinesRow.wf (OpenSpec.ofChange Rows.worldLinesSpec) = true := by kernel_rfl
theorem c4 : Tryz.f4.params.all (Tryz.prog.readableRec ·) = true := by kernel_rfl
theorem c7 : (Rows.worldLinesRow.inPlace == Tryz.prog.inPlace 4) = true := by kernel_rfl
theorem c8 : (Rows.worldLinesRow.unfollowed == Tryz.prog.unfollowed 4) = true := by kernel_rfl
theorem c9 : (Rows.worldLinesRow.recurses == Tryz.prog.recurses 4) = true := by kernel_rfl
theorem c10 : (Rows.worldLinesRow.named == Tryz.prog.varsNamed 4) = true := by kernel_rfl
theorem closed : joinedFacts Tryz.prog 4 Tryz.f4 Rows.worldLinesSpec Rows.worldLinesRow = true := by
  unfold joinedFacts
  rw [c1, cf_laid, cf_maps, c4, cf_stops, cf_knobs, c7, c8, c9, c10, cf_keys, cf_heard, cf_enter, cf_lifts]
  kernel_rfl
theorem over : Rows.worldLinesRow.holds Tryz.pinned (OpenSpec.ofChange Rows.worldLinesSpec) :=
  OpenClaim.holds_of_wide 4 Tryz.f4 rfl rfl rfl rfl rfl rfl rfl ⟨rfl, rfl, rfl, rfl, rfl⟩ rfl rfl rfl rfl rfl (by kernel_rfl) Tryz.func4 closed
    (of_decide_eq_true (by kernel_rfl)) (by unfold Func.isWrapper; first | (rw [if_pos (by decide +kernel)]; kernel_rfl) | (rw [if_neg (by decide +kernel)]; exact ⟨rfl, rfl⟩))
    (fun os started H enc _ => lifted os started H enc)

/-- THE STATEMENT: the card -/
theorem proved : Rows.WorldLinesCardSaid :=
  Claim7.holds_tied_plain_at .later [] [.data, .data, .data, .data, .listed, .data, .pinned] true (true, "54feb1bcfa349b8a439c9819d150ca7f37b41815f62f9c8403636e53e29de171") false
    over (fun _ h => by cases h) (by kernel_rfl) (fun _ h => by cases h) worldLines_row_tie rfl ⟨rfl, rfl⟩ (by kernel_rfl) rfl
    (fun f fn hf hfn => by
      obtain rfl : f = 4 := Option.some.inj ((show Tryz.prog.funcNamed "clevis/clevislaw30.WorldLines" = some 4 by kernel_rfl).symm.trans hf) |>.symm
      obtain rfl : fn = Tryz.f4 := (Option.some.inj (Tryz.func4.symm.trans hfn)).symm
      exact ⟨by kernel_rfl, fun j t ht => by
        rw [Tryz.params4] at ht
        have hm : t ∈ [38, 9] := by simpa using Array.mem_of_getElem? ht
        have hall : ([38, 9].all fun u => !Tryz.prog.wantsStandIn u) = true := by kernel_rfl
        exact (show Tryz.prog.wantsStandIn t = false by simpa using List.all_eq_true.1 hall t hm)⟩)
    (by kernel_rfl)
#print axioms proved
end Go.Proofs.YtkmenmlojnklfaaGreatDoor.worldLines
