/-
  No cell of these rows narrows 'for every input' (looked for: loops, veiled, ifaces, maps, wideKeys, modest, calm, conditions, laid).
  DERIVED. THE GIVEN ROWS OF THIS SEAT. 20 by the template 'for every input the law returns true; each argument reads behind the call as it read before'; 0 by the template 'total and deterministic' (their statements: YtkgmifhkmhlcdaaTotals.lean).
  GIVEN WITH THE SEED: the statements are not yours to turn. If you find one false, say at which input.
  Laid BY PROGRAM, IN A SANDBOX (cutbox-rows.mjs): the forced cells as the released guide's own fill.sh prints them over the translation e06317f7809a4ae6… (all of the seat's roots in one cut). By AI agents, Wed Nov 11 2026. No macro, syntax, notation, axiom, sorry.
-/
import Derived.Test.YtkgmifhkmhlcdaaChecked
import GoSem.Claim
import GoSem.ClaimJoined
import GoSem.ClaimMapViews
import Derived.JoinedTies
import Derived.KernelRfl
namespace Go.Proofs.Ytkgmifhkmhlcdaa
/- THE CELL 'sum', in the pinned program and in every row, IS THE sha256 OF THE DUMP (.gsa) THAT YtkgmifhkmhlcdaaProg.lean LOADS. Nothing in Lean hashes anything: it is a label: what it is worth is what the hold of that sum in a sandbox is worth. -/
noncomputable def Try.pinned : Pinned := { name := "ytkgmifhkmhlcdaa", sum := "e06317f7809a4ae652d99d4cfa8d14add84be8343f9e1749c6ca96a3e4c55fa5", checked := Try.checked }
namespace Rows
def none {H : Type} : Left H := { results := [], args := [] }

/-- 'clevislaw05.OctetWrites': WHATEVER THE INPUT: true; the input reads as it did. -/
def octetWritesSpec : ChangeSpec := { name := "octetWrites", fn := fun _ => fun
  | [d] => { results := [.lit (.bool true)], args := [d] }
  | _ => none }
def octetWritesRow : OpenClaim := { program := "ytkgmifhkmhlcdaa", sum := "e06317f7809a4ae652d99d4cfa8d14add84be8343f9e1749c6ca96a3e4c55fa5", func := "clevis/clevislaw05.OctetWrites", spec := "octetWrites", unfollowed := true, recurses := true, apart := false }
def OctetWritesSaid : Prop := octetWritesRow.holds Try.pinned (OpenSpec.ofChange octetWritesSpec)

/-- ITS FALSE NEIGHBOUR: 'it returns false'. Refute it at one input. -/
def octetWritesWrong : ChangeSpec := { name := "octetWrites", fn := fun _ => fun
  | [d] => { results := [.lit (.bool false)], args := [d] }
  | _ => none }
def OctetWritesWrongFalsely : Prop := octetWritesRow.holds Try.pinned (OpenSpec.ofChange octetWritesWrong)

/-- 'clevislaw03.TableTexts': WHATEVER THE INPUT: true; the input reads as it did. -/
def tableTextsSpec : ChangeSpec := { name := "tableTexts", fn := fun _ => fun
  | [d] => { results := [.lit (.bool true)], args := [d] }
  | _ => none }
def tableTextsRow : OpenClaim := { program := "ytkgmifhkmhlcdaa", sum := "e06317f7809a4ae652d99d4cfa8d14add84be8343f9e1749c6ca96a3e4c55fa5", func := "clevis/clevislaw03.TableTexts", spec := "tableTexts", inPlace := ["slices.overlaps[clevis/table.Row[string, int]]", "slices.overlaps[clevis/table.Row[int, string]]"], unfollowed := true, recurses := true, apart := false }
def TableTextsSaid : Prop := tableTextsRow.holds Try.pinned (OpenSpec.ofChange tableTextsSpec)

/-- ITS FALSE NEIGHBOUR: 'it returns false'. Refute it at one input. -/
def tableTextsWrong : ChangeSpec := { name := "tableTexts", fn := fun _ => fun
  | [d] => { results := [.lit (.bool false)], args := [d] }
  | _ => none }
def TableTextsWrongFalsely : Prop := tableTextsRow.holds Try.pinned (OpenSpec.ofChange tableTextsWrong)

/-- 'clevislaw03.TableTells': WHATEVER THE INPUT: true; the input reads as it did. -/
def tableTellsSpec : ChangeSpec := { name := "tableTells", fn := fun _ => fun
  | [d1, d2, d3, d4] => { results := [.lit (.bool true)], args := [d1, d2, d3, d4] }
  | _ => none }
def tableTellsRow : OpenClaim := { program := "ytkgmifhkmhlcdaa", sum := "e06317f7809a4ae652d99d4cfa8d14add84be8343f9e1749c6ca96a3e4c55fa5", func := "clevis/clevislaw03.TableTells", spec := "tableTells", inPlace := ["slices.overlaps[clevis/table.Row[int, int]]", "slices.overlaps[clevis/table.Row[int, string]]"], unfollowed := true, recurses := true, apart := false }
def TableTellsSaid : Prop := tableTellsRow.holds Try.pinned (OpenSpec.ofChange tableTellsSpec)

/-- ITS FALSE NEIGHBOUR: 'it returns false'. Refute it at one input. -/
def tableTellsWrong : ChangeSpec := { name := "tableTells", fn := fun _ => fun
  | [d1, d2, d3, d4] => { results := [.lit (.bool false)], args := [d1, d2, d3, d4] }
  | _ => none }
def TableTellsWrongFalsely : Prop := tableTellsRow.holds Try.pinned (OpenSpec.ofChange tableTellsWrong)

/-- 'clevislaw03.TablePlays': WHATEVER THE INPUT: true; the input reads as it did. -/
def tablePlaysSpec : ChangeSpec := { name := "tablePlays", fn := fun _ => fun
  | [d] => { results := [.lit (.bool true)], args := [d] }
  | _ => none }
def tablePlaysRow : OpenClaim := { program := "ytkgmifhkmhlcdaa", sum := "e06317f7809a4ae652d99d4cfa8d14add84be8343f9e1749c6ca96a3e4c55fa5", func := "clevis/clevislaw03.TablePlays", spec := "tablePlays", inPlace := ["slices.overlaps[clevis/table.Row[int, int]]", "slices.overlaps[clevis/table.Row[int, string]]"], unfollowed := true, recurses := true, apart := false }
def TablePlaysSaid : Prop := tablePlaysRow.holds Try.pinned (OpenSpec.ofChange tablePlaysSpec)

/-- ITS FALSE NEIGHBOUR: 'it returns false'. Refute it at one input. -/
def tablePlaysWrong : ChangeSpec := { name := "tablePlays", fn := fun _ => fun
  | [d] => { results := [.lit (.bool false)], args := [d] }
  | _ => none }
def TablePlaysWrongFalsely : Prop := tablePlaysRow.holds Try.pinned (OpenSpec.ofChange tablePlaysWrong)

/-- 'clevislaw03.TableMerges': WHATEVER THE INPUT: true; the input reads as it did. -/
def tableMergesSpec : ChangeSpec := { name := "tableMerges", fn := fun _ => fun
  | [d1, d2] => { results := [.lit (.bool true)], args := [d1, d2] }
  | _ => none }
def tableMergesRow : OpenClaim := { program := "ytkgmifhkmhlcdaa", sum := "e06317f7809a4ae652d99d4cfa8d14add84be8343f9e1749c6ca96a3e4c55fa5", func := "clevis/clevislaw03.TableMerges", spec := "tableMerges", inPlace := ["slices.overlaps[clevis/table.Row[int, int]]", "slices.overlaps[clevis/table.Row[int, string]]"], unfollowed := true, recurses := true, apart := false }
def TableMergesSaid : Prop := tableMergesRow.holds Try.pinned (OpenSpec.ofChange tableMergesSpec)

/-- ITS FALSE NEIGHBOUR: 'it returns false'. Refute it at one input. -/
def tableMergesWrong : ChangeSpec := { name := "tableMerges", fn := fun _ => fun
  | [d1, d2] => { results := [.lit (.bool false)], args := [d1, d2] }
  | _ => none }
def TableMergesWrongFalsely : Prop := tableMergesRow.holds Try.pinned (OpenSpec.ofChange tableMergesWrong)

/-- 'clevislaw03.TableNil': WHATEVER THE INPUT: true; the input reads as it did. -/
def tableNilSpec : ChangeSpec := { name := "tableNil", fn := fun _ => fun
  | [d1, d2] => { results := [.lit (.bool true)], args := [d1, d2] }
  | _ => none }
def tableNilRow : OpenClaim := { program := "ytkgmifhkmhlcdaa", sum := "e06317f7809a4ae652d99d4cfa8d14add84be8343f9e1749c6ca96a3e4c55fa5", func := "clevis/clevislaw03.TableNil", spec := "tableNil", inPlace := ["slices.overlaps[clevis/table.Row[int, string]]", "slices.overlaps[clevis/table.Row[int, int]]"], unfollowed := true, recurses := true, apart := false }
def TableNilSaid : Prop := tableNilRow.holds Try.pinned (OpenSpec.ofChange tableNilSpec)

/-- ITS FALSE NEIGHBOUR: 'it returns false'. Refute it at one input. -/
def tableNilWrong : ChangeSpec := { name := "tableNil", fn := fun _ => fun
  | [d1, d2] => { results := [.lit (.bool false)], args := [d1, d2] }
  | _ => none }
def TableNilWrongFalsely : Prop := tableNilRow.holds Try.pinned (OpenSpec.ofChange tableNilWrong)

/-- 'clevislaw12.SnapBytes': WHATEVER THE INPUT: true; the input reads as it did. -/
def snapBytesSpec : ChangeSpec := { name := "snapBytes", fn := fun _ => fun
  | [d1, d2] => { results := [.lit (.bool true)], args := [d1, d2] }
  | _ => none }
def snapBytesRow : OpenClaim := { program := "ytkgmifhkmhlcdaa", sum := "e06317f7809a4ae652d99d4cfa8d14add84be8343f9e1749c6ca96a3e4c55fa5", func := "clevis/clevislaw12.SnapBytes", spec := "snapBytes", unfollowed := true, recurses := true, apart := false }
def SnapBytesSaid : Prop := snapBytesRow.holds Try.pinned (OpenSpec.ofChange snapBytesSpec)

/-- ITS FALSE NEIGHBOUR: 'it returns false'. Refute it at one input. -/
def snapBytesWrong : ChangeSpec := { name := "snapBytes", fn := fun _ => fun
  | [d1, d2] => { results := [.lit (.bool false)], args := [d1, d2] }
  | _ => none }
def SnapBytesWrongFalsely : Prop := snapBytesRow.holds Try.pinned (OpenSpec.ofChange snapBytesWrong)

/-- 'clevislaw14.WindowOrder': WHATEVER THE INPUT: true; the input reads as it did. -/
def windowOrderSpec : ChangeSpec := { name := "windowOrder", fn := fun _ => fun
  | [d1, d2] => { results := [.lit (.bool true)], args := [d1, d2] }
  | _ => none }
def windowOrderRow : OpenClaim := { program := "ytkgmifhkmhlcdaa", sum := "e06317f7809a4ae652d99d4cfa8d14add84be8343f9e1749c6ca96a3e4c55fa5", func := "clevis/clevislaw14.WindowOrder", spec := "windowOrder", inPlace := ["slices.overlaps[clevis/table.Row[int, int]]", "slices.overlaps[clevis/table.Row[int, string]]"], unfollowed := true, recurses := true, apart := false }
def WindowOrderSaid : Prop := windowOrderRow.holds Try.pinned (OpenSpec.ofChange windowOrderSpec)

/-- ITS FALSE NEIGHBOUR: 'it returns false'. Refute it at one input. -/
def windowOrderWrong : ChangeSpec := { name := "windowOrder", fn := fun _ => fun
  | [d1, d2] => { results := [.lit (.bool false)], args := [d1, d2] }
  | _ => none }
def WindowOrderWrongFalsely : Prop := windowOrderRow.holds Try.pinned (OpenSpec.ofChange windowOrderWrong)

/-- 'clevislaw14.WindowOuts': WHATEVER THE INPUT: true; the input reads as it did. -/
def windowOutsSpec : ChangeSpec := { name := "windowOuts", fn := fun _ => fun
  | [d] => { results := [.lit (.bool true)], args := [d] }
  | _ => none }
def windowOutsRow : OpenClaim := { program := "ytkgmifhkmhlcdaa", sum := "e06317f7809a4ae652d99d4cfa8d14add84be8343f9e1749c6ca96a3e4c55fa5", func := "clevis/clevislaw14.WindowOuts", spec := "windowOuts", inPlace := ["slices.overlaps[clevis/table.Row[int, string]]"], unfollowed := true, recurses := true, apart := false }
def WindowOutsSaid : Prop := windowOutsRow.holds Try.pinned (OpenSpec.ofChange windowOutsSpec)

/-- ITS FALSE NEIGHBOUR: 'it returns false'. Refute it at one input. -/
def windowOutsWrong : ChangeSpec := { name := "windowOuts", fn := fun _ => fun
  | [d] => { results := [.lit (.bool false)], args := [d] }
  | _ => none }
def WindowOutsWrongFalsely : Prop := windowOutsRow.holds Try.pinned (OpenSpec.ofChange windowOutsWrong)

/-- 'clevislaw23.CallStays': WHATEVER THE INPUT: true; the input reads as it did. -/
def callStaysSpec : ChangeSpec := { name := "callStays", fn := fun _ => fun
  | [d1, d2, d3, d4] => { results := [.lit (.bool true)], args := [d1, d2, d3, d4] }
  | _ => none }
def callStaysRow : OpenClaim := { program := "ytkgmifhkmhlcdaa", sum := "e06317f7809a4ae652d99d4cfa8d14add84be8343f9e1749c6ca96a3e4c55fa5", func := "clevis/clevislaw23.CallStays", spec := "callStays", inPlace := ["slices.overlaps[clevis/table.Row[string, bool]]"], unfollowed := true, recurses := true, apart := false }
def CallStaysSaid : Prop := callStaysRow.holds Try.pinned (OpenSpec.ofChange callStaysSpec)

/-- ITS FALSE NEIGHBOUR: 'it returns false'. Refute it at one input. -/
def callStaysWrong : ChangeSpec := { name := "callStays", fn := fun _ => fun
  | [d1, d2, d3, d4] => { results := [.lit (.bool false)], args := [d1, d2, d3, d4] }
  | _ => none }
def CallStaysWrongFalsely : Prop := callStaysRow.holds Try.pinned (OpenSpec.ofChange callStaysWrong)

/-- 'clevislaw14.WindowIns': WHATEVER THE INPUT: true; the input reads as it did. -/
def windowInsSpec : ChangeSpec := { name := "windowIns", fn := fun _ => fun
  | [d] => { results := [.lit (.bool true)], args := [d] }
  | _ => none }
def windowInsRow : OpenClaim := { program := "ytkgmifhkmhlcdaa", sum := "e06317f7809a4ae652d99d4cfa8d14add84be8343f9e1749c6ca96a3e4c55fa5", func := "clevis/clevislaw14.WindowIns", spec := "windowIns", inPlace := ["slices.overlaps[clevis/table.Row[int, int]]", "slices.overlaps[clevis/table.Row[int, string]]"], unfollowed := true, recurses := true, apart := false }
def WindowInsSaid : Prop := windowInsRow.holds Try.pinned (OpenSpec.ofChange windowInsSpec)

/-- ITS FALSE NEIGHBOUR: 'it returns false'. Refute it at one input. -/
def windowInsWrong : ChangeSpec := { name := "windowIns", fn := fun _ => fun
  | [d] => { results := [.lit (.bool false)], args := [d] }
  | _ => none }
def WindowInsWrongFalsely : Prop := windowInsRow.holds Try.pinned (OpenSpec.ofChange windowInsWrong)

/-- 'clevislaw14.WindowNil': WHATEVER THE INPUT: true; the input reads as it did. -/
def windowNilSpec : ChangeSpec := { name := "windowNil", fn := fun _ => fun
  | [d] => { results := [.lit (.bool true)], args := [d] }
  | _ => none }
def windowNilRow : OpenClaim := { program := "ytkgmifhkmhlcdaa", sum := "e06317f7809a4ae652d99d4cfa8d14add84be8343f9e1749c6ca96a3e4c55fa5", func := "clevis/clevislaw14.WindowNil", spec := "windowNil", inPlace := ["slices.overlaps[clevis/table.Row[int, string]]", "slices.overlaps[clevis/table.Row[int, int]]"], unfollowed := true, recurses := true, apart := false }
def WindowNilSaid : Prop := windowNilRow.holds Try.pinned (OpenSpec.ofChange windowNilSpec)

/-- ITS FALSE NEIGHBOUR: 'it returns false'. Refute it at one input. -/
def windowNilWrong : ChangeSpec := { name := "windowNil", fn := fun _ => fun
  | [d] => { results := [.lit (.bool false)], args := [d] }
  | _ => none }
def WindowNilWrongFalsely : Prop := windowNilRow.holds Try.pinned (OpenSpec.ofChange windowNilWrong)

/-- 'clevislaw23.CallPlays': WHATEVER THE INPUT: true; the input reads as it did. -/
def callPlaysSpec : ChangeSpec := { name := "callPlays", fn := fun _ => fun
  | [d1, d2] => { results := [.lit (.bool true)], args := [d1, d2] }
  | _ => none }
def callPlaysRow : OpenClaim := { program := "ytkgmifhkmhlcdaa", sum := "e06317f7809a4ae652d99d4cfa8d14add84be8343f9e1749c6ca96a3e4c55fa5", func := "clevis/clevislaw23.CallPlays", spec := "callPlays", inPlace := ["slices.overlaps[clevis/table.Row[string, bool]]"], unfollowed := true, recurses := true, apart := false }
def CallPlaysSaid : Prop := callPlaysRow.holds Try.pinned (OpenSpec.ofChange callPlaysSpec)

/-- ITS FALSE NEIGHBOUR: 'it returns false'. Refute it at one input. -/
def callPlaysWrong : ChangeSpec := { name := "callPlays", fn := fun _ => fun
  | [d1, d2] => { results := [.lit (.bool false)], args := [d1, d2] }
  | _ => none }
def CallPlaysWrongFalsely : Prop := callPlaysRow.holds Try.pinned (OpenSpec.ofChange callPlaysWrong)

/-- 'clevislaw23.CallNil': WHATEVER THE INPUT: true; the input reads as it did. -/
def callNilSpec : ChangeSpec := { name := "callNil", fn := fun _ => fun
  | [d] => { results := [.lit (.bool true)], args := [d] }
  | _ => none }
def callNilRow : OpenClaim := { program := "ytkgmifhkmhlcdaa", sum := "e06317f7809a4ae652d99d4cfa8d14add84be8343f9e1749c6ca96a3e4c55fa5", func := "clevis/clevislaw23.CallNil", spec := "callNil", inPlace := ["slices.overlaps[clevis/table.Row[string, bool]]"], unfollowed := true, recurses := true, apart := false }
def CallNilSaid : Prop := callNilRow.holds Try.pinned (OpenSpec.ofChange callNilSpec)

/-- ITS FALSE NEIGHBOUR: 'it returns false'. Refute it at one input. -/
def callNilWrong : ChangeSpec := { name := "callNil", fn := fun _ => fun
  | [d] => { results := [.lit (.bool false)], args := [d] }
  | _ => none }
def CallNilWrongFalsely : Prop := callNilRow.holds Try.pinned (OpenSpec.ofChange callNilWrong)

/-- 'clevislaw26.ReconBreaks': WHATEVER THE INPUT: true; the input reads as it did. -/
def reconBreaksSpec : ChangeSpec := { name := "reconBreaks", fn := fun _ => fun
  | [d1, d2] => { results := [.lit (.bool true)], args := [d1, d2] }
  | _ => none }
def reconBreaksRow : OpenClaim := { program := "ytkgmifhkmhlcdaa", sum := "e06317f7809a4ae652d99d4cfa8d14add84be8343f9e1749c6ca96a3e4c55fa5", func := "clevis/clevislaw26.ReconBreaks", spec := "reconBreaks", inPlace := ["slices.overlaps[clevis/table.Row[string, clevis/fixed.Wide]]", "math/bits.Add64"], unfollowed := true, recurses := true, apart := false }
def ReconBreaksSaid : Prop := reconBreaksRow.holds Try.pinned (OpenSpec.ofChange reconBreaksSpec)

/-- ITS FALSE NEIGHBOUR: 'it returns false'. Refute it at one input. -/
def reconBreaksWrong : ChangeSpec := { name := "reconBreaks", fn := fun _ => fun
  | [d1, d2] => { results := [.lit (.bool false)], args := [d1, d2] }
  | _ => none }
def ReconBreaksWrongFalsely : Prop := reconBreaksRow.holds Try.pinned (OpenSpec.ofChange reconBreaksWrong)

/-- 'clevislaw15.PipePlays': WHATEVER THE INPUT: true; the input reads as it did. -/
def pipePlaysSpec : ChangeSpec := { name := "pipePlays", fn := fun _ => fun
  | [d1, d2, d3] => { results := [.lit (.bool true)], args := [d1, d2, d3] }
  | _ => none }
def pipePlaysRow : OpenClaim := { program := "ytkgmifhkmhlcdaa", sum := "e06317f7809a4ae652d99d4cfa8d14add84be8343f9e1749c6ca96a3e4c55fa5", func := "clevis/clevislaw15.PipePlays", spec := "pipePlays", inPlace := ["slices.overlaps[clevis/table.Row[int, []byte]]"], unfollowed := true, recurses := true, apart := false }
def PipePlaysSaid : Prop := pipePlaysRow.holds Try.pinned (OpenSpec.ofChange pipePlaysSpec)

/-- ITS FALSE NEIGHBOUR: 'it returns false'. Refute it at one input. -/
def pipePlaysWrong : ChangeSpec := { name := "pipePlays", fn := fun _ => fun
  | [d1, d2, d3] => { results := [.lit (.bool false)], args := [d1, d2, d3] }
  | _ => none }
def PipePlaysWrongFalsely : Prop := pipePlaysRow.holds Try.pinned (OpenSpec.ofChange pipePlaysWrong)

/-- 'clevislaw15.PipeNil': WHATEVER THE INPUT: true; the input reads as it did. -/
def pipeNilSpec : ChangeSpec := { name := "pipeNil", fn := fun _ => fun
  | [d1, d2] => { results := [.lit (.bool true)], args := [d1, d2] }
  | _ => none }
def pipeNilRow : OpenClaim := { program := "ytkgmifhkmhlcdaa", sum := "e06317f7809a4ae652d99d4cfa8d14add84be8343f9e1749c6ca96a3e4c55fa5", func := "clevis/clevislaw15.PipeNil", spec := "pipeNil", inPlace := ["slices.overlaps[clevis/table.Row[int, []byte]]"], unfollowed := true, recurses := true, apart := false }
def PipeNilSaid : Prop := pipeNilRow.holds Try.pinned (OpenSpec.ofChange pipeNilSpec)

/-- ITS FALSE NEIGHBOUR: 'it returns false'. Refute it at one input. -/
def pipeNilWrong : ChangeSpec := { name := "pipeNil", fn := fun _ => fun
  | [d1, d2] => { results := [.lit (.bool false)], args := [d1, d2] }
  | _ => none }
def PipeNilWrongFalsely : Prop := pipeNilRow.holds Try.pinned (OpenSpec.ofChange pipeNilWrong)

/-- 'clevislaw10.StorePlays': WHATEVER THE INPUT: true; the input reads as it did. -/
def storePlaysSpec : ChangeSpec := { name := "storePlays", fn := fun _ => fun
  | [d1, d2] => { results := [.lit (.bool true)], args := [d1, d2] }
  | _ => none }
def storePlaysRow : OpenClaim := { program := "ytkgmifhkmhlcdaa", sum := "e06317f7809a4ae652d99d4cfa8d14add84be8343f9e1749c6ca96a3e4c55fa5", func := "clevis/clevislaw10.StorePlays", spec := "storePlays", unfollowed := true, recurses := true, apart := false }
def StorePlaysSaid : Prop := storePlaysRow.holds Try.pinned (OpenSpec.ofChange storePlaysSpec)

/-- ITS FALSE NEIGHBOUR: 'it returns false'. Refute it at one input. -/
def storePlaysWrong : ChangeSpec := { name := "storePlays", fn := fun _ => fun
  | [d1, d2] => { results := [.lit (.bool false)], args := [d1, d2] }
  | _ => none }
def StorePlaysWrongFalsely : Prop := storePlaysRow.holds Try.pinned (OpenSpec.ofChange storePlaysWrong)

/-- 'clevislaw10.StoreNil': WHATEVER THE INPUT: true; the input reads as it did. -/
def storeNilSpec : ChangeSpec := { name := "storeNil", fn := fun _ => fun
  | [d1, d2, d3] => { results := [.lit (.bool true)], args := [d1, d2, d3] }
  | _ => none }
def storeNilRow : OpenClaim := { program := "ytkgmifhkmhlcdaa", sum := "e06317f7809a4ae652d99d4cfa8d14add84be8343f9e1749c6ca96a3e4c55fa5", func := "clevis/clevislaw10.StoreNil", spec := "storeNil", unfollowed := true, recurses := true, apart := false }
def StoreNilSaid : Prop := storeNilRow.holds Try.pinned (OpenSpec.ofChange storeNilSpec)

/-- ITS FALSE NEIGHBOUR: 'it returns false'. Refute it at one input. -/
def storeNilWrong : ChangeSpec := { name := "storeNil", fn := fun _ => fun
  | [d1, d2, d3] => { results := [.lit (.bool false)], args := [d1, d2, d3] }
  | _ => none }
def StoreNilWrongFalsely : Prop := storeNilRow.holds Try.pinned (OpenSpec.ofChange storeNilWrong)

/-- 'clevislaw10.StoreCopies': WHATEVER THE INPUT: true; the input reads as it did. -/
def storeCopiesSpec : ChangeSpec := { name := "storeCopies", fn := fun _ => fun
  | [d1, d2] => { results := [.lit (.bool true)], args := [d1, d2] }
  | _ => none }
def storeCopiesRow : OpenClaim := { program := "ytkgmifhkmhlcdaa", sum := "e06317f7809a4ae652d99d4cfa8d14add84be8343f9e1749c6ca96a3e4c55fa5", func := "clevis/clevislaw10.StoreCopies", spec := "storeCopies", unfollowed := true, recurses := true, apart := false }
def StoreCopiesSaid : Prop := storeCopiesRow.holds Try.pinned (OpenSpec.ofChange storeCopiesSpec)

/-- ITS FALSE NEIGHBOUR: 'it returns false'. Refute it at one input. -/
def storeCopiesWrong : ChangeSpec := { name := "storeCopies", fn := fun _ => fun
  | [d1, d2] => { results := [.lit (.bool false)], args := [d1, d2] }
  | _ => none }
def StoreCopiesWrongFalsely : Prop := storeCopiesRow.holds Try.pinned (OpenSpec.ofChange storeCopiesWrong)

/- THE SECOND FORM. 'bulk': how many values and letters a reading holds, each counted each time it is reached (what is shared counts as often as it is met; a slice's spare places count too). A statement '..UptoSaid' is the law's where the arguments, and the package variables that the reading takes, are together of bulk at most 1048576: NARROWER than '..Said'. Prove '..Said' where nothing that the law and all that it calls make is longer than what came in: it says more and counts as full. Else prove '..UptoSaid'. A law counts once. -/
mutual
def uptoBulk {H : Type} : DataW H → Nat
  | .lit (.string bytes) => bytes.length + 1
  | .lit _ => 1
  | .nil => 1
  | .ptr d => uptoBulk d + 1
  | .slice elems spare => uptoBulkAll elems + uptoBulkAll spare + 1
  | .agg parts => uptoBulkAll parts + 1
  | .iface _ d => uptoBulk d + 1
  | .map entries => uptoBulkEntries entries + 1
  | .held _ => 1
def uptoBulkAll {H : Type} : List (DataW H) → Nat
  | [] => 0
  | d :: r => uptoBulk d + uptoBulkAll r
def uptoBulkEntries {H : Type} : List (Lit × DataW H) → Nat
  | [] => 0
  | x :: r => uptoBulkEntry x + uptoBulkEntries r
def uptoBulkEntry {H : Type} : Lit × DataW H → Nat
  | (.string bytes, d) => bytes.length + uptoBulk d + 1
  | (_, d) => uptoBulk d + 1
 end
def uptoSmall : (H : Type) → List (DataW H) → Bool := fun _ ds => decide (uptoBulkAll ds ≤ 1048576)
def OpenSpec.upto (s : _root_.Go.ChangeSpec) : _root_.Go.OpenSpec := { _root_.Go.OpenSpec.ofChange s with cond := some uptoSmall }

/-- 'clevislaw05.OctetWrites', WHERE WHAT IT READS IS OF BULK AT MOST 1048576: true; the input reads as it did. -/
def octetWritesUptoRow : OpenClaim := { program := "ytkgmifhkmhlcdaa", sum := "e06317f7809a4ae652d99d4cfa8d14add84be8343f9e1749c6ca96a3e4c55fa5", func := "clevis/clevislaw05.OctetWrites", spec := "octetWrites", unfollowed := true, recurses := true, apart := false, narrowed := true }
def OctetWritesUptoSaid : Prop := octetWritesUptoRow.holds Try.pinned (OpenSpec.upto octetWritesSpec)

/-- 'clevislaw03.TableTexts', WHERE WHAT IT READS IS OF BULK AT MOST 1048576: true; the input reads as it did. -/
def tableTextsUptoRow : OpenClaim := { program := "ytkgmifhkmhlcdaa", sum := "e06317f7809a4ae652d99d4cfa8d14add84be8343f9e1749c6ca96a3e4c55fa5", func := "clevis/clevislaw03.TableTexts", spec := "tableTexts", inPlace := ["slices.overlaps[clevis/table.Row[string, int]]", "slices.overlaps[clevis/table.Row[int, string]]"], unfollowed := true, recurses := true, apart := false, narrowed := true }
def TableTextsUptoSaid : Prop := tableTextsUptoRow.holds Try.pinned (OpenSpec.upto tableTextsSpec)

/-- 'clevislaw03.TableTells', WHERE WHAT IT READS IS OF BULK AT MOST 1048576: true; the input reads as it did. -/
def tableTellsUptoRow : OpenClaim := { program := "ytkgmifhkmhlcdaa", sum := "e06317f7809a4ae652d99d4cfa8d14add84be8343f9e1749c6ca96a3e4c55fa5", func := "clevis/clevislaw03.TableTells", spec := "tableTells", inPlace := ["slices.overlaps[clevis/table.Row[int, int]]", "slices.overlaps[clevis/table.Row[int, string]]"], unfollowed := true, recurses := true, apart := false, narrowed := true }
def TableTellsUptoSaid : Prop := tableTellsUptoRow.holds Try.pinned (OpenSpec.upto tableTellsSpec)

/-- 'clevislaw03.TablePlays', WHERE WHAT IT READS IS OF BULK AT MOST 1048576: true; the input reads as it did. -/
def tablePlaysUptoRow : OpenClaim := { program := "ytkgmifhkmhlcdaa", sum := "e06317f7809a4ae652d99d4cfa8d14add84be8343f9e1749c6ca96a3e4c55fa5", func := "clevis/clevislaw03.TablePlays", spec := "tablePlays", inPlace := ["slices.overlaps[clevis/table.Row[int, int]]", "slices.overlaps[clevis/table.Row[int, string]]"], unfollowed := true, recurses := true, apart := false, narrowed := true }
def TablePlaysUptoSaid : Prop := tablePlaysUptoRow.holds Try.pinned (OpenSpec.upto tablePlaysSpec)

/-- 'clevislaw03.TableMerges', WHERE WHAT IT READS IS OF BULK AT MOST 1048576: true; the input reads as it did. -/
def tableMergesUptoRow : OpenClaim := { program := "ytkgmifhkmhlcdaa", sum := "e06317f7809a4ae652d99d4cfa8d14add84be8343f9e1749c6ca96a3e4c55fa5", func := "clevis/clevislaw03.TableMerges", spec := "tableMerges", inPlace := ["slices.overlaps[clevis/table.Row[int, int]]", "slices.overlaps[clevis/table.Row[int, string]]"], unfollowed := true, recurses := true, apart := false, narrowed := true }
def TableMergesUptoSaid : Prop := tableMergesUptoRow.holds Try.pinned (OpenSpec.upto tableMergesSpec)

/-- 'clevislaw03.TableNil', WHERE WHAT IT READS IS OF BULK AT MOST 1048576: true; the input reads as it did. -/
def tableNilUptoRow : OpenClaim := { program := "ytkgmifhkmhlcdaa", sum := "e06317f7809a4ae652d99d4cfa8d14add84be8343f9e1749c6ca96a3e4c55fa5", func := "clevis/clevislaw03.TableNil", spec := "tableNil", inPlace := ["slices.overlaps[clevis/table.Row[int, string]]", "slices.overlaps[clevis/table.Row[int, int]]"], unfollowed := true, recurses := true, apart := false, narrowed := true }
def TableNilUptoSaid : Prop := tableNilUptoRow.holds Try.pinned (OpenSpec.upto tableNilSpec)

/-- 'clevislaw12.SnapBytes', WHERE WHAT IT READS IS OF BULK AT MOST 1048576: true; the input reads as it did. -/
def snapBytesUptoRow : OpenClaim := { program := "ytkgmifhkmhlcdaa", sum := "e06317f7809a4ae652d99d4cfa8d14add84be8343f9e1749c6ca96a3e4c55fa5", func := "clevis/clevislaw12.SnapBytes", spec := "snapBytes", unfollowed := true, recurses := true, apart := false, narrowed := true }
def SnapBytesUptoSaid : Prop := snapBytesUptoRow.holds Try.pinned (OpenSpec.upto snapBytesSpec)

/-- 'clevislaw14.WindowOrder', WHERE WHAT IT READS IS OF BULK AT MOST 1048576: true; the input reads as it did. -/
def windowOrderUptoRow : OpenClaim := { program := "ytkgmifhkmhlcdaa", sum := "e06317f7809a4ae652d99d4cfa8d14add84be8343f9e1749c6ca96a3e4c55fa5", func := "clevis/clevislaw14.WindowOrder", spec := "windowOrder", inPlace := ["slices.overlaps[clevis/table.Row[int, int]]", "slices.overlaps[clevis/table.Row[int, string]]"], unfollowed := true, recurses := true, apart := false, narrowed := true }
def WindowOrderUptoSaid : Prop := windowOrderUptoRow.holds Try.pinned (OpenSpec.upto windowOrderSpec)

/-- 'clevislaw14.WindowOuts', WHERE WHAT IT READS IS OF BULK AT MOST 1048576: true; the input reads as it did. -/
def windowOutsUptoRow : OpenClaim := { program := "ytkgmifhkmhlcdaa", sum := "e06317f7809a4ae652d99d4cfa8d14add84be8343f9e1749c6ca96a3e4c55fa5", func := "clevis/clevislaw14.WindowOuts", spec := "windowOuts", inPlace := ["slices.overlaps[clevis/table.Row[int, string]]"], unfollowed := true, recurses := true, apart := false, narrowed := true }
def WindowOutsUptoSaid : Prop := windowOutsUptoRow.holds Try.pinned (OpenSpec.upto windowOutsSpec)

/-- 'clevislaw23.CallStays', WHERE WHAT IT READS IS OF BULK AT MOST 1048576: true; the input reads as it did. -/
def callStaysUptoRow : OpenClaim := { program := "ytkgmifhkmhlcdaa", sum := "e06317f7809a4ae652d99d4cfa8d14add84be8343f9e1749c6ca96a3e4c55fa5", func := "clevis/clevislaw23.CallStays", spec := "callStays", inPlace := ["slices.overlaps[clevis/table.Row[string, bool]]"], unfollowed := true, recurses := true, apart := false, narrowed := true }
def CallStaysUptoSaid : Prop := callStaysUptoRow.holds Try.pinned (OpenSpec.upto callStaysSpec)

/-- 'clevislaw14.WindowIns', WHERE WHAT IT READS IS OF BULK AT MOST 1048576: true; the input reads as it did. -/
def windowInsUptoRow : OpenClaim := { program := "ytkgmifhkmhlcdaa", sum := "e06317f7809a4ae652d99d4cfa8d14add84be8343f9e1749c6ca96a3e4c55fa5", func := "clevis/clevislaw14.WindowIns", spec := "windowIns", inPlace := ["slices.overlaps[clevis/table.Row[int, int]]", "slices.overlaps[clevis/table.Row[int, string]]"], unfollowed := true, recurses := true, apart := false, narrowed := true }
def WindowInsUptoSaid : Prop := windowInsUptoRow.holds Try.pinned (OpenSpec.upto windowInsSpec)

/-- 'clevislaw14.WindowNil', WHERE WHAT IT READS IS OF BULK AT MOST 1048576: true; the input reads as it did. -/
def windowNilUptoRow : OpenClaim := { program := "ytkgmifhkmhlcdaa", sum := "e06317f7809a4ae652d99d4cfa8d14add84be8343f9e1749c6ca96a3e4c55fa5", func := "clevis/clevislaw14.WindowNil", spec := "windowNil", inPlace := ["slices.overlaps[clevis/table.Row[int, string]]", "slices.overlaps[clevis/table.Row[int, int]]"], unfollowed := true, recurses := true, apart := false, narrowed := true }
def WindowNilUptoSaid : Prop := windowNilUptoRow.holds Try.pinned (OpenSpec.upto windowNilSpec)

/-- 'clevislaw23.CallPlays', WHERE WHAT IT READS IS OF BULK AT MOST 1048576: true; the input reads as it did. -/
def callPlaysUptoRow : OpenClaim := { program := "ytkgmifhkmhlcdaa", sum := "e06317f7809a4ae652d99d4cfa8d14add84be8343f9e1749c6ca96a3e4c55fa5", func := "clevis/clevislaw23.CallPlays", spec := "callPlays", inPlace := ["slices.overlaps[clevis/table.Row[string, bool]]"], unfollowed := true, recurses := true, apart := false, narrowed := true }
def CallPlaysUptoSaid : Prop := callPlaysUptoRow.holds Try.pinned (OpenSpec.upto callPlaysSpec)

/-- 'clevislaw23.CallNil', WHERE WHAT IT READS IS OF BULK AT MOST 1048576: true; the input reads as it did. -/
def callNilUptoRow : OpenClaim := { program := "ytkgmifhkmhlcdaa", sum := "e06317f7809a4ae652d99d4cfa8d14add84be8343f9e1749c6ca96a3e4c55fa5", func := "clevis/clevislaw23.CallNil", spec := "callNil", inPlace := ["slices.overlaps[clevis/table.Row[string, bool]]"], unfollowed := true, recurses := true, apart := false, narrowed := true }
def CallNilUptoSaid : Prop := callNilUptoRow.holds Try.pinned (OpenSpec.upto callNilSpec)

/-- 'clevislaw26.ReconBreaks', WHERE WHAT IT READS IS OF BULK AT MOST 1048576: true; the input reads as it did. -/
def reconBreaksUptoRow : OpenClaim := { program := "ytkgmifhkmhlcdaa", sum := "e06317f7809a4ae652d99d4cfa8d14add84be8343f9e1749c6ca96a3e4c55fa5", func := "clevis/clevislaw26.ReconBreaks", spec := "reconBreaks", inPlace := ["slices.overlaps[clevis/table.Row[string, clevis/fixed.Wide]]", "math/bits.Add64"], unfollowed := true, recurses := true, apart := false, narrowed := true }
def ReconBreaksUptoSaid : Prop := reconBreaksUptoRow.holds Try.pinned (OpenSpec.upto reconBreaksSpec)

/-- 'clevislaw15.PipePlays', WHERE WHAT IT READS IS OF BULK AT MOST 1048576: true; the input reads as it did. -/
def pipePlaysUptoRow : OpenClaim := { program := "ytkgmifhkmhlcdaa", sum := "e06317f7809a4ae652d99d4cfa8d14add84be8343f9e1749c6ca96a3e4c55fa5", func := "clevis/clevislaw15.PipePlays", spec := "pipePlays", inPlace := ["slices.overlaps[clevis/table.Row[int, []byte]]"], unfollowed := true, recurses := true, apart := false, narrowed := true }
def PipePlaysUptoSaid : Prop := pipePlaysUptoRow.holds Try.pinned (OpenSpec.upto pipePlaysSpec)

/-- 'clevislaw15.PipeNil', WHERE WHAT IT READS IS OF BULK AT MOST 1048576: true; the input reads as it did. -/
def pipeNilUptoRow : OpenClaim := { program := "ytkgmifhkmhlcdaa", sum := "e06317f7809a4ae652d99d4cfa8d14add84be8343f9e1749c6ca96a3e4c55fa5", func := "clevis/clevislaw15.PipeNil", spec := "pipeNil", inPlace := ["slices.overlaps[clevis/table.Row[int, []byte]]"], unfollowed := true, recurses := true, apart := false, narrowed := true }
def PipeNilUptoSaid : Prop := pipeNilUptoRow.holds Try.pinned (OpenSpec.upto pipeNilSpec)

/-- 'clevislaw10.StorePlays', WHERE WHAT IT READS IS OF BULK AT MOST 1048576: true; the input reads as it did. -/
def storePlaysUptoRow : OpenClaim := { program := "ytkgmifhkmhlcdaa", sum := "e06317f7809a4ae652d99d4cfa8d14add84be8343f9e1749c6ca96a3e4c55fa5", func := "clevis/clevislaw10.StorePlays", spec := "storePlays", unfollowed := true, recurses := true, apart := false, narrowed := true }
def StorePlaysUptoSaid : Prop := storePlaysUptoRow.holds Try.pinned (OpenSpec.upto storePlaysSpec)

/-- 'clevislaw10.StoreNil', WHERE WHAT IT READS IS OF BULK AT MOST 1048576: true; the input reads as it did. -/
def storeNilUptoRow : OpenClaim := { program := "ytkgmifhkmhlcdaa", sum := "e06317f7809a4ae652d99d4cfa8d14add84be8343f9e1749c6ca96a3e4c55fa5", func := "clevis/clevislaw10.StoreNil", spec := "storeNil", unfollowed := true, recurses := true, apart := false, narrowed := true }
def StoreNilUptoSaid : Prop := storeNilUptoRow.holds Try.pinned (OpenSpec.upto storeNilSpec)

/-- 'clevislaw10.StoreCopies', WHERE WHAT IT READS IS OF BULK AT MOST 1048576: true; the input reads as it did. -/
def storeCopiesUptoRow : OpenClaim := { program := "ytkgmifhkmhlcdaa", sum := "e06317f7809a4ae652d99d4cfa8d14add84be8343f9e1749c6ca96a3e4c55fa5", func := "clevis/clevislaw10.StoreCopies", spec := "storeCopies", unfollowed := true, recurses := true, apart := false, narrowed := true }
def StoreCopiesUptoSaid : Prop := storeCopiesUptoRow.holds Try.pinned (OpenSpec.upto storeCopiesSpec)

end Rows
end Go.Proofs.Ytkgmifhkmhlcdaa
