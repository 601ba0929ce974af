/-
  No cell of these rows narrows 'for every input' (looked for: loops, veiled, ifaces, maps, wideKeys, modest, calm, conditions, laid).
  DERIVED. THE GIVEN ROWS OF THIS SEAT. 4 by the template 'for every input the law returns true; each argument reads behind the call as it read before'; 0 by the template 'total and deterministic' (their statements: YtohglolecmgeoaaGreatTotals.lean).
  GIVEN WITH THE SEED: the statements are not yours to turn. If you find one false, say at which input.
  Laid BY PROGRAM, IN A SANDBOX (cutbox-rows.mjs): the forced cells as the released guide's own fill.sh prints them over the translation 48fc17fd88a1bcda… (all of the seat's roots in one cut). By AI agents, Wed Nov 11 2026. No macro, syntax, notation, axiom, sorry.
-/
import Derived.Test.YtohglolecmgeoaaGreatChecked
import GoSem.Claim
import GoSem.ClaimJoined
import GoSem.ClaimMapViews
import Derived.JoinedTies
import Derived.KernelRfl
namespace Go.Proofs.YtohglolecmgeoaaGreat
/- THE CELL 'sum', in the pinned program and in every row, IS THE sha256 OF THE DUMP (.gsa) THAT YtohglolecmgeoaaGreatProg.lean LOADS. Nothing in Lean hashes anything: it is a label: what it is worth is what the hold of that sum in a sandbox is worth. -/
noncomputable def Tryz.pinned : Pinned := { name := "ytohglolecmgeoaagreat", sum := "48fc17fd88a1bcdac27ccc3037099be2c23d99aaae6756034043571ffe2a3050", checked := Tryz.checked }
namespace Rows
def none {H : Type} : Left H := { results := [], args := [] }

/-- 'clevislaw25.LedgerPlays': WHATEVER THE INPUT: true; the input reads as it did. -/
def ledgerPlaysSpec : ChangeSpec := { name := "ledgerPlays", fn := fun _ => fun
  | [d1, d2, d3] => { results := [.lit (.bool true)], args := [d1, d2, d3] }
  | _ => none }
def ledgerPlaysRow : OpenClaim := { program := "ytohglolecmgeoaagreat", sum := "48fc17fd88a1bcdac27ccc3037099be2c23d99aaae6756034043571ffe2a3050", func := "clevis/clevislaw25.LedgerPlays", spec := "ledgerPlays", inPlace := ["slices.overlaps[clevis/table.Row[string, int]]", "slices.overlaps[clevis/table.Row[string, bool]]", "slices.overlaps[clevis/table.Row[int64, bool]]", "math/bits.Add64", "slices.overlaps[clevis/table.Row[string, clevis/account.Holding]]", "slices.overlaps[clevis/table.Row[string, int64]]", "slices.overlaps[clevis/table.Row[int, *clevis/account.Accounts]]", "slices.overlaps[clevis/table.Row[int, *clevis/price.Prices]]", "slices.overlaps[clevis/table.Row[string, *clevis/pledge.lots]]"], unfollowed := true, recurses := true, apart := false }
def LedgerPlaysSaid : Prop := ledgerPlaysRow.holds Tryz.pinned (OpenSpec.ofChange ledgerPlaysSpec)

/-- ITS FALSE NEIGHBOUR: 'it returns false'. Refute it at one input. -/
def ledgerPlaysWrong : ChangeSpec := { name := "ledgerPlays", fn := fun _ => fun
  | [d1, d2, d3] => { results := [.lit (.bool false)], args := [d1, d2, d3] }
  | _ => none }
def LedgerPlaysWrongFalsely : Prop := ledgerPlaysRow.holds Tryz.pinned (OpenSpec.ofChange ledgerPlaysWrong)

/-- 'clevislaw25.LedgerStays': WHATEVER THE INPUT: true; the input reads as it did. -/
def ledgerStaysSpec : ChangeSpec := { name := "ledgerStays", fn := fun _ => fun
  | [d1, d2, d3, d4, d5] => { results := [.lit (.bool true)], args := [d1, d2, d3, d4, d5] }
  | _ => none }
def ledgerStaysRow : OpenClaim := { program := "ytohglolecmgeoaagreat", sum := "48fc17fd88a1bcdac27ccc3037099be2c23d99aaae6756034043571ffe2a3050", func := "clevis/clevislaw25.LedgerStays", spec := "ledgerStays", inPlace := ["slices.overlaps[clevis/table.Row[string, int]]", "slices.overlaps[clevis/table.Row[string, bool]]", "slices.overlaps[clevis/table.Row[int64, bool]]", "math/bits.Add64", "slices.overlaps[clevis/table.Row[string, clevis/account.Holding]]", "slices.overlaps[clevis/table.Row[string, int64]]", "slices.overlaps[clevis/table.Row[int, *clevis/account.Accounts]]", "slices.overlaps[clevis/table.Row[int, *clevis/price.Prices]]", "slices.overlaps[clevis/table.Row[string, *clevis/pledge.lots]]"], unfollowed := true, recurses := true, apart := false }
def LedgerStaysSaid : Prop := ledgerStaysRow.holds Tryz.pinned (OpenSpec.ofChange ledgerStaysSpec)

/-- ITS FALSE NEIGHBOUR: 'it returns false'. Refute it at one input. -/
def ledgerStaysWrong : ChangeSpec := { name := "ledgerStays", fn := fun _ => fun
  | [d1, d2, d3, d4, d5] => { results := [.lit (.bool false)], args := [d1, d2, d3, d4, d5] }
  | _ => none }
def LedgerStaysWrongFalsely : Prop := ledgerStaysRow.holds Tryz.pinned (OpenSpec.ofChange ledgerStaysWrong)

/-- 'clevislaw25.LedgerNil': WHATEVER THE INPUT: true; the input reads as it did. -/
def ledgerNilSpec : ChangeSpec := { name := "ledgerNil", fn := fun _ => fun
  | [d1, d2] => { results := [.lit (.bool true)], args := [d1, d2] }
  | _ => none }
def ledgerNilRow : OpenClaim := { program := "ytohglolecmgeoaagreat", sum := "48fc17fd88a1bcdac27ccc3037099be2c23d99aaae6756034043571ffe2a3050", func := "clevis/clevislaw25.LedgerNil", spec := "ledgerNil", inPlace := ["slices.overlaps[clevis/table.Row[int64, bool]]", "math/bits.Add64", "slices.overlaps[clevis/table.Row[string, clevis/account.Holding]]", "slices.overlaps[clevis/table.Row[string, int64]]", "slices.overlaps[clevis/table.Row[int, *clevis/account.Accounts]]", "slices.overlaps[clevis/table.Row[int, *clevis/price.Prices]]", "slices.overlaps[clevis/table.Row[string, bool]]", "slices.overlaps[clevis/table.Row[string, *clevis/pledge.lots]]", "slices.overlaps[clevis/table.Row[string, int]]"], unfollowed := true, recurses := true, apart := false }
def LedgerNilSaid : Prop := ledgerNilRow.holds Tryz.pinned (OpenSpec.ofChange ledgerNilSpec)

/-- ITS FALSE NEIGHBOUR: 'it returns false'. Refute it at one input. -/
def ledgerNilWrong : ChangeSpec := { name := "ledgerNil", fn := fun _ => fun
  | [d1, d2] => { results := [.lit (.bool false)], args := [d1, d2] }
  | _ => none }
def LedgerNilWrongFalsely : Prop := ledgerNilRow.holds Tryz.pinned (OpenSpec.ofChange ledgerNilWrong)

/-- 'clevislaw27.SettleNil': WHATEVER THE INPUT: true; the input reads as it did. -/
def settleNilSpec : ChangeSpec := { name := "settleNil", fn := fun _ => fun
  | [d] => { results := [.lit (.bool true)], args := [d] }
  | _ => none }
def settleNilRow : OpenClaim := { program := "ytohglolecmgeoaagreat", sum := "48fc17fd88a1bcdac27ccc3037099be2c23d99aaae6756034043571ffe2a3050", func := "clevis/clevislaw27.SettleNil", spec := "settleNil", inPlace := ["slices.overlaps[clevis/table.Row[int64, bool]]", "math/bits.Add64", "slices.overlaps[clevis/table.Row[string, clevis/account.Holding]]", "slices.overlaps[clevis/table.Row[string, int64]]", "slices.overlaps[clevis/table.Row[int, *clevis/account.Accounts]]", "slices.overlaps[clevis/table.Row[int, *clevis/price.Prices]]", "slices.overlaps[clevis/table.Row[string, bool]]", "slices.overlaps[clevis/table.Row[string, *clevis/pledge.lots]]"], unfollowed := true, recurses := true, named := ["math/bits.divideError", "math/bits.overflowError"], apart := false }
def SettleNilSaid : Prop := settleNilRow.holds Tryz.pinned (OpenSpec.ofChange settleNilSpec)

/-- ITS FALSE NEIGHBOUR: 'it returns false'. Refute it at one input. -/
def settleNilWrong : ChangeSpec := { name := "settleNil", fn := fun _ => fun
  | [d] => { results := [.lit (.bool false)], args := [d] }
  | _ => none }
def SettleNilWrongFalsely : Prop := settleNilRow.holds Tryz.pinned (OpenSpec.ofChange settleNilWrong)

/- THE SECOND FORM. 'bulk': how many values and letters a reading holds, each counted each time it is reached (what is shared counts as often as it is met; a slice's spare places count too). A statement '..UptoSaid' is the law's where the arguments, and the package variables that the reading takes, are together of bulk at most 1048576: NARROWER than '..Said'. Prove '..Said' where nothing that the law and all that it calls make is longer than what came in: it says more and counts as full. Else prove '..UptoSaid'. A law counts once. -/
mutual
def uptoBulk {H : Type} : DataW H → Nat
  | .lit (.string bytes) => bytes.length + 1
  | .lit _ => 1
  | .nil => 1
  | .ptr d => uptoBulk d + 1
  | .slice elems spare => uptoBulkAll elems + uptoBulkAll spare + 1
  | .agg parts => uptoBulkAll parts + 1
  | .iface _ d => uptoBulk d + 1
  | .map entries => uptoBulkEntries entries + 1
  | .held _ => 1
def uptoBulkAll {H : Type} : List (DataW H) → Nat
  | [] => 0
  | d :: r => uptoBulk d + uptoBulkAll r
def uptoBulkEntries {H : Type} : List (Lit × DataW H) → Nat
  | [] => 0
  | x :: r => uptoBulkEntry x + uptoBulkEntries r
def uptoBulkEntry {H : Type} : Lit × DataW H → Nat
  | (.string bytes, d) => bytes.length + uptoBulk d + 1
  | (_, d) => uptoBulk d + 1
 end
def uptoSmall : (H : Type) → List (DataW H) → Bool := fun _ ds => decide (uptoBulkAll ds ≤ 1048576)
def OpenSpec.upto (s : _root_.Go.ChangeSpec) : _root_.Go.OpenSpec := { _root_.Go.OpenSpec.ofChange s with cond := some uptoSmall }

/-- 'clevislaw25.LedgerPlays', WHERE WHAT IT READS IS OF BULK AT MOST 1048576: true; the input reads as it did. -/
def ledgerPlaysUptoRow : OpenClaim := { program := "ytohglolecmgeoaagreat", sum := "48fc17fd88a1bcdac27ccc3037099be2c23d99aaae6756034043571ffe2a3050", func := "clevis/clevislaw25.LedgerPlays", spec := "ledgerPlays", inPlace := ["slices.overlaps[clevis/table.Row[string, int]]", "slices.overlaps[clevis/table.Row[string, bool]]", "slices.overlaps[clevis/table.Row[int64, bool]]", "math/bits.Add64", "slices.overlaps[clevis/table.Row[string, clevis/account.Holding]]", "slices.overlaps[clevis/table.Row[string, int64]]", "slices.overlaps[clevis/table.Row[int, *clevis/account.Accounts]]", "slices.overlaps[clevis/table.Row[int, *clevis/price.Prices]]", "slices.overlaps[clevis/table.Row[string, *clevis/pledge.lots]]"], unfollowed := true, recurses := true, apart := false, narrowed := true }
def LedgerPlaysUptoSaid : Prop := ledgerPlaysUptoRow.holds Tryz.pinned (OpenSpec.upto ledgerPlaysSpec)

/-- 'clevislaw25.LedgerStays', WHERE WHAT IT READS IS OF BULK AT MOST 1048576: true; the input reads as it did. -/
def ledgerStaysUptoRow : OpenClaim := { program := "ytohglolecmgeoaagreat", sum := "48fc17fd88a1bcdac27ccc3037099be2c23d99aaae6756034043571ffe2a3050", func := "clevis/clevislaw25.LedgerStays", spec := "ledgerStays", inPlace := ["slices.overlaps[clevis/table.Row[string, int]]", "slices.overlaps[clevis/table.Row[string, bool]]", "slices.overlaps[clevis/table.Row[int64, bool]]", "math/bits.Add64", "slices.overlaps[clevis/table.Row[string, clevis/account.Holding]]", "slices.overlaps[clevis/table.Row[string, int64]]", "slices.overlaps[clevis/table.Row[int, *clevis/account.Accounts]]", "slices.overlaps[clevis/table.Row[int, *clevis/price.Prices]]", "slices.overlaps[clevis/table.Row[string, *clevis/pledge.lots]]"], unfollowed := true, recurses := true, apart := false, narrowed := true }
def LedgerStaysUptoSaid : Prop := ledgerStaysUptoRow.holds Tryz.pinned (OpenSpec.upto ledgerStaysSpec)

/-- 'clevislaw25.LedgerNil', WHERE WHAT IT READS IS OF BULK AT MOST 1048576: true; the input reads as it did. -/
def ledgerNilUptoRow : OpenClaim := { program := "ytohglolecmgeoaagreat", sum := "48fc17fd88a1bcdac27ccc3037099be2c23d99aaae6756034043571ffe2a3050", func := "clevis/clevislaw25.LedgerNil", spec := "ledgerNil", inPlace := ["slices.overlaps[clevis/table.Row[int64, bool]]", "math/bits.Add64", "slices.overlaps[clevis/table.Row[string, clevis/account.Holding]]", "slices.overlaps[clevis/table.Row[string, int64]]", "slices.overlaps[clevis/table.Row[int, *clevis/account.Accounts]]", "slices.overlaps[clevis/table.Row[int, *clevis/price.Prices]]", "slices.overlaps[clevis/table.Row[string, bool]]", "slices.overlaps[clevis/table.Row[string, *clevis/pledge.lots]]", "slices.overlaps[clevis/table.Row[string, int]]"], unfollowed := true, recurses := true, apart := false, narrowed := true }
def LedgerNilUptoSaid : Prop := ledgerNilUptoRow.holds Tryz.pinned (OpenSpec.upto ledgerNilSpec)

/-- 'clevislaw27.SettleNil', WHERE WHAT IT READS IS OF BULK AT MOST 1048576: true; the input reads as it did. -/
def settleNilUptoRow : OpenClaim := { program := "ytohglolecmgeoaagreat", sum := "48fc17fd88a1bcdac27ccc3037099be2c23d99aaae6756034043571ffe2a3050", func := "clevis/clevislaw27.SettleNil", spec := "settleNil", inPlace := ["slices.overlaps[clevis/table.Row[int64, bool]]", "math/bits.Add64", "slices.overlaps[clevis/table.Row[string, clevis/account.Holding]]", "slices.overlaps[clevis/table.Row[string, int64]]", "slices.overlaps[clevis/table.Row[int, *clevis/account.Accounts]]", "slices.overlaps[clevis/table.Row[int, *clevis/price.Prices]]", "slices.overlaps[clevis/table.Row[string, bool]]", "slices.overlaps[clevis/table.Row[string, *clevis/pledge.lots]]"], unfollowed := true, recurses := true, named := ["math/bits.divideError", "math/bits.overflowError"], apart := false, narrowed := true }
def SettleNilUptoSaid : Prop := settleNilUptoRow.holds Tryz.pinned (OpenSpec.upto settleNilSpec)

end Rows
end Go.Proofs.YtohglolecmgeoaaGreat
