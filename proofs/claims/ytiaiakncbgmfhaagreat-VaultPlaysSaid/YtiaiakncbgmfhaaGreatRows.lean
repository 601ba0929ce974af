/-
  No cell of these rows narrows 'for every input' (looked for: loops, veiled, ifaces, maps, wideKeys, modest, calm, conditions, laid).
  DERIVED. THE GIVEN ROWS OF THIS SEAT. 5 by the template 'for every input the law returns true; each argument reads behind the call as it read before'; 0 by the template 'total and deterministic' (their statements: YtiaiakncbgmfhaaGreatTotals.lean).
  GIVEN WITH THE SEED: the statements are not yours to turn. If you find one false, say at which input.
  Laid BY PROGRAM, IN A SANDBOX (cutbox-rows.mjs): the forced cells as the released guide's own fill.sh prints them over the translation 53df04b05a554a19… (all of the seat's roots in one cut). By AI agents, Wed Nov 11 2026. No macro, syntax, notation, axiom, sorry.
-/
import Derived.Test.YtiaiakncbgmfhaaGreatChecked
import GoSem.Claim
import GoSem.ClaimJoined
import GoSem.ClaimMapViews
import Derived.JoinedTies
import Derived.KernelRfl
namespace Go.Proofs.YtiaiakncbgmfhaaGreat
/- THE CELL 'sum', in the pinned program and in every row, IS THE sha256 OF THE DUMP (.gsa) THAT YtiaiakncbgmfhaaGreatProg.lean LOADS. Nothing in Lean hashes anything: it is a label: what it is worth is what the hold of that sum in a sandbox is worth. -/
noncomputable def Tryz.pinned : Pinned := { name := "ytiaiakncbgmfhaagreat", sum := "53df04b05a554a19e6765b84d2b89ac982f3c3a380e65e57f7e97eacc551d82b", checked := Tryz.checked }
namespace Rows
def none {H : Type} : Left H := { results := [], args := [] }

/-- 'clevislaw13.VaultOpens': WHATEVER THE INPUT: true; the input reads as it did. -/
def vaultOpensSpec : ChangeSpec := { name := "vaultOpens", fn := fun _ => fun
  | [d1, d2, d3] => { results := [.lit (.bool true)], args := [d1, d2, d3] }
  | _ => none }
def vaultOpensRow : OpenClaim := { program := "ytiaiakncbgmfhaagreat", sum := "53df04b05a554a19e6765b84d2b89ac982f3c3a380e65e57f7e97eacc551d82b", func := "clevis/clevislaw13.VaultOpens", spec := "vaultOpens", inPlace := ["slices.overlaps[clevis/table.Row[int, []byte]]"], unfollowed := true, recurses := true, apart := false }
def VaultOpensSaid : Prop := vaultOpensRow.holds Tryz.pinned (OpenSpec.ofChange vaultOpensSpec)

/-- ITS FALSE NEIGHBOUR: 'it returns false'. Refute it at one input. -/
def vaultOpensWrong : ChangeSpec := { name := "vaultOpens", fn := fun _ => fun
  | [d1, d2, d3] => { results := [.lit (.bool false)], args := [d1, d2, d3] }
  | _ => none }
def VaultOpensWrongFalsely : Prop := vaultOpensRow.holds Tryz.pinned (OpenSpec.ofChange vaultOpensWrong)

/-- 'clevislaw13.VaultTwice': WHATEVER THE INPUT: true; the input reads as it did. -/
def vaultTwiceSpec : ChangeSpec := { name := "vaultTwice", fn := fun _ => fun
  | [d1, d2] => { results := [.lit (.bool true)], args := [d1, d2] }
  | _ => none }
def vaultTwiceRow : OpenClaim := { program := "ytiaiakncbgmfhaagreat", sum := "53df04b05a554a19e6765b84d2b89ac982f3c3a380e65e57f7e97eacc551d82b", func := "clevis/clevislaw13.VaultTwice", spec := "vaultTwice", inPlace := ["slices.overlaps[clevis/table.Row[int, []byte]]"], unfollowed := true, recurses := true, apart := false }
def VaultTwiceSaid : Prop := vaultTwiceRow.holds Tryz.pinned (OpenSpec.ofChange vaultTwiceSpec)

/-- ITS FALSE NEIGHBOUR: 'it returns false'. Refute it at one input. -/
def vaultTwiceWrong : ChangeSpec := { name := "vaultTwice", fn := fun _ => fun
  | [d1, d2] => { results := [.lit (.bool false)], args := [d1, d2] }
  | _ => none }
def VaultTwiceWrongFalsely : Prop := vaultTwiceRow.holds Tryz.pinned (OpenSpec.ofChange vaultTwiceWrong)

/-- 'clevislaw13.VaultEnds': WHATEVER THE INPUT: true; the input reads as it did. -/
def vaultEndsSpec : ChangeSpec := { name := "vaultEnds", fn := fun _ => fun
  | [d1, d2, d3, d4] => { results := [.lit (.bool true)], args := [d1, d2, d3, d4] }
  | _ => none }
def vaultEndsRow : OpenClaim := { program := "ytiaiakncbgmfhaagreat", sum := "53df04b05a554a19e6765b84d2b89ac982f3c3a380e65e57f7e97eacc551d82b", func := "clevis/clevislaw13.VaultEnds", spec := "vaultEnds", inPlace := ["slices.overlaps[clevis/table.Row[int, []byte]]"], unfollowed := true, recurses := true, apart := false }
def VaultEndsSaid : Prop := vaultEndsRow.holds Tryz.pinned (OpenSpec.ofChange vaultEndsSpec)

/-- ITS FALSE NEIGHBOUR: 'it returns false'. Refute it at one input. -/
def vaultEndsWrong : ChangeSpec := { name := "vaultEnds", fn := fun _ => fun
  | [d1, d2, d3, d4] => { results := [.lit (.bool false)], args := [d1, d2, d3, d4] }
  | _ => none }
def VaultEndsWrongFalsely : Prop := vaultEndsRow.holds Tryz.pinned (OpenSpec.ofChange vaultEndsWrong)

/-- 'clevislaw13.VaultNil': WHATEVER THE INPUT: true; the input reads as it did. -/
def vaultNilSpec : ChangeSpec := { name := "vaultNil", fn := fun _ => fun
  | [d1, d2] => { results := [.lit (.bool true)], args := [d1, d2] }
  | _ => none }
def vaultNilRow : OpenClaim := { program := "ytiaiakncbgmfhaagreat", sum := "53df04b05a554a19e6765b84d2b89ac982f3c3a380e65e57f7e97eacc551d82b", func := "clevis/clevislaw13.VaultNil", spec := "vaultNil", inPlace := ["slices.overlaps[clevis/table.Row[int, []byte]]"], unfollowed := true, recurses := true, apart := false }
def VaultNilSaid : Prop := vaultNilRow.holds Tryz.pinned (OpenSpec.ofChange vaultNilSpec)

/-- ITS FALSE NEIGHBOUR: 'it returns false'. Refute it at one input. -/
def vaultNilWrong : ChangeSpec := { name := "vaultNil", fn := fun _ => fun
  | [d1, d2] => { results := [.lit (.bool false)], args := [d1, d2] }
  | _ => none }
def VaultNilWrongFalsely : Prop := vaultNilRow.holds Tryz.pinned (OpenSpec.ofChange vaultNilWrong)

/-- 'clevislaw13.VaultPlays': WHATEVER THE INPUT: true; the input reads as it did. -/
def vaultPlaysSpec : ChangeSpec := { name := "vaultPlays", fn := fun _ => fun
  | [d1, d2] => { results := [.lit (.bool true)], args := [d1, d2] }
  | _ => none }
def vaultPlaysRow : OpenClaim := { program := "ytiaiakncbgmfhaagreat", sum := "53df04b05a554a19e6765b84d2b89ac982f3c3a380e65e57f7e97eacc551d82b", func := "clevis/clevislaw13.VaultPlays", spec := "vaultPlays", inPlace := ["slices.overlaps[clevis/table.Row[int, []byte]]"], unfollowed := true, recurses := true, apart := false }
def VaultPlaysSaid : Prop := vaultPlaysRow.holds Tryz.pinned (OpenSpec.ofChange vaultPlaysSpec)

/-- ITS FALSE NEIGHBOUR: 'it returns false'. Refute it at one input. -/
def vaultPlaysWrong : ChangeSpec := { name := "vaultPlays", fn := fun _ => fun
  | [d1, d2] => { results := [.lit (.bool false)], args := [d1, d2] }
  | _ => none }
def VaultPlaysWrongFalsely : Prop := vaultPlaysRow.holds Tryz.pinned (OpenSpec.ofChange vaultPlaysWrong)

/- THE SECOND FORM. 'bulk': how many values and letters a reading holds, each counted each time it is reached (what is shared counts as often as it is met; a slice's spare places count too). A statement '..UptoSaid' is the law's where the arguments, and the package variables that the reading takes, are together of bulk at most 1048576: NARROWER than '..Said'. Prove '..Said' where nothing that the law and all that it calls make is longer than what came in: it says more and counts as full. Else prove '..UptoSaid'. A law counts once. -/
mutual
def uptoBulk {H : Type} : DataW H → Nat
  | .lit (.string bytes) => bytes.length + 1
  | .lit _ => 1
  | .nil => 1
  | .ptr d => uptoBulk d + 1
  | .slice elems spare => uptoBulkAll elems + uptoBulkAll spare + 1
  | .agg parts => uptoBulkAll parts + 1
  | .iface _ d => uptoBulk d + 1
  | .map entries => uptoBulkEntries entries + 1
  | .held _ => 1
def uptoBulkAll {H : Type} : List (DataW H) → Nat
  | [] => 0
  | d :: r => uptoBulk d + uptoBulkAll r
def uptoBulkEntries {H : Type} : List (Lit × DataW H) → Nat
  | [] => 0
  | x :: r => uptoBulkEntry x + uptoBulkEntries r
def uptoBulkEntry {H : Type} : Lit × DataW H → Nat
  | (.string bytes, d) => bytes.length + uptoBulk d + 1
  | (_, d) => uptoBulk d + 1
 end
def uptoSmall : (H : Type) → List (DataW H) → Bool := fun _ ds => decide (uptoBulkAll ds ≤ 1048576)
def OpenSpec.upto (s : _root_.Go.ChangeSpec) : _root_.Go.OpenSpec := { _root_.Go.OpenSpec.ofChange s with cond := some uptoSmall }

/-- 'clevislaw13.VaultOpens', WHERE WHAT IT READS IS OF BULK AT MOST 1048576: true; the input reads as it did. -/
def vaultOpensUptoRow : OpenClaim := { program := "ytiaiakncbgmfhaagreat", sum := "53df04b05a554a19e6765b84d2b89ac982f3c3a380e65e57f7e97eacc551d82b", func := "clevis/clevislaw13.VaultOpens", spec := "vaultOpens", inPlace := ["slices.overlaps[clevis/table.Row[int, []byte]]"], unfollowed := true, recurses := true, apart := false, narrowed := true }
def VaultOpensUptoSaid : Prop := vaultOpensUptoRow.holds Tryz.pinned (OpenSpec.upto vaultOpensSpec)

/-- 'clevislaw13.VaultTwice', WHERE WHAT IT READS IS OF BULK AT MOST 1048576: true; the input reads as it did. -/
def vaultTwiceUptoRow : OpenClaim := { program := "ytiaiakncbgmfhaagreat", sum := "53df04b05a554a19e6765b84d2b89ac982f3c3a380e65e57f7e97eacc551d82b", func := "clevis/clevislaw13.VaultTwice", spec := "vaultTwice", inPlace := ["slices.overlaps[clevis/table.Row[int, []byte]]"], unfollowed := true, recurses := true, apart := false, narrowed := true }
def VaultTwiceUptoSaid : Prop := vaultTwiceUptoRow.holds Tryz.pinned (OpenSpec.upto vaultTwiceSpec)

/-- 'clevislaw13.VaultEnds', WHERE WHAT IT READS IS OF BULK AT MOST 1048576: true; the input reads as it did. -/
def vaultEndsUptoRow : OpenClaim := { program := "ytiaiakncbgmfhaagreat", sum := "53df04b05a554a19e6765b84d2b89ac982f3c3a380e65e57f7e97eacc551d82b", func := "clevis/clevislaw13.VaultEnds", spec := "vaultEnds", inPlace := ["slices.overlaps[clevis/table.Row[int, []byte]]"], unfollowed := true, recurses := true, apart := false, narrowed := true }
def VaultEndsUptoSaid : Prop := vaultEndsUptoRow.holds Tryz.pinned (OpenSpec.upto vaultEndsSpec)

/-- 'clevislaw13.VaultNil', WHERE WHAT IT READS IS OF BULK AT MOST 1048576: true; the input reads as it did. -/
def vaultNilUptoRow : OpenClaim := { program := "ytiaiakncbgmfhaagreat", sum := "53df04b05a554a19e6765b84d2b89ac982f3c3a380e65e57f7e97eacc551d82b", func := "clevis/clevislaw13.VaultNil", spec := "vaultNil", inPlace := ["slices.overlaps[clevis/table.Row[int, []byte]]"], unfollowed := true, recurses := true, apart := false, narrowed := true }
def VaultNilUptoSaid : Prop := vaultNilUptoRow.holds Tryz.pinned (OpenSpec.upto vaultNilSpec)

/-- 'clevislaw13.VaultPlays', WHERE WHAT IT READS IS OF BULK AT MOST 1048576: true; the input reads as it did. -/
def vaultPlaysUptoRow : OpenClaim := { program := "ytiaiakncbgmfhaagreat", sum := "53df04b05a554a19e6765b84d2b89ac982f3c3a380e65e57f7e97eacc551d82b", func := "clevis/clevislaw13.VaultPlays", spec := "vaultPlays", inPlace := ["slices.overlaps[clevis/table.Row[int, []byte]]"], unfollowed := true, recurses := true, apart := false, narrowed := true }
def VaultPlaysUptoSaid : Prop := vaultPlaysUptoRow.holds Tryz.pinned (OpenSpec.upto vaultPlaysSpec)

end Rows
end Go.Proofs.YtiaiakncbgmfhaaGreat
