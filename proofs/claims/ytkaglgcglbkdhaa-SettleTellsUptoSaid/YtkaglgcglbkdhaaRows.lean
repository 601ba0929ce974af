/-
  No cell of these rows narrows 'for every input' (looked for: loops, veiled, ifaces, maps, wideKeys, modest, calm, conditions, laid).
  DERIVED. THE GIVEN ROWS OF THIS SEAT. 3 by the template 'for every input the law returns true; each argument reads behind the call as it read before'; 0 by the template 'total and deterministic' (their statements: YtkaglgcglbkdhaaTotals.lean).
  GIVEN WITH THE SEED: the statements are not yours to turn. If you find one false, say at which input.
  Laid BY PROGRAM, IN A SANDBOX (cutbox-rows.mjs): the forced cells as the released guide's own fill.sh prints them over the translation 8a11db4f1b4a71b8… (all of the seat's roots in one cut). By AI agents, Wed Nov 11 2026. No macro, syntax, notation, axiom, sorry.
-/
import Derived.Test.YtkaglgcglbkdhaaChecked
import GoSem.Claim
import GoSem.ClaimJoined
import GoSem.ClaimMapViews
import Derived.JoinedTies
import Derived.KernelRfl
namespace Go.Proofs.Ytkaglgcglbkdhaa
/- THE CELL 'sum', in the pinned program and in every row, IS THE sha256 OF THE DUMP (.gsa) THAT YtkaglgcglbkdhaaProg.lean LOADS. Nothing in Lean hashes anything: it is a label: what it is worth is what the hold of that sum in a sandbox is worth. -/
noncomputable def Try.pinned : Pinned := { name := "ytkaglgcglbkdhaa", sum := "8a11db4f1b4a71b8695486a396a912f857b62af09d1c3ef6655734bb07d389e4", checked := Try.checked }
namespace Rows
def none {H : Type} : Left H := { results := [], args := [] }

/-- 'clevislaw27.SettleTells': WHATEVER THE INPUT: true; the input reads as it did. -/
def settleTellsSpec : ChangeSpec := { name := "settleTells", fn := fun _ => fun
  | [d1, d2] => { results := [.lit (.bool true)], args := [d1, d2] }
  | _ => none }
def settleTellsRow : OpenClaim := { program := "ytkaglgcglbkdhaa", sum := "8a11db4f1b4a71b8695486a396a912f857b62af09d1c3ef6655734bb07d389e4", func := "clevis/clevislaw27.SettleTells", spec := "settleTells", inPlace := ["math/bits.Add64", "slices.overlaps[clevis/table.Row[string, int64]]"], unfollowed := true, recurses := true, named := ["math/bits.divideError", "math/bits.overflowError"], apart := false }
def SettleTellsSaid : Prop := settleTellsRow.holds Try.pinned (OpenSpec.ofChange settleTellsSpec)

/-- ITS FALSE NEIGHBOUR: 'it returns false'. Refute it at one input. -/
def settleTellsWrong : ChangeSpec := { name := "settleTells", fn := fun _ => fun
  | [d1, d2] => { results := [.lit (.bool false)], args := [d1, d2] }
  | _ => none }
def SettleTellsWrongFalsely : Prop := settleTellsRow.holds Try.pinned (OpenSpec.ofChange settleTellsWrong)

/-- 'clevislaw26.ReconNets': WHATEVER THE INPUT: true; the input reads as it did. -/
def reconNetsSpec : ChangeSpec := { name := "reconNets", fn := fun _ => fun
  | [d1, d2] => { results := [.lit (.bool true)], args := [d1, d2] }
  | _ => none }
def reconNetsRow : OpenClaim := { program := "ytkaglgcglbkdhaa", sum := "8a11db4f1b4a71b8695486a396a912f857b62af09d1c3ef6655734bb07d389e4", func := "clevis/clevislaw26.ReconNets", spec := "reconNets", inPlace := ["math/bits.Add64", "slices.overlaps[clevis/table.Row[string, clevis/fixed.Wide]]", "slices.overlaps[clevis/table.Row[string, int64]]"], unfollowed := true, recurses := true, apart := false }
def ReconNetsSaid : Prop := reconNetsRow.holds Try.pinned (OpenSpec.ofChange reconNetsSpec)

/-- ITS FALSE NEIGHBOUR: 'it returns false'. Refute it at one input. -/
def reconNetsWrong : ChangeSpec := { name := "reconNets", fn := fun _ => fun
  | [d1, d2] => { results := [.lit (.bool false)], args := [d1, d2] }
  | _ => none }
def ReconNetsWrongFalsely : Prop := reconNetsRow.holds Try.pinned (OpenSpec.ofChange reconNetsWrong)

/-- 'clevislaw26.ReconBreaks': WHATEVER THE INPUT: true; the input reads as it did. -/
def reconBreaksSpec : ChangeSpec := { name := "reconBreaks", fn := fun _ => fun
  | [d1, d2] => { results := [.lit (.bool true)], args := [d1, d2] }
  | _ => none }
def reconBreaksRow : OpenClaim := { program := "ytkaglgcglbkdhaa", sum := "8a11db4f1b4a71b8695486a396a912f857b62af09d1c3ef6655734bb07d389e4", func := "clevis/clevislaw26.ReconBreaks", spec := "reconBreaks", inPlace := ["slices.overlaps[clevis/table.Row[string, clevis/fixed.Wide]]", "math/bits.Add64"], unfollowed := true, recurses := true, apart := false }
def ReconBreaksSaid : Prop := reconBreaksRow.holds Try.pinned (OpenSpec.ofChange reconBreaksSpec)

/-- ITS FALSE NEIGHBOUR: 'it returns false'. Refute it at one input. -/
def reconBreaksWrong : ChangeSpec := { name := "reconBreaks", fn := fun _ => fun
  | [d1, d2] => { results := [.lit (.bool false)], args := [d1, d2] }
  | _ => none }
def ReconBreaksWrongFalsely : Prop := reconBreaksRow.holds Try.pinned (OpenSpec.ofChange reconBreaksWrong)

/- THE SECOND FORM. 'bulk': how many values and letters a reading holds, each counted each time it is reached (what is shared counts as often as it is met; a slice's spare places count too). A statement '..UptoSaid' is the law's where the arguments, and the package variables that the reading takes, are together of bulk at most 1048576: NARROWER than '..Said'. Prove '..Said' where nothing that the law and all that it calls make is longer than what came in: it says more and counts as full. Else prove '..UptoSaid'. A law counts once. -/
mutual
def uptoBulk {H : Type} : DataW H → Nat
  | .lit (.string bytes) => bytes.length + 1
  | .lit _ => 1
  | .nil => 1
  | .ptr d => uptoBulk d + 1
  | .slice elems spare => uptoBulkAll elems + uptoBulkAll spare + 1
  | .agg parts => uptoBulkAll parts + 1
  | .iface _ d => uptoBulk d + 1
  | .map entries => uptoBulkEntries entries + 1
  | .held _ => 1
def uptoBulkAll {H : Type} : List (DataW H) → Nat
  | [] => 0
  | d :: r => uptoBulk d + uptoBulkAll r
def uptoBulkEntries {H : Type} : List (Lit × DataW H) → Nat
  | [] => 0
  | x :: r => uptoBulkEntry x + uptoBulkEntries r
def uptoBulkEntry {H : Type} : Lit × DataW H → Nat
  | (.string bytes, d) => bytes.length + uptoBulk d + 1
  | (_, d) => uptoBulk d + 1
 end
def uptoSmall : (H : Type) → List (DataW H) → Bool := fun _ ds => decide (uptoBulkAll ds ≤ 1048576)
def OpenSpec.upto (s : _root_.Go.ChangeSpec) : _root_.Go.OpenSpec := { _root_.Go.OpenSpec.ofChange s with cond := some uptoSmall }

/-- 'clevislaw27.SettleTells', WHERE WHAT IT READS IS OF BULK AT MOST 1048576: true; the input reads as it did. -/
def settleTellsUptoRow : OpenClaim := { program := "ytkaglgcglbkdhaa", sum := "8a11db4f1b4a71b8695486a396a912f857b62af09d1c3ef6655734bb07d389e4", func := "clevis/clevislaw27.SettleTells", spec := "settleTells", inPlace := ["math/bits.Add64", "slices.overlaps[clevis/table.Row[string, int64]]"], unfollowed := true, recurses := true, named := ["math/bits.divideError", "math/bits.overflowError"], apart := false, narrowed := true }
def SettleTellsUptoSaid : Prop := settleTellsUptoRow.holds Try.pinned (OpenSpec.upto settleTellsSpec)

/-- 'clevislaw26.ReconNets', WHERE WHAT IT READS IS OF BULK AT MOST 1048576: true; the input reads as it did. -/
def reconNetsUptoRow : OpenClaim := { program := "ytkaglgcglbkdhaa", sum := "8a11db4f1b4a71b8695486a396a912f857b62af09d1c3ef6655734bb07d389e4", func := "clevis/clevislaw26.ReconNets", spec := "reconNets", inPlace := ["math/bits.Add64", "slices.overlaps[clevis/table.Row[string, clevis/fixed.Wide]]", "slices.overlaps[clevis/table.Row[string, int64]]"], unfollowed := true, recurses := true, apart := false, narrowed := true }
def ReconNetsUptoSaid : Prop := reconNetsUptoRow.holds Try.pinned (OpenSpec.upto reconNetsSpec)

/-- 'clevislaw26.ReconBreaks', WHERE WHAT IT READS IS OF BULK AT MOST 1048576: true; the input reads as it did. -/
def reconBreaksUptoRow : OpenClaim := { program := "ytkaglgcglbkdhaa", sum := "8a11db4f1b4a71b8695486a396a912f857b62af09d1c3ef6655734bb07d389e4", func := "clevis/clevislaw26.ReconBreaks", spec := "reconBreaks", inPlace := ["slices.overlaps[clevis/table.Row[string, clevis/fixed.Wide]]", "math/bits.Add64"], unfollowed := true, recurses := true, apart := false, narrowed := true }
def ReconBreaksUptoSaid : Prop := reconBreaksUptoRow.holds Try.pinned (OpenSpec.upto reconBreaksSpec)

end Rows
end Go.Proofs.Ytkaglgcglbkdhaa
