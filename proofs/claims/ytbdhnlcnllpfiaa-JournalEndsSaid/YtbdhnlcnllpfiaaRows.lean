/-
  No cell of these rows narrows 'for every input' (looked for: loops, veiled, ifaces, maps, wideKeys, modest, calm, conditions, laid).
  DERIVED. THE GIVEN ROWS OF THIS SEAT. 8 by the template 'for every input the law returns true; each argument reads behind the call as it read before'; 0 by the template 'total and deterministic' (their statements: YtbdhnlcnllpfiaaTotals.lean).
  GIVEN WITH THE SEED: the statements are not yours to turn. If you find one false, say at which input.
  Laid BY PROGRAM, IN A SANDBOX (cutbox-rows.mjs): the forced cells as the released guide's own fill.sh prints them over the translation ecc8dd7eb6d543a4… (all of the seat's roots in one cut). By AI agents, Wed Nov 11 2026. No macro, syntax, notation, axiom, sorry.
-/
import Derived.Test.YtbdhnlcnllpfiaaChecked
import GoSem.Claim
import GoSem.ClaimJoined
import GoSem.ClaimMapViews
import Derived.JoinedTies
import Derived.KernelRfl
namespace Go.Proofs.Ytbdhnlcnllpfiaa
/- THE CELL 'sum', in the pinned program and in every row, IS THE sha256 OF THE DUMP (.gsa) THAT YtbdhnlcnllpfiaaProg.lean LOADS. Nothing in Lean hashes anything: it is a label: what it is worth is what the hold of that sum in a sandbox is worth. -/
noncomputable def Try.pinned : Pinned := { name := "ytbdhnlcnllpfiaa", sum := "ecc8dd7eb6d543a4bc63ba9724eae40f69b329754067d9f5b72b98c943e8ca90", checked := Try.checked }
namespace Rows
def none {H : Type} : Left H := { results := [], args := [] }

/-- 'clevislaw12.SnapLong': WHATEVER THE INPUT: true; the input reads as it did. -/
def snapLongSpec : ChangeSpec := { name := "snapLong", fn := fun _ => fun
  | [d1, d2] => { results := [.lit (.bool true)], args := [d1, d2] }
  | _ => none }
def snapLongRow : OpenClaim := { program := "ytbdhnlcnllpfiaa", sum := "ecc8dd7eb6d543a4bc63ba9724eae40f69b329754067d9f5b72b98c943e8ca90", func := "clevis/clevislaw12.SnapLong", spec := "snapLong", unfollowed := true, recurses := true, apart := false }
def SnapLongSaid : Prop := snapLongRow.holds Try.pinned (OpenSpec.ofChange snapLongSpec)

/-- ITS FALSE NEIGHBOUR: 'it returns false'. Refute it at one input. -/
def snapLongWrong : ChangeSpec := { name := "snapLong", fn := fun _ => fun
  | [d1, d2] => { results := [.lit (.bool false)], args := [d1, d2] }
  | _ => none }
def SnapLongWrongFalsely : Prop := snapLongRow.holds Try.pinned (OpenSpec.ofChange snapLongWrong)

/-- 'clevislaw12.SnapEnds': WHATEVER THE INPUT: true; the input reads as it did. -/
def snapEndsSpec : ChangeSpec := { name := "snapEnds", fn := fun _ => fun
  | [d1, d2, d3] => { results := [.lit (.bool true)], args := [d1, d2, d3] }
  | _ => none }
def snapEndsRow : OpenClaim := { program := "ytbdhnlcnllpfiaa", sum := "ecc8dd7eb6d543a4bc63ba9724eae40f69b329754067d9f5b72b98c943e8ca90", func := "clevis/clevislaw12.SnapEnds", spec := "snapEnds", unfollowed := true, recurses := true, apart := false }
def SnapEndsSaid : Prop := snapEndsRow.holds Try.pinned (OpenSpec.ofChange snapEndsSpec)

/-- ITS FALSE NEIGHBOUR: 'it returns false'. Refute it at one input. -/
def snapEndsWrong : ChangeSpec := { name := "snapEnds", fn := fun _ => fun
  | [d1, d2, d3] => { results := [.lit (.bool false)], args := [d1, d2, d3] }
  | _ => none }
def SnapEndsWrongFalsely : Prop := snapEndsRow.holds Try.pinned (OpenSpec.ofChange snapEndsWrong)

/-- 'clevislaw12.SnapSaves': WHATEVER THE INPUT: true; the input reads as it did. -/
def snapSavesSpec : ChangeSpec := { name := "snapSaves", fn := fun _ => fun
  | [d1, d2, d3] => { results := [.lit (.bool true)], args := [d1, d2, d3] }
  | _ => none }
def snapSavesRow : OpenClaim := { program := "ytbdhnlcnllpfiaa", sum := "ecc8dd7eb6d543a4bc63ba9724eae40f69b329754067d9f5b72b98c943e8ca90", func := "clevis/clevislaw12.SnapSaves", spec := "snapSaves", unfollowed := true, recurses := true, apart := false }
def SnapSavesSaid : Prop := snapSavesRow.holds Try.pinned (OpenSpec.ofChange snapSavesSpec)

/-- ITS FALSE NEIGHBOUR: 'it returns false'. Refute it at one input. -/
def snapSavesWrong : ChangeSpec := { name := "snapSaves", fn := fun _ => fun
  | [d1, d2, d3] => { results := [.lit (.bool false)], args := [d1, d2, d3] }
  | _ => none }
def SnapSavesWrongFalsely : Prop := snapSavesRow.holds Try.pinned (OpenSpec.ofChange snapSavesWrong)

/-- 'clevislaw15.PipeBytes': WHATEVER THE INPUT: true; the input reads as it did. -/
def pipeBytesSpec : ChangeSpec := { name := "pipeBytes", fn := fun _ => fun
  | [d1, d2] => { results := [.lit (.bool true)], args := [d1, d2] }
  | _ => none }
def pipeBytesRow : OpenClaim := { program := "ytbdhnlcnllpfiaa", sum := "ecc8dd7eb6d543a4bc63ba9724eae40f69b329754067d9f5b72b98c943e8ca90", func := "clevis/clevislaw15.PipeBytes", spec := "pipeBytes", inPlace := ["slices.overlaps[clevis/table.Row[int, []byte]]"], unfollowed := true, recurses := true, apart := false }
def PipeBytesSaid : Prop := pipeBytesRow.holds Try.pinned (OpenSpec.ofChange pipeBytesSpec)

/-- ITS FALSE NEIGHBOUR: 'it returns false'. Refute it at one input. -/
def pipeBytesWrong : ChangeSpec := { name := "pipeBytes", fn := fun _ => fun
  | [d1, d2] => { results := [.lit (.bool false)], args := [d1, d2] }
  | _ => none }
def PipeBytesWrongFalsely : Prop := pipeBytesRow.holds Try.pinned (OpenSpec.ofChange pipeBytesWrong)

/-- 'clevislaw11.JournalNil': WHATEVER THE INPUT: true; the input reads as it did. -/
def journalNilSpec : ChangeSpec := { name := "journalNil", fn := fun _ => fun
  | [d1, d2] => { results := [.lit (.bool true)], args := [d1, d2] }
  | _ => none }
def journalNilRow : OpenClaim := { program := "ytbdhnlcnllpfiaa", sum := "ecc8dd7eb6d543a4bc63ba9724eae40f69b329754067d9f5b72b98c943e8ca90", func := "clevis/clevislaw11.JournalNil", spec := "journalNil", inPlace := ["slices.overlaps[clevis/table.Row[int, []byte]]"], unfollowed := true, recurses := true, apart := false }
def JournalNilSaid : Prop := journalNilRow.holds Try.pinned (OpenSpec.ofChange journalNilSpec)

/-- ITS FALSE NEIGHBOUR: 'it returns false'. Refute it at one input. -/
def journalNilWrong : ChangeSpec := { name := "journalNil", fn := fun _ => fun
  | [d1, d2] => { results := [.lit (.bool false)], args := [d1, d2] }
  | _ => none }
def JournalNilWrongFalsely : Prop := journalNilRow.holds Try.pinned (OpenSpec.ofChange journalNilWrong)

/-- 'clevislaw11.JournalOpens': WHATEVER THE INPUT: true; the input reads as it did. -/
def journalOpensSpec : ChangeSpec := { name := "journalOpens", fn := fun _ => fun
  | [d1, d2] => { results := [.lit (.bool true)], args := [d1, d2] }
  | _ => none }
def journalOpensRow : OpenClaim := { program := "ytbdhnlcnllpfiaa", sum := "ecc8dd7eb6d543a4bc63ba9724eae40f69b329754067d9f5b72b98c943e8ca90", func := "clevis/clevislaw11.JournalOpens", spec := "journalOpens", inPlace := ["slices.overlaps[clevis/table.Row[int, []byte]]"], unfollowed := true, recurses := true, apart := false }
def JournalOpensSaid : Prop := journalOpensRow.holds Try.pinned (OpenSpec.ofChange journalOpensSpec)

/-- ITS FALSE NEIGHBOUR: 'it returns false'. Refute it at one input. -/
def journalOpensWrong : ChangeSpec := { name := "journalOpens", fn := fun _ => fun
  | [d1, d2] => { results := [.lit (.bool false)], args := [d1, d2] }
  | _ => none }
def JournalOpensWrongFalsely : Prop := journalOpensRow.holds Try.pinned (OpenSpec.ofChange journalOpensWrong)

/-- 'clevislaw11.JournalEnds': WHATEVER THE INPUT: true; the input reads as it did. -/
def journalEndsSpec : ChangeSpec := { name := "journalEnds", fn := fun _ => fun
  | [d1, d2, d3, d4, d5] => { results := [.lit (.bool true)], args := [d1, d2, d3, d4, d5] }
  | _ => none }
def journalEndsRow : OpenClaim := { program := "ytbdhnlcnllpfiaa", sum := "ecc8dd7eb6d543a4bc63ba9724eae40f69b329754067d9f5b72b98c943e8ca90", func := "clevis/clevislaw11.JournalEnds", spec := "journalEnds", inPlace := ["slices.overlaps[clevis/table.Row[int, []byte]]"], unfollowed := true, recurses := true, apart := false }
def JournalEndsSaid : Prop := journalEndsRow.holds Try.pinned (OpenSpec.ofChange journalEndsSpec)

/-- ITS FALSE NEIGHBOUR: 'it returns false'. Refute it at one input. -/
def journalEndsWrong : ChangeSpec := { name := "journalEnds", fn := fun _ => fun
  | [d1, d2, d3, d4, d5] => { results := [.lit (.bool false)], args := [d1, d2, d3, d4, d5] }
  | _ => none }
def JournalEndsWrongFalsely : Prop := journalEndsRow.holds Try.pinned (OpenSpec.ofChange journalEndsWrong)

/-- 'clevislaw26.ReconBreaks': WHATEVER THE INPUT: true; the input reads as it did. -/
def reconBreaksSpec : ChangeSpec := { name := "reconBreaks", fn := fun _ => fun
  | [d1, d2] => { results := [.lit (.bool true)], args := [d1, d2] }
  | _ => none }
def reconBreaksRow : OpenClaim := { program := "ytbdhnlcnllpfiaa", sum := "ecc8dd7eb6d543a4bc63ba9724eae40f69b329754067d9f5b72b98c943e8ca90", func := "clevis/clevislaw26.ReconBreaks", spec := "reconBreaks", inPlace := ["slices.overlaps[clevis/table.Row[string, clevis/fixed.Wide]]", "math/bits.Add64"], unfollowed := true, recurses := true, apart := false }
def ReconBreaksSaid : Prop := reconBreaksRow.holds Try.pinned (OpenSpec.ofChange reconBreaksSpec)

/-- ITS FALSE NEIGHBOUR: 'it returns false'. Refute it at one input. -/
def reconBreaksWrong : ChangeSpec := { name := "reconBreaks", fn := fun _ => fun
  | [d1, d2] => { results := [.lit (.bool false)], args := [d1, d2] }
  | _ => none }
def ReconBreaksWrongFalsely : Prop := reconBreaksRow.holds Try.pinned (OpenSpec.ofChange reconBreaksWrong)

/- THE SECOND FORM. 'bulk': how many values and letters a reading holds, each counted each time it is reached (what is shared counts as often as it is met; a slice's spare places count too). A statement '..UptoSaid' is the law's where the arguments, and the package variables that the reading takes, are together of bulk at most 1048576: NARROWER than '..Said'. Prove '..Said' where nothing that the law and all that it calls make is longer than what came in: it says more and counts as full. Else prove '..UptoSaid'. A law counts once. -/
mutual
def uptoBulk {H : Type} : DataW H → Nat
  | .lit (.string bytes) => bytes.length + 1
  | .lit _ => 1
  | .nil => 1
  | .ptr d => uptoBulk d + 1
  | .slice elems spare => uptoBulkAll elems + uptoBulkAll spare + 1
  | .agg parts => uptoBulkAll parts + 1
  | .iface _ d => uptoBulk d + 1
  | .map entries => uptoBulkEntries entries + 1
  | .held _ => 1
def uptoBulkAll {H : Type} : List (DataW H) → Nat
  | [] => 0
  | d :: r => uptoBulk d + uptoBulkAll r
def uptoBulkEntries {H : Type} : List (Lit × DataW H) → Nat
  | [] => 0
  | x :: r => uptoBulkEntry x + uptoBulkEntries r
def uptoBulkEntry {H : Type} : Lit × DataW H → Nat
  | (.string bytes, d) => bytes.length + uptoBulk d + 1
  | (_, d) => uptoBulk d + 1
 end
def uptoSmall : (H : Type) → List (DataW H) → Bool := fun _ ds => decide (uptoBulkAll ds ≤ 1048576)
def OpenSpec.upto (s : _root_.Go.ChangeSpec) : _root_.Go.OpenSpec := { _root_.Go.OpenSpec.ofChange s with cond := some uptoSmall }

/-- 'clevislaw12.SnapLong', WHERE WHAT IT READS IS OF BULK AT MOST 1048576: true; the input reads as it did. -/
def snapLongUptoRow : OpenClaim := { program := "ytbdhnlcnllpfiaa", sum := "ecc8dd7eb6d543a4bc63ba9724eae40f69b329754067d9f5b72b98c943e8ca90", func := "clevis/clevislaw12.SnapLong", spec := "snapLong", unfollowed := true, recurses := true, apart := false, narrowed := true }
def SnapLongUptoSaid : Prop := snapLongUptoRow.holds Try.pinned (OpenSpec.upto snapLongSpec)

/-- 'clevislaw12.SnapEnds', WHERE WHAT IT READS IS OF BULK AT MOST 1048576: true; the input reads as it did. -/
def snapEndsUptoRow : OpenClaim := { program := "ytbdhnlcnllpfiaa", sum := "ecc8dd7eb6d543a4bc63ba9724eae40f69b329754067d9f5b72b98c943e8ca90", func := "clevis/clevislaw12.SnapEnds", spec := "snapEnds", unfollowed := true, recurses := true, apart := false, narrowed := true }
def SnapEndsUptoSaid : Prop := snapEndsUptoRow.holds Try.pinned (OpenSpec.upto snapEndsSpec)

/-- 'clevislaw12.SnapSaves', WHERE WHAT IT READS IS OF BULK AT MOST 1048576: true; the input reads as it did. -/
def snapSavesUptoRow : OpenClaim := { program := "ytbdhnlcnllpfiaa", sum := "ecc8dd7eb6d543a4bc63ba9724eae40f69b329754067d9f5b72b98c943e8ca90", func := "clevis/clevislaw12.SnapSaves", spec := "snapSaves", unfollowed := true, recurses := true, apart := false, narrowed := true }
def SnapSavesUptoSaid : Prop := snapSavesUptoRow.holds Try.pinned (OpenSpec.upto snapSavesSpec)

/-- 'clevislaw15.PipeBytes', WHERE WHAT IT READS IS OF BULK AT MOST 1048576: true; the input reads as it did. -/
def pipeBytesUptoRow : OpenClaim := { program := "ytbdhnlcnllpfiaa", sum := "ecc8dd7eb6d543a4bc63ba9724eae40f69b329754067d9f5b72b98c943e8ca90", func := "clevis/clevislaw15.PipeBytes", spec := "pipeBytes", inPlace := ["slices.overlaps[clevis/table.Row[int, []byte]]"], unfollowed := true, recurses := true, apart := false, narrowed := true }
def PipeBytesUptoSaid : Prop := pipeBytesUptoRow.holds Try.pinned (OpenSpec.upto pipeBytesSpec)

/-- 'clevislaw11.JournalNil', WHERE WHAT IT READS IS OF BULK AT MOST 1048576: true; the input reads as it did. -/
def journalNilUptoRow : OpenClaim := { program := "ytbdhnlcnllpfiaa", sum := "ecc8dd7eb6d543a4bc63ba9724eae40f69b329754067d9f5b72b98c943e8ca90", func := "clevis/clevislaw11.JournalNil", spec := "journalNil", inPlace := ["slices.overlaps[clevis/table.Row[int, []byte]]"], unfollowed := true, recurses := true, apart := false, narrowed := true }
def JournalNilUptoSaid : Prop := journalNilUptoRow.holds Try.pinned (OpenSpec.upto journalNilSpec)

/-- 'clevislaw11.JournalOpens', WHERE WHAT IT READS IS OF BULK AT MOST 1048576: true; the input reads as it did. -/
def journalOpensUptoRow : OpenClaim := { program := "ytbdhnlcnllpfiaa", sum := "ecc8dd7eb6d543a4bc63ba9724eae40f69b329754067d9f5b72b98c943e8ca90", func := "clevis/clevislaw11.JournalOpens", spec := "journalOpens", inPlace := ["slices.overlaps[clevis/table.Row[int, []byte]]"], unfollowed := true, recurses := true, apart := false, narrowed := true }
def JournalOpensUptoSaid : Prop := journalOpensUptoRow.holds Try.pinned (OpenSpec.upto journalOpensSpec)

/-- 'clevislaw11.JournalEnds', WHERE WHAT IT READS IS OF BULK AT MOST 1048576: true; the input reads as it did. -/
def journalEndsUptoRow : OpenClaim := { program := "ytbdhnlcnllpfiaa", sum := "ecc8dd7eb6d543a4bc63ba9724eae40f69b329754067d9f5b72b98c943e8ca90", func := "clevis/clevislaw11.JournalEnds", spec := "journalEnds", inPlace := ["slices.overlaps[clevis/table.Row[int, []byte]]"], unfollowed := true, recurses := true, apart := false, narrowed := true }
def JournalEndsUptoSaid : Prop := journalEndsUptoRow.holds Try.pinned (OpenSpec.upto journalEndsSpec)

/-- 'clevislaw26.ReconBreaks', WHERE WHAT IT READS IS OF BULK AT MOST 1048576: true; the input reads as it did. -/
def reconBreaksUptoRow : OpenClaim := { program := "ytbdhnlcnllpfiaa", sum := "ecc8dd7eb6d543a4bc63ba9724eae40f69b329754067d9f5b72b98c943e8ca90", func := "clevis/clevislaw26.ReconBreaks", spec := "reconBreaks", inPlace := ["slices.overlaps[clevis/table.Row[string, clevis/fixed.Wide]]", "math/bits.Add64"], unfollowed := true, recurses := true, apart := false, narrowed := true }
def ReconBreaksUptoSaid : Prop := reconBreaksUptoRow.holds Try.pinned (OpenSpec.upto reconBreaksSpec)

end Rows
end Go.Proofs.Ytbdhnlcnllpfiaa
