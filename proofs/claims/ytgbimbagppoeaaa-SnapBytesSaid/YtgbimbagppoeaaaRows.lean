/-
  No cell of these rows narrows 'for every input' (looked for: loops, veiled, ifaces, maps, wideKeys, modest, calm, conditions, laid).
  DERIVED. THE GIVEN ROWS OF THIS SEAT. 9 by the template 'for every input the law returns true; each argument reads behind the call as it read before'; 0 by the template 'total and deterministic' (their statements: YtgbimbagppoeaaaTotals.lean).
  GIVEN WITH THE SEED: the statements are not yours to turn. If you find one false, say at which input.
  Laid BY PROGRAM, IN A SANDBOX (cutbox-rows.mjs): the forced cells as the released guide's own fill.sh prints them over the translation 2e6c1324f908e48c… (all of the seat's roots in one cut). By AI agents, Wed Nov 11 2026. No macro, syntax, notation, axiom, sorry.
-/
import Derived.Test.YtgbimbagppoeaaaChecked
import GoSem.Claim
import GoSem.ClaimJoined
import GoSem.ClaimMapViews
import Derived.JoinedTies
import Derived.KernelRfl
namespace Go.Proofs.Ytgbimbagppoeaaa
/- THE CELL 'sum', in the pinned program and in every row, IS THE sha256 OF THE DUMP (.gsa) THAT YtgbimbagppoeaaaProg.lean LOADS. Nothing in Lean hashes anything: it is a label: what it is worth is what the hold of that sum in a sandbox is worth. -/
noncomputable def Try.pinned : Pinned := { name := "ytgbimbagppoeaaa", sum := "2e6c1324f908e48c1255966e7d3a1754e1f969674121cc47b9688de13643fb49", checked := Try.checked }
namespace Rows
def none {H : Type} : Left H := { results := [], args := [] }

/-- 'clevislaw05.OctetWrites': WHATEVER THE INPUT: true; the input reads as it did. -/
def octetWritesSpec : ChangeSpec := { name := "octetWrites", fn := fun _ => fun
  | [d] => { results := [.lit (.bool true)], args := [d] }
  | _ => none }
def octetWritesRow : OpenClaim := { program := "ytgbimbagppoeaaa", sum := "2e6c1324f908e48c1255966e7d3a1754e1f969674121cc47b9688de13643fb49", func := "clevis/clevislaw05.OctetWrites", spec := "octetWrites", unfollowed := true, recurses := true, apart := false }
def OctetWritesSaid : Prop := octetWritesRow.holds Try.pinned (OpenSpec.ofChange octetWritesSpec)

/-- ITS FALSE NEIGHBOUR: 'it returns false'. Refute it at one input. -/
def octetWritesWrong : ChangeSpec := { name := "octetWrites", fn := fun _ => fun
  | [d] => { results := [.lit (.bool false)], args := [d] }
  | _ => none }
def OctetWritesWrongFalsely : Prop := octetWritesRow.holds Try.pinned (OpenSpec.ofChange octetWritesWrong)

/-- 'clevislaw12.SnapBytes': WHATEVER THE INPUT: true; the input reads as it did. -/
def snapBytesSpec : ChangeSpec := { name := "snapBytes", fn := fun _ => fun
  | [d1, d2] => { results := [.lit (.bool true)], args := [d1, d2] }
  | _ => none }
def snapBytesRow : OpenClaim := { program := "ytgbimbagppoeaaa", sum := "2e6c1324f908e48c1255966e7d3a1754e1f969674121cc47b9688de13643fb49", func := "clevis/clevislaw12.SnapBytes", spec := "snapBytes", unfollowed := true, recurses := true, apart := false }
def SnapBytesSaid : Prop := snapBytesRow.holds Try.pinned (OpenSpec.ofChange snapBytesSpec)

/-- ITS FALSE NEIGHBOUR: 'it returns false'. Refute it at one input. -/
def snapBytesWrong : ChangeSpec := { name := "snapBytes", fn := fun _ => fun
  | [d1, d2] => { results := [.lit (.bool false)], args := [d1, d2] }
  | _ => none }
def SnapBytesWrongFalsely : Prop := snapBytesRow.holds Try.pinned (OpenSpec.ofChange snapBytesWrong)

/-- 'clevislaw23.CallStays': WHATEVER THE INPUT: true; the input reads as it did. -/
def callStaysSpec : ChangeSpec := { name := "callStays", fn := fun _ => fun
  | [d1, d2, d3, d4] => { results := [.lit (.bool true)], args := [d1, d2, d3, d4] }
  | _ => none }
def callStaysRow : OpenClaim := { program := "ytgbimbagppoeaaa", sum := "2e6c1324f908e48c1255966e7d3a1754e1f969674121cc47b9688de13643fb49", func := "clevis/clevislaw23.CallStays", spec := "callStays", inPlace := ["slices.overlaps[clevis/table.Row[string, bool]]"], unfollowed := true, recurses := true, apart := false }
def CallStaysSaid : Prop := callStaysRow.holds Try.pinned (OpenSpec.ofChange callStaysSpec)

/-- ITS FALSE NEIGHBOUR: 'it returns false'. Refute it at one input. -/
def callStaysWrong : ChangeSpec := { name := "callStays", fn := fun _ => fun
  | [d1, d2, d3, d4] => { results := [.lit (.bool false)], args := [d1, d2, d3, d4] }
  | _ => none }
def CallStaysWrongFalsely : Prop := callStaysRow.holds Try.pinned (OpenSpec.ofChange callStaysWrong)

/-- 'clevislaw23.CallPlays': WHATEVER THE INPUT: true; the input reads as it did. -/
def callPlaysSpec : ChangeSpec := { name := "callPlays", fn := fun _ => fun
  | [d1, d2] => { results := [.lit (.bool true)], args := [d1, d2] }
  | _ => none }
def callPlaysRow : OpenClaim := { program := "ytgbimbagppoeaaa", sum := "2e6c1324f908e48c1255966e7d3a1754e1f969674121cc47b9688de13643fb49", func := "clevis/clevislaw23.CallPlays", spec := "callPlays", inPlace := ["slices.overlaps[clevis/table.Row[string, bool]]"], unfollowed := true, recurses := true, apart := false }
def CallPlaysSaid : Prop := callPlaysRow.holds Try.pinned (OpenSpec.ofChange callPlaysSpec)

/-- ITS FALSE NEIGHBOUR: 'it returns false'. Refute it at one input. -/
def callPlaysWrong : ChangeSpec := { name := "callPlays", fn := fun _ => fun
  | [d1, d2] => { results := [.lit (.bool false)], args := [d1, d2] }
  | _ => none }
def CallPlaysWrongFalsely : Prop := callPlaysRow.holds Try.pinned (OpenSpec.ofChange callPlaysWrong)

/-- 'clevislaw26.ReconBreaks': WHATEVER THE INPUT: true; the input reads as it did. -/
def reconBreaksSpec : ChangeSpec := { name := "reconBreaks", fn := fun _ => fun
  | [d1, d2] => { results := [.lit (.bool true)], args := [d1, d2] }
  | _ => none }
def reconBreaksRow : OpenClaim := { program := "ytgbimbagppoeaaa", sum := "2e6c1324f908e48c1255966e7d3a1754e1f969674121cc47b9688de13643fb49", func := "clevis/clevislaw26.ReconBreaks", spec := "reconBreaks", inPlace := ["slices.overlaps[clevis/table.Row[string, clevis/fixed.Wide]]", "math/bits.Add64"], unfollowed := true, recurses := true, apart := false }
def ReconBreaksSaid : Prop := reconBreaksRow.holds Try.pinned (OpenSpec.ofChange reconBreaksSpec)

/-- ITS FALSE NEIGHBOUR: 'it returns false'. Refute it at one input. -/
def reconBreaksWrong : ChangeSpec := { name := "reconBreaks", fn := fun _ => fun
  | [d1, d2] => { results := [.lit (.bool false)], args := [d1, d2] }
  | _ => none }
def ReconBreaksWrongFalsely : Prop := reconBreaksRow.holds Try.pinned (OpenSpec.ofChange reconBreaksWrong)

/-- 'clevislaw15.PipePlays': WHATEVER THE INPUT: true; the input reads as it did. -/
def pipePlaysSpec : ChangeSpec := { name := "pipePlays", fn := fun _ => fun
  | [d1, d2, d3] => { results := [.lit (.bool true)], args := [d1, d2, d3] }
  | _ => none }
def pipePlaysRow : OpenClaim := { program := "ytgbimbagppoeaaa", sum := "2e6c1324f908e48c1255966e7d3a1754e1f969674121cc47b9688de13643fb49", func := "clevis/clevislaw15.PipePlays", spec := "pipePlays", inPlace := ["slices.overlaps[clevis/table.Row[int, []byte]]"], unfollowed := true, recurses := true, apart := false }
def PipePlaysSaid : Prop := pipePlaysRow.holds Try.pinned (OpenSpec.ofChange pipePlaysSpec)

/-- ITS FALSE NEIGHBOUR: 'it returns false'. Refute it at one input. -/
def pipePlaysWrong : ChangeSpec := { name := "pipePlays", fn := fun _ => fun
  | [d1, d2, d3] => { results := [.lit (.bool false)], args := [d1, d2, d3] }
  | _ => none }
def PipePlaysWrongFalsely : Prop := pipePlaysRow.holds Try.pinned (OpenSpec.ofChange pipePlaysWrong)

/-- 'clevislaw15.PipeNil': WHATEVER THE INPUT: true; the input reads as it did. -/
def pipeNilSpec : ChangeSpec := { name := "pipeNil", fn := fun _ => fun
  | [d1, d2] => { results := [.lit (.bool true)], args := [d1, d2] }
  | _ => none }
def pipeNilRow : OpenClaim := { program := "ytgbimbagppoeaaa", sum := "2e6c1324f908e48c1255966e7d3a1754e1f969674121cc47b9688de13643fb49", func := "clevis/clevislaw15.PipeNil", spec := "pipeNil", inPlace := ["slices.overlaps[clevis/table.Row[int, []byte]]"], unfollowed := true, recurses := true, apart := false }
def PipeNilSaid : Prop := pipeNilRow.holds Try.pinned (OpenSpec.ofChange pipeNilSpec)

/-- ITS FALSE NEIGHBOUR: 'it returns false'. Refute it at one input. -/
def pipeNilWrong : ChangeSpec := { name := "pipeNil", fn := fun _ => fun
  | [d1, d2] => { results := [.lit (.bool false)], args := [d1, d2] }
  | _ => none }
def PipeNilWrongFalsely : Prop := pipeNilRow.holds Try.pinned (OpenSpec.ofChange pipeNilWrong)

/-- 'clevislaw10.StorePlays': WHATEVER THE INPUT: true; the input reads as it did. -/
def storePlaysSpec : ChangeSpec := { name := "storePlays", fn := fun _ => fun
  | [d1, d2] => { results := [.lit (.bool true)], args := [d1, d2] }
  | _ => none }
def storePlaysRow : OpenClaim := { program := "ytgbimbagppoeaaa", sum := "2e6c1324f908e48c1255966e7d3a1754e1f969674121cc47b9688de13643fb49", func := "clevis/clevislaw10.StorePlays", spec := "storePlays", unfollowed := true, recurses := true, apart := false }
def StorePlaysSaid : Prop := storePlaysRow.holds Try.pinned (OpenSpec.ofChange storePlaysSpec)

/-- ITS FALSE NEIGHBOUR: 'it returns false'. Refute it at one input. -/
def storePlaysWrong : ChangeSpec := { name := "storePlays", fn := fun _ => fun
  | [d1, d2] => { results := [.lit (.bool false)], args := [d1, d2] }
  | _ => none }
def StorePlaysWrongFalsely : Prop := storePlaysRow.holds Try.pinned (OpenSpec.ofChange storePlaysWrong)

/-- 'clevislaw10.StoreCopies': WHATEVER THE INPUT: true; the input reads as it did. -/
def storeCopiesSpec : ChangeSpec := { name := "storeCopies", fn := fun _ => fun
  | [d1, d2] => { results := [.lit (.bool true)], args := [d1, d2] }
  | _ => none }
def storeCopiesRow : OpenClaim := { program := "ytgbimbagppoeaaa", sum := "2e6c1324f908e48c1255966e7d3a1754e1f969674121cc47b9688de13643fb49", func := "clevis/clevislaw10.StoreCopies", spec := "storeCopies", unfollowed := true, recurses := true, apart := false }
def StoreCopiesSaid : Prop := storeCopiesRow.holds Try.pinned (OpenSpec.ofChange storeCopiesSpec)

/-- ITS FALSE NEIGHBOUR: 'it returns false'. Refute it at one input. -/
def storeCopiesWrong : ChangeSpec := { name := "storeCopies", fn := fun _ => fun
  | [d1, d2] => { results := [.lit (.bool false)], args := [d1, d2] }
  | _ => none }
def StoreCopiesWrongFalsely : Prop := storeCopiesRow.holds Try.pinned (OpenSpec.ofChange storeCopiesWrong)

/- THE SECOND FORM. 'bulk': how many values and letters a reading holds, each counted each time it is reached (what is shared counts as often as it is met; a slice's spare places count too). A statement '..UptoSaid' is the law's where the arguments, and the package variables that the reading takes, are together of bulk at most 1048576: NARROWER than '..Said'. Prove '..Said' where nothing that the law and all that it calls make is longer than what came in: it says more and counts as full. Else prove '..UptoSaid'. A law counts once. -/
mutual
def uptoBulk {H : Type} : DataW H → Nat
  | .lit (.string bytes) => bytes.length + 1
  | .lit _ => 1
  | .nil => 1
  | .ptr d => uptoBulk d + 1
  | .slice elems spare => uptoBulkAll elems + uptoBulkAll spare + 1
  | .agg parts => uptoBulkAll parts + 1
  | .iface _ d => uptoBulk d + 1
  | .map entries => uptoBulkEntries entries + 1
  | .held _ => 1
def uptoBulkAll {H : Type} : List (DataW H) → Nat
  | [] => 0
  | d :: r => uptoBulk d + uptoBulkAll r
def uptoBulkEntries {H : Type} : List (Lit × DataW H) → Nat
  | [] => 0
  | x :: r => uptoBulkEntry x + uptoBulkEntries r
def uptoBulkEntry {H : Type} : Lit × DataW H → Nat
  | (.string bytes, d) => bytes.length + uptoBulk d + 1
  | (_, d) => uptoBulk d + 1
 end
def uptoSmall : (H : Type) → List (DataW H) → Bool := fun _ ds => decide (uptoBulkAll ds ≤ 1048576)
def OpenSpec.upto (s : _root_.Go.ChangeSpec) : _root_.Go.OpenSpec := { _root_.Go.OpenSpec.ofChange s with cond := some uptoSmall }

/-- 'clevislaw05.OctetWrites', WHERE WHAT IT READS IS OF BULK AT MOST 1048576: true; the input reads as it did. -/
def octetWritesUptoRow : OpenClaim := { program := "ytgbimbagppoeaaa", sum := "2e6c1324f908e48c1255966e7d3a1754e1f969674121cc47b9688de13643fb49", func := "clevis/clevislaw05.OctetWrites", spec := "octetWrites", unfollowed := true, recurses := true, apart := false, narrowed := true }
def OctetWritesUptoSaid : Prop := octetWritesUptoRow.holds Try.pinned (OpenSpec.upto octetWritesSpec)

/-- 'clevislaw12.SnapBytes', WHERE WHAT IT READS IS OF BULK AT MOST 1048576: true; the input reads as it did. -/
def snapBytesUptoRow : OpenClaim := { program := "ytgbimbagppoeaaa", sum := "2e6c1324f908e48c1255966e7d3a1754e1f969674121cc47b9688de13643fb49", func := "clevis/clevislaw12.SnapBytes", spec := "snapBytes", unfollowed := true, recurses := true, apart := false, narrowed := true }
def SnapBytesUptoSaid : Prop := snapBytesUptoRow.holds Try.pinned (OpenSpec.upto snapBytesSpec)

/-- 'clevislaw23.CallStays', WHERE WHAT IT READS IS OF BULK AT MOST 1048576: true; the input reads as it did. -/
def callStaysUptoRow : OpenClaim := { program := "ytgbimbagppoeaaa", sum := "2e6c1324f908e48c1255966e7d3a1754e1f969674121cc47b9688de13643fb49", func := "clevis/clevislaw23.CallStays", spec := "callStays", inPlace := ["slices.overlaps[clevis/table.Row[string, bool]]"], unfollowed := true, recurses := true, apart := false, narrowed := true }
def CallStaysUptoSaid : Prop := callStaysUptoRow.holds Try.pinned (OpenSpec.upto callStaysSpec)

/-- 'clevislaw23.CallPlays', WHERE WHAT IT READS IS OF BULK AT MOST 1048576: true; the input reads as it did. -/
def callPlaysUptoRow : OpenClaim := { program := "ytgbimbagppoeaaa", sum := "2e6c1324f908e48c1255966e7d3a1754e1f969674121cc47b9688de13643fb49", func := "clevis/clevislaw23.CallPlays", spec := "callPlays", inPlace := ["slices.overlaps[clevis/table.Row[string, bool]]"], unfollowed := true, recurses := true, apart := false, narrowed := true }
def CallPlaysUptoSaid : Prop := callPlaysUptoRow.holds Try.pinned (OpenSpec.upto callPlaysSpec)

/-- 'clevislaw26.ReconBreaks', WHERE WHAT IT READS IS OF BULK AT MOST 1048576: true; the input reads as it did. -/
def reconBreaksUptoRow : OpenClaim := { program := "ytgbimbagppoeaaa", sum := "2e6c1324f908e48c1255966e7d3a1754e1f969674121cc47b9688de13643fb49", func := "clevis/clevislaw26.ReconBreaks", spec := "reconBreaks", inPlace := ["slices.overlaps[clevis/table.Row[string, clevis/fixed.Wide]]", "math/bits.Add64"], unfollowed := true, recurses := true, apart := false, narrowed := true }
def ReconBreaksUptoSaid : Prop := reconBreaksUptoRow.holds Try.pinned (OpenSpec.upto reconBreaksSpec)

/-- 'clevislaw15.PipePlays', WHERE WHAT IT READS IS OF BULK AT MOST 1048576: true; the input reads as it did. -/
def pipePlaysUptoRow : OpenClaim := { program := "ytgbimbagppoeaaa", sum := "2e6c1324f908e48c1255966e7d3a1754e1f969674121cc47b9688de13643fb49", func := "clevis/clevislaw15.PipePlays", spec := "pipePlays", inPlace := ["slices.overlaps[clevis/table.Row[int, []byte]]"], unfollowed := true, recurses := true, apart := false, narrowed := true }
def PipePlaysUptoSaid : Prop := pipePlaysUptoRow.holds Try.pinned (OpenSpec.upto pipePlaysSpec)

/-- 'clevislaw15.PipeNil', WHERE WHAT IT READS IS OF BULK AT MOST 1048576: true; the input reads as it did. -/
def pipeNilUptoRow : OpenClaim := { program := "ytgbimbagppoeaaa", sum := "2e6c1324f908e48c1255966e7d3a1754e1f969674121cc47b9688de13643fb49", func := "clevis/clevislaw15.PipeNil", spec := "pipeNil", inPlace := ["slices.overlaps[clevis/table.Row[int, []byte]]"], unfollowed := true, recurses := true, apart := false, narrowed := true }
def PipeNilUptoSaid : Prop := pipeNilUptoRow.holds Try.pinned (OpenSpec.upto pipeNilSpec)

/-- 'clevislaw10.StorePlays', WHERE WHAT IT READS IS OF BULK AT MOST 1048576: true; the input reads as it did. -/
def storePlaysUptoRow : OpenClaim := { program := "ytgbimbagppoeaaa", sum := "2e6c1324f908e48c1255966e7d3a1754e1f969674121cc47b9688de13643fb49", func := "clevis/clevislaw10.StorePlays", spec := "storePlays", unfollowed := true, recurses := true, apart := false, narrowed := true }
def StorePlaysUptoSaid : Prop := storePlaysUptoRow.holds Try.pinned (OpenSpec.upto storePlaysSpec)

/-- 'clevislaw10.StoreCopies', WHERE WHAT IT READS IS OF BULK AT MOST 1048576: true; the input reads as it did. -/
def storeCopiesUptoRow : OpenClaim := { program := "ytgbimbagppoeaaa", sum := "2e6c1324f908e48c1255966e7d3a1754e1f969674121cc47b9688de13643fb49", func := "clevis/clevislaw10.StoreCopies", spec := "storeCopies", unfollowed := true, recurses := true, apart := false, narrowed := true }
def StoreCopiesUptoSaid : Prop := storeCopiesUptoRow.holds Try.pinned (OpenSpec.upto storeCopiesSpec)

end Rows
end Go.Proofs.Ytgbimbagppoeaaa
