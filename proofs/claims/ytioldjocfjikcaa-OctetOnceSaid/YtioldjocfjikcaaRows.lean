/-
  No cell of these rows narrows 'for every input' (looked for: loops, veiled, ifaces, maps, wideKeys, modest, calm, conditions, laid).
  DERIVED. THE GIVEN ROWS OF THIS SEAT. 12 by the template 'for every input the law returns true; each argument reads behind the call as it read before'; 0 by the template 'total and deterministic' (their statements: YtioldjocfjikcaaTotals.lean).
  GIVEN WITH THE SEED: the statements are not yours to turn. If you find one false, say at which input.
  Laid BY PROGRAM, IN A SANDBOX (cutbox-rows.mjs): the forced cells as the released guide's own fill.sh prints them over the translation 721fd1505d4ce33a… (all of the seat's roots in one cut). By AI agents, Wed Nov 11 2026. No macro, syntax, notation, axiom, sorry.
-/
import Derived.Test.YtioldjocfjikcaaChecked
import GoSem.Claim
import GoSem.ClaimJoined
import GoSem.ClaimMapViews
import Derived.JoinedTies
import Derived.KernelRfl
namespace Go.Proofs.Ytioldjocfjikcaa
/- THE CELL 'sum', in the pinned program and in every row, IS THE sha256 OF THE DUMP (.gsa) THAT YtioldjocfjikcaaProg.lean LOADS. Nothing in Lean hashes anything: it is a label: what it is worth is what the hold of that sum in a sandbox is worth. -/
noncomputable def Try.pinned : Pinned := { name := "ytioldjocfjikcaa", sum := "721fd1505d4ce33a795975f1029b167b50651536e62175a4593fb37912e53ae1", checked := Try.checked }
namespace Rows
def none {H : Type} : Left H := { results := [], args := [] }

/-- 'clevislaw10.StoreRooms': WHATEVER THE INPUT: true; the input reads as it did. -/
def storeRoomsSpec : ChangeSpec := { name := "storeRooms", fn := fun _ => fun
  | [d] => { results := [.lit (.bool true)], args := [d] }
  | _ => none }
def storeRoomsRow : OpenClaim := { program := "ytioldjocfjikcaa", sum := "721fd1505d4ce33a795975f1029b167b50651536e62175a4593fb37912e53ae1", func := "clevis/clevislaw10.StoreRooms", spec := "storeRooms", apart := false }
def StoreRoomsSaid : Prop := storeRoomsRow.holds Try.pinned (OpenSpec.ofChange storeRoomsSpec)

/-- ITS FALSE NEIGHBOUR: 'it returns false'. Refute it at one input. -/
def storeRoomsWrong : ChangeSpec := { name := "storeRooms", fn := fun _ => fun
  | [d] => { results := [.lit (.bool false)], args := [d] }
  | _ => none }
def StoreRoomsWrongFalsely : Prop := storeRoomsRow.holds Try.pinned (OpenSpec.ofChange storeRoomsWrong)

/-- 'clevislaw05.OctetLong': WHATEVER THE INPUT: true; the input reads as it did. -/
def octetLongSpec : ChangeSpec := { name := "octetLong", fn := fun _ => fun
  | [d1, d2] => { results := [.lit (.bool true)], args := [d1, d2] }
  | _ => none }
def octetLongRow : OpenClaim := { program := "ytioldjocfjikcaa", sum := "721fd1505d4ce33a795975f1029b167b50651536e62175a4593fb37912e53ae1", func := "clevis/clevislaw05.OctetLong", spec := "octetLong", unfollowed := true, recurses := true, apart := false }
def OctetLongSaid : Prop := octetLongRow.holds Try.pinned (OpenSpec.ofChange octetLongSpec)

/-- ITS FALSE NEIGHBOUR: 'it returns false'. Refute it at one input. -/
def octetLongWrong : ChangeSpec := { name := "octetLong", fn := fun _ => fun
  | [d1, d2] => { results := [.lit (.bool false)], args := [d1, d2] }
  | _ => none }
def OctetLongWrongFalsely : Prop := octetLongRow.holds Try.pinned (OpenSpec.ofChange octetLongWrong)

/-- 'clevislaw10.StoreDies': WHATEVER THE INPUT: true; the input reads as it did. -/
def storeDiesSpec : ChangeSpec := { name := "storeDies", fn := fun _ => fun
  | [d1, d2, d3] => { results := [.lit (.bool true)], args := [d1, d2, d3] }
  | _ => none }
def storeDiesRow : OpenClaim := { program := "ytioldjocfjikcaa", sum := "721fd1505d4ce33a795975f1029b167b50651536e62175a4593fb37912e53ae1", func := "clevis/clevislaw10.StoreDies", spec := "storeDies", apart := false }
def StoreDiesSaid : Prop := storeDiesRow.holds Try.pinned (OpenSpec.ofChange storeDiesSpec)

/-- ITS FALSE NEIGHBOUR: 'it returns false'. Refute it at one input. -/
def storeDiesWrong : ChangeSpec := { name := "storeDies", fn := fun _ => fun
  | [d1, d2, d3] => { results := [.lit (.bool false)], args := [d1, d2, d3] }
  | _ => none }
def StoreDiesWrongFalsely : Prop := storeDiesRow.holds Try.pinned (OpenSpec.ofChange storeDiesWrong)

/-- 'clevislaw05.OctetOnce': WHATEVER THE INPUT: true; the input reads as it did. -/
def octetOnceSpec : ChangeSpec := { name := "octetOnce", fn := fun _ => fun
  | [d1, d2] => { results := [.lit (.bool true)], args := [d1, d2] }
  | _ => none }
def octetOnceRow : OpenClaim := { program := "ytioldjocfjikcaa", sum := "721fd1505d4ce33a795975f1029b167b50651536e62175a4593fb37912e53ae1", func := "clevis/clevislaw05.OctetOnce", spec := "octetOnce", unfollowed := true, recurses := true, apart := false }
def OctetOnceSaid : Prop := octetOnceRow.holds Try.pinned (OpenSpec.ofChange octetOnceSpec)

/-- ITS FALSE NEIGHBOUR: 'it returns false'. Refute it at one input. -/
def octetOnceWrong : ChangeSpec := { name := "octetOnce", fn := fun _ => fun
  | [d1, d2] => { results := [.lit (.bool false)], args := [d1, d2] }
  | _ => none }
def OctetOnceWrongFalsely : Prop := octetOnceRow.holds Try.pinned (OpenSpec.ofChange octetOnceWrong)

/-- 'clevislaw05.OctetWrites': WHATEVER THE INPUT: true; the input reads as it did. -/
def octetWritesSpec : ChangeSpec := { name := "octetWrites", fn := fun _ => fun
  | [d] => { results := [.lit (.bool true)], args := [d] }
  | _ => none }
def octetWritesRow : OpenClaim := { program := "ytioldjocfjikcaa", sum := "721fd1505d4ce33a795975f1029b167b50651536e62175a4593fb37912e53ae1", func := "clevis/clevislaw05.OctetWrites", spec := "octetWrites", unfollowed := true, recurses := true, apart := false }
def OctetWritesSaid : Prop := octetWritesRow.holds Try.pinned (OpenSpec.ofChange octetWritesSpec)

/-- ITS FALSE NEIGHBOUR: 'it returns false'. Refute it at one input. -/
def octetWritesWrong : ChangeSpec := { name := "octetWrites", fn := fun _ => fun
  | [d] => { results := [.lit (.bool false)], args := [d] }
  | _ => none }
def OctetWritesWrongFalsely : Prop := octetWritesRow.holds Try.pinned (OpenSpec.ofChange octetWritesWrong)

/-- 'clevislaw05.OctetNil': WHATEVER THE INPUT: true; the input reads as it did. -/
def octetNilSpec : ChangeSpec := { name := "octetNil", fn := fun _ => fun
  | [d] => { results := [.lit (.bool true)], args := [d] }
  | _ => none }
def octetNilRow : OpenClaim := { program := "ytioldjocfjikcaa", sum := "721fd1505d4ce33a795975f1029b167b50651536e62175a4593fb37912e53ae1", func := "clevis/clevislaw05.OctetNil", spec := "octetNil", unfollowed := true, recurses := true, apart := false }
def OctetNilSaid : Prop := octetNilRow.holds Try.pinned (OpenSpec.ofChange octetNilSpec)

/-- ITS FALSE NEIGHBOUR: 'it returns false'. Refute it at one input. -/
def octetNilWrong : ChangeSpec := { name := "octetNil", fn := fun _ => fun
  | [d] => { results := [.lit (.bool false)], args := [d] }
  | _ => none }
def OctetNilWrongFalsely : Prop := octetNilRow.holds Try.pinned (OpenSpec.ofChange octetNilWrong)

/-- 'clevislaw03.TableTexts': WHATEVER THE INPUT: true; the input reads as it did. -/
def tableTextsSpec : ChangeSpec := { name := "tableTexts", fn := fun _ => fun
  | [d] => { results := [.lit (.bool true)], args := [d] }
  | _ => none }
def tableTextsRow : OpenClaim := { program := "ytioldjocfjikcaa", sum := "721fd1505d4ce33a795975f1029b167b50651536e62175a4593fb37912e53ae1", func := "clevis/clevislaw03.TableTexts", spec := "tableTexts", inPlace := ["slices.overlaps[clevis/table.Row[string, int]]", "slices.overlaps[clevis/table.Row[int, string]]"], unfollowed := true, recurses := true, apart := false }
def TableTextsSaid : Prop := tableTextsRow.holds Try.pinned (OpenSpec.ofChange tableTextsSpec)

/-- ITS FALSE NEIGHBOUR: 'it returns false'. Refute it at one input. -/
def tableTextsWrong : ChangeSpec := { name := "tableTexts", fn := fun _ => fun
  | [d] => { results := [.lit (.bool false)], args := [d] }
  | _ => none }
def TableTextsWrongFalsely : Prop := tableTextsRow.holds Try.pinned (OpenSpec.ofChange tableTextsWrong)

/-- 'clevislaw03.TableTells': WHATEVER THE INPUT: true; the input reads as it did. -/
def tableTellsSpec : ChangeSpec := { name := "tableTells", fn := fun _ => fun
  | [d1, d2, d3, d4] => { results := [.lit (.bool true)], args := [d1, d2, d3, d4] }
  | _ => none }
def tableTellsRow : OpenClaim := { program := "ytioldjocfjikcaa", sum := "721fd1505d4ce33a795975f1029b167b50651536e62175a4593fb37912e53ae1", func := "clevis/clevislaw03.TableTells", spec := "tableTells", inPlace := ["slices.overlaps[clevis/table.Row[int, int]]", "slices.overlaps[clevis/table.Row[int, string]]"], unfollowed := true, recurses := true, apart := false }
def TableTellsSaid : Prop := tableTellsRow.holds Try.pinned (OpenSpec.ofChange tableTellsSpec)

/-- ITS FALSE NEIGHBOUR: 'it returns false'. Refute it at one input. -/
def tableTellsWrong : ChangeSpec := { name := "tableTells", fn := fun _ => fun
  | [d1, d2, d3, d4] => { results := [.lit (.bool false)], args := [d1, d2, d3, d4] }
  | _ => none }
def TableTellsWrongFalsely : Prop := tableTellsRow.holds Try.pinned (OpenSpec.ofChange tableTellsWrong)

/-- 'clevislaw03.TablePlays': WHATEVER THE INPUT: true; the input reads as it did. -/
def tablePlaysSpec : ChangeSpec := { name := "tablePlays", fn := fun _ => fun
  | [d] => { results := [.lit (.bool true)], args := [d] }
  | _ => none }
def tablePlaysRow : OpenClaim := { program := "ytioldjocfjikcaa", sum := "721fd1505d4ce33a795975f1029b167b50651536e62175a4593fb37912e53ae1", func := "clevis/clevislaw03.TablePlays", spec := "tablePlays", inPlace := ["slices.overlaps[clevis/table.Row[int, int]]", "slices.overlaps[clevis/table.Row[int, string]]"], unfollowed := true, recurses := true, apart := false }
def TablePlaysSaid : Prop := tablePlaysRow.holds Try.pinned (OpenSpec.ofChange tablePlaysSpec)

/-- ITS FALSE NEIGHBOUR: 'it returns false'. Refute it at one input. -/
def tablePlaysWrong : ChangeSpec := { name := "tablePlays", fn := fun _ => fun
  | [d] => { results := [.lit (.bool false)], args := [d] }
  | _ => none }
def TablePlaysWrongFalsely : Prop := tablePlaysRow.holds Try.pinned (OpenSpec.ofChange tablePlaysWrong)

/-- 'clevislaw03.TableMerges': WHATEVER THE INPUT: true; the input reads as it did. -/
def tableMergesSpec : ChangeSpec := { name := "tableMerges", fn := fun _ => fun
  | [d1, d2] => { results := [.lit (.bool true)], args := [d1, d2] }
  | _ => none }
def tableMergesRow : OpenClaim := { program := "ytioldjocfjikcaa", sum := "721fd1505d4ce33a795975f1029b167b50651536e62175a4593fb37912e53ae1", func := "clevis/clevislaw03.TableMerges", spec := "tableMerges", inPlace := ["slices.overlaps[clevis/table.Row[int, int]]", "slices.overlaps[clevis/table.Row[int, string]]"], unfollowed := true, recurses := true, apart := false }
def TableMergesSaid : Prop := tableMergesRow.holds Try.pinned (OpenSpec.ofChange tableMergesSpec)

/-- ITS FALSE NEIGHBOUR: 'it returns false'. Refute it at one input. -/
def tableMergesWrong : ChangeSpec := { name := "tableMerges", fn := fun _ => fun
  | [d1, d2] => { results := [.lit (.bool false)], args := [d1, d2] }
  | _ => none }
def TableMergesWrongFalsely : Prop := tableMergesRow.holds Try.pinned (OpenSpec.ofChange tableMergesWrong)

/-- 'clevislaw03.TableNil': WHATEVER THE INPUT: true; the input reads as it did. -/
def tableNilSpec : ChangeSpec := { name := "tableNil", fn := fun _ => fun
  | [d1, d2] => { results := [.lit (.bool true)], args := [d1, d2] }
  | _ => none }
def tableNilRow : OpenClaim := { program := "ytioldjocfjikcaa", sum := "721fd1505d4ce33a795975f1029b167b50651536e62175a4593fb37912e53ae1", func := "clevis/clevislaw03.TableNil", spec := "tableNil", inPlace := ["slices.overlaps[clevis/table.Row[int, string]]", "slices.overlaps[clevis/table.Row[int, int]]"], unfollowed := true, recurses := true, apart := false }
def TableNilSaid : Prop := tableNilRow.holds Try.pinned (OpenSpec.ofChange tableNilSpec)

/-- ITS FALSE NEIGHBOUR: 'it returns false'. Refute it at one input. -/
def tableNilWrong : ChangeSpec := { name := "tableNil", fn := fun _ => fun
  | [d1, d2] => { results := [.lit (.bool false)], args := [d1, d2] }
  | _ => none }
def TableNilWrongFalsely : Prop := tableNilRow.holds Try.pinned (OpenSpec.ofChange tableNilWrong)

/-- 'clevislaw12.SnapBytes': WHATEVER THE INPUT: true; the input reads as it did. -/
def snapBytesSpec : ChangeSpec := { name := "snapBytes", fn := fun _ => fun
  | [d1, d2] => { results := [.lit (.bool true)], args := [d1, d2] }
  | _ => none }
def snapBytesRow : OpenClaim := { program := "ytioldjocfjikcaa", sum := "721fd1505d4ce33a795975f1029b167b50651536e62175a4593fb37912e53ae1", func := "clevis/clevislaw12.SnapBytes", spec := "snapBytes", unfollowed := true, recurses := true, apart := false }
def SnapBytesSaid : Prop := snapBytesRow.holds Try.pinned (OpenSpec.ofChange snapBytesSpec)

/-- ITS FALSE NEIGHBOUR: 'it returns false'. Refute it at one input. -/
def snapBytesWrong : ChangeSpec := { name := "snapBytes", fn := fun _ => fun
  | [d1, d2] => { results := [.lit (.bool false)], args := [d1, d2] }
  | _ => none }
def SnapBytesWrongFalsely : Prop := snapBytesRow.holds Try.pinned (OpenSpec.ofChange snapBytesWrong)

/- THE SECOND FORM. 'bulk': how many values and letters a reading holds, each counted each time it is reached (what is shared counts as often as it is met; a slice's spare places count too). A statement '..UptoSaid' is the law's where the arguments, and the package variables that the reading takes, are together of bulk at most 1048576: NARROWER than '..Said'. Prove '..Said' where nothing that the law and all that it calls make is longer than what came in: it says more and counts as full. Else prove '..UptoSaid'. A law counts once. -/
mutual
def uptoBulk {H : Type} : DataW H → Nat
  | .lit (.string bytes) => bytes.length + 1
  | .lit _ => 1
  | .nil => 1
  | .ptr d => uptoBulk d + 1
  | .slice elems spare => uptoBulkAll elems + uptoBulkAll spare + 1
  | .agg parts => uptoBulkAll parts + 1
  | .iface _ d => uptoBulk d + 1
  | .map entries => uptoBulkEntries entries + 1
  | .held _ => 1
def uptoBulkAll {H : Type} : List (DataW H) → Nat
  | [] => 0
  | d :: r => uptoBulk d + uptoBulkAll r
def uptoBulkEntries {H : Type} : List (Lit × DataW H) → Nat
  | [] => 0
  | x :: r => uptoBulkEntry x + uptoBulkEntries r
def uptoBulkEntry {H : Type} : Lit × DataW H → Nat
  | (.string bytes, d) => bytes.length + uptoBulk d + 1
  | (_, d) => uptoBulk d + 1
 end
def uptoSmall : (H : Type) → List (DataW H) → Bool := fun _ ds => decide (uptoBulkAll ds ≤ 1048576)
def OpenSpec.upto (s : _root_.Go.ChangeSpec) : _root_.Go.OpenSpec := { _root_.Go.OpenSpec.ofChange s with cond := some uptoSmall }

/-- 'clevislaw10.StoreRooms', WHERE WHAT IT READS IS OF BULK AT MOST 1048576: true; the input reads as it did. -/
def storeRoomsUptoRow : OpenClaim := { program := "ytioldjocfjikcaa", sum := "721fd1505d4ce33a795975f1029b167b50651536e62175a4593fb37912e53ae1", func := "clevis/clevislaw10.StoreRooms", spec := "storeRooms", apart := false, narrowed := true }
def StoreRoomsUptoSaid : Prop := storeRoomsUptoRow.holds Try.pinned (OpenSpec.upto storeRoomsSpec)

/-- 'clevislaw05.OctetLong', WHERE WHAT IT READS IS OF BULK AT MOST 1048576: true; the input reads as it did. -/
def octetLongUptoRow : OpenClaim := { program := "ytioldjocfjikcaa", sum := "721fd1505d4ce33a795975f1029b167b50651536e62175a4593fb37912e53ae1", func := "clevis/clevislaw05.OctetLong", spec := "octetLong", unfollowed := true, recurses := true, apart := false, narrowed := true }
def OctetLongUptoSaid : Prop := octetLongUptoRow.holds Try.pinned (OpenSpec.upto octetLongSpec)

/-- 'clevislaw10.StoreDies', WHERE WHAT IT READS IS OF BULK AT MOST 1048576: true; the input reads as it did. -/
def storeDiesUptoRow : OpenClaim := { program := "ytioldjocfjikcaa", sum := "721fd1505d4ce33a795975f1029b167b50651536e62175a4593fb37912e53ae1", func := "clevis/clevislaw10.StoreDies", spec := "storeDies", apart := false, narrowed := true }
def StoreDiesUptoSaid : Prop := storeDiesUptoRow.holds Try.pinned (OpenSpec.upto storeDiesSpec)

/-- 'clevislaw05.OctetOnce', WHERE WHAT IT READS IS OF BULK AT MOST 1048576: true; the input reads as it did. -/
def octetOnceUptoRow : OpenClaim := { program := "ytioldjocfjikcaa", sum := "721fd1505d4ce33a795975f1029b167b50651536e62175a4593fb37912e53ae1", func := "clevis/clevislaw05.OctetOnce", spec := "octetOnce", unfollowed := true, recurses := true, apart := false, narrowed := true }
def OctetOnceUptoSaid : Prop := octetOnceUptoRow.holds Try.pinned (OpenSpec.upto octetOnceSpec)

/-- 'clevislaw05.OctetWrites', WHERE WHAT IT READS IS OF BULK AT MOST 1048576: true; the input reads as it did. -/
def octetWritesUptoRow : OpenClaim := { program := "ytioldjocfjikcaa", sum := "721fd1505d4ce33a795975f1029b167b50651536e62175a4593fb37912e53ae1", func := "clevis/clevislaw05.OctetWrites", spec := "octetWrites", unfollowed := true, recurses := true, apart := false, narrowed := true }
def OctetWritesUptoSaid : Prop := octetWritesUptoRow.holds Try.pinned (OpenSpec.upto octetWritesSpec)

/-- 'clevislaw05.OctetNil', WHERE WHAT IT READS IS OF BULK AT MOST 1048576: true; the input reads as it did. -/
def octetNilUptoRow : OpenClaim := { program := "ytioldjocfjikcaa", sum := "721fd1505d4ce33a795975f1029b167b50651536e62175a4593fb37912e53ae1", func := "clevis/clevislaw05.OctetNil", spec := "octetNil", unfollowed := true, recurses := true, apart := false, narrowed := true }
def OctetNilUptoSaid : Prop := octetNilUptoRow.holds Try.pinned (OpenSpec.upto octetNilSpec)

/-- 'clevislaw03.TableTexts', WHERE WHAT IT READS IS OF BULK AT MOST 1048576: true; the input reads as it did. -/
def tableTextsUptoRow : OpenClaim := { program := "ytioldjocfjikcaa", sum := "721fd1505d4ce33a795975f1029b167b50651536e62175a4593fb37912e53ae1", func := "clevis/clevislaw03.TableTexts", spec := "tableTexts", inPlace := ["slices.overlaps[clevis/table.Row[string, int]]", "slices.overlaps[clevis/table.Row[int, string]]"], unfollowed := true, recurses := true, apart := false, narrowed := true }
def TableTextsUptoSaid : Prop := tableTextsUptoRow.holds Try.pinned (OpenSpec.upto tableTextsSpec)

/-- 'clevislaw03.TableTells', WHERE WHAT IT READS IS OF BULK AT MOST 1048576: true; the input reads as it did. -/
def tableTellsUptoRow : OpenClaim := { program := "ytioldjocfjikcaa", sum := "721fd1505d4ce33a795975f1029b167b50651536e62175a4593fb37912e53ae1", func := "clevis/clevislaw03.TableTells", spec := "tableTells", inPlace := ["slices.overlaps[clevis/table.Row[int, int]]", "slices.overlaps[clevis/table.Row[int, string]]"], unfollowed := true, recurses := true, apart := false, narrowed := true }
def TableTellsUptoSaid : Prop := tableTellsUptoRow.holds Try.pinned (OpenSpec.upto tableTellsSpec)

/-- 'clevislaw03.TablePlays', WHERE WHAT IT READS IS OF BULK AT MOST 1048576: true; the input reads as it did. -/
def tablePlaysUptoRow : OpenClaim := { program := "ytioldjocfjikcaa", sum := "721fd1505d4ce33a795975f1029b167b50651536e62175a4593fb37912e53ae1", func := "clevis/clevislaw03.TablePlays", spec := "tablePlays", inPlace := ["slices.overlaps[clevis/table.Row[int, int]]", "slices.overlaps[clevis/table.Row[int, string]]"], unfollowed := true, recurses := true, apart := false, narrowed := true }
def TablePlaysUptoSaid : Prop := tablePlaysUptoRow.holds Try.pinned (OpenSpec.upto tablePlaysSpec)

/-- 'clevislaw03.TableMerges', WHERE WHAT IT READS IS OF BULK AT MOST 1048576: true; the input reads as it did. -/
def tableMergesUptoRow : OpenClaim := { program := "ytioldjocfjikcaa", sum := "721fd1505d4ce33a795975f1029b167b50651536e62175a4593fb37912e53ae1", func := "clevis/clevislaw03.TableMerges", spec := "tableMerges", inPlace := ["slices.overlaps[clevis/table.Row[int, int]]", "slices.overlaps[clevis/table.Row[int, string]]"], unfollowed := true, recurses := true, apart := false, narrowed := true }
def TableMergesUptoSaid : Prop := tableMergesUptoRow.holds Try.pinned (OpenSpec.upto tableMergesSpec)

/-- 'clevislaw03.TableNil', WHERE WHAT IT READS IS OF BULK AT MOST 1048576: true; the input reads as it did. -/
def tableNilUptoRow : OpenClaim := { program := "ytioldjocfjikcaa", sum := "721fd1505d4ce33a795975f1029b167b50651536e62175a4593fb37912e53ae1", func := "clevis/clevislaw03.TableNil", spec := "tableNil", inPlace := ["slices.overlaps[clevis/table.Row[int, string]]", "slices.overlaps[clevis/table.Row[int, int]]"], unfollowed := true, recurses := true, apart := false, narrowed := true }
def TableNilUptoSaid : Prop := tableNilUptoRow.holds Try.pinned (OpenSpec.upto tableNilSpec)

/-- 'clevislaw12.SnapBytes', WHERE WHAT IT READS IS OF BULK AT MOST 1048576: true; the input reads as it did. -/
def snapBytesUptoRow : OpenClaim := { program := "ytioldjocfjikcaa", sum := "721fd1505d4ce33a795975f1029b167b50651536e62175a4593fb37912e53ae1", func := "clevis/clevislaw12.SnapBytes", spec := "snapBytes", unfollowed := true, recurses := true, apart := false, narrowed := true }
def SnapBytesUptoSaid : Prop := snapBytesUptoRow.holds Try.pinned (OpenSpec.upto snapBytesSpec)

end Rows
end Go.Proofs.Ytioldjocfjikcaa
