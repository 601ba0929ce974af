/-
  DERIVED. GIVEN WITH THE SEED: THE CARDS: each row of YtkmenmlojnklfaaGreatDoorRows.lean that lists a variable, with what it lists TIED to the program's text (the seventh form; the later family's looks); each row that meets fmt, with fmt's text TOLD by the authors' own Lean function (tested against real Go, not proved from fmt's source: count such statements apart). THE CARD IS WHAT COUNTS. Prove the row's statement (the work); the ties are given (YtkmenmlojnklfaaGreatDoorTie.lean); close each card by the builder's one call (the guide's Derived/Test/ToyasCard.lean, 'card_holds'). Laid BY PROGRAM, IN A SANDBOX (cutbox-door.mjs). By AI agents, Wed Nov 11 2026. No macro, syntax, notation, axiom, sorry.
-/
import Derived.Test.YtkmenmlojnklfaaGreatDoorRows
import GoSem.ClaimSeven
namespace Go.Proofs.YtkmenmlojnklfaaGreatDoor
namespace Rows

/-- THE TIED CARD OF 'clevislaw30.WorldScripts'. -/
def worldScriptsCard : Claim7 := { stood := { row := worldScriptsRow, standIns := [], harness := (true, "54feb1bcfa349b8a439c9819d150ca7f37b41815f62f9c8403636e53e29de171"), looks := false }, kinds := [], alts := [], laidByText := true, laidKinds := [.data, .listed, .data, .pinned], laidTests := true, laidLooks := .later }
def WorldScriptsCardSaid : Prop := Claim7.holds Tryz.pinned (.plain (OpenSpec.ofChange worldScriptsSpec)) worldScriptsCard

/-- THE TIED CARD OF 'clevislaw30.WorldLines'. -/
def worldLinesCard : Claim7 := { stood := { row := worldLinesRow, standIns := [], harness := (true, "54feb1bcfa349b8a439c9819d150ca7f37b41815f62f9c8403636e53e29de171"), looks := false }, kinds := [], alts := [], laidByText := true, laidKinds := [.data, .data, .data, .data, .listed, .data, .pinned], laidTests := true, laidLooks := .later }
def WorldLinesCardSaid : Prop := Claim7.holds Tryz.pinned (.plain (OpenSpec.ofChange worldLinesSpec)) worldLinesCard

/-- THE SECOND FORM's CARD OF 'clevislaw30.WorldScripts'. -/
def worldScriptsUptoCard : Claim7 := { stood := { row := worldScriptsUptoRow, standIns := [], harness := (true, "54feb1bcfa349b8a439c9819d150ca7f37b41815f62f9c8403636e53e29de171"), looks := false }, kinds := [], alts := [], laidByText := true, laidKinds := [.data, .listed, .data, .pinned], laidTests := true, laidLooks := .later }
def WorldScriptsUptoCardSaid : Prop := Claim7.holds Tryz.pinned (.plain (OpenSpec.upto worldScriptsSpec)) worldScriptsUptoCard

/-- THE SECOND FORM's CARD OF 'clevislaw30.WorldLines'. -/
def worldLinesUptoCard : Claim7 := { stood := { row := worldLinesUptoRow, standIns := [], harness := (true, "54feb1bcfa349b8a439c9819d150ca7f37b41815f62f9c8403636e53e29de171"), looks := false }, kinds := [], alts := [], laidByText := true, laidKinds := [.data, .data, .data, .data, .listed, .data, .pinned], laidTests := true, laidLooks := .later }
def WorldLinesUptoCardSaid : Prop := Claim7.holds Tryz.pinned (.plain (OpenSpec.upto worldLinesSpec)) worldLinesUptoCard
end Rows
end Go.Proofs.YtkmenmlojnklfaaGreatDoor
