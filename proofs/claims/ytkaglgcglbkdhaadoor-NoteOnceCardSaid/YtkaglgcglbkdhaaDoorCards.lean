/-
  DERIVED. GIVEN WITH THE SEED: THE CARDS: each row of YtkaglgcglbkdhaaDoorRows.lean that lists a variable, with what it lists TIED to the program's text (the seventh form; the later family's looks); each row that meets fmt, with fmt's text TOLD by the authors' own Lean function (tested against real Go, not proved from fmt's source: count such statements apart). THE CARD IS WHAT COUNTS. Prove the row's statement (the work); the ties are given (YtkaglgcglbkdhaaDoorTie.lean); close each card by the builder's one call (the guide's Derived/Test/ToyasCard.lean, 'card_holds'). Laid BY PROGRAM, IN A SANDBOX (cutbox-door.mjs). By AI agents, Wed Nov 11 2026. No macro, syntax, notation, axiom, sorry.
-/
import Derived.Test.YtkaglgcglbkdhaaDoorRows
import GoSem.ClaimSeven
namespace Go.Proofs.YtkaglgcglbkdhaaDoor
namespace Rows

/-- THE TIED CARD OF 'clevislaw09.NoteChecks'. -/
def noteChecksCard : Claim7 := { stood := { row := noteChecksRow, standIns := [], harness := (true, "4392dc734a854366adb5f6ad72c483d4814e91a41a5565bcc5c40d50f04fbce3"), looks := false }, kinds := [], alts := [], laidByText := true, laidKinds := [.listed, .data], laidTests := true, laidLooks := .later }
def NoteChecksCardSaid : Prop := Claim7.holds Tryd.pinned (.plain (OpenSpec.ofChange noteChecksSpec)) noteChecksCard

/-- THE TIED CARD OF 'clevislaw09.NoteSame'. -/
def noteSameCard : Claim7 := { stood := { row := noteSameRow, standIns := [], harness := (true, "4392dc734a854366adb5f6ad72c483d4814e91a41a5565bcc5c40d50f04fbce3"), looks := false }, kinds := [], alts := [], laidByText := true, laidKinds := [.listed, .data], laidTests := true, laidLooks := .later }
def NoteSameCardSaid : Prop := Claim7.holds Tryd.pinned (.plain (OpenSpec.ofChange noteSameSpec)) noteSameCard

/-- THE TIED CARD OF 'clevislaw09.NoteEncodes'. -/
def noteEncodesCard : Claim7 := { stood := { row := noteEncodesRow, standIns := [], harness := (true, "4392dc734a854366adb5f6ad72c483d4814e91a41a5565bcc5c40d50f04fbce3"), looks := false }, kinds := [], alts := [], laidByText := true, laidKinds := [.listed, .data], laidTests := true, laidLooks := .later }
def NoteEncodesCardSaid : Prop := Claim7.holds Tryd.pinned (.plain (OpenSpec.ofChange noteEncodesSpec)) noteEncodesCard

/-- THE TIED CARD OF 'clevislaw09.NoteOnce'. -/
def noteOnceCard : Claim7 := { stood := { row := noteOnceRow, standIns := [], harness := (true, "4392dc734a854366adb5f6ad72c483d4814e91a41a5565bcc5c40d50f04fbce3"), looks := false }, kinds := [], alts := [], laidByText := true, laidKinds := [.listed, .data], laidTests := true, laidLooks := .later }
def NoteOnceCardSaid : Prop := Claim7.holds Tryd.pinned (.plain (OpenSpec.ofChange noteOnceSpec)) noteOnceCard

/-- THE SECOND FORM's CARD OF 'clevislaw09.NoteChecks'. -/
def noteChecksUptoCard : Claim7 := { stood := { row := noteChecksUptoRow, standIns := [], harness := (true, "4392dc734a854366adb5f6ad72c483d4814e91a41a5565bcc5c40d50f04fbce3"), looks := false }, kinds := [], alts := [], laidByText := true, laidKinds := [.listed, .data], laidTests := true, laidLooks := .later }
def NoteChecksUptoCardSaid : Prop := Claim7.holds Tryd.pinned (.plain (OpenSpec.upto noteChecksSpec)) noteChecksUptoCard

/-- THE SECOND FORM's CARD OF 'clevislaw09.NoteSame'. -/
def noteSameUptoCard : Claim7 := { stood := { row := noteSameUptoRow, standIns := [], harness := (true, "4392dc734a854366adb5f6ad72c483d4814e91a41a5565bcc5c40d50f04fbce3"), looks := false }, kinds := [], alts := [], laidByText := true, laidKinds := [.listed, .data], laidTests := true, laidLooks := .later }
def NoteSameUptoCardSaid : Prop := Claim7.holds Tryd.pinned (.plain (OpenSpec.upto noteSameSpec)) noteSameUptoCard

/-- THE SECOND FORM's CARD OF 'clevislaw09.NoteEncodes'. -/
def noteEncodesUptoCard : Claim7 := { stood := { row := noteEncodesUptoRow, standIns := [], harness := (true, "4392dc734a854366adb5f6ad72c483d4814e91a41a5565bcc5c40d50f04fbce3"), looks := false }, kinds := [], alts := [], laidByText := true, laidKinds := [.listed, .data], laidTests := true, laidLooks := .later }
def NoteEncodesUptoCardSaid : Prop := Claim7.holds Tryd.pinned (.plain (OpenSpec.upto noteEncodesSpec)) noteEncodesUptoCard

/-- THE SECOND FORM's CARD OF 'clevislaw09.NoteOnce'. -/
def noteOnceUptoCard : Claim7 := { stood := { row := noteOnceUptoRow, standIns := [], harness := (true, "4392dc734a854366adb5f6ad72c483d4814e91a41a5565bcc5c40d50f04fbce3"), looks := false }, kinds := [], alts := [], laidByText := true, laidKinds := [.listed, .data], laidTests := true, laidLooks := .later }
def NoteOnceUptoCardSaid : Prop := Claim7.holds Tryd.pinned (.plain (OpenSpec.upto noteOnceSpec)) noteOnceUptoCard
end Rows
end Go.Proofs.YtkaglgcglbkdhaaDoor
