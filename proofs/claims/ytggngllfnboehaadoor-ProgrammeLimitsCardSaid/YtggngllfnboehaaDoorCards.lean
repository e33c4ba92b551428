/-
  DERIVED. GIVEN WITH THE SEED: THE CARDS: each row of YtggngllfnboehaaDoorRows.lean that lists a variable, with what it lists TIED to the program's text (the seventh form; the later family's looks); each row that meets fmt, with fmt's text TOLD by the authors' own Lean function (tested against real Go, not proved from fmt's source: count such statements apart). THE CARD IS WHAT COUNTS. Prove the row's statement (the work); the ties are given (YtggngllfnboehaaDoorTie.lean); close each card by the builder's one call (the guide's Derived/Test/ToyasCard.lean, 'card_holds'). Laid BY PROGRAM, IN A SANDBOX (cutbox-door.mjs). By AI agents, Wed Nov 11 2026. No macro, syntax, notation, axiom, sorry.
-/
import Derived.Test.YtggngllfnboehaaDoorRows
import GoSem.ClaimSeven
namespace Go.Proofs.YtggngllfnboehaaDoor
namespace Rows

/-- THE TIED CARD OF 'permitofficelaw17.ProgrammeLimits'. -/
def programmeLimitsCard : Claim7 := { stood := { row := programmeLimitsRow, standIns := [], harness := (true, "ce03a4a97553c35801a326978e4caf43ec0b2ffb4d88db5084e6f9c07aa2ba1d"), looks := true }, kinds := [], alts := [], laidByText := true, laidKinds := [.data, .data, .data, .data, .data, .widerDeep, .pinned], laidTests := true, laidLooks := .later }
def ProgrammeLimitsCardSaid : Prop := Claim7.holds Tryd.pinned (.plain (OpenSpec.ofChange programmeLimitsSpec)) programmeLimitsCard

/-- THE TIED CARD OF 'permitofficelaw17.ProgrammeLines'. -/
def programmeLinesCard : Claim7 := { stood := { row := programmeLinesRow, standIns := [], harness := (true, "ce03a4a97553c35801a326978e4caf43ec0b2ffb4d88db5084e6f9c07aa2ba1d"), looks := true }, kinds := [], alts := [], laidByText := true, laidKinds := [.data, .data, .data, .data, .data, .widerDeep, .pinned], laidTests := true, laidLooks := .later }
def ProgrammeLinesCardSaid : Prop := Claim7.holds Tryd.pinned (.plain (OpenSpec.ofChange programmeLinesSpec)) programmeLinesCard

/-- THE TIED CARD OF 'permitofficelaw17.ProgrammeReturns'. -/
def programmeReturnsCard : Claim7 := { stood := { row := programmeReturnsRow, standIns := [], harness := (true, "ce03a4a97553c35801a326978e4caf43ec0b2ffb4d88db5084e6f9c07aa2ba1d"), looks := true }, kinds := [], alts := [], laidByText := true, laidKinds := [.data, .data, .data, .data, .data, .widerDeep, .pinned], laidTests := true, laidLooks := .later }
def ProgrammeReturnsCardSaid : Prop := Claim7.holds Tryd.pinned (.plain (OpenSpec.ofChange programmeReturnsSpec)) programmeReturnsCard

/-- THE SECOND FORM's CARD OF 'permitofficelaw17.ProgrammeLimits'. -/
def programmeLimitsUptoCard : Claim7 := { stood := { row := programmeLimitsUptoRow, standIns := [], harness := (true, "ce03a4a97553c35801a326978e4caf43ec0b2ffb4d88db5084e6f9c07aa2ba1d"), looks := true }, kinds := [], alts := [], laidByText := true, laidKinds := [.data, .data, .data, .data, .data, .widerDeep, .pinned], laidTests := true, laidLooks := .later }
def ProgrammeLimitsUptoCardSaid : Prop := Claim7.holds Tryd.pinned (.plain (OpenSpec.upto programmeLimitsSpec)) programmeLimitsUptoCard

/-- THE SECOND FORM's CARD OF 'permitofficelaw17.ProgrammeLines'. -/
def programmeLinesUptoCard : Claim7 := { stood := { row := programmeLinesUptoRow, standIns := [], harness := (true, "ce03a4a97553c35801a326978e4caf43ec0b2ffb4d88db5084e6f9c07aa2ba1d"), looks := true }, kinds := [], alts := [], laidByText := true, laidKinds := [.data, .data, .data, .data, .data, .widerDeep, .pinned], laidTests := true, laidLooks := .later }
def ProgrammeLinesUptoCardSaid : Prop := Claim7.holds Tryd.pinned (.plain (OpenSpec.upto programmeLinesSpec)) programmeLinesUptoCard

/-- THE SECOND FORM's CARD OF 'permitofficelaw17.ProgrammeReturns'. -/
def programmeReturnsUptoCard : Claim7 := { stood := { row := programmeReturnsUptoRow, standIns := [], harness := (true, "ce03a4a97553c35801a326978e4caf43ec0b2ffb4d88db5084e6f9c07aa2ba1d"), looks := true }, kinds := [], alts := [], laidByText := true, laidKinds := [.data, .data, .data, .data, .data, .widerDeep, .pinned], laidTests := true, laidLooks := .later }
def ProgrammeReturnsUptoCardSaid : Prop := Claim7.holds Tryd.pinned (.plain (OpenSpec.upto programmeReturnsSpec)) programmeReturnsUptoCard
end Rows
end Go.Proofs.YtggngllfnboehaaDoor
