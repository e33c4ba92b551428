/-
  DERIVED. GIVEN WITH THE SEED: THE CARDS: each row of YtggngllfnboehaaGreatDoorRows.lean that lists a variable, with what it lists TIED to the program's text (the seventh form; the later family's looks); each row that meets fmt, with fmt's text TOLD by the authors' own Lean function (tested against real Go, not proved from fmt's source: count such statements apart). THE CARD IS WHAT COUNTS. Prove the row's statement (the work); the ties are given (YtggngllfnboehaaGreatDoorTie.lean); close each card by the builder's one call (the guide's Derived/Test/ToyasCard.lean, 'card_holds'). Laid BY PROGRAM, IN A SANDBOX (cutbox-door.mjs). By AI agents, Wed Nov 11 2026. No macro, syntax, notation, axiom, sorry.
-/
import Derived.Test.YtggngllfnboehaaGreatDoorRows
import GoSem.ClaimSeven
namespace Go.Proofs.YtggngllfnboehaaGreatDoor
namespace Rows

/-- THE TIED CARD OF 'permitofficelaw17.ProgrammeAnswers'. -/
def programmeAnswersCard : Claim7 := { stood := { row := programmeAnswersRow, standIns := [], harness := (true, "24df5950408432c673930b274933de0849d81661957faa99c8582ac23fad591f"), looks := true }, kinds := [], alts := [], laidByText := true, laidKinds := [.data, .data, .data, .data, .data, .widerDeep, .pinned], laidTests := true, laidLooks := .later }
def ProgrammeAnswersCardSaid : Prop := Claim7.holds Tryz.pinned (.plain (OpenSpec.ofChange programmeAnswersSpec)) programmeAnswersCard

/-- THE SECOND FORM's CARD OF 'permitofficelaw17.ProgrammeAnswers'. -/
def programmeAnswersUptoCard : Claim7 := { stood := { row := programmeAnswersUptoRow, standIns := [], harness := (true, "24df5950408432c673930b274933de0849d81661957faa99c8582ac23fad591f"), looks := true }, kinds := [], alts := [], laidByText := true, laidKinds := [.data, .data, .data, .data, .data, .widerDeep, .pinned], laidTests := true, laidLooks := .later }
def ProgrammeAnswersUptoCardSaid : Prop := Claim7.holds Tryz.pinned (.plain (OpenSpec.upto programmeAnswersSpec)) programmeAnswersUptoCard
end Rows
end Go.Proofs.YtggngllfnboehaaGreatDoor
