/-
  DERIVED. GIVEN WITH THE SEED: THE CARDS: each row of YtggagmafkdhjcaaGreatDoorRows.lean that lists a variable, with what it lists TIED to the program's text (the seventh form; the later family's looks); each row that meets fmt, with fmt's text TOLD by the authors' own Lean function (tested against real Go, not proved from fmt's source: count such statements apart). THE CARD IS WHAT COUNTS. Prove the row's statement (the work); the ties are given (YtggagmafkdhjcaaGreatDoorTie.lean); close each card by the builder's one call (the guide's Derived/Test/ToyasCard.lean, 'card_holds'). Laid BY PROGRAM, IN A SANDBOX (cutbox-door.mjs). By AI agents, Wed Nov 11 2026. No macro, syntax, notation, axiom, sorry.
-/
import Derived.Test.YtggagmafkdhjcaaGreatDoorRows
import GoSem.ClaimSeven
namespace Go.Proofs.YtggagmafkdhjcaaGreatDoor
namespace Rows

/-- THE TIED CARD OF 'permitofficelaw05.RegisterTexts'. -/
def registerTextsCard : Claim7 := { stood := { row := registerTextsRow, standIns := [], harness := (true, "078e8060ab37bcd54fe008175246d31c02dfaae7420c5ebcc5ff692c7c17af0d"), looks := false }, kinds := [], alts := [], laidByText := true, laidKinds := [.data, .data, .data, .data, .data, .pinned], laidTests := true, laidLooks := .later }
def RegisterTextsCardSaid : Prop := Claim7.holds Tryz.pinned (.plain (OpenSpec.ofChange registerTextsSpec)) registerTextsCard

/-- THE TIED CARD OF 'permitofficelaw05.RegisterAnswers'. -/
def registerAnswersCard : Claim7 := { stood := { row := registerAnswersRow, standIns := [], harness := (true, "078e8060ab37bcd54fe008175246d31c02dfaae7420c5ebcc5ff692c7c17af0d"), looks := false }, kinds := [], alts := [], laidByText := true, laidKinds := [.data, .data, .data, .data, .data, .pinned], laidTests := true, laidLooks := .later }
def RegisterAnswersCardSaid : Prop := Claim7.holds Tryz.pinned (.plain (OpenSpec.ofChange registerAnswersSpec)) registerAnswersCard

/-- THE SECOND FORM's CARD OF 'permitofficelaw05.RegisterTexts'. -/
def registerTextsUptoCard : Claim7 := { stood := { row := registerTextsUptoRow, standIns := [], harness := (true, "078e8060ab37bcd54fe008175246d31c02dfaae7420c5ebcc5ff692c7c17af0d"), looks := false }, kinds := [], alts := [], laidByText := true, laidKinds := [.data, .data, .data, .data, .data, .pinned], laidTests := true, laidLooks := .later }
def RegisterTextsUptoCardSaid : Prop := Claim7.holds Tryz.pinned (.plain (OpenSpec.upto registerTextsSpec)) registerTextsUptoCard

/-- THE SECOND FORM's CARD OF 'permitofficelaw05.RegisterAnswers'. -/
def registerAnswersUptoCard : Claim7 := { stood := { row := registerAnswersUptoRow, standIns := [], harness := (true, "078e8060ab37bcd54fe008175246d31c02dfaae7420c5ebcc5ff692c7c17af0d"), looks := false }, kinds := [], alts := [], laidByText := true, laidKinds := [.data, .data, .data, .data, .data, .pinned], laidTests := true, laidLooks := .later }
def RegisterAnswersUptoCardSaid : Prop := Claim7.holds Tryz.pinned (.plain (OpenSpec.upto registerAnswersSpec)) registerAnswersUptoCard
end Rows
end Go.Proofs.YtggagmafkdhjcaaGreatDoor
