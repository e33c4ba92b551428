/-
  DERIVED. GIVEN WITH THE SEED: THE CARDS: each row of YtdejgacclogaiaaDoorRows.lean that lists a variable, with what it lists TIED to the program's text (the seventh form; the later family's looks); each row that meets fmt, with fmt's text TOLD by the authors' own Lean function (tested against real Go, not proved from fmt's source: count such statements apart). THE CARD IS WHAT COUNTS. Prove the row's statement (the work); the ties are given (YtdejgacclogaiaaDoorTie.lean); close each card by the builder's one call (the guide's Derived/Test/ToyasCard.lean, 'card_holds'). Laid BY PROGRAM, IN A SANDBOX (cutbox-door.mjs). By AI agents, Wed Nov 11 2026. No macro, syntax, notation, axiom, sorry.
-/
import Derived.Test.YtdejgacclogaiaaDoorRows
import GoSem.ClaimSeven
namespace Go.Proofs.YtdejgacclogaiaaDoor
namespace Rows

/-- THE TIED CARD OF 'permitofficelaw02.CalendarAnswers'. -/
def calendarAnswersCard : Claim7 := { stood := { row := calendarAnswersRow, standIns := [], harness := (true, "3e622dac2cd3b917d0d807fc1c1e37a3c0e1542dac68792492761bd160643088"), looks := false }, kinds := [], alts := [], laidByText := true, laidKinds := [.data, .data, .data], laidTests := true, laidLooks := .later }
def CalendarAnswersCardSaid : Prop := Claim7.holds Tryd.pinned (.plain (OpenSpec.ofChange calendarAnswersSpec)) calendarAnswersCard

/-- THE TIED CARD OF 'permitofficelaw02.CalendarTexts'. -/
def calendarTextsCard : Claim7 := { stood := { row := calendarTextsRow, standIns := [], harness := (true, "3e622dac2cd3b917d0d807fc1c1e37a3c0e1542dac68792492761bd160643088"), looks := false }, kinds := [], alts := [], laidByText := true, laidKinds := [.data, .data, .data], laidTests := true, laidLooks := .later }
def CalendarTextsCardSaid : Prop := Claim7.holds Tryd.pinned (.plain (OpenSpec.ofChange calendarTextsSpec)) calendarTextsCard

/-- THE TIED CARD OF 'permitofficelaw02.CalendarShifts'. -/
def calendarShiftsCard : Claim7 := { stood := { row := calendarShiftsRow, standIns := [], harness := (true, "3e622dac2cd3b917d0d807fc1c1e37a3c0e1542dac68792492761bd160643088"), looks := false }, kinds := [], alts := [], laidByText := true, laidKinds := [.data, .data, .data], laidTests := true, laidLooks := .later }
def CalendarShiftsCardSaid : Prop := Claim7.holds Tryd.pinned (.plain (OpenSpec.ofChange calendarShiftsSpec)) calendarShiftsCard

/-- THE TIED CARD OF 'permitofficelaw02.CalendarUnion'. -/
def calendarUnionCard : Claim7 := { stood := { row := calendarUnionRow, standIns := [], harness := (true, "3e622dac2cd3b917d0d807fc1c1e37a3c0e1542dac68792492761bd160643088"), looks := false }, kinds := [], alts := [], laidByText := true, laidKinds := [.data, .data, .data], laidTests := true, laidLooks := .later }
def CalendarUnionCardSaid : Prop := Claim7.holds Tryd.pinned (.plain (OpenSpec.ofChange calendarUnionSpec)) calendarUnionCard

/-- THE TIED CARD OF 'permitofficelaw02.CalendarSpans'. -/
def calendarSpansCard : Claim7 := { stood := { row := calendarSpansRow, standIns := [], harness := (true, "3e622dac2cd3b917d0d807fc1c1e37a3c0e1542dac68792492761bd160643088"), looks := false }, kinds := [], alts := [], laidByText := true, laidKinds := [.data, .data, .data], laidTests := true, laidLooks := .later }
def CalendarSpansCardSaid : Prop := Claim7.holds Tryd.pinned (.plain (OpenSpec.ofChange calendarSpansSpec)) calendarSpansCard

/-- THE TIED CARD OF 'permitofficelaw02.CalendarOverlap'. -/
def calendarOverlapCard : Claim7 := { stood := { row := calendarOverlapRow, standIns := [], harness := (true, "3e622dac2cd3b917d0d807fc1c1e37a3c0e1542dac68792492761bd160643088"), looks := false }, kinds := [], alts := [], laidByText := true, laidKinds := [.data, .data, .data], laidTests := true, laidLooks := .later }
def CalendarOverlapCardSaid : Prop := Claim7.holds Tryd.pinned (.plain (OpenSpec.ofChange calendarOverlapSpec)) calendarOverlapCard

/-- THE SECOND FORM's CARD OF 'permitofficelaw02.CalendarAnswers'. -/
def calendarAnswersUptoCard : Claim7 := { stood := { row := calendarAnswersUptoRow, standIns := [], harness := (true, "3e622dac2cd3b917d0d807fc1c1e37a3c0e1542dac68792492761bd160643088"), looks := false }, kinds := [], alts := [], laidByText := true, laidKinds := [.data, .data, .data], laidTests := true, laidLooks := .later }
def CalendarAnswersUptoCardSaid : Prop := Claim7.holds Tryd.pinned (.plain (OpenSpec.upto calendarAnswersSpec)) calendarAnswersUptoCard

/-- THE SECOND FORM's CARD OF 'permitofficelaw02.CalendarTexts'. -/
def calendarTextsUptoCard : Claim7 := { stood := { row := calendarTextsUptoRow, standIns := [], harness := (true, "3e622dac2cd3b917d0d807fc1c1e37a3c0e1542dac68792492761bd160643088"), looks := false }, kinds := [], alts := [], laidByText := true, laidKinds := [.data, .data, .data], laidTests := true, laidLooks := .later }
def CalendarTextsUptoCardSaid : Prop := Claim7.holds Tryd.pinned (.plain (OpenSpec.upto calendarTextsSpec)) calendarTextsUptoCard

/-- THE SECOND FORM's CARD OF 'permitofficelaw02.CalendarShifts'. -/
def calendarShiftsUptoCard : Claim7 := { stood := { row := calendarShiftsUptoRow, standIns := [], harness := (true, "3e622dac2cd3b917d0d807fc1c1e37a3c0e1542dac68792492761bd160643088"), looks := false }, kinds := [], alts := [], laidByText := true, laidKinds := [.data, .data, .data], laidTests := true, laidLooks := .later }
def CalendarShiftsUptoCardSaid : Prop := Claim7.holds Tryd.pinned (.plain (OpenSpec.upto calendarShiftsSpec)) calendarShiftsUptoCard

/-- THE SECOND FORM's CARD OF 'permitofficelaw02.CalendarUnion'. -/
def calendarUnionUptoCard : Claim7 := { stood := { row := calendarUnionUptoRow, standIns := [], harness := (true, "3e622dac2cd3b917d0d807fc1c1e37a3c0e1542dac68792492761bd160643088"), looks := false }, kinds := [], alts := [], laidByText := true, laidKinds := [.data, .data, .data], laidTests := true, laidLooks := .later }
def CalendarUnionUptoCardSaid : Prop := Claim7.holds Tryd.pinned (.plain (OpenSpec.upto calendarUnionSpec)) calendarUnionUptoCard

/-- THE SECOND FORM's CARD OF 'permitofficelaw02.CalendarSpans'. -/
def calendarSpansUptoCard : Claim7 := { stood := { row := calendarSpansUptoRow, standIns := [], harness := (true, "3e622dac2cd3b917d0d807fc1c1e37a3c0e1542dac68792492761bd160643088"), looks := false }, kinds := [], alts := [], laidByText := true, laidKinds := [.data, .data, .data], laidTests := true, laidLooks := .later }
def CalendarSpansUptoCardSaid : Prop := Claim7.holds Tryd.pinned (.plain (OpenSpec.upto calendarSpansSpec)) calendarSpansUptoCard

/-- THE SECOND FORM's CARD OF 'permitofficelaw02.CalendarOverlap'. -/
def calendarOverlapUptoCard : Claim7 := { stood := { row := calendarOverlapUptoRow, standIns := [], harness := (true, "3e622dac2cd3b917d0d807fc1c1e37a3c0e1542dac68792492761bd160643088"), looks := false }, kinds := [], alts := [], laidByText := true, laidKinds := [.data, .data, .data], laidTests := true, laidLooks := .later }
def CalendarOverlapUptoCardSaid : Prop := Claim7.holds Tryd.pinned (.plain (OpenSpec.upto calendarOverlapSpec)) calendarOverlapUptoCard
end Rows
end Go.Proofs.YtdejgacclogaiaaDoor
