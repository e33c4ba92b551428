/-
  DERIVED. GIVEN WITH THE SEED: THE CARDS: each row of YtblopmoapfcfhaaDoorRows.lean that lists a variable, with what it lists TIED to the program's text (the seventh form; the later family's looks); each row that meets fmt, with fmt's text TOLD by the authors' own Lean function (tested against real Go, not proved from fmt's source: count such statements apart). THE CARD IS WHAT COUNTS. Prove the row's statement (the work); the ties are given (YtblopmoapfcfhaaDoorTie.lean); close each card by the builder's one call (the guide's Derived/Test/ToyasCard.lean, 'card_holds'). Laid BY PROGRAM, IN A SANDBOX (cutbox-door.mjs). By AI agents, Wed Nov 11 2026. No macro, syntax, notation, axiom, sorry.
-/
import Derived.Test.YtblopmoapfcfhaaDoorRows
import GoSem.ClaimSeven
namespace Go.Proofs.YtblopmoapfcfhaaDoor
namespace Rows

/-- THE TIED CARD OF 'permitofficelaw01.LexemeNames'. -/
def lexemeNamesCard : Claim7 := { stood := { row := lexemeNamesRow, standIns := [], harness := (true, "cc66c2df6c6abe8e89adcb24d3b11e15c0cc5ce13e7bfa44ddbef5db2c369c2e"), looks := false }, kinds := [], alts := [], laidByText := true, laidKinds := [.data, .data, .data, .data], laidTests := true, laidLooks := .later }
def LexemeNamesCardSaid : Prop := Claim7.holds Tryd.pinned (.plain (OpenSpec.ofChange lexemeNamesSpec)) lexemeNamesCard

/-- THE TIED CARD OF 'permitofficelaw01.LexemeNumbers'. -/
def lexemeNumbersCard : Claim7 := { stood := { row := lexemeNumbersRow, standIns := [], harness := (true, "cc66c2df6c6abe8e89adcb24d3b11e15c0cc5ce13e7bfa44ddbef5db2c369c2e"), looks := false }, kinds := [], alts := [], laidByText := true, laidKinds := [.data, .data, .data, .data], laidTests := true, laidLooks := .later }
def LexemeNumbersCardSaid : Prop := Claim7.holds Tryd.pinned (.plain (OpenSpec.ofChange lexemeNumbersSpec)) lexemeNumbersCard

/-- THE TIED CARD OF 'permitofficelaw01.LexemeLong'. -/
def lexemeLongCard : Claim7 := { stood := { row := lexemeLongRow, standIns := [], harness := (true, "cc66c2df6c6abe8e89adcb24d3b11e15c0cc5ce13e7bfa44ddbef5db2c369c2e"), looks := false }, kinds := [], alts := [], laidByText := true, laidKinds := [.data, .data, .data, .data, .data, .pinned], laidTests := true, laidLooks := .later }
def LexemeLongCardSaid : Prop := Claim7.holds Tryd.pinned (.plain (OpenSpec.ofChange lexemeLongSpec)) lexemeLongCard

/-- THE TIED CARD OF 'permitofficelaw01.LexemeAnswers'. -/
def lexemeAnswersCard : Claim7 := { stood := { row := lexemeAnswersRow, standIns := [], harness := (true, "cc66c2df6c6abe8e89adcb24d3b11e15c0cc5ce13e7bfa44ddbef5db2c369c2e"), looks := false }, kinds := [], alts := [], laidByText := true, laidKinds := [.data, .data, .data, .data, .data, .pinned], laidTests := true, laidLooks := .later }
def LexemeAnswersCardSaid : Prop := Claim7.holds Tryd.pinned (.plain (OpenSpec.ofChange lexemeAnswersSpec)) lexemeAnswersCard

/-- THE TIED CARD OF 'permitofficelaw01.LexemeLines'. -/
def lexemeLinesCard : Claim7 := { stood := { row := lexemeLinesRow, standIns := [], harness := (true, "cc66c2df6c6abe8e89adcb24d3b11e15c0cc5ce13e7bfa44ddbef5db2c369c2e"), looks := false }, kinds := [], alts := [], laidByText := true, laidKinds := [.data, .data, .data, .data, .data, .pinned], laidTests := true, laidLooks := .later }
def LexemeLinesCardSaid : Prop := Claim7.holds Tryd.pinned (.plain (OpenSpec.ofChange lexemeLinesSpec)) lexemeLinesCard

/-- THE SECOND FORM's CARD OF 'permitofficelaw01.LexemeNames'. -/
def lexemeNamesUptoCard : Claim7 := { stood := { row := lexemeNamesUptoRow, standIns := [], harness := (true, "cc66c2df6c6abe8e89adcb24d3b11e15c0cc5ce13e7bfa44ddbef5db2c369c2e"), looks := false }, kinds := [], alts := [], laidByText := true, laidKinds := [.data, .data, .data, .data], laidTests := true, laidLooks := .later }
def LexemeNamesUptoCardSaid : Prop := Claim7.holds Tryd.pinned (.plain (OpenSpec.upto lexemeNamesSpec)) lexemeNamesUptoCard

/-- THE SECOND FORM's CARD OF 'permitofficelaw01.LexemeNumbers'. -/
def lexemeNumbersUptoCard : Claim7 := { stood := { row := lexemeNumbersUptoRow, standIns := [], harness := (true, "cc66c2df6c6abe8e89adcb24d3b11e15c0cc5ce13e7bfa44ddbef5db2c369c2e"), looks := false }, kinds := [], alts := [], laidByText := true, laidKinds := [.data, .data, .data, .data], laidTests := true, laidLooks := .later }
def LexemeNumbersUptoCardSaid : Prop := Claim7.holds Tryd.pinned (.plain (OpenSpec.upto lexemeNumbersSpec)) lexemeNumbersUptoCard

/-- THE SECOND FORM's CARD OF 'permitofficelaw01.LexemeLong'. -/
def lexemeLongUptoCard : Claim7 := { stood := { row := lexemeLongUptoRow, standIns := [], harness := (true, "cc66c2df6c6abe8e89adcb24d3b11e15c0cc5ce13e7bfa44ddbef5db2c369c2e"), looks := false }, kinds := [], alts := [], laidByText := true, laidKinds := [.data, .data, .data, .data, .data, .pinned], laidTests := true, laidLooks := .later }
def LexemeLongUptoCardSaid : Prop := Claim7.holds Tryd.pinned (.plain (OpenSpec.upto lexemeLongSpec)) lexemeLongUptoCard

/-- THE SECOND FORM's CARD OF 'permitofficelaw01.LexemeAnswers'. -/
def lexemeAnswersUptoCard : Claim7 := { stood := { row := lexemeAnswersUptoRow, standIns := [], harness := (true, "cc66c2df6c6abe8e89adcb24d3b11e15c0cc5ce13e7bfa44ddbef5db2c369c2e"), looks := false }, kinds := [], alts := [], laidByText := true, laidKinds := [.data, .data, .data, .data, .data, .pinned], laidTests := true, laidLooks := .later }
def LexemeAnswersUptoCardSaid : Prop := Claim7.holds Tryd.pinned (.plain (OpenSpec.upto lexemeAnswersSpec)) lexemeAnswersUptoCard

/-- THE SECOND FORM's CARD OF 'permitofficelaw01.LexemeLines'. -/
def lexemeLinesUptoCard : Claim7 := { stood := { row := lexemeLinesUptoRow, standIns := [], harness := (true, "cc66c2df6c6abe8e89adcb24d3b11e15c0cc5ce13e7bfa44ddbef5db2c369c2e"), looks := false }, kinds := [], alts := [], laidByText := true, laidKinds := [.data, .data, .data, .data, .data, .pinned], laidTests := true, laidLooks := .later }
def LexemeLinesUptoCardSaid : Prop := Claim7.holds Tryd.pinned (.plain (OpenSpec.upto lexemeLinesSpec)) lexemeLinesUptoCard
end Rows
end Go.Proofs.YtblopmoapfcfhaaDoor
