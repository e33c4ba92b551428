/-
  DERIVED. GIVEN WITH THE SEED: THE CARDS: each row of YtgpglcccjkpmdaaDoorRows.lean that lists a variable, with what it lists TIED to the program's text (the seventh form; the later family's looks); each row that meets fmt, with fmt's text TOLD by the authors' own Lean function (tested against real Go, not proved from fmt's source: count such statements apart). THE CARD IS WHAT COUNTS. Prove the row's statement (the work); the ties are given (YtgpglcccjkpmdaaDoorTie.lean); close each card by the builder's one call (the guide's Derived/Test/ToyasCard.lean, 'card_holds'). Laid BY PROGRAM, IN A SANDBOX (cutbox-door.mjs). By AI agents, Wed Nov 11 2026. No macro, syntax, notation, axiom, sorry.
-/
import Derived.Test.YtgpglcccjkpmdaaDoorRows
import GoSem.ClaimSeven
namespace Go.Proofs.YtgpglcccjkpmdaaDoor
namespace Rows

/-- THE TIED CARD OF 'permitofficelaw10.FieldreportLong'. -/
def fieldreportLongCard : Claim7 := { stood := { row := fieldreportLongRow, standIns := [], harness := (true, "be731bc0a565bba8f5daed02f39ff59707850ad85fe078f42017e2a9a77166e6"), looks := false }, kinds := [], alts := [], laidByText := true, laidKinds := [.data, .data, .data, .data], laidTests := true, laidLooks := .later }
def FieldreportLongCardSaid : Prop := Claim7.holds Tryd.pinned (.plain (OpenSpec.ofChange fieldreportLongSpec)) fieldreportLongCard

/-- THE TIED CARD OF 'permitofficelaw10.FieldreportAnswers'. -/
def fieldreportAnswersCard : Claim7 := { stood := { row := fieldreportAnswersRow, standIns := [], harness := (true, "be731bc0a565bba8f5daed02f39ff59707850ad85fe078f42017e2a9a77166e6"), looks := false }, kinds := [], alts := [], laidByText := true, laidKinds := [.data, .data, .data, .data], laidTests := true, laidLooks := .later }
def FieldreportAnswersCardSaid : Prop := Claim7.holds Tryd.pinned (.plain (OpenSpec.ofChange fieldreportAnswersSpec)) fieldreportAnswersCard

/-- THE TIED CARD OF 'permitofficelaw10.FieldreportReturns'. -/
def fieldreportReturnsCard : Claim7 := { stood := { row := fieldreportReturnsRow, standIns := [], harness := (true, "be731bc0a565bba8f5daed02f39ff59707850ad85fe078f42017e2a9a77166e6"), looks := false }, kinds := [], alts := [], laidByText := true, laidKinds := [.data, .data, .data, .data], laidTests := true, laidLooks := .later }
def FieldreportReturnsCardSaid : Prop := Claim7.holds Tryd.pinned (.plain (OpenSpec.ofChange fieldreportReturnsSpec)) fieldreportReturnsCard

/-- THE TIED CARD OF 'permitofficelaw10.FieldreportBelief'. -/
def fieldreportBeliefCard : Claim7 := { stood := { row := fieldreportBeliefRow, standIns := [], harness := (true, "be731bc0a565bba8f5daed02f39ff59707850ad85fe078f42017e2a9a77166e6"), looks := false }, kinds := [], alts := [], laidByText := true, laidKinds := [.data, .data, .data, .data], laidTests := true, laidLooks := .later }
def FieldreportBeliefCardSaid : Prop := Claim7.holds Tryd.pinned (.plain (OpenSpec.ofChange fieldreportBeliefSpec)) fieldreportBeliefCard

/-- THE SECOND FORM's CARD OF 'permitofficelaw10.FieldreportLong'. -/
def fieldreportLongUptoCard : Claim7 := { stood := { row := fieldreportLongUptoRow, standIns := [], harness := (true, "be731bc0a565bba8f5daed02f39ff59707850ad85fe078f42017e2a9a77166e6"), looks := false }, kinds := [], alts := [], laidByText := true, laidKinds := [.data, .data, .data, .data], laidTests := true, laidLooks := .later }
def FieldreportLongUptoCardSaid : Prop := Claim7.holds Tryd.pinned (.plain (OpenSpec.upto fieldreportLongSpec)) fieldreportLongUptoCard

/-- THE SECOND FORM's CARD OF 'permitofficelaw10.FieldreportAnswers'. -/
def fieldreportAnswersUptoCard : Claim7 := { stood := { row := fieldreportAnswersUptoRow, standIns := [], harness := (true, "be731bc0a565bba8f5daed02f39ff59707850ad85fe078f42017e2a9a77166e6"), looks := false }, kinds := [], alts := [], laidByText := true, laidKinds := [.data, .data, .data, .data], laidTests := true, laidLooks := .later }
def FieldreportAnswersUptoCardSaid : Prop := Claim7.holds Tryd.pinned (.plain (OpenSpec.upto fieldreportAnswersSpec)) fieldreportAnswersUptoCard

/-- THE SECOND FORM's CARD OF 'permitofficelaw10.FieldreportReturns'. -/
def fieldreportReturnsUptoCard : Claim7 := { stood := { row := fieldreportReturnsUptoRow, standIns := [], harness := (true, "be731bc0a565bba8f5daed02f39ff59707850ad85fe078f42017e2a9a77166e6"), looks := false }, kinds := [], alts := [], laidByText := true, laidKinds := [.data, .data, .data, .data], laidTests := true, laidLooks := .later }
def FieldreportReturnsUptoCardSaid : Prop := Claim7.holds Tryd.pinned (.plain (OpenSpec.upto fieldreportReturnsSpec)) fieldreportReturnsUptoCard

/-- THE SECOND FORM's CARD OF 'permitofficelaw10.FieldreportBelief'. -/
def fieldreportBeliefUptoCard : Claim7 := { stood := { row := fieldreportBeliefUptoRow, standIns := [], harness := (true, "be731bc0a565bba8f5daed02f39ff59707850ad85fe078f42017e2a9a77166e6"), looks := false }, kinds := [], alts := [], laidByText := true, laidKinds := [.data, .data, .data, .data], laidTests := true, laidLooks := .later }
def FieldreportBeliefUptoCardSaid : Prop := Claim7.holds Tryd.pinned (.plain (OpenSpec.upto fieldreportBeliefSpec)) fieldreportBeliefUptoCard
end Rows
end Go.Proofs.YtgpglcccjkpmdaaDoor
