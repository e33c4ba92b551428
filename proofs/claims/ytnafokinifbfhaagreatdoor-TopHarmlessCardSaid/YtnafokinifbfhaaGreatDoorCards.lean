/-
  DERIVED. GIVEN WITH THE SEED: THE CARDS: each row of YtnafokinifbfhaaGreatDoorRows.lean that lists a variable, with what it lists TIED to the program's text (the seventh form; the later family's looks); each row that meets fmt, with fmt's text TOLD by the authors' own Lean function (tested against real Go, not proved from fmt's source: count such statements apart). THE CARD IS WHAT COUNTS. Prove the row's statement (the work); the ties are given (YtnafokinifbfhaaGreatDoorTie.lean); close each card by the builder's one call (the guide's Derived/Test/ToyasCard.lean, 'card_holds'). Laid BY PROGRAM, IN A SANDBOX (cutbox-door.mjs). By AI agents, Wed Nov 11 2026. No macro, syntax, notation, axiom, sorry.
-/
import Derived.Test.YtnafokinifbfhaaGreatDoorRows
import GoSem.ClaimSeven
namespace Go.Proofs.YtnafokinifbfhaaGreatDoor
namespace Rows

/-- THE TIED CARD OF 'permitofficetop.TopWorst'. -/
def topWorstCard : Claim7 := { stood := { row := topWorstRow, standIns := [], harness := (true, "35b576c4de05aae436fca13a681680704879526ad0313b32ad983a1202a598cc"), looks := true }, kinds := [], alts := [], laidByText := true, laidKinds := [.data, .data], laidTests := true, laidLooks := .later }
def TopWorstCardSaid : Prop := Claim7.holds Tryz.pinned (.plain (OpenSpec.ofChange topWorstSpec)) topWorstCard

/-- THE TIED CARD OF 'permitofficetop.TopHarmless'. -/
def topHarmlessCard : Claim7 := { stood := { row := topHarmlessRow, standIns := [], harness := (true, "35b576c4de05aae436fca13a681680704879526ad0313b32ad983a1202a598cc"), looks := true }, kinds := [], alts := [], laidByText := true, laidKinds := [.data, .data], laidTests := true, laidLooks := .later }
def TopHarmlessCardSaid : Prop := Claim7.holds Tryz.pinned (.plain (OpenSpec.ofChange topHarmlessSpec)) topHarmlessCard

/-- THE TIED CARD OF 'permitofficetop.TopWays'. -/
def topWaysCard : Claim7 := { stood := { row := topWaysRow, standIns := [], harness := (true, "35b576c4de05aae436fca13a681680704879526ad0313b32ad983a1202a598cc"), looks := true }, kinds := [], alts := [], laidByText := true, laidKinds := [.data, .data], laidTests := true, laidLooks := .later }
def TopWaysCardSaid : Prop := Claim7.holds Tryz.pinned (.plain (OpenSpec.ofChange topWaysSpec)) topWaysCard

/-- THE SECOND FORM's CARD OF 'permitofficetop.TopWorst'. -/
def topWorstUptoCard : Claim7 := { stood := { row := topWorstUptoRow, standIns := [], harness := (true, "35b576c4de05aae436fca13a681680704879526ad0313b32ad983a1202a598cc"), looks := true }, kinds := [], alts := [], laidByText := true, laidKinds := [.data, .data], laidTests := true, laidLooks := .later }
def TopWorstUptoCardSaid : Prop := Claim7.holds Tryz.pinned (.plain (OpenSpec.upto topWorstSpec)) topWorstUptoCard

/-- THE SECOND FORM's CARD OF 'permitofficetop.TopHarmless'. -/
def topHarmlessUptoCard : Claim7 := { stood := { row := topHarmlessUptoRow, standIns := [], harness := (true, "35b576c4de05aae436fca13a681680704879526ad0313b32ad983a1202a598cc"), looks := true }, kinds := [], alts := [], laidByText := true, laidKinds := [.data, .data], laidTests := true, laidLooks := .later }
def TopHarmlessUptoCardSaid : Prop := Claim7.holds Tryz.pinned (.plain (OpenSpec.upto topHarmlessSpec)) topHarmlessUptoCard

/-- THE SECOND FORM's CARD OF 'permitofficetop.TopWays'. -/
def topWaysUptoCard : Claim7 := { stood := { row := topWaysUptoRow, standIns := [], harness := (true, "35b576c4de05aae436fca13a681680704879526ad0313b32ad983a1202a598cc"), looks := true }, kinds := [], alts := [], laidByText := true, laidKinds := [.data, .data], laidTests := true, laidLooks := .later }
def TopWaysUptoCardSaid : Prop := Claim7.holds Tryz.pinned (.plain (OpenSpec.upto topWaysSpec)) topWaysUptoCard
end Rows
end Go.Proofs.YtnafokinifbfhaaGreatDoor
