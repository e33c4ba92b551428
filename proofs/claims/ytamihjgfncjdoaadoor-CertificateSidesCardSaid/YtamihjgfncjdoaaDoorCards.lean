/-
  DERIVED. GIVEN WITH THE SEED: THE CARDS: each row of YtamihjgfncjdoaaDoorRows.lean that lists a variable, with what it lists TIED to the program's text (the seventh form; the later family's looks); each row that meets fmt, with fmt's text TOLD by the authors' own Lean function (tested against real Go, not proved from fmt's source: count such statements apart). THE CARD IS WHAT COUNTS. Prove the row's statement (the work); the ties are given (YtamihjgfncjdoaaDoorTie.lean); close each card by the builder's one call (the guide's Derived/Test/ToyasCard.lean, 'card_holds'). Laid BY PROGRAM, IN A SANDBOX (cutbox-door.mjs). By AI agents, Wed Nov 11 2026. No macro, syntax, notation, axiom, sorry.
-/
import Derived.Test.YtamihjgfncjdoaaDoorRows
import GoSem.ClaimSeven
namespace Go.Proofs.YtamihjgfncjdoaaDoor
namespace Rows

/-- THE TIED CARD OF 'permitofficelaw34.CertificateSides'. -/
def certificateSidesCard : Claim7 := { stood := { row := certificateSidesRow, standIns := [], harness := (true, "5efbc06018e25fc7f7a5711988f5203dbb3a65fe0f7d6de8fbcda7c9350937ce"), looks := false }, kinds := [], alts := [], laidByText := true, laidKinds := [.data, .data, .data, .data], laidTests := true, laidLooks := .later }
def CertificateSidesCardSaid : Prop := Claim7.holds Tryd.pinned (.plain (OpenSpec.ofChange certificateSidesSpec)) certificateSidesCard

/-- THE SECOND FORM's CARD OF 'permitofficelaw34.CertificateSides'. -/
def certificateSidesUptoCard : Claim7 := { stood := { row := certificateSidesUptoRow, standIns := [], harness := (true, "5efbc06018e25fc7f7a5711988f5203dbb3a65fe0f7d6de8fbcda7c9350937ce"), looks := false }, kinds := [], alts := [], laidByText := true, laidKinds := [.data, .data, .data, .data], laidTests := true, laidLooks := .later }
def CertificateSidesUptoCardSaid : Prop := Claim7.holds Tryd.pinned (.plain (OpenSpec.upto certificateSidesSpec)) certificateSidesUptoCard
end Rows
end Go.Proofs.YtamihjgfncjdoaaDoor
