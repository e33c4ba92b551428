/-
  DERIVED. GIVEN WITH THE SEED: THE CARDS: each row of YthhhpnbnkolgmaaDoorRows.lean that lists a variable, with what it lists TIED to the program's text (the seventh form; the later family's looks); each row that meets fmt, with fmt's text TOLD by the authors' own Lean function (tested against real Go, not proved from fmt's source: count such statements apart). THE CARD IS WHAT COUNTS. Prove the row's statement (the work); the ties are given (YthhhpnbnkolgmaaDoorTie.lean); close each card by the builder's one call (the guide's Derived/Test/ToyasCard.lean, 'card_holds'). Laid BY PROGRAM, IN A SANDBOX (cutbox-door.mjs). By AI agents, Wed Nov 11 2026. No macro, syntax, notation, axiom, sorry.
-/
import Derived.Test.YthhhpnbnkolgmaaDoorRows
import GoSem.ClaimSeven
namespace Go.Proofs.YthhhpnbnkolgmaaDoor
namespace Rows

/-- THE TIED CARD OF 'permitofficelaw34.CertificateTable'. -/
def certificateTableCard : Claim7 := { stood := { row := certificateTableRow, standIns := [], harness := (true, "7a27782e5d80599df51174ea2ea23e97eb028029bdb4a90b095acd5f9f17f7ba"), looks := false }, kinds := [], alts := [], laidByText := true, laidKinds := [.data, .data, .data, .data], laidTests := true, laidLooks := .later }
def CertificateTableCardSaid : Prop := Claim7.holds Tryd.pinned (.plain (OpenSpec.ofChange certificateTableSpec)) certificateTableCard

/-- THE TIED CARD OF 'permitofficelaw34.CertificateOrder'. -/
def certificateOrderCard : Claim7 := { stood := { row := certificateOrderRow, standIns := [], harness := (true, "7a27782e5d80599df51174ea2ea23e97eb028029bdb4a90b095acd5f9f17f7ba"), looks := false }, kinds := [], alts := [], laidByText := true, laidKinds := [.data, .data, .data, .data], laidTests := true, laidLooks := .later }
def CertificateOrderCardSaid : Prop := Claim7.holds Tryd.pinned (.plain (OpenSpec.ofChange certificateOrderSpec)) certificateOrderCard

/-- THE TIED CARD OF 'permitofficelaw34.CertificateSides'. -/
def certificateSidesCard : Claim7 := { stood := { row := certificateSidesRow, standIns := [], harness := (true, "7a27782e5d80599df51174ea2ea23e97eb028029bdb4a90b095acd5f9f17f7ba"), looks := false }, kinds := [], alts := [], laidByText := true, laidKinds := [.data, .data, .data, .data], laidTests := true, laidLooks := .later }
def CertificateSidesCardSaid : Prop := Claim7.holds Tryd.pinned (.plain (OpenSpec.ofChange certificateSidesSpec)) certificateSidesCard

/-- THE SECOND FORM's CARD OF 'permitofficelaw34.CertificateTable'. -/
def certificateTableUptoCard : Claim7 := { stood := { row := certificateTableUptoRow, standIns := [], harness := (true, "7a27782e5d80599df51174ea2ea23e97eb028029bdb4a90b095acd5f9f17f7ba"), looks := false }, kinds := [], alts := [], laidByText := true, laidKinds := [.data, .data, .data, .data], laidTests := true, laidLooks := .later }
def CertificateTableUptoCardSaid : Prop := Claim7.holds Tryd.pinned (.plain (OpenSpec.upto certificateTableSpec)) certificateTableUptoCard

/-- THE SECOND FORM's CARD OF 'permitofficelaw34.CertificateOrder'. -/
def certificateOrderUptoCard : Claim7 := { stood := { row := certificateOrderUptoRow, standIns := [], harness := (true, "7a27782e5d80599df51174ea2ea23e97eb028029bdb4a90b095acd5f9f17f7ba"), looks := false }, kinds := [], alts := [], laidByText := true, laidKinds := [.data, .data, .data, .data], laidTests := true, laidLooks := .later }
def CertificateOrderUptoCardSaid : Prop := Claim7.holds Tryd.pinned (.plain (OpenSpec.upto certificateOrderSpec)) certificateOrderUptoCard

/-- THE SECOND FORM's CARD OF 'permitofficelaw34.CertificateSides'. -/
def certificateSidesUptoCard : Claim7 := { stood := { row := certificateSidesUptoRow, standIns := [], harness := (true, "7a27782e5d80599df51174ea2ea23e97eb028029bdb4a90b095acd5f9f17f7ba"), looks := false }, kinds := [], alts := [], laidByText := true, laidKinds := [.data, .data, .data, .data], laidTests := true, laidLooks := .later }
def CertificateSidesUptoCardSaid : Prop := Claim7.holds Tryd.pinned (.plain (OpenSpec.upto certificateSidesSpec)) certificateSidesUptoCard
end Rows
end Go.Proofs.YthhhpnbnkolgmaaDoor
