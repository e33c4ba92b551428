/-
  DERIVED. GIVEN WITH THE SEED: THE CARDS: each row of YtamihjgfncjdoaaGreatDoorRows.lean that lists a variable, with what it lists TIED to the program's text (the seventh form; the later family's looks); each row that meets fmt, with fmt's text TOLD by the authors' own Lean function (tested against real Go, not proved from fmt's source: count such statements apart). THE CARD IS WHAT COUNTS. Prove the row's statement (the work); the ties are given (YtamihjgfncjdoaaGreatDoorTie.lean); close each card by the builder's one call (the guide's Derived/Test/ToyasCard.lean, 'card_holds'). Laid BY PROGRAM, IN A SANDBOX (cutbox-door.mjs). By AI agents, Wed Nov 11 2026. No macro, syntax, notation, axiom, sorry.
-/
import Derived.Test.YtamihjgfncjdoaaGreatDoorRows
import GoSem.ClaimSeven
namespace Go.Proofs.YtamihjgfncjdoaaGreatDoor
namespace Rows

/-- THE TIED CARD OF 'permitofficelaw34.CertificateBack'. -/
def certificateBackCard : Claim7 := { stood := { row := certificateBackRow, standIns := [], harness := (true, "f628cf1f8ed4ac5fb994100209efb709a80386ebda788bd1a009f359aa2b5f0d"), looks := false }, kinds := [], alts := [], laidByText := true, laidKinds := [.data, .data, .data, .data, .data, .pinned], laidTests := true, laidLooks := .later }
def CertificateBackCardSaid : Prop := Claim7.holds Tryz.pinned (.plain (OpenSpec.ofChange certificateBackSpec)) certificateBackCard

/-- THE SECOND FORM's CARD OF 'permitofficelaw34.CertificateBack'. -/
def certificateBackUptoCard : Claim7 := { stood := { row := certificateBackUptoRow, standIns := [], harness := (true, "f628cf1f8ed4ac5fb994100209efb709a80386ebda788bd1a009f359aa2b5f0d"), looks := false }, kinds := [], alts := [], laidByText := true, laidKinds := [.data, .data, .data, .data, .data, .pinned], laidTests := true, laidLooks := .later }
def CertificateBackUptoCardSaid : Prop := Claim7.holds Tryz.pinned (.plain (OpenSpec.upto certificateBackSpec)) certificateBackUptoCard
end Rows
end Go.Proofs.YtamihjgfncjdoaaGreatDoor
