/-
  DERIVED. GIVEN WITH THE SEED: THE CARDS: each row of YtoimmdlhkdppgaaDoorRows.lean that lists a variable, with what it lists TIED to the program's text (the seventh form; the later family's looks); each row that meets fmt, with fmt's text TOLD by the authors' own Lean function (tested against real Go, not proved from fmt's source: count such statements apart). THE CARD IS WHAT COUNTS. Prove the row's statement (the work); the ties are given (YtoimmdlhkdppgaaDoorTie.lean); close each card by the builder's one call (the guide's Derived/Test/ToyasCard.lean, 'card_holds'). Laid BY PROGRAM, IN A SANDBOX (cutbox-door.mjs). By AI agents, Wed Nov 11 2026. No macro, syntax, notation, axiom, sorry.
-/
import Derived.Test.YtoimmdlhkdppgaaDoorRows
import GoSem.ClaimSeven
namespace Go.Proofs.YtoimmdlhkdppgaaDoor
namespace Rows

/-- THE TIED CARD OF 'permitofficelaw05.RegisterCan'. -/
def registerCanCard : Claim7 := { stood := { row := registerCanRow, standIns := [], harness := (true, "bcdb1f95882d94cdfcb66d03f6ca37c7c8c93ff947ecf250b292cf0e19027bf8"), looks := false }, kinds := [], alts := [], laidByText := true, laidKinds := [.data], laidTests := true, laidLooks := .later }
def RegisterCanCardSaid : Prop := Claim7.holds Tryd.pinned (.plain (OpenSpec.ofChange registerCanSpec)) registerCanCard

/-- THE SECOND FORM's CARD OF 'permitofficelaw05.RegisterCan'. -/
def registerCanUptoCard : Claim7 := { stood := { row := registerCanUptoRow, standIns := [], harness := (true, "bcdb1f95882d94cdfcb66d03f6ca37c7c8c93ff947ecf250b292cf0e19027bf8"), looks := false }, kinds := [], alts := [], laidByText := true, laidKinds := [.data], laidTests := true, laidLooks := .later }
def RegisterCanUptoCardSaid : Prop := Claim7.holds Tryd.pinned (.plain (OpenSpec.upto registerCanSpec)) registerCanUptoCard
end Rows
end Go.Proofs.YtoimmdlhkdppgaaDoor
