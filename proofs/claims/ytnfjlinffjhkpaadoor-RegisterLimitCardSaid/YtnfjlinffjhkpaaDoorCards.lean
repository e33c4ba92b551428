/-
  DERIVED. GIVEN WITH THE SEED: THE CARDS: each row of YtnfjlinffjhkpaaDoorRows.lean that lists a variable, with what it lists TIED to the program's text (the seventh form; the later family's looks); each row that meets fmt, with fmt's text TOLD by the authors' own Lean function (tested against real Go, not proved from fmt's source: count such statements apart). THE CARD IS WHAT COUNTS. Prove the row's statement (the work); the ties are given (YtnfjlinffjhkpaaDoorTie.lean); close each card by the builder's one call (the guide's Derived/Test/ToyasCard.lean, 'card_holds'). Laid BY PROGRAM, IN A SANDBOX (cutbox-door.mjs). By AI agents, Wed Nov 11 2026. No macro, syntax, notation, axiom, sorry.
-/
import Derived.Test.YtnfjlinffjhkpaaDoorRows
import GoSem.ClaimSeven
namespace Go.Proofs.YtnfjlinffjhkpaaDoor
namespace Rows

/-- THE TIED CARD OF 'permitofficelaw05.RegisterCan'. -/
def registerCanCard : Claim7 := { stood := { row := registerCanRow, standIns := [], harness := (true, "223349c5f9c460c2906796b0da6d3d5fb039099aa0d24b4cf3d22f6cb0b3365b"), looks := false }, kinds := [], alts := [], laidByText := true, laidKinds := [.data], laidTests := true, laidLooks := .later }
def RegisterCanCardSaid : Prop := Claim7.holds Tryd.pinned (.plain (OpenSpec.ofChange registerCanSpec)) registerCanCard

/-- THE TIED CARD OF 'permitofficelaw05.RegisterLimit'. -/
def registerLimitCard : Claim7 := { stood := { row := registerLimitRow, standIns := [], harness := (true, "223349c5f9c460c2906796b0da6d3d5fb039099aa0d24b4cf3d22f6cb0b3365b"), looks := false }, kinds := [], alts := [], laidByText := true, laidKinds := [.data], laidTests := true, laidLooks := .later }
def RegisterLimitCardSaid : Prop := Claim7.holds Tryd.pinned (.plain (OpenSpec.ofChange registerLimitSpec)) registerLimitCard

/-- THE TIED CARD OF 'permitofficelaw05.RegisterBack'. -/
def registerBackCard : Claim7 := { stood := { row := registerBackRow, standIns := [], harness := (true, "223349c5f9c460c2906796b0da6d3d5fb039099aa0d24b4cf3d22f6cb0b3365b"), looks := false }, kinds := [], alts := [], laidByText := true, laidKinds := [.data], laidTests := true, laidLooks := .later }
def RegisterBackCardSaid : Prop := Claim7.holds Tryd.pinned (.plain (OpenSpec.ofChange registerBackSpec)) registerBackCard

/-- THE SECOND FORM's CARD OF 'permitofficelaw05.RegisterCan'. -/
def registerCanUptoCard : Claim7 := { stood := { row := registerCanUptoRow, standIns := [], harness := (true, "223349c5f9c460c2906796b0da6d3d5fb039099aa0d24b4cf3d22f6cb0b3365b"), looks := false }, kinds := [], alts := [], laidByText := true, laidKinds := [.data], laidTests := true, laidLooks := .later }
def RegisterCanUptoCardSaid : Prop := Claim7.holds Tryd.pinned (.plain (OpenSpec.upto registerCanSpec)) registerCanUptoCard

/-- THE SECOND FORM's CARD OF 'permitofficelaw05.RegisterLimit'. -/
def registerLimitUptoCard : Claim7 := { stood := { row := registerLimitUptoRow, standIns := [], harness := (true, "223349c5f9c460c2906796b0da6d3d5fb039099aa0d24b4cf3d22f6cb0b3365b"), looks := false }, kinds := [], alts := [], laidByText := true, laidKinds := [.data], laidTests := true, laidLooks := .later }
def RegisterLimitUptoCardSaid : Prop := Claim7.holds Tryd.pinned (.plain (OpenSpec.upto registerLimitSpec)) registerLimitUptoCard

/-- THE SECOND FORM's CARD OF 'permitofficelaw05.RegisterBack'. -/
def registerBackUptoCard : Claim7 := { stood := { row := registerBackUptoRow, standIns := [], harness := (true, "223349c5f9c460c2906796b0da6d3d5fb039099aa0d24b4cf3d22f6cb0b3365b"), looks := false }, kinds := [], alts := [], laidByText := true, laidKinds := [.data], laidTests := true, laidLooks := .later }
def RegisterBackUptoCardSaid : Prop := Claim7.holds Tryd.pinned (.plain (OpenSpec.upto registerBackSpec)) registerBackUptoCard
end Rows
end Go.Proofs.YtnfjlinffjhkpaaDoor
