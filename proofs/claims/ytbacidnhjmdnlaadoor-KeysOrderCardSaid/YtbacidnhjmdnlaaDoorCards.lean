/-
  DERIVED. GIVEN WITH THE SEED: THE CARDS: each row of YtbacidnhjmdnlaaDoorRows.lean that lists a variable, with what it lists TIED to the program's text (the seventh form; the later family's looks); each row that meets fmt, with fmt's text TOLD by the authors' own Lean function (tested against real Go, not proved from fmt's source: count such statements apart). THE CARD IS WHAT COUNTS. Prove the row's statement (the work); the ties are given (YtbacidnhjmdnlaaDoorTie.lean); close each card by the builder's one call (the guide's Derived/Test/ToyasCard.lean, 'card_holds'). Laid BY PROGRAM, IN A SANDBOX (cutbox-door.mjs). By AI agents, Wed Nov 11 2026. No macro, syntax, notation, axiom, sorry.
-/
import Derived.Test.YtbacidnhjmdnlaaDoorRows
import GoSem.ClaimSeven
namespace Go.Proofs.YtbacidnhjmdnlaaDoor
namespace Rows

/-- THE TIED CARD OF 'permitofficelaw23.KeysReturn'. -/
def keysReturnCard : Claim7 := { stood := { row := keysReturnRow, standIns := [], harness := (true, "43a77f2402667f74466c2b9102ece8f23e1727e38f3ad89bc6700aa871485d23"), looks := false }, kinds := [], alts := [], laidByText := true, laidKinds := [.data], laidTests := true, laidLooks := .later }
def KeysReturnCardSaid : Prop := Claim7.holds Tryd.pinned (.plain (OpenSpec.ofChange keysReturnSpec)) keysReturnCard

/-- THE TIED CARD OF 'permitofficelaw23.KeysOrder'. -/
def keysOrderCard : Claim7 := { stood := { row := keysOrderRow, standIns := [], harness := (true, "43a77f2402667f74466c2b9102ece8f23e1727e38f3ad89bc6700aa871485d23"), looks := false }, kinds := [], alts := [], laidByText := true, laidKinds := [.data], laidTests := true, laidLooks := .later }
def KeysOrderCardSaid : Prop := Claim7.holds Tryd.pinned (.plain (OpenSpec.ofChange keysOrderSpec)) keysOrderCard

/-- THE TIED CARD OF 'permitofficelaw23.KeysGiven'. -/
def keysGivenCard : Claim7 := { stood := { row := keysGivenRow, standIns := [], harness := (true, "43a77f2402667f74466c2b9102ece8f23e1727e38f3ad89bc6700aa871485d23"), looks := false }, kinds := [], alts := [], laidByText := true, laidKinds := [.data], laidTests := true, laidLooks := .later }
def KeysGivenCardSaid : Prop := Claim7.holds Tryd.pinned (.plain (OpenSpec.ofChange keysGivenSpec)) keysGivenCard

/-- THE TIED CARD OF 'permitofficelaw23.KeysExact'. -/
def keysExactCard : Claim7 := { stood := { row := keysExactRow, standIns := [], harness := (true, "43a77f2402667f74466c2b9102ece8f23e1727e38f3ad89bc6700aa871485d23"), looks := false }, kinds := [], alts := [], laidByText := true, laidKinds := [.data], laidTests := true, laidLooks := .later }
def KeysExactCardSaid : Prop := Claim7.holds Tryd.pinned (.plain (OpenSpec.ofChange keysExactSpec)) keysExactCard

/-- THE TIED CARD OF 'permitofficelaw23.KeysOnce'. -/
def keysOnceCard : Claim7 := { stood := { row := keysOnceRow, standIns := [], harness := (true, "43a77f2402667f74466c2b9102ece8f23e1727e38f3ad89bc6700aa871485d23"), looks := false }, kinds := [], alts := [], laidByText := true, laidKinds := [.data], laidTests := true, laidLooks := .later }
def KeysOnceCardSaid : Prop := Claim7.holds Tryd.pinned (.plain (OpenSpec.ofChange keysOnceSpec)) keysOnceCard

/-- THE SECOND FORM's CARD OF 'permitofficelaw23.KeysReturn'. -/
def keysReturnUptoCard : Claim7 := { stood := { row := keysReturnUptoRow, standIns := [], harness := (true, "43a77f2402667f74466c2b9102ece8f23e1727e38f3ad89bc6700aa871485d23"), looks := false }, kinds := [], alts := [], laidByText := true, laidKinds := [.data], laidTests := true, laidLooks := .later }
def KeysReturnUptoCardSaid : Prop := Claim7.holds Tryd.pinned (.plain (OpenSpec.upto keysReturnSpec)) keysReturnUptoCard

/-- THE SECOND FORM's CARD OF 'permitofficelaw23.KeysOrder'. -/
def keysOrderUptoCard : Claim7 := { stood := { row := keysOrderUptoRow, standIns := [], harness := (true, "43a77f2402667f74466c2b9102ece8f23e1727e38f3ad89bc6700aa871485d23"), looks := false }, kinds := [], alts := [], laidByText := true, laidKinds := [.data], laidTests := true, laidLooks := .later }
def KeysOrderUptoCardSaid : Prop := Claim7.holds Tryd.pinned (.plain (OpenSpec.upto keysOrderSpec)) keysOrderUptoCard

/-- THE SECOND FORM's CARD OF 'permitofficelaw23.KeysGiven'. -/
def keysGivenUptoCard : Claim7 := { stood := { row := keysGivenUptoRow, standIns := [], harness := (true, "43a77f2402667f74466c2b9102ece8f23e1727e38f3ad89bc6700aa871485d23"), looks := false }, kinds := [], alts := [], laidByText := true, laidKinds := [.data], laidTests := true, laidLooks := .later }
def KeysGivenUptoCardSaid : Prop := Claim7.holds Tryd.pinned (.plain (OpenSpec.upto keysGivenSpec)) keysGivenUptoCard

/-- THE SECOND FORM's CARD OF 'permitofficelaw23.KeysExact'. -/
def keysExactUptoCard : Claim7 := { stood := { row := keysExactUptoRow, standIns := [], harness := (true, "43a77f2402667f74466c2b9102ece8f23e1727e38f3ad89bc6700aa871485d23"), looks := false }, kinds := [], alts := [], laidByText := true, laidKinds := [.data], laidTests := true, laidLooks := .later }
def KeysExactUptoCardSaid : Prop := Claim7.holds Tryd.pinned (.plain (OpenSpec.upto keysExactSpec)) keysExactUptoCard

/-- THE SECOND FORM's CARD OF 'permitofficelaw23.KeysOnce'. -/
def keysOnceUptoCard : Claim7 := { stood := { row := keysOnceUptoRow, standIns := [], harness := (true, "43a77f2402667f74466c2b9102ece8f23e1727e38f3ad89bc6700aa871485d23"), looks := false }, kinds := [], alts := [], laidByText := true, laidKinds := [.data], laidTests := true, laidLooks := .later }
def KeysOnceUptoCardSaid : Prop := Claim7.holds Tryd.pinned (.plain (OpenSpec.upto keysOnceSpec)) keysOnceUptoCard
end Rows
end Go.Proofs.YtbacidnhjmdnlaaDoor
