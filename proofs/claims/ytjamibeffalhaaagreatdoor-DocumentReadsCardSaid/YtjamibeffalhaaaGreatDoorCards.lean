/-
  DERIVED. GIVEN WITH THE SEED: THE CARDS: each row of YtjamibeffalhaaaGreatDoorRows.lean that lists a variable, with what it lists TIED to the program's text (the seventh form; the later family's looks); each row that meets fmt, with fmt's text TOLD by the authors' own Lean function (tested against real Go, not proved from fmt's source: count such statements apart). THE CARD IS WHAT COUNTS. Prove the row's statement (the work); the ties are given (YtjamibeffalhaaaGreatDoorTie.lean); close each card by the builder's one call (the guide's Derived/Test/ToyasCard.lean, 'card_holds'). Laid BY PROGRAM, IN A SANDBOX (cutbox-door.mjs). By AI agents, Wed Nov 11 2026. No macro, syntax, notation, axiom, sorry.
-/
import Derived.Test.YtjamibeffalhaaaGreatDoorRows
import GoSem.ClaimSeven
namespace Go.Proofs.YtjamibeffalhaaaGreatDoor
namespace Rows

/-- THE TIED CARD OF 'permitofficelaw26.DocumentReads'. -/
def documentReadsCard : Claim7 := { stood := { row := documentReadsRow, standIns := [], harness := (true, "f660b9255b0ac61fcb5734f38f91f4c42f2adb9db6652316f2a639f5d5f0c00c"), looks := false }, kinds := [], alts := [], laidByText := true, laidKinds := [.data, .data, .data, .data, .data, .pinned], laidTests := true, laidLooks := .later }
def DocumentReadsCardSaid : Prop := Claim7.holds Tryz.pinned (.plain (OpenSpec.ofChange documentReadsSpec)) documentReadsCard

/-- THE TIED CARD OF 'permitofficelaw26.DocumentBack'. -/
def documentBackCard : Claim7 := { stood := { row := documentBackRow, standIns := [], harness := (true, "f660b9255b0ac61fcb5734f38f91f4c42f2adb9db6652316f2a639f5d5f0c00c"), looks := false }, kinds := [], alts := [], laidByText := true, laidKinds := [.data, .data, .data, .data, .data, .pinned], laidTests := true, laidLooks := .later }
def DocumentBackCardSaid : Prop := Claim7.holds Tryz.pinned (.plain (OpenSpec.ofChange documentBackSpec)) documentBackCard

/-- THE TIED CARD OF 'permitofficelaw26.DocumentApart'. -/
def documentApartCard : Claim7 := { stood := { row := documentApartRow, standIns := [], harness := (true, "f660b9255b0ac61fcb5734f38f91f4c42f2adb9db6652316f2a639f5d5f0c00c"), looks := false }, kinds := [], alts := [], laidByText := true, laidKinds := [.data, .data, .data, .data, .data, .pinned], laidTests := true, laidLooks := .later }
def DocumentApartCardSaid : Prop := Claim7.holds Tryz.pinned (.plain (OpenSpec.ofChange documentApartSpec)) documentApartCard

/-- THE TIED CARD OF 'permitofficelaw26.DocumentExact'. -/
def documentExactCard : Claim7 := { stood := { row := documentExactRow, standIns := [], harness := (true, "f660b9255b0ac61fcb5734f38f91f4c42f2adb9db6652316f2a639f5d5f0c00c"), looks := false }, kinds := [], alts := [], laidByText := true, laidKinds := [.data, .data, .data, .data, .data, .pinned], laidTests := true, laidLooks := .later }
def DocumentExactCardSaid : Prop := Claim7.holds Tryz.pinned (.plain (OpenSpec.ofChange documentExactSpec)) documentExactCard

/-- THE TIED CARD OF 'permitofficelaw26.DocumentLists'. -/
def documentListsCard : Claim7 := { stood := { row := documentListsRow, standIns := [], harness := (true, "f660b9255b0ac61fcb5734f38f91f4c42f2adb9db6652316f2a639f5d5f0c00c"), looks := false }, kinds := [], alts := [], laidByText := true, laidKinds := [.data, .data, .data, .data, .data, .pinned], laidTests := true, laidLooks := .later }
def DocumentListsCardSaid : Prop := Claim7.holds Tryz.pinned (.plain (OpenSpec.ofChange documentListsSpec)) documentListsCard

/-- THE SECOND FORM's CARD OF 'permitofficelaw26.DocumentReads'. -/
def documentReadsUptoCard : Claim7 := { stood := { row := documentReadsUptoRow, standIns := [], harness := (true, "f660b9255b0ac61fcb5734f38f91f4c42f2adb9db6652316f2a639f5d5f0c00c"), looks := false }, kinds := [], alts := [], laidByText := true, laidKinds := [.data, .data, .data, .data, .data, .pinned], laidTests := true, laidLooks := .later }
def DocumentReadsUptoCardSaid : Prop := Claim7.holds Tryz.pinned (.plain (OpenSpec.upto documentReadsSpec)) documentReadsUptoCard

/-- THE SECOND FORM's CARD OF 'permitofficelaw26.DocumentBack'. -/
def documentBackUptoCard : Claim7 := { stood := { row := documentBackUptoRow, standIns := [], harness := (true, "f660b9255b0ac61fcb5734f38f91f4c42f2adb9db6652316f2a639f5d5f0c00c"), looks := false }, kinds := [], alts := [], laidByText := true, laidKinds := [.data, .data, .data, .data, .data, .pinned], laidTests := true, laidLooks := .later }
def DocumentBackUptoCardSaid : Prop := Claim7.holds Tryz.pinned (.plain (OpenSpec.upto documentBackSpec)) documentBackUptoCard

/-- THE SECOND FORM's CARD OF 'permitofficelaw26.DocumentApart'. -/
def documentApartUptoCard : Claim7 := { stood := { row := documentApartUptoRow, standIns := [], harness := (true, "f660b9255b0ac61fcb5734f38f91f4c42f2adb9db6652316f2a639f5d5f0c00c"), looks := false }, kinds := [], alts := [], laidByText := true, laidKinds := [.data, .data, .data, .data, .data, .pinned], laidTests := true, laidLooks := .later }
def DocumentApartUptoCardSaid : Prop := Claim7.holds Tryz.pinned (.plain (OpenSpec.upto documentApartSpec)) documentApartUptoCard

/-- THE SECOND FORM's CARD OF 'permitofficelaw26.DocumentExact'. -/
def documentExactUptoCard : Claim7 := { stood := { row := documentExactUptoRow, standIns := [], harness := (true, "f660b9255b0ac61fcb5734f38f91f4c42f2adb9db6652316f2a639f5d5f0c00c"), looks := false }, kinds := [], alts := [], laidByText := true, laidKinds := [.data, .data, .data, .data, .data, .pinned], laidTests := true, laidLooks := .later }
def DocumentExactUptoCardSaid : Prop := Claim7.holds Tryz.pinned (.plain (OpenSpec.upto documentExactSpec)) documentExactUptoCard

/-- THE SECOND FORM's CARD OF 'permitofficelaw26.DocumentLists'. -/
def documentListsUptoCard : Claim7 := { stood := { row := documentListsUptoRow, standIns := [], harness := (true, "f660b9255b0ac61fcb5734f38f91f4c42f2adb9db6652316f2a639f5d5f0c00c"), looks := false }, kinds := [], alts := [], laidByText := true, laidKinds := [.data, .data, .data, .data, .data, .pinned], laidTests := true, laidLooks := .later }
def DocumentListsUptoCardSaid : Prop := Claim7.holds Tryz.pinned (.plain (OpenSpec.upto documentListsSpec)) documentListsUptoCard
end Rows
end Go.Proofs.YtjamibeffalhaaaGreatDoor
