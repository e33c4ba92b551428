/-
  DERIVED. GIVEN WITH THE SEED: THE CARDS: each row of YtaoegbmgombhdaaDoorRows.lean that lists a variable, with what it lists TIED to the program's text (the seventh form; the later family's looks); each row that meets fmt, with fmt's text TOLD by the authors' own Lean function (tested against real Go, not proved from fmt's source: count such statements apart). THE CARD IS WHAT COUNTS. Prove the row's statement (the work); the ties are given (YtaoegbmgombhdaaDoorTie.lean); close each card by the builder's one call (the guide's Derived/Test/ToyasCard.lean, 'card_holds'). Laid BY PROGRAM, IN A SANDBOX (cutbox-door.mjs). By AI agents, Wed Nov 11 2026. No macro, syntax, notation, axiom, sorry.
-/
import Derived.Test.YtaoegbmgombhdaaDoorRows
import GoSem.ClaimSeven
namespace Go.Proofs.YtaoegbmgombhdaaDoor
namespace Rows

/-- THE TIED CARD OF 'permitofficelaw25.PortableCounts'. -/
def portableCountsCard : Claim7 := { stood := { row := portableCountsRow, standIns := [], harness := (true, "4bbc279ea86633d03ae6949a614497826c9e9c4b6860ab394344620c07c1baec"), looks := false }, kinds := [], alts := [], laidByText := true, laidKinds := [.data], laidTests := true, laidLooks := .later }
def PortableCountsCardSaid : Prop := Claim7.holds Tryd.pinned (.plain (OpenSpec.ofChange portableCountsSpec)) portableCountsCard

/-- THE TIED CARD OF 'permitofficelaw25.PortableOthers'. -/
def portableOthersCard : Claim7 := { stood := { row := portableOthersRow, standIns := [], harness := (true, "4bbc279ea86633d03ae6949a614497826c9e9c4b6860ab394344620c07c1baec"), looks := false }, kinds := [], alts := [], laidByText := true, laidKinds := [.data], laidTests := true, laidLooks := .later }
def PortableOthersCardSaid : Prop := Claim7.holds Tryd.pinned (.plain (OpenSpec.ofChange portableOthersSpec)) portableOthersCard

/-- THE TIED CARD OF 'permitofficelaw25.PortableOne'. -/
def portableOneCard : Claim7 := { stood := { row := portableOneRow, standIns := [], harness := (true, "4bbc279ea86633d03ae6949a614497826c9e9c4b6860ab394344620c07c1baec"), looks := false }, kinds := [], alts := [], laidByText := true, laidKinds := [.data], laidTests := true, laidLooks := .later }
def PortableOneCardSaid : Prop := Claim7.holds Tryd.pinned (.plain (OpenSpec.ofChange portableOneSpec)) portableOneCard

/-- THE TIED CARD OF 'permitofficelaw25.PortableBack'. -/
def portableBackCard : Claim7 := { stood := { row := portableBackRow, standIns := [], harness := (true, "4bbc279ea86633d03ae6949a614497826c9e9c4b6860ab394344620c07c1baec"), looks := false }, kinds := [], alts := [], laidByText := true, laidKinds := [.data], laidTests := true, laidLooks := .later }
def PortableBackCardSaid : Prop := Claim7.holds Tryd.pinned (.plain (OpenSpec.ofChange portableBackSpec)) portableBackCard

/-- THE TIED CARD OF 'permitofficelaw25.PortableExact'. -/
def portableExactCard : Claim7 := { stood := { row := portableExactRow, standIns := [], harness := (true, "4bbc279ea86633d03ae6949a614497826c9e9c4b6860ab394344620c07c1baec"), looks := false }, kinds := [], alts := [], laidByText := true, laidKinds := [.data], laidTests := true, laidLooks := .later }
def PortableExactCardSaid : Prop := Claim7.holds Tryd.pinned (.plain (OpenSpec.ofChange portableExactSpec)) portableExactCard

/-- THE SECOND FORM's CARD OF 'permitofficelaw25.PortableCounts'. -/
def portableCountsUptoCard : Claim7 := { stood := { row := portableCountsUptoRow, standIns := [], harness := (true, "4bbc279ea86633d03ae6949a614497826c9e9c4b6860ab394344620c07c1baec"), looks := false }, kinds := [], alts := [], laidByText := true, laidKinds := [.data], laidTests := true, laidLooks := .later }
def PortableCountsUptoCardSaid : Prop := Claim7.holds Tryd.pinned (.plain (OpenSpec.upto portableCountsSpec)) portableCountsUptoCard

/-- THE SECOND FORM's CARD OF 'permitofficelaw25.PortableOthers'. -/
def portableOthersUptoCard : Claim7 := { stood := { row := portableOthersUptoRow, standIns := [], harness := (true, "4bbc279ea86633d03ae6949a614497826c9e9c4b6860ab394344620c07c1baec"), looks := false }, kinds := [], alts := [], laidByText := true, laidKinds := [.data], laidTests := true, laidLooks := .later }
def PortableOthersUptoCardSaid : Prop := Claim7.holds Tryd.pinned (.plain (OpenSpec.upto portableOthersSpec)) portableOthersUptoCard

/-- THE SECOND FORM's CARD OF 'permitofficelaw25.PortableOne'. -/
def portableOneUptoCard : Claim7 := { stood := { row := portableOneUptoRow, standIns := [], harness := (true, "4bbc279ea86633d03ae6949a614497826c9e9c4b6860ab394344620c07c1baec"), looks := false }, kinds := [], alts := [], laidByText := true, laidKinds := [.data], laidTests := true, laidLooks := .later }
def PortableOneUptoCardSaid : Prop := Claim7.holds Tryd.pinned (.plain (OpenSpec.upto portableOneSpec)) portableOneUptoCard

/-- THE SECOND FORM's CARD OF 'permitofficelaw25.PortableBack'. -/
def portableBackUptoCard : Claim7 := { stood := { row := portableBackUptoRow, standIns := [], harness := (true, "4bbc279ea86633d03ae6949a614497826c9e9c4b6860ab394344620c07c1baec"), looks := false }, kinds := [], alts := [], laidByText := true, laidKinds := [.data], laidTests := true, laidLooks := .later }
def PortableBackUptoCardSaid : Prop := Claim7.holds Tryd.pinned (.plain (OpenSpec.upto portableBackSpec)) portableBackUptoCard

/-- THE SECOND FORM's CARD OF 'permitofficelaw25.PortableExact'. -/
def portableExactUptoCard : Claim7 := { stood := { row := portableExactUptoRow, standIns := [], harness := (true, "4bbc279ea86633d03ae6949a614497826c9e9c4b6860ab394344620c07c1baec"), looks := false }, kinds := [], alts := [], laidByText := true, laidKinds := [.data], laidTests := true, laidLooks := .later }
def PortableExactUptoCardSaid : Prop := Claim7.holds Tryd.pinned (.plain (OpenSpec.upto portableExactSpec)) portableExactUptoCard
end Rows
end Go.Proofs.YtaoegbmgombhdaaDoor
