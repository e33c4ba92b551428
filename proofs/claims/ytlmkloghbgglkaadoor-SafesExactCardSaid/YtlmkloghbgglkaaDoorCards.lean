/-
  DERIVED. GIVEN WITH THE SEED: THE CARDS: each row of YtlmkloghbgglkaaDoorRows.lean that lists a variable, with what it lists TIED to the program's text (the seventh form; the later family's looks); each row that meets fmt, with fmt's text TOLD by the authors' own Lean function (tested against real Go, not proved from fmt's source: count such statements apart). THE CARD IS WHAT COUNTS. Prove the row's statement (the work); the ties are given (YtlmkloghbgglkaaDoorTie.lean); close each card by the builder's one call (the guide's Derived/Test/ToyasCard.lean, 'card_holds'). Laid BY PROGRAM, IN A SANDBOX (cutbox-door.mjs). By AI agents, Wed Nov 11 2026. No macro, syntax, notation, axiom, sorry.
-/
import Derived.Test.YtlmkloghbgglkaaDoorRows
import GoSem.ClaimSeven
namespace Go.Proofs.YtlmkloghbgglkaaDoor
namespace Rows

/-- THE TIED CARD OF 'permitofficelaw24.SafesOnce'. -/
def safesOnceCard : Claim7 := { stood := { row := safesOnceRow, standIns := [], harness := (true, "a56d9aaa4467daf2075ad436cbcc5fbe87e8242901faa1db59c808aba11f4d86"), looks := false }, kinds := [], alts := [], laidByText := true, laidKinds := [.data], laidTests := true, laidLooks := .later }
def SafesOnceCardSaid : Prop := Claim7.holds Tryd.pinned (.plain (OpenSpec.ofChange safesOnceSpec)) safesOnceCard

/-- THE TIED CARD OF 'permitofficelaw24.SafesExact'. -/
def safesExactCard : Claim7 := { stood := { row := safesExactRow, standIns := [], harness := (true, "a56d9aaa4467daf2075ad436cbcc5fbe87e8242901faa1db59c808aba11f4d86"), looks := false }, kinds := [], alts := [], laidByText := true, laidKinds := [.data], laidTests := true, laidLooks := .later }
def SafesExactCardSaid : Prop := Claim7.holds Tryd.pinned (.plain (OpenSpec.ofChange safesExactSpec)) safesExactCard

/-- THE TIED CARD OF 'permitofficelaw24.SafesKeep'. -/
def safesKeepCard : Claim7 := { stood := { row := safesKeepRow, standIns := [], harness := (true, "a56d9aaa4467daf2075ad436cbcc5fbe87e8242901faa1db59c808aba11f4d86"), looks := false }, kinds := [], alts := [], laidByText := true, laidKinds := [.data], laidTests := true, laidLooks := .later }
def SafesKeepCardSaid : Prop := Claim7.holds Tryd.pinned (.plain (OpenSpec.ofChange safesKeepSpec)) safesKeepCard

/-- THE TIED CARD OF 'permitofficelaw24.SafesBack'. -/
def safesBackCard : Claim7 := { stood := { row := safesBackRow, standIns := [], harness := (true, "a56d9aaa4467daf2075ad436cbcc5fbe87e8242901faa1db59c808aba11f4d86"), looks := false }, kinds := [], alts := [], laidByText := true, laidKinds := [.data], laidTests := true, laidLooks := .later }
def SafesBackCardSaid : Prop := Claim7.holds Tryd.pinned (.plain (OpenSpec.ofChange safesBackSpec)) safesBackCard

/-- THE TIED CARD OF 'permitofficelaw24.SafesFree'. -/
def safesFreeCard : Claim7 := { stood := { row := safesFreeRow, standIns := [], harness := (true, "a56d9aaa4467daf2075ad436cbcc5fbe87e8242901faa1db59c808aba11f4d86"), looks := false }, kinds := [], alts := [], laidByText := true, laidKinds := [.data], laidTests := true, laidLooks := .later }
def SafesFreeCardSaid : Prop := Claim7.holds Tryd.pinned (.plain (OpenSpec.ofChange safesFreeSpec)) safesFreeCard

/-- THE SECOND FORM's CARD OF 'permitofficelaw24.SafesOnce'. -/
def safesOnceUptoCard : Claim7 := { stood := { row := safesOnceUptoRow, standIns := [], harness := (true, "a56d9aaa4467daf2075ad436cbcc5fbe87e8242901faa1db59c808aba11f4d86"), looks := false }, kinds := [], alts := [], laidByText := true, laidKinds := [.data], laidTests := true, laidLooks := .later }
def SafesOnceUptoCardSaid : Prop := Claim7.holds Tryd.pinned (.plain (OpenSpec.upto safesOnceSpec)) safesOnceUptoCard

/-- THE SECOND FORM's CARD OF 'permitofficelaw24.SafesExact'. -/
def safesExactUptoCard : Claim7 := { stood := { row := safesExactUptoRow, standIns := [], harness := (true, "a56d9aaa4467daf2075ad436cbcc5fbe87e8242901faa1db59c808aba11f4d86"), looks := false }, kinds := [], alts := [], laidByText := true, laidKinds := [.data], laidTests := true, laidLooks := .later }
def SafesExactUptoCardSaid : Prop := Claim7.holds Tryd.pinned (.plain (OpenSpec.upto safesExactSpec)) safesExactUptoCard

/-- THE SECOND FORM's CARD OF 'permitofficelaw24.SafesKeep'. -/
def safesKeepUptoCard : Claim7 := { stood := { row := safesKeepUptoRow, standIns := [], harness := (true, "a56d9aaa4467daf2075ad436cbcc5fbe87e8242901faa1db59c808aba11f4d86"), looks := false }, kinds := [], alts := [], laidByText := true, laidKinds := [.data], laidTests := true, laidLooks := .later }
def SafesKeepUptoCardSaid : Prop := Claim7.holds Tryd.pinned (.plain (OpenSpec.upto safesKeepSpec)) safesKeepUptoCard

/-- THE SECOND FORM's CARD OF 'permitofficelaw24.SafesBack'. -/
def safesBackUptoCard : Claim7 := { stood := { row := safesBackUptoRow, standIns := [], harness := (true, "a56d9aaa4467daf2075ad436cbcc5fbe87e8242901faa1db59c808aba11f4d86"), looks := false }, kinds := [], alts := [], laidByText := true, laidKinds := [.data], laidTests := true, laidLooks := .later }
def SafesBackUptoCardSaid : Prop := Claim7.holds Tryd.pinned (.plain (OpenSpec.upto safesBackSpec)) safesBackUptoCard

/-- THE SECOND FORM's CARD OF 'permitofficelaw24.SafesFree'. -/
def safesFreeUptoCard : Claim7 := { stood := { row := safesFreeUptoRow, standIns := [], harness := (true, "a56d9aaa4467daf2075ad436cbcc5fbe87e8242901faa1db59c808aba11f4d86"), looks := false }, kinds := [], alts := [], laidByText := true, laidKinds := [.data], laidTests := true, laidLooks := .later }
def SafesFreeUptoCardSaid : Prop := Claim7.holds Tryd.pinned (.plain (OpenSpec.upto safesFreeSpec)) safesFreeUptoCard
end Rows
end Go.Proofs.YtlmkloghbgglkaaDoor
