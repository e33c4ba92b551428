/-
  NARROWER THAN 'FOR EVERY INPUT', by the rows' own cells (each row's printed sentence says how): KeysReturn: laid · KeysOrder: laid · KeysGiven: laid · KeysExact: laid · KeysOnce: laid.
  DERIVED. THE GIVEN ROWS OF THIS SEAT. 5 by the template 'for every input the law returns true; each argument reads behind the call as it read before'; 0 by the template 'total and deterministic' (their statements: YtbacidnhjmdnlaaDoorTotals.lean).
  GIVEN WITH THE SEED: the statements are not yours to turn. If you find one false, say at which input.
  Laid BY PROGRAM, IN A SANDBOX (cutbox-rows.mjs): the forced cells as the released guide's own fill.sh prints them over the translation 410c96c6d16388b0… (all of the seat's roots in one cut). By AI agents, Wed Nov 11 2026. No macro, syntax, notation, axiom, sorry.
-/
import Derived.Test.YtbacidnhjmdnlaaDoorChecked
import GoSem.Claim
import GoSem.ClaimJoined
import GoSem.ClaimMapViews
import Derived.JoinedTies
import Derived.KernelRfl
namespace Go.Proofs.YtbacidnhjmdnlaaDoor
/- THE CELL 'sum', in the pinned program and in every row, IS THE sha256 OF THE DUMP (.gsa) THAT YtbacidnhjmdnlaaDoorProg.lean LOADS. Nothing in Lean hashes anything: it is a label: what it is worth is what the hold of that sum in a sandbox is worth. -/
noncomputable def Tryd.pinned : Pinned := { name := "ytbacidnhjmdnlaadoor", sum := "410c96c6d16388b0f968a9df5b34b9a75b195224855ded1666f5272a3ef940e8", checked := Tryd.checked }
namespace Rows
def none {H : Type} : Left H := { results := [], args := [] }

/- WHAT THE LISTED PACKAGE-LEVEL VARIABLES READ AS WHEN THE CALL BEGINS. Each datum BY PROGRAM (the guide's laid-datum.mjs) off the statement by which the dump's own 'gosem.cut.vars' lays the variable. In a bare row this is a premise. The card (YtbacidnhjmdnlaaDoorCards.lean) ties it to the program's text. -/
def laid_permitoffice_lexeme_classes {H : Type} : DataW H := .agg [.agg [.lit (.int .u8 65), .lit (.int .u8 90), .lit (.bool true)], .agg [.lit (.int .u8 97), .lit (.int .u8 122), .lit (.bool true)], .agg [.lit (.int .u8 48), .lit (.int .u8 57), .lit (.bool false)], .agg [.lit (.int .u8 95), .lit (.int .u8 95), .lit (.bool false)]]

/-- 'permitofficelaw23.KeysReturn': WHATEVER THE INPUT: true; the input reads as it did. -/
def keysReturnSpec : ChangeSpec := { name := "keysReturn", fn := fun _ => fun
  | [d1, d2] => { results := [.lit (.bool true)], args := [d1, d2] }
  | _ => none }
def keysReturnRow : OpenClaim := { program := "ytbacidnhjmdnlaadoor", sum := "410c96c6d16388b0f968a9df5b34b9a75b195224855ded1666f5272a3ef940e8", func := "permitoffice/permitofficelaw23.KeysReturn", spec := "keysReturn", inPlace := ["slices.overlaps[permitoffice/api.Row]"], unfollowed := true, recurses := true, named := ["permitoffice/lexeme.classes"], plainKeys := false, apart := false, laid := [("permitoffice/lexeme.classes", laid_permitoffice_lexeme_classes)] }
def KeysReturnSaid : Prop := keysReturnRow.holds Tryd.pinned (OpenSpec.ofChange keysReturnSpec)

/-- ITS FALSE NEIGHBOUR: 'it returns false'. Refute it at one input. -/
def keysReturnWrong : ChangeSpec := { name := "keysReturn", fn := fun _ => fun
  | [d1, d2] => { results := [.lit (.bool false)], args := [d1, d2] }
  | _ => none }
def KeysReturnWrongFalsely : Prop := keysReturnRow.holds Tryd.pinned (OpenSpec.ofChange keysReturnWrong)

/-- 'permitofficelaw23.KeysOrder': WHATEVER THE INPUT: true; the input reads as it did. -/
def keysOrderSpec : ChangeSpec := { name := "keysOrder", fn := fun _ => fun
  | [d] => { results := [.lit (.bool true)], args := [d] }
  | _ => none }
def keysOrderRow : OpenClaim := { program := "ytbacidnhjmdnlaadoor", sum := "410c96c6d16388b0f968a9df5b34b9a75b195224855ded1666f5272a3ef940e8", func := "permitoffice/permitofficelaw23.KeysOrder", spec := "keysOrder", inPlace := ["slices.overlaps[permitoffice/api.Row]"], unfollowed := true, recurses := true, named := ["permitoffice/lexeme.classes"], plainKeys := false, apart := false, laid := [("permitoffice/lexeme.classes", laid_permitoffice_lexeme_classes)] }
def KeysOrderSaid : Prop := keysOrderRow.holds Tryd.pinned (OpenSpec.ofChange keysOrderSpec)

/-- ITS FALSE NEIGHBOUR: 'it returns false'. Refute it at one input. -/
def keysOrderWrong : ChangeSpec := { name := "keysOrder", fn := fun _ => fun
  | [d] => { results := [.lit (.bool false)], args := [d] }
  | _ => none }
def KeysOrderWrongFalsely : Prop := keysOrderRow.holds Tryd.pinned (OpenSpec.ofChange keysOrderWrong)

/-- 'permitofficelaw23.KeysGiven': WHATEVER THE INPUT: true; the input reads as it did. -/
def keysGivenSpec : ChangeSpec := { name := "keysGiven", fn := fun _ => fun
  | [d1, d2] => { results := [.lit (.bool true)], args := [d1, d2] }
  | _ => none }
def keysGivenRow : OpenClaim := { program := "ytbacidnhjmdnlaadoor", sum := "410c96c6d16388b0f968a9df5b34b9a75b195224855ded1666f5272a3ef940e8", func := "permitoffice/permitofficelaw23.KeysGiven", spec := "keysGiven", inPlace := ["slices.overlaps[permitoffice/api.Row]"], unfollowed := true, recurses := true, named := ["permitoffice/lexeme.classes"], plainKeys := false, apart := false, laid := [("permitoffice/lexeme.classes", laid_permitoffice_lexeme_classes)] }
def KeysGivenSaid : Prop := keysGivenRow.holds Tryd.pinned (OpenSpec.ofChange keysGivenSpec)

/-- ITS FALSE NEIGHBOUR: 'it returns false'. Refute it at one input. -/
def keysGivenWrong : ChangeSpec := { name := "keysGiven", fn := fun _ => fun
  | [d1, d2] => { results := [.lit (.bool false)], args := [d1, d2] }
  | _ => none }
def KeysGivenWrongFalsely : Prop := keysGivenRow.holds Tryd.pinned (OpenSpec.ofChange keysGivenWrong)

/-- 'permitofficelaw23.KeysExact': WHATEVER THE INPUT: true; the input reads as it did. -/
def keysExactSpec : ChangeSpec := { name := "keysExact", fn := fun _ => fun
  | [d1, d2, d3, d4, d5] => { results := [.lit (.bool true)], args := [d1, d2, d3, d4, d5] }
  | _ => none }
def keysExactRow : OpenClaim := { program := "ytbacidnhjmdnlaadoor", sum := "410c96c6d16388b0f968a9df5b34b9a75b195224855ded1666f5272a3ef940e8", func := "permitoffice/permitofficelaw23.KeysExact", spec := "keysExact", inPlace := ["slices.overlaps[permitoffice/api.Row]"], unfollowed := true, recurses := true, named := ["permitoffice/lexeme.classes"], plainKeys := false, apart := false, laid := [("permitoffice/lexeme.classes", laid_permitoffice_lexeme_classes)] }
def KeysExactSaid : Prop := keysExactRow.holds Tryd.pinned (OpenSpec.ofChange keysExactSpec)

/-- ITS FALSE NEIGHBOUR: 'it returns false'. Refute it at one input. -/
def keysExactWrong : ChangeSpec := { name := "keysExact", fn := fun _ => fun
  | [d1, d2, d3, d4, d5] => { results := [.lit (.bool false)], args := [d1, d2, d3, d4, d5] }
  | _ => none }
def KeysExactWrongFalsely : Prop := keysExactRow.holds Tryd.pinned (OpenSpec.ofChange keysExactWrong)

/-- 'permitofficelaw23.KeysOnce': WHATEVER THE INPUT: true; the input reads as it did. -/
def keysOnceSpec : ChangeSpec := { name := "keysOnce", fn := fun _ => fun
  | [d] => { results := [.lit (.bool true)], args := [d] }
  | _ => none }
def keysOnceRow : OpenClaim := { program := "ytbacidnhjmdnlaadoor", sum := "410c96c6d16388b0f968a9df5b34b9a75b195224855ded1666f5272a3ef940e8", func := "permitoffice/permitofficelaw23.KeysOnce", spec := "keysOnce", inPlace := ["slices.overlaps[permitoffice/api.Row]"], unfollowed := true, recurses := true, named := ["permitoffice/lexeme.classes"], plainKeys := false, apart := false, laid := [("permitoffice/lexeme.classes", laid_permitoffice_lexeme_classes)] }
def KeysOnceSaid : Prop := keysOnceRow.holds Tryd.pinned (OpenSpec.ofChange keysOnceSpec)

/-- ITS FALSE NEIGHBOUR: 'it returns false'. Refute it at one input. -/
def keysOnceWrong : ChangeSpec := { name := "keysOnce", fn := fun _ => fun
  | [d] => { results := [.lit (.bool false)], args := [d] }
  | _ => none }
def KeysOnceWrongFalsely : Prop := keysOnceRow.holds Tryd.pinned (OpenSpec.ofChange keysOnceWrong)

/- THE SECOND FORM. 'bulk': how many values and letters a reading holds, each counted each time it is reached (what is shared counts as often as it is met; a slice's spare places count too). A statement '..UptoSaid' is the law's where the arguments, and the package variables that the reading takes, are together of bulk at most 1048576: NARROWER than '..Said'. Prove '..Said' where nothing that the law and all that it calls make is longer than what came in: it says more and counts as full. Else prove '..UptoSaid'. A law counts once. -/
mutual
def uptoBulk {H : Type} : DataW H → Nat
  | .lit (.string bytes) => bytes.length + 1
  | .lit _ => 1
  | .nil => 1
  | .ptr d => uptoBulk d + 1
  | .slice elems spare => uptoBulkAll elems + uptoBulkAll spare + 1
  | .agg parts => uptoBulkAll parts + 1
  | .iface _ d => uptoBulk d + 1
  | .map entries => uptoBulkEntries entries + 1
  | .held _ => 1
def uptoBulkAll {H : Type} : List (DataW H) → Nat
  | [] => 0
  | d :: r => uptoBulk d + uptoBulkAll r
def uptoBulkEntries {H : Type} : List (Lit × DataW H) → Nat
  | [] => 0
  | x :: r => uptoBulkEntry x + uptoBulkEntries r
def uptoBulkEntry {H : Type} : Lit × DataW H → Nat
  | (.string bytes, d) => bytes.length + uptoBulk d + 1
  | (_, d) => uptoBulk d + 1
 end
def uptoSmall : (H : Type) → List (DataW H) → Bool := fun _ ds => decide (uptoBulkAll ds ≤ 1048576)
def OpenSpec.upto (s : _root_.Go.ChangeSpec) : _root_.Go.OpenSpec := { _root_.Go.OpenSpec.ofChange s with cond := some uptoSmall }

/-- 'permitofficelaw23.KeysReturn', WHERE WHAT IT READS IS OF BULK AT MOST 1048576: true; the input reads as it did. -/
def keysReturnUptoRow : OpenClaim := { program := "ytbacidnhjmdnlaadoor", sum := "410c96c6d16388b0f968a9df5b34b9a75b195224855ded1666f5272a3ef940e8", func := "permitoffice/permitofficelaw23.KeysReturn", spec := "keysReturn", inPlace := ["slices.overlaps[permitoffice/api.Row]"], unfollowed := true, recurses := true, named := ["permitoffice/lexeme.classes"], plainKeys := false, apart := false, laid := [("permitoffice/lexeme.classes", laid_permitoffice_lexeme_classes)], narrowed := true }
def KeysReturnUptoSaid : Prop := keysReturnUptoRow.holds Tryd.pinned (OpenSpec.upto keysReturnSpec)

/-- 'permitofficelaw23.KeysOrder', WHERE WHAT IT READS IS OF BULK AT MOST 1048576: true; the input reads as it did. -/
def keysOrderUptoRow : OpenClaim := { program := "ytbacidnhjmdnlaadoor", sum := "410c96c6d16388b0f968a9df5b34b9a75b195224855ded1666f5272a3ef940e8", func := "permitoffice/permitofficelaw23.KeysOrder", spec := "keysOrder", inPlace := ["slices.overlaps[permitoffice/api.Row]"], unfollowed := true, recurses := true, named := ["permitoffice/lexeme.classes"], plainKeys := false, apart := false, laid := [("permitoffice/lexeme.classes", laid_permitoffice_lexeme_classes)], narrowed := true }
def KeysOrderUptoSaid : Prop := keysOrderUptoRow.holds Tryd.pinned (OpenSpec.upto keysOrderSpec)

/-- 'permitofficelaw23.KeysGiven', WHERE WHAT IT READS IS OF BULK AT MOST 1048576: true; the input reads as it did. -/
def keysGivenUptoRow : OpenClaim := { program := "ytbacidnhjmdnlaadoor", sum := "410c96c6d16388b0f968a9df5b34b9a75b195224855ded1666f5272a3ef940e8", func := "permitoffice/permitofficelaw23.KeysGiven", spec := "keysGiven", inPlace := ["slices.overlaps[permitoffice/api.Row]"], unfollowed := true, recurses := true, named := ["permitoffice/lexeme.classes"], plainKeys := false, apart := false, laid := [("permitoffice/lexeme.classes", laid_permitoffice_lexeme_classes)], narrowed := true }
def KeysGivenUptoSaid : Prop := keysGivenUptoRow.holds Tryd.pinned (OpenSpec.upto keysGivenSpec)

/-- 'permitofficelaw23.KeysExact', WHERE WHAT IT READS IS OF BULK AT MOST 1048576: true; the input reads as it did. -/
def keysExactUptoRow : OpenClaim := { program := "ytbacidnhjmdnlaadoor", sum := "410c96c6d16388b0f968a9df5b34b9a75b195224855ded1666f5272a3ef940e8", func := "permitoffice/permitofficelaw23.KeysExact", spec := "keysExact", inPlace := ["slices.overlaps[permitoffice/api.Row]"], unfollowed := true, recurses := true, named := ["permitoffice/lexeme.classes"], plainKeys := false, apart := false, laid := [("permitoffice/lexeme.classes", laid_permitoffice_lexeme_classes)], narrowed := true }
def KeysExactUptoSaid : Prop := keysExactUptoRow.holds Tryd.pinned (OpenSpec.upto keysExactSpec)

/-- 'permitofficelaw23.KeysOnce', WHERE WHAT IT READS IS OF BULK AT MOST 1048576: true; the input reads as it did. -/
def keysOnceUptoRow : OpenClaim := { program := "ytbacidnhjmdnlaadoor", sum := "410c96c6d16388b0f968a9df5b34b9a75b195224855ded1666f5272a3ef940e8", func := "permitoffice/permitofficelaw23.KeysOnce", spec := "keysOnce", inPlace := ["slices.overlaps[permitoffice/api.Row]"], unfollowed := true, recurses := true, named := ["permitoffice/lexeme.classes"], plainKeys := false, apart := false, laid := [("permitoffice/lexeme.classes", laid_permitoffice_lexeme_classes)], narrowed := true }
def KeysOnceUptoSaid : Prop := keysOnceUptoRow.holds Tryd.pinned (OpenSpec.upto keysOnceSpec)

end Rows
end Go.Proofs.YtbacidnhjmdnlaaDoor
