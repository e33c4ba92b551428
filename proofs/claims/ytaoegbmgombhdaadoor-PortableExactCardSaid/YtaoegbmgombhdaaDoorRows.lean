/-
  NARROWER THAN 'FOR EVERY INPUT', by the rows' own cells (each row's printed sentence says how): PortableCounts: laid · PortableOthers: laid · PortableOne: laid · PortableBack: laid · PortableExact: laid.
  DERIVED. THE GIVEN ROWS OF THIS SEAT. 5 by the template 'for every input the law returns true; each argument reads behind the call as it read before'; 0 by the template 'total and deterministic' (their statements: YtaoegbmgombhdaaDoorTotals.lean).
  GIVEN WITH THE SEED: the statements are not yours to turn. If you find one false, say at which input.
  Laid BY PROGRAM, IN A SANDBOX (cutbox-rows.mjs): the forced cells as the released guide's own fill.sh prints them over the translation d15f86192a985ef7… (all of the seat's roots in one cut). By AI agents, Wed Nov 11 2026. No macro, syntax, notation, axiom, sorry.
-/
import Derived.Test.YtaoegbmgombhdaaDoorChecked
import GoSem.Claim
import GoSem.ClaimJoined
import GoSem.ClaimMapViews
import Derived.JoinedTies
import Derived.KernelRfl
namespace Go.Proofs.YtaoegbmgombhdaaDoor
/- THE CELL 'sum', in the pinned program and in every row, IS THE sha256 OF THE DUMP (.gsa) THAT YtaoegbmgombhdaaDoorProg.lean LOADS. Nothing in Lean hashes anything: it is a label: what it is worth is what the hold of that sum in a sandbox is worth. -/
noncomputable def Tryd.pinned : Pinned := { name := "ytaoegbmgombhdaadoor", sum := "d15f86192a985ef70432240786ec8aab972739718832f8bcd4f2178bcec2e608", checked := Tryd.checked }
namespace Rows
def none {H : Type} : Left H := { results := [], args := [] }

/- WHAT THE LISTED PACKAGE-LEVEL VARIABLES READ AS WHEN THE CALL BEGINS. Each datum BY PROGRAM (the guide's laid-datum.mjs) off the statement by which the dump's own 'gosem.cut.vars' lays the variable. In a bare row this is a premise. The card (YtaoegbmgombhdaaDoorCards.lean) ties it to the program's text. -/
def laid_permitoffice_lexeme_classes {H : Type} : DataW H := .agg [.agg [.lit (.int .u8 65), .lit (.int .u8 90), .lit (.bool true)], .agg [.lit (.int .u8 97), .lit (.int .u8 122), .lit (.bool true)], .agg [.lit (.int .u8 48), .lit (.int .u8 57), .lit (.bool false)], .agg [.lit (.int .u8 95), .lit (.int .u8 95), .lit (.bool false)]]

/-- 'permitofficelaw25.PortableCounts': WHATEVER THE INPUT: true; the input reads as it did. -/
def portableCountsSpec : ChangeSpec := { name := "portableCounts", fn := fun _ => fun
  | [d] => { results := [.lit (.bool true)], args := [d] }
  | _ => none }
def portableCountsRow : OpenClaim := { program := "ytaoegbmgombhdaadoor", sum := "d15f86192a985ef70432240786ec8aab972739718832f8bcd4f2178bcec2e608", func := "permitoffice/permitofficelaw25.PortableCounts", spec := "portableCounts", unfollowed := true, recurses := true, named := ["permitoffice/lexeme.classes"], apart := false, laid := [("permitoffice/lexeme.classes", laid_permitoffice_lexeme_classes)] }
def PortableCountsSaid : Prop := portableCountsRow.holds Tryd.pinned (OpenSpec.ofChange portableCountsSpec)

/-- ITS FALSE NEIGHBOUR: 'it returns false'. Refute it at one input. -/
def portableCountsWrong : ChangeSpec := { name := "portableCounts", fn := fun _ => fun
  | [d] => { results := [.lit (.bool false)], args := [d] }
  | _ => none }
def PortableCountsWrongFalsely : Prop := portableCountsRow.holds Tryd.pinned (OpenSpec.ofChange portableCountsWrong)

/-- 'permitofficelaw25.PortableOthers': WHATEVER THE INPUT: true; the input reads as it did. -/
def portableOthersSpec : ChangeSpec := { name := "portableOthers", fn := fun _ => fun
  | [d1, d2] => { results := [.lit (.bool true)], args := [d1, d2] }
  | _ => none }
def portableOthersRow : OpenClaim := { program := "ytaoegbmgombhdaadoor", sum := "d15f86192a985ef70432240786ec8aab972739718832f8bcd4f2178bcec2e608", func := "permitoffice/permitofficelaw25.PortableOthers", spec := "portableOthers", unfollowed := true, recurses := true, named := ["permitoffice/lexeme.classes"], apart := false, laid := [("permitoffice/lexeme.classes", laid_permitoffice_lexeme_classes)] }
def PortableOthersSaid : Prop := portableOthersRow.holds Tryd.pinned (OpenSpec.ofChange portableOthersSpec)

/-- ITS FALSE NEIGHBOUR: 'it returns false'. Refute it at one input. -/
def portableOthersWrong : ChangeSpec := { name := "portableOthers", fn := fun _ => fun
  | [d1, d2] => { results := [.lit (.bool false)], args := [d1, d2] }
  | _ => none }
def PortableOthersWrongFalsely : Prop := portableOthersRow.holds Tryd.pinned (OpenSpec.ofChange portableOthersWrong)

/-- 'permitofficelaw25.PortableOne': WHATEVER THE INPUT: true; the input reads as it did. -/
def portableOneSpec : ChangeSpec := { name := "portableOne", fn := fun _ => fun
  | [d1, d2] => { results := [.lit (.bool true)], args := [d1, d2] }
  | _ => none }
def portableOneRow : OpenClaim := { program := "ytaoegbmgombhdaadoor", sum := "d15f86192a985ef70432240786ec8aab972739718832f8bcd4f2178bcec2e608", func := "permitoffice/permitofficelaw25.PortableOne", spec := "portableOne", unfollowed := true, recurses := true, named := ["permitoffice/lexeme.classes"], apart := false, laid := [("permitoffice/lexeme.classes", laid_permitoffice_lexeme_classes)] }
def PortableOneSaid : Prop := portableOneRow.holds Tryd.pinned (OpenSpec.ofChange portableOneSpec)

/-- ITS FALSE NEIGHBOUR: 'it returns false'. Refute it at one input. -/
def portableOneWrong : ChangeSpec := { name := "portableOne", fn := fun _ => fun
  | [d1, d2] => { results := [.lit (.bool false)], args := [d1, d2] }
  | _ => none }
def PortableOneWrongFalsely : Prop := portableOneRow.holds Tryd.pinned (OpenSpec.ofChange portableOneWrong)

/-- 'permitofficelaw25.PortableBack': WHATEVER THE INPUT: true; the input reads as it did. -/
def portableBackSpec : ChangeSpec := { name := "portableBack", fn := fun _ => fun
  | [d] => { results := [.lit (.bool true)], args := [d] }
  | _ => none }
def portableBackRow : OpenClaim := { program := "ytaoegbmgombhdaadoor", sum := "d15f86192a985ef70432240786ec8aab972739718832f8bcd4f2178bcec2e608", func := "permitoffice/permitofficelaw25.PortableBack", spec := "portableBack", unfollowed := true, recurses := true, named := ["permitoffice/lexeme.classes"], apart := false, laid := [("permitoffice/lexeme.classes", laid_permitoffice_lexeme_classes)] }
def PortableBackSaid : Prop := portableBackRow.holds Tryd.pinned (OpenSpec.ofChange portableBackSpec)

/-- ITS FALSE NEIGHBOUR: 'it returns false'. Refute it at one input. -/
def portableBackWrong : ChangeSpec := { name := "portableBack", fn := fun _ => fun
  | [d] => { results := [.lit (.bool false)], args := [d] }
  | _ => none }
def PortableBackWrongFalsely : Prop := portableBackRow.holds Tryd.pinned (OpenSpec.ofChange portableBackWrong)

/-- 'permitofficelaw25.PortableExact': WHATEVER THE INPUT: true; the input reads as it did. -/
def portableExactSpec : ChangeSpec := { name := "portableExact", fn := fun _ => fun
  | [d1, d2, d3, d4, d5, d6] => { results := [.lit (.bool true)], args := [d1, d2, d3, d4, d5, d6] }
  | _ => none }
def portableExactRow : OpenClaim := { program := "ytaoegbmgombhdaadoor", sum := "d15f86192a985ef70432240786ec8aab972739718832f8bcd4f2178bcec2e608", func := "permitoffice/permitofficelaw25.PortableExact", spec := "portableExact", unfollowed := true, recurses := true, named := ["permitoffice/lexeme.classes"], apart := false, laid := [("permitoffice/lexeme.classes", laid_permitoffice_lexeme_classes)] }
def PortableExactSaid : Prop := portableExactRow.holds Tryd.pinned (OpenSpec.ofChange portableExactSpec)

/-- ITS FALSE NEIGHBOUR: 'it returns false'. Refute it at one input. -/
def portableExactWrong : ChangeSpec := { name := "portableExact", fn := fun _ => fun
  | [d1, d2, d3, d4, d5, d6] => { results := [.lit (.bool false)], args := [d1, d2, d3, d4, d5, d6] }
  | _ => none }
def PortableExactWrongFalsely : Prop := portableExactRow.holds Tryd.pinned (OpenSpec.ofChange portableExactWrong)

/- THE SECOND FORM. 'bulk': how many values and letters a reading holds, each counted each time it is reached (what is shared counts as often as it is met; a slice's spare places count too). A statement '..UptoSaid' is the law's where the arguments, and the package variables that the reading takes, are together of bulk at most 1048576: NARROWER than '..Said'. Prove '..Said' where nothing that the law and all that it calls make is longer than what came in: it says more and counts as full. Else prove '..UptoSaid'. A law counts once. -/
mutual
def uptoBulk {H : Type} : DataW H → Nat
  | .lit (.string bytes) => bytes.length + 1
  | .lit _ => 1
  | .nil => 1
  | .ptr d => uptoBulk d + 1
  | .slice elems spare => uptoBulkAll elems + uptoBulkAll spare + 1
  | .agg parts => uptoBulkAll parts + 1
  | .iface _ d => uptoBulk d + 1
  | .map entries => uptoBulkEntries entries + 1
  | .held _ => 1
def uptoBulkAll {H : Type} : List (DataW H) → Nat
  | [] => 0
  | d :: r => uptoBulk d + uptoBulkAll r
def uptoBulkEntries {H : Type} : List (Lit × DataW H) → Nat
  | [] => 0
  | x :: r => uptoBulkEntry x + uptoBulkEntries r
def uptoBulkEntry {H : Type} : Lit × DataW H → Nat
  | (.string bytes, d) => bytes.length + uptoBulk d + 1
  | (_, d) => uptoBulk d + 1
 end
def uptoSmall : (H : Type) → List (DataW H) → Bool := fun _ ds => decide (uptoBulkAll ds ≤ 1048576)
def OpenSpec.upto (s : _root_.Go.ChangeSpec) : _root_.Go.OpenSpec := { _root_.Go.OpenSpec.ofChange s with cond := some uptoSmall }

/-- 'permitofficelaw25.PortableCounts', WHERE WHAT IT READS IS OF BULK AT MOST 1048576: true; the input reads as it did. -/
def portableCountsUptoRow : OpenClaim := { program := "ytaoegbmgombhdaadoor", sum := "d15f86192a985ef70432240786ec8aab972739718832f8bcd4f2178bcec2e608", func := "permitoffice/permitofficelaw25.PortableCounts", spec := "portableCounts", unfollowed := true, recurses := true, named := ["permitoffice/lexeme.classes"], apart := false, laid := [("permitoffice/lexeme.classes", laid_permitoffice_lexeme_classes)], narrowed := true }
def PortableCountsUptoSaid : Prop := portableCountsUptoRow.holds Tryd.pinned (OpenSpec.upto portableCountsSpec)

/-- 'permitofficelaw25.PortableOthers', WHERE WHAT IT READS IS OF BULK AT MOST 1048576: true; the input reads as it did. -/
def portableOthersUptoRow : OpenClaim := { program := "ytaoegbmgombhdaadoor", sum := "d15f86192a985ef70432240786ec8aab972739718832f8bcd4f2178bcec2e608", func := "permitoffice/permitofficelaw25.PortableOthers", spec := "portableOthers", unfollowed := true, recurses := true, named := ["permitoffice/lexeme.classes"], apart := false, laid := [("permitoffice/lexeme.classes", laid_permitoffice_lexeme_classes)], narrowed := true }
def PortableOthersUptoSaid : Prop := portableOthersUptoRow.holds Tryd.pinned (OpenSpec.upto portableOthersSpec)

/-- 'permitofficelaw25.PortableOne', WHERE WHAT IT READS IS OF BULK AT MOST 1048576: true; the input reads as it did. -/
def portableOneUptoRow : OpenClaim := { program := "ytaoegbmgombhdaadoor", sum := "d15f86192a985ef70432240786ec8aab972739718832f8bcd4f2178bcec2e608", func := "permitoffice/permitofficelaw25.PortableOne", spec := "portableOne", unfollowed := true, recurses := true, named := ["permitoffice/lexeme.classes"], apart := false, laid := [("permitoffice/lexeme.classes", laid_permitoffice_lexeme_classes)], narrowed := true }
def PortableOneUptoSaid : Prop := portableOneUptoRow.holds Tryd.pinned (OpenSpec.upto portableOneSpec)

/-- 'permitofficelaw25.PortableBack', WHERE WHAT IT READS IS OF BULK AT MOST 1048576: true; the input reads as it did. -/
def portableBackUptoRow : OpenClaim := { program := "ytaoegbmgombhdaadoor", sum := "d15f86192a985ef70432240786ec8aab972739718832f8bcd4f2178bcec2e608", func := "permitoffice/permitofficelaw25.PortableBack", spec := "portableBack", unfollowed := true, recurses := true, named := ["permitoffice/lexeme.classes"], apart := false, laid := [("permitoffice/lexeme.classes", laid_permitoffice_lexeme_classes)], narrowed := true }
def PortableBackUptoSaid : Prop := portableBackUptoRow.holds Tryd.pinned (OpenSpec.upto portableBackSpec)

/-- 'permitofficelaw25.PortableExact', WHERE WHAT IT READS IS OF BULK AT MOST 1048576: true; the input reads as it did. -/
def portableExactUptoRow : OpenClaim := { program := "ytaoegbmgombhdaadoor", sum := "d15f86192a985ef70432240786ec8aab972739718832f8bcd4f2178bcec2e608", func := "permitoffice/permitofficelaw25.PortableExact", spec := "portableExact", unfollowed := true, recurses := true, named := ["permitoffice/lexeme.classes"], apart := false, laid := [("permitoffice/lexeme.classes", laid_permitoffice_lexeme_classes)], narrowed := true }
def PortableExactUptoSaid : Prop := portableExactUptoRow.holds Tryd.pinned (OpenSpec.upto portableExactSpec)

end Rows
end Go.Proofs.YtaoegbmgombhdaaDoor
