/-
  NARROWER THAN 'FOR EVERY INPUT', by the rows' own cells (each row's printed sentence says how): RegisterCan: laid · RegisterLimit: laid · RegisterBack: laid.
  DERIVED. THE GIVEN ROWS OF THIS SEAT. 3 by the template 'for every input the law returns true; each argument reads behind the call as it read before'; 0 by the template 'total and deterministic' (their statements: YtnfjlinffjhkpaaDoorTotals.lean).
  GIVEN WITH THE SEED: the statements are not yours to turn. If you find one false, say at which input.
  Laid BY PROGRAM, IN A SANDBOX (cutbox-rows.mjs): the forced cells as the released guide's own fill.sh prints them over the translation d135eb2b91b86eb6… (all of the seat's roots in one cut). By AI agents, Wed Nov 11 2026. No macro, syntax, notation, axiom, sorry.
-/
import Derived.Test.YtnfjlinffjhkpaaDoorChecked
import GoSem.Claim
import GoSem.ClaimJoined
import GoSem.ClaimMapViews
import Derived.JoinedTies
import Derived.KernelRfl
namespace Go.Proofs.YtnfjlinffjhkpaaDoor
/- THE CELL 'sum', in the pinned program and in every row, IS THE sha256 OF THE DUMP (.gsa) THAT YtnfjlinffjhkpaaDoorProg.lean LOADS. Nothing in Lean hashes anything: it is a label: what it is worth is what the hold of that sum in a sandbox is worth. -/
noncomputable def Tryd.pinned : Pinned := { name := "ytnfjlinffjhkpaadoor", sum := "d135eb2b91b86eb66f70cc6cc64cba3e2b46774ead6f4cb140277850ea30eed0", checked := Tryd.checked }
namespace Rows
def none {H : Type} : Left H := { results := [], args := [] }

/- WHAT THE LISTED PACKAGE-LEVEL VARIABLES READ AS WHEN THE CALL BEGINS. Each datum BY PROGRAM (the guide's laid-datum.mjs) off the statement by which the dump's own 'gosem.cut.vars' lays the variable. In a bare row this is a premise. The card (YtnfjlinffjhkpaaDoorCards.lean) ties it to the program's text. -/
def laid_permitoffice_lexeme_classes {H : Type} : DataW H := .agg [.agg [.lit (.int .u8 65), .lit (.int .u8 90), .lit (.bool true)], .agg [.lit (.int .u8 97), .lit (.int .u8 122), .lit (.bool true)], .agg [.lit (.int .u8 48), .lit (.int .u8 57), .lit (.bool false)], .agg [.lit (.int .u8 95), .lit (.int .u8 95), .lit (.bool false)]]

/-- 'permitofficelaw05.RegisterCan': WHATEVER THE INPUT: true; the input reads as it did. -/
def registerCanSpec : ChangeSpec := { name := "registerCan", fn := fun _ => fun
  | [d1, d2, d3] => { results := [.lit (.bool true)], args := [d1, d2, d3] }
  | _ => none }
def registerCanRow : OpenClaim := { program := "ytnfjlinffjhkpaadoor", sum := "d135eb2b91b86eb66f70cc6cc64cba3e2b46774ead6f4cb140277850ea30eed0", func := "permitoffice/permitofficelaw05.RegisterCan", spec := "registerCan", unfollowed := true, recurses := true, named := ["permitoffice/lexeme.classes"], apart := false, laid := [("permitoffice/lexeme.classes", laid_permitoffice_lexeme_classes)] }
def RegisterCanSaid : Prop := registerCanRow.holds Tryd.pinned (OpenSpec.ofChange registerCanSpec)

/-- ITS FALSE NEIGHBOUR: 'it returns false'. Refute it at one input. -/
def registerCanWrong : ChangeSpec := { name := "registerCan", fn := fun _ => fun
  | [d1, d2, d3] => { results := [.lit (.bool false)], args := [d1, d2, d3] }
  | _ => none }
def RegisterCanWrongFalsely : Prop := registerCanRow.holds Tryd.pinned (OpenSpec.ofChange registerCanWrong)

/-- 'permitofficelaw05.RegisterLimit': WHATEVER THE INPUT: true; the input reads as it did. -/
def registerLimitSpec : ChangeSpec := { name := "registerLimit", fn := fun _ => fun
  | [d] => { results := [.lit (.bool true)], args := [d] }
  | _ => none }
def registerLimitRow : OpenClaim := { program := "ytnfjlinffjhkpaadoor", sum := "d135eb2b91b86eb66f70cc6cc64cba3e2b46774ead6f4cb140277850ea30eed0", func := "permitoffice/permitofficelaw05.RegisterLimit", spec := "registerLimit", unfollowed := true, recurses := true, named := ["permitoffice/lexeme.classes"], apart := false, laid := [("permitoffice/lexeme.classes", laid_permitoffice_lexeme_classes)] }
def RegisterLimitSaid : Prop := registerLimitRow.holds Tryd.pinned (OpenSpec.ofChange registerLimitSpec)

/-- ITS FALSE NEIGHBOUR: 'it returns false'. Refute it at one input. -/
def registerLimitWrong : ChangeSpec := { name := "registerLimit", fn := fun _ => fun
  | [d] => { results := [.lit (.bool false)], args := [d] }
  | _ => none }
def RegisterLimitWrongFalsely : Prop := registerLimitRow.holds Tryd.pinned (OpenSpec.ofChange registerLimitWrong)

/-- 'permitofficelaw05.RegisterBack': WHATEVER THE INPUT: true; the input reads as it did. -/
def registerBackSpec : ChangeSpec := { name := "registerBack", fn := fun _ => fun
  | [d] => { results := [.lit (.bool true)], args := [d] }
  | _ => none }
def registerBackRow : OpenClaim := { program := "ytnfjlinffjhkpaadoor", sum := "d135eb2b91b86eb66f70cc6cc64cba3e2b46774ead6f4cb140277850ea30eed0", func := "permitoffice/permitofficelaw05.RegisterBack", spec := "registerBack", unfollowed := true, recurses := true, named := ["permitoffice/lexeme.classes"], apart := false, laid := [("permitoffice/lexeme.classes", laid_permitoffice_lexeme_classes)] }
def RegisterBackSaid : Prop := registerBackRow.holds Tryd.pinned (OpenSpec.ofChange registerBackSpec)

/-- ITS FALSE NEIGHBOUR: 'it returns false'. Refute it at one input. -/
def registerBackWrong : ChangeSpec := { name := "registerBack", fn := fun _ => fun
  | [d] => { results := [.lit (.bool false)], args := [d] }
  | _ => none }
def RegisterBackWrongFalsely : Prop := registerBackRow.holds Tryd.pinned (OpenSpec.ofChange registerBackWrong)

/- THE SECOND FORM. 'bulk': how many values and letters a reading holds, each counted each time it is reached (what is shared counts as often as it is met; a slice's spare places count too). A statement '..UptoSaid' is the law's where the arguments, and the package variables that the reading takes, are together of bulk at most 1048576: NARROWER than '..Said'. Prove '..Said' where nothing that the law and all that it calls make is longer than what came in: it says more and counts as full. Else prove '..UptoSaid'. A law counts once. -/
mutual
def uptoBulk {H : Type} : DataW H → Nat
  | .lit (.string bytes) => bytes.length + 1
  | .lit _ => 1
  | .nil => 1
  | .ptr d => uptoBulk d + 1
  | .slice elems spare => uptoBulkAll elems + uptoBulkAll spare + 1
  | .agg parts => uptoBulkAll parts + 1
  | .iface _ d => uptoBulk d + 1
  | .map entries => uptoBulkEntries entries + 1
  | .held _ => 1
def uptoBulkAll {H : Type} : List (DataW H) → Nat
  | [] => 0
  | d :: r => uptoBulk d + uptoBulkAll r
def uptoBulkEntries {H : Type} : List (Lit × DataW H) → Nat
  | [] => 0
  | x :: r => uptoBulkEntry x + uptoBulkEntries r
def uptoBulkEntry {H : Type} : Lit × DataW H → Nat
  | (.string bytes, d) => bytes.length + uptoBulk d + 1
  | (_, d) => uptoBulk d + 1
 end
def uptoSmall : (H : Type) → List (DataW H) → Bool := fun _ ds => decide (uptoBulkAll ds ≤ 1048576)
def OpenSpec.upto (s : _root_.Go.ChangeSpec) : _root_.Go.OpenSpec := { _root_.Go.OpenSpec.ofChange s with cond := some uptoSmall }

/-- 'permitofficelaw05.RegisterCan', WHERE WHAT IT READS IS OF BULK AT MOST 1048576: true; the input reads as it did. -/
def registerCanUptoRow : OpenClaim := { program := "ytnfjlinffjhkpaadoor", sum := "d135eb2b91b86eb66f70cc6cc64cba3e2b46774ead6f4cb140277850ea30eed0", func := "permitoffice/permitofficelaw05.RegisterCan", spec := "registerCan", unfollowed := true, recurses := true, named := ["permitoffice/lexeme.classes"], apart := false, laid := [("permitoffice/lexeme.classes", laid_permitoffice_lexeme_classes)], narrowed := true }
def RegisterCanUptoSaid : Prop := registerCanUptoRow.holds Tryd.pinned (OpenSpec.upto registerCanSpec)

/-- 'permitofficelaw05.RegisterLimit', WHERE WHAT IT READS IS OF BULK AT MOST 1048576: true; the input reads as it did. -/
def registerLimitUptoRow : OpenClaim := { program := "ytnfjlinffjhkpaadoor", sum := "d135eb2b91b86eb66f70cc6cc64cba3e2b46774ead6f4cb140277850ea30eed0", func := "permitoffice/permitofficelaw05.RegisterLimit", spec := "registerLimit", unfollowed := true, recurses := true, named := ["permitoffice/lexeme.classes"], apart := false, laid := [("permitoffice/lexeme.classes", laid_permitoffice_lexeme_classes)], narrowed := true }
def RegisterLimitUptoSaid : Prop := registerLimitUptoRow.holds Tryd.pinned (OpenSpec.upto registerLimitSpec)

/-- 'permitofficelaw05.RegisterBack', WHERE WHAT IT READS IS OF BULK AT MOST 1048576: true; the input reads as it did. -/
def registerBackUptoRow : OpenClaim := { program := "ytnfjlinffjhkpaadoor", sum := "d135eb2b91b86eb66f70cc6cc64cba3e2b46774ead6f4cb140277850ea30eed0", func := "permitoffice/permitofficelaw05.RegisterBack", spec := "registerBack", unfollowed := true, recurses := true, named := ["permitoffice/lexeme.classes"], apart := false, laid := [("permitoffice/lexeme.classes", laid_permitoffice_lexeme_classes)], narrowed := true }
def RegisterBackUptoSaid : Prop := registerBackUptoRow.holds Tryd.pinned (OpenSpec.upto registerBackSpec)

end Rows
end Go.Proofs.YtnfjlinffjhkpaaDoor
