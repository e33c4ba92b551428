/-
  NARROWER THAN 'FOR EVERY INPUT', by the rows' own cells (each row's printed sentence says how): SafesOnce: laid · SafesExact: laid · SafesKeep: laid · SafesBack: laid · SafesFree: laid.
  DERIVED. THE GIVEN ROWS OF THIS SEAT. 5 by the template 'for every input the law returns true; each argument reads behind the call as it read before'; 0 by the template 'total and deterministic' (their statements: YtlmkloghbgglkaaDoorTotals.lean).
  GIVEN WITH THE SEED: the statements are not yours to turn. If you find one false, say at which input.
  Laid BY PROGRAM, IN A SANDBOX (cutbox-rows.mjs): the forced cells as the released guide's own fill.sh prints them over the translation 095046ab885b157c… (all of the seat's roots in one cut). By AI agents, Wed Nov 11 2026. No macro, syntax, notation, axiom, sorry.
-/
import Derived.Test.YtlmkloghbgglkaaDoorChecked
import GoSem.Claim
import GoSem.ClaimJoined
import GoSem.ClaimMapViews
import Derived.JoinedTies
import Derived.KernelRfl
namespace Go.Proofs.YtlmkloghbgglkaaDoor
/- THE CELL 'sum', in the pinned program and in every row, IS THE sha256 OF THE DUMP (.gsa) THAT YtlmkloghbgglkaaDoorProg.lean LOADS. Nothing in Lean hashes anything: it is a label: what it is worth is what the hold of that sum in a sandbox is worth. -/
noncomputable def Tryd.pinned : Pinned := { name := "ytlmkloghbgglkaadoor", sum := "095046ab885b157c0b7f262b68404966d063569bef00c47c3401a9b4a63ceabd", checked := Tryd.checked }
namespace Rows
def none {H : Type} : Left H := { results := [], args := [] }

/- WHAT THE LISTED PACKAGE-LEVEL VARIABLES READ AS WHEN THE CALL BEGINS. Each datum BY PROGRAM (the guide's laid-datum.mjs) off the statement by which the dump's own 'gosem.cut.vars' lays the variable. In a bare row this is a premise. The card (YtlmkloghbgglkaaDoorCards.lean) ties it to the program's text. -/
def laid_permitoffice_lexeme_classes {H : Type} : DataW H := .agg [.agg [.lit (.int .u8 65), .lit (.int .u8 90), .lit (.bool true)], .agg [.lit (.int .u8 97), .lit (.int .u8 122), .lit (.bool true)], .agg [.lit (.int .u8 48), .lit (.int .u8 57), .lit (.bool false)], .agg [.lit (.int .u8 95), .lit (.int .u8 95), .lit (.bool false)]]

/-- 'permitofficelaw24.SafesOnce': WHATEVER THE INPUT: true; the input reads as it did. -/
def safesOnceSpec : ChangeSpec := { name := "safesOnce", fn := fun _ => fun
  | [d1, d2] => { results := [.lit (.bool true)], args := [d1, d2] }
  | _ => none }
def safesOnceRow : OpenClaim := { program := "ytlmkloghbgglkaadoor", sum := "095046ab885b157c0b7f262b68404966d063569bef00c47c3401a9b4a63ceabd", func := "permitoffice/permitofficelaw24.SafesOnce", spec := "safesOnce", inPlace := ["slices.overlaps[int]", "slices.overlaps[string]"], unfollowed := true, recurses := true, named := ["permitoffice/lexeme.classes"], apart := false, laid := [("permitoffice/lexeme.classes", laid_permitoffice_lexeme_classes)] }
def SafesOnceSaid : Prop := safesOnceRow.holds Tryd.pinned (OpenSpec.ofChange safesOnceSpec)

/-- ITS FALSE NEIGHBOUR: 'it returns false'. Refute it at one input. -/
def safesOnceWrong : ChangeSpec := { name := "safesOnce", fn := fun _ => fun
  | [d1, d2] => { results := [.lit (.bool false)], args := [d1, d2] }
  | _ => none }
def SafesOnceWrongFalsely : Prop := safesOnceRow.holds Tryd.pinned (OpenSpec.ofChange safesOnceWrong)

/-- 'permitofficelaw24.SafesExact': WHATEVER THE INPUT: true; the input reads as it did. -/
def safesExactSpec : ChangeSpec := { name := "safesExact", fn := fun _ => fun
  | [d1, d2, d3, d4, d5] => { results := [.lit (.bool true)], args := [d1, d2, d3, d4, d5] }
  | _ => none }
def safesExactRow : OpenClaim := { program := "ytlmkloghbgglkaadoor", sum := "095046ab885b157c0b7f262b68404966d063569bef00c47c3401a9b4a63ceabd", func := "permitoffice/permitofficelaw24.SafesExact", spec := "safesExact", inPlace := ["slices.overlaps[int]", "slices.overlaps[string]"], unfollowed := true, recurses := true, named := ["permitoffice/lexeme.classes"], apart := false, laid := [("permitoffice/lexeme.classes", laid_permitoffice_lexeme_classes)] }
def SafesExactSaid : Prop := safesExactRow.holds Tryd.pinned (OpenSpec.ofChange safesExactSpec)

/-- ITS FALSE NEIGHBOUR: 'it returns false'. Refute it at one input. -/
def safesExactWrong : ChangeSpec := { name := "safesExact", fn := fun _ => fun
  | [d1, d2, d3, d4, d5] => { results := [.lit (.bool false)], args := [d1, d2, d3, d4, d5] }
  | _ => none }
def SafesExactWrongFalsely : Prop := safesExactRow.holds Tryd.pinned (OpenSpec.ofChange safesExactWrong)

/-- 'permitofficelaw24.SafesKeep': WHATEVER THE INPUT: true; the input reads as it did. -/
def safesKeepSpec : ChangeSpec := { name := "safesKeep", fn := fun _ => fun
  | [d1, d2] => { results := [.lit (.bool true)], args := [d1, d2] }
  | _ => none }
def safesKeepRow : OpenClaim := { program := "ytlmkloghbgglkaadoor", sum := "095046ab885b157c0b7f262b68404966d063569bef00c47c3401a9b4a63ceabd", func := "permitoffice/permitofficelaw24.SafesKeep", spec := "safesKeep", inPlace := ["slices.overlaps[int]", "slices.overlaps[string]"], unfollowed := true, recurses := true, named := ["permitoffice/lexeme.classes"], apart := false, laid := [("permitoffice/lexeme.classes", laid_permitoffice_lexeme_classes)] }
def SafesKeepSaid : Prop := safesKeepRow.holds Tryd.pinned (OpenSpec.ofChange safesKeepSpec)

/-- ITS FALSE NEIGHBOUR: 'it returns false'. Refute it at one input. -/
def safesKeepWrong : ChangeSpec := { name := "safesKeep", fn := fun _ => fun
  | [d1, d2] => { results := [.lit (.bool false)], args := [d1, d2] }
  | _ => none }
def SafesKeepWrongFalsely : Prop := safesKeepRow.holds Tryd.pinned (OpenSpec.ofChange safesKeepWrong)

/-- 'permitofficelaw24.SafesBack': WHATEVER THE INPUT: true; the input reads as it did. -/
def safesBackSpec : ChangeSpec := { name := "safesBack", fn := fun _ => fun
  | [d1, d2] => { results := [.lit (.bool true)], args := [d1, d2] }
  | _ => none }
def safesBackRow : OpenClaim := { program := "ytlmkloghbgglkaadoor", sum := "095046ab885b157c0b7f262b68404966d063569bef00c47c3401a9b4a63ceabd", func := "permitoffice/permitofficelaw24.SafesBack", spec := "safesBack", inPlace := ["slices.overlaps[int]", "slices.overlaps[string]"], unfollowed := true, recurses := true, named := ["permitoffice/lexeme.classes"], apart := false, laid := [("permitoffice/lexeme.classes", laid_permitoffice_lexeme_classes)] }
def SafesBackSaid : Prop := safesBackRow.holds Tryd.pinned (OpenSpec.ofChange safesBackSpec)

/-- ITS FALSE NEIGHBOUR: 'it returns false'. Refute it at one input. -/
def safesBackWrong : ChangeSpec := { name := "safesBack", fn := fun _ => fun
  | [d1, d2] => { results := [.lit (.bool false)], args := [d1, d2] }
  | _ => none }
def SafesBackWrongFalsely : Prop := safesBackRow.holds Tryd.pinned (OpenSpec.ofChange safesBackWrong)

/-- 'permitofficelaw24.SafesFree': WHATEVER THE INPUT: true; the input reads as it did. -/
def safesFreeSpec : ChangeSpec := { name := "safesFree", fn := fun _ => fun
  | [d] => { results := [.lit (.bool true)], args := [d] }
  | _ => none }
def safesFreeRow : OpenClaim := { program := "ytlmkloghbgglkaadoor", sum := "095046ab885b157c0b7f262b68404966d063569bef00c47c3401a9b4a63ceabd", func := "permitoffice/permitofficelaw24.SafesFree", spec := "safesFree", inPlace := ["slices.overlaps[int]", "slices.overlaps[string]"], unfollowed := true, recurses := true, named := ["permitoffice/lexeme.classes"], apart := false, laid := [("permitoffice/lexeme.classes", laid_permitoffice_lexeme_classes)] }
def SafesFreeSaid : Prop := safesFreeRow.holds Tryd.pinned (OpenSpec.ofChange safesFreeSpec)

/-- ITS FALSE NEIGHBOUR: 'it returns false'. Refute it at one input. -/
def safesFreeWrong : ChangeSpec := { name := "safesFree", fn := fun _ => fun
  | [d] => { results := [.lit (.bool false)], args := [d] }
  | _ => none }
def SafesFreeWrongFalsely : Prop := safesFreeRow.holds Tryd.pinned (OpenSpec.ofChange safesFreeWrong)

/- THE SECOND FORM. 'bulk': how many values and letters a reading holds, each counted each time it is reached (what is shared counts as often as it is met; a slice's spare places count too). A statement '..UptoSaid' is the law's where the arguments, and the package variables that the reading takes, are together of bulk at most 1048576: NARROWER than '..Said'. Prove '..Said' where nothing that the law and all that it calls make is longer than what came in: it says more and counts as full. Else prove '..UptoSaid'. A law counts once. -/
mutual
def uptoBulk {H : Type} : DataW H → Nat
  | .lit (.string bytes) => bytes.length + 1
  | .lit _ => 1
  | .nil => 1
  | .ptr d => uptoBulk d + 1
  | .slice elems spare => uptoBulkAll elems + uptoBulkAll spare + 1
  | .agg parts => uptoBulkAll parts + 1
  | .iface _ d => uptoBulk d + 1
  | .map entries => uptoBulkEntries entries + 1
  | .held _ => 1
def uptoBulkAll {H : Type} : List (DataW H) → Nat
  | [] => 0
  | d :: r => uptoBulk d + uptoBulkAll r
def uptoBulkEntries {H : Type} : List (Lit × DataW H) → Nat
  | [] => 0
  | x :: r => uptoBulkEntry x + uptoBulkEntries r
def uptoBulkEntry {H : Type} : Lit × DataW H → Nat
  | (.string bytes, d) => bytes.length + uptoBulk d + 1
  | (_, d) => uptoBulk d + 1
 end
def uptoSmall : (H : Type) → List (DataW H) → Bool := fun _ ds => decide (uptoBulkAll ds ≤ 1048576)
def OpenSpec.upto (s : _root_.Go.ChangeSpec) : _root_.Go.OpenSpec := { _root_.Go.OpenSpec.ofChange s with cond := some uptoSmall }

/-- 'permitofficelaw24.SafesOnce', WHERE WHAT IT READS IS OF BULK AT MOST 1048576: true; the input reads as it did. -/
def safesOnceUptoRow : OpenClaim := { program := "ytlmkloghbgglkaadoor", sum := "095046ab885b157c0b7f262b68404966d063569bef00c47c3401a9b4a63ceabd", func := "permitoffice/permitofficelaw24.SafesOnce", spec := "safesOnce", inPlace := ["slices.overlaps[int]", "slices.overlaps[string]"], unfollowed := true, recurses := true, named := ["permitoffice/lexeme.classes"], apart := false, laid := [("permitoffice/lexeme.classes", laid_permitoffice_lexeme_classes)], narrowed := true }
def SafesOnceUptoSaid : Prop := safesOnceUptoRow.holds Tryd.pinned (OpenSpec.upto safesOnceSpec)

/-- 'permitofficelaw24.SafesExact', WHERE WHAT IT READS IS OF BULK AT MOST 1048576: true; the input reads as it did. -/
def safesExactUptoRow : OpenClaim := { program := "ytlmkloghbgglkaadoor", sum := "095046ab885b157c0b7f262b68404966d063569bef00c47c3401a9b4a63ceabd", func := "permitoffice/permitofficelaw24.SafesExact", spec := "safesExact", inPlace := ["slices.overlaps[int]", "slices.overlaps[string]"], unfollowed := true, recurses := true, named := ["permitoffice/lexeme.classes"], apart := false, laid := [("permitoffice/lexeme.classes", laid_permitoffice_lexeme_classes)], narrowed := true }
def SafesExactUptoSaid : Prop := safesExactUptoRow.holds Tryd.pinned (OpenSpec.upto safesExactSpec)

/-- 'permitofficelaw24.SafesKeep', WHERE WHAT IT READS IS OF BULK AT MOST 1048576: true; the input reads as it did. -/
def safesKeepUptoRow : OpenClaim := { program := "ytlmkloghbgglkaadoor", sum := "095046ab885b157c0b7f262b68404966d063569bef00c47c3401a9b4a63ceabd", func := "permitoffice/permitofficelaw24.SafesKeep", spec := "safesKeep", inPlace := ["slices.overlaps[int]", "slices.overlaps[string]"], unfollowed := true, recurses := true, named := ["permitoffice/lexeme.classes"], apart := false, laid := [("permitoffice/lexeme.classes", laid_permitoffice_lexeme_classes)], narrowed := true }
def SafesKeepUptoSaid : Prop := safesKeepUptoRow.holds Tryd.pinned (OpenSpec.upto safesKeepSpec)

/-- 'permitofficelaw24.SafesBack', WHERE WHAT IT READS IS OF BULK AT MOST 1048576: true; the input reads as it did. -/
def safesBackUptoRow : OpenClaim := { program := "ytlmkloghbgglkaadoor", sum := "095046ab885b157c0b7f262b68404966d063569bef00c47c3401a9b4a63ceabd", func := "permitoffice/permitofficelaw24.SafesBack", spec := "safesBack", inPlace := ["slices.overlaps[int]", "slices.overlaps[string]"], unfollowed := true, recurses := true, named := ["permitoffice/lexeme.classes"], apart := false, laid := [("permitoffice/lexeme.classes", laid_permitoffice_lexeme_classes)], narrowed := true }
def SafesBackUptoSaid : Prop := safesBackUptoRow.holds Tryd.pinned (OpenSpec.upto safesBackSpec)

/-- 'permitofficelaw24.SafesFree', WHERE WHAT IT READS IS OF BULK AT MOST 1048576: true; the input reads as it did. -/
def safesFreeUptoRow : OpenClaim := { program := "ytlmkloghbgglkaadoor", sum := "095046ab885b157c0b7f262b68404966d063569bef00c47c3401a9b4a63ceabd", func := "permitoffice/permitofficelaw24.SafesFree", spec := "safesFree", inPlace := ["slices.overlaps[int]", "slices.overlaps[string]"], unfollowed := true, recurses := true, named := ["permitoffice/lexeme.classes"], apart := false, laid := [("permitoffice/lexeme.classes", laid_permitoffice_lexeme_classes)], narrowed := true }
def SafesFreeUptoSaid : Prop := safesFreeUptoRow.holds Tryd.pinned (OpenSpec.upto safesFreeSpec)

end Rows
end Go.Proofs.YtlmkloghbgglkaaDoor
