/-
  NARROWER THAN 'FOR EVERY INPUT', by the rows' own cells (each row's printed sentence says how): TopWorst: laid · TopHarmless: laid · TopWays: laid.
  DERIVED. THE GIVEN ROWS OF THIS SEAT. 3 by the template 'for every input the law returns true; each argument reads behind the call as it read before'; 0 by the template 'total and deterministic' (their statements: YtnafokinifbfhaaGreatDoorTotals.lean).
  GIVEN WITH THE SEED: the statements are not yours to turn. If you find one false, say at which input.
  Laid BY PROGRAM, IN A SANDBOX (cutbox-rows.mjs): the forced cells as the released guide's own fill.sh prints them over the translation 9f84605b27e34279… (all of the seat's roots in one cut). By AI agents, Wed Nov 11 2026. No macro, syntax, notation, axiom, sorry.
-/
import Derived.Test.YtnafokinifbfhaaGreatDoorChecked
import GoSem.Claim
import GoSem.ClaimJoined
import GoSem.ClaimMapViews
import Derived.JoinedTies
import Derived.KernelRfl
namespace Go.Proofs.YtnafokinifbfhaaGreatDoor
/- THE CELL 'sum', in the pinned program and in every row, IS THE sha256 OF THE DUMP (.gsa) THAT YtnafokinifbfhaaGreatDoorProg.lean LOADS. Nothing in Lean hashes anything: it is a label: what it is worth is what the hold of that sum in a sandbox is worth. -/
noncomputable def Tryz.pinned : Pinned := { name := "ytnafokinifbfhaagreatdoor", sum := "9f84605b27e342790e311177ddccc410aa9a65f031f28713a2b8e678d9011282", checked := Tryz.checked }
namespace Rows
def none {H : Type} : Left H := { results := [], args := [] }

/- WHAT THE LISTED PACKAGE-LEVEL VARIABLES READ AS WHEN THE CALL BEGINS. Each datum BY PROGRAM (the guide's laid-datum.mjs) off the statement by which the dump's own 'gosem.cut.vars' lays the variable. In a bare row this is a premise. The card (YtnafokinifbfhaaGreatDoorCards.lean) ties it to the program's text. -/
def laid_permitoffice_lexeme_classes {H : Type} : DataW H := .agg [.agg [.lit (.int .u8 65), .lit (.int .u8 90), .lit (.bool true)], .agg [.lit (.int .u8 97), .lit (.int .u8 122), .lit (.bool true)], .agg [.lit (.int .u8 48), .lit (.int .u8 57), .lit (.bool false)], .agg [.lit (.int .u8 95), .lit (.int .u8 95), .lit (.bool false)]]
def laid_permitoffice_mask_positions {H : Type} : DataW H := .agg [.agg [.lit (.bool false), .lit (.bool false)], .agg [.lit (.bool true), .lit (.bool true)], .agg [.lit (.bool true), .lit (.bool true)], .agg [.lit (.bool true), .lit (.bool false)]]

/-- 'permitofficetop.TopWorst': WHATEVER THE INPUT: true; the input reads as it did. -/
def topWorstSpec : ChangeSpec := { name := "topWorst", fn := fun _ => fun
  | [d] => { results := [.lit (.bool true)], args := [d] }
  | _ => none }
def topWorstRow : OpenClaim := { program := "ytnafokinifbfhaagreatdoor", sum := "9f84605b27e342790e311177ddccc410aa9a65f031f28713a2b8e678d9011282", func := "permitoffice/permitofficetop.TopWorst", spec := "topWorst", inPlace := ["slices.overlaps[int]"], unfollowed := true, recurses := true, named := ["permitoffice/lexeme.classes", "permitoffice/mask.positions"], apart := false, laid := [("permitoffice/lexeme.classes", laid_permitoffice_lexeme_classes), ("permitoffice/mask.positions", laid_permitoffice_mask_positions)] }
def TopWorstSaid : Prop := topWorstRow.holds Tryz.pinned (OpenSpec.ofChange topWorstSpec)

/-- ITS FALSE NEIGHBOUR: 'it returns false'. Refute it at one input. -/
def topWorstWrong : ChangeSpec := { name := "topWorst", fn := fun _ => fun
  | [d] => { results := [.lit (.bool false)], args := [d] }
  | _ => none }
def TopWorstWrongFalsely : Prop := topWorstRow.holds Tryz.pinned (OpenSpec.ofChange topWorstWrong)

/-- 'permitofficetop.TopHarmless': WHATEVER THE INPUT: true; the input reads as it did. -/
def topHarmlessSpec : ChangeSpec := { name := "topHarmless", fn := fun _ => fun
  | [d] => { results := [.lit (.bool true)], args := [d] }
  | _ => none }
def topHarmlessRow : OpenClaim := { program := "ytnafokinifbfhaagreatdoor", sum := "9f84605b27e342790e311177ddccc410aa9a65f031f28713a2b8e678d9011282", func := "permitoffice/permitofficetop.TopHarmless", spec := "topHarmless", inPlace := ["slices.overlaps[int]"], unfollowed := true, recurses := true, named := ["permitoffice/lexeme.classes", "permitoffice/mask.positions"], apart := false, laid := [("permitoffice/lexeme.classes", laid_permitoffice_lexeme_classes), ("permitoffice/mask.positions", laid_permitoffice_mask_positions)] }
def TopHarmlessSaid : Prop := topHarmlessRow.holds Tryz.pinned (OpenSpec.ofChange topHarmlessSpec)

/-- ITS FALSE NEIGHBOUR: 'it returns false'. Refute it at one input. -/
def topHarmlessWrong : ChangeSpec := { name := "topHarmless", fn := fun _ => fun
  | [d] => { results := [.lit (.bool false)], args := [d] }
  | _ => none }
def TopHarmlessWrongFalsely : Prop := topHarmlessRow.holds Tryz.pinned (OpenSpec.ofChange topHarmlessWrong)

/-- 'permitofficetop.TopWays': WHATEVER THE INPUT: true; the input reads as it did. -/
def topWaysSpec : ChangeSpec := { name := "topWays", fn := fun _ => fun
  | [d] => { results := [.lit (.bool true)], args := [d] }
  | _ => none }
def topWaysRow : OpenClaim := { program := "ytnafokinifbfhaagreatdoor", sum := "9f84605b27e342790e311177ddccc410aa9a65f031f28713a2b8e678d9011282", func := "permitoffice/permitofficetop.TopWays", spec := "topWays", inPlace := ["slices.overlaps[int]"], unfollowed := true, recurses := true, named := ["permitoffice/lexeme.classes", "permitoffice/mask.positions"], apart := false, laid := [("permitoffice/lexeme.classes", laid_permitoffice_lexeme_classes), ("permitoffice/mask.positions", laid_permitoffice_mask_positions)] }
def TopWaysSaid : Prop := topWaysRow.holds Tryz.pinned (OpenSpec.ofChange topWaysSpec)

/-- ITS FALSE NEIGHBOUR: 'it returns false'. Refute it at one input. -/
def topWaysWrong : ChangeSpec := { name := "topWays", fn := fun _ => fun
  | [d] => { results := [.lit (.bool false)], args := [d] }
  | _ => none }
def TopWaysWrongFalsely : Prop := topWaysRow.holds Tryz.pinned (OpenSpec.ofChange topWaysWrong)

/- THE SECOND FORM. 'bulk': how many values and letters a reading holds, each counted each time it is reached (what is shared counts as often as it is met; a slice's spare places count too). A statement '..UptoSaid' is the law's where the arguments, and the package variables that the reading takes, are together of bulk at most 1048576: NARROWER than '..Said'. Prove '..Said' where nothing that the law and all that it calls make is longer than what came in: it says more and counts as full. Else prove '..UptoSaid'. A law counts once. -/
mutual
def uptoBulk {H : Type} : DataW H → Nat
  | .lit (.string bytes) => bytes.length + 1
  | .lit _ => 1
  | .nil => 1
  | .ptr d => uptoBulk d + 1
  | .slice elems spare => uptoBulkAll elems + uptoBulkAll spare + 1
  | .agg parts => uptoBulkAll parts + 1
  | .iface _ d => uptoBulk d + 1
  | .map entries => uptoBulkEntries entries + 1
  | .held _ => 1
def uptoBulkAll {H : Type} : List (DataW H) → Nat
  | [] => 0
  | d :: r => uptoBulk d + uptoBulkAll r
def uptoBulkEntries {H : Type} : List (Lit × DataW H) → Nat
  | [] => 0
  | x :: r => uptoBulkEntry x + uptoBulkEntries r
def uptoBulkEntry {H : Type} : Lit × DataW H → Nat
  | (.string bytes, d) => bytes.length + uptoBulk d + 1
  | (_, d) => uptoBulk d + 1
 end
def uptoSmall : (H : Type) → List (DataW H) → Bool := fun _ ds => decide (uptoBulkAll ds ≤ 1048576)
def OpenSpec.upto (s : _root_.Go.ChangeSpec) : _root_.Go.OpenSpec := { _root_.Go.OpenSpec.ofChange s with cond := some uptoSmall }

/-- 'permitofficetop.TopWorst', WHERE WHAT IT READS IS OF BULK AT MOST 1048576: true; the input reads as it did. -/
def topWorstUptoRow : OpenClaim := { program := "ytnafokinifbfhaagreatdoor", sum := "9f84605b27e342790e311177ddccc410aa9a65f031f28713a2b8e678d9011282", func := "permitoffice/permitofficetop.TopWorst", spec := "topWorst", inPlace := ["slices.overlaps[int]"], unfollowed := true, recurses := true, named := ["permitoffice/lexeme.classes", "permitoffice/mask.positions"], apart := false, laid := [("permitoffice/lexeme.classes", laid_permitoffice_lexeme_classes), ("permitoffice/mask.positions", laid_permitoffice_mask_positions)], narrowed := true }
def TopWorstUptoSaid : Prop := topWorstUptoRow.holds Tryz.pinned (OpenSpec.upto topWorstSpec)

/-- 'permitofficetop.TopHarmless', WHERE WHAT IT READS IS OF BULK AT MOST 1048576: true; the input reads as it did. -/
def topHarmlessUptoRow : OpenClaim := { program := "ytnafokinifbfhaagreatdoor", sum := "9f84605b27e342790e311177ddccc410aa9a65f031f28713a2b8e678d9011282", func := "permitoffice/permitofficetop.TopHarmless", spec := "topHarmless", inPlace := ["slices.overlaps[int]"], unfollowed := true, recurses := true, named := ["permitoffice/lexeme.classes", "permitoffice/mask.positions"], apart := false, laid := [("permitoffice/lexeme.classes", laid_permitoffice_lexeme_classes), ("permitoffice/mask.positions", laid_permitoffice_mask_positions)], narrowed := true }
def TopHarmlessUptoSaid : Prop := topHarmlessUptoRow.holds Tryz.pinned (OpenSpec.upto topHarmlessSpec)

/-- 'permitofficetop.TopWays', WHERE WHAT IT READS IS OF BULK AT MOST 1048576: true; the input reads as it did. -/
def topWaysUptoRow : OpenClaim := { program := "ytnafokinifbfhaagreatdoor", sum := "9f84605b27e342790e311177ddccc410aa9a65f031f28713a2b8e678d9011282", func := "permitoffice/permitofficetop.TopWays", spec := "topWays", inPlace := ["slices.overlaps[int]"], unfollowed := true, recurses := true, named := ["permitoffice/lexeme.classes", "permitoffice/mask.positions"], apart := false, laid := [("permitoffice/lexeme.classes", laid_permitoffice_lexeme_classes), ("permitoffice/mask.positions", laid_permitoffice_mask_positions)], narrowed := true }
def TopWaysUptoSaid : Prop := topWaysUptoRow.holds Tryz.pinned (OpenSpec.upto topWaysSpec)

end Rows
end Go.Proofs.YtnafokinifbfhaaGreatDoor
