/-
  No cell of these rows narrows 'for every input' (looked for: loops, veiled, ifaces, maps, wideKeys, modest, calm, conditions, laid).
  DERIVED. THE GIVEN ROWS OF THIS SEAT. 6 by the template 'for every input the law returns true; each argument reads behind the call as it read before'; 0 by the template 'total and deterministic' (their statements: YtmicckgfpodahaaTotals.lean).
  GIVEN WITH THE SEED: the statements are not yours to turn. If you find one false, say at which input.
  Laid BY PROGRAM, IN A SANDBOX (cutbox-rows.mjs): the forced cells as the released guide's own fill.sh prints them over the translation 104d51e2d30124a3… (all of the seat's roots in one cut). By AI agents, Wed Nov 11 2026. No macro, syntax, notation, axiom, sorry.
-/
import Derived.Test.YtmicckgfpodahaaChecked
import GoSem.Claim
import GoSem.ClaimJoined
import GoSem.ClaimMapViews
import Derived.JoinedTies
import Derived.KernelRfl
namespace Go.Proofs.Ytmicckgfpodahaa
/- THE CELL 'sum', in the pinned program and in every row, IS THE sha256 OF THE DUMP (.gsa) THAT YtmicckgfpodahaaProg.lean LOADS. Nothing in Lean hashes anything: it is a label: what it is worth is what the hold of that sum in a sandbox is worth. -/
noncomputable def Try.pinned : Pinned := { name := "ytmicckgfpodahaa", sum := "104d51e2d30124a3fd629c6cada72b7282d08204cd7c397ba60e420221cfd0fb", checked := Try.checked }
namespace Rows
def none {H : Type} : Left H := { results := [], args := [] }

/-- 'permitofficelaw08.BeliefTrue': WHATEVER THE INPUT: true; the input reads as it did. -/
def beliefTrueSpec : ChangeSpec := { name := "beliefTrue", fn := fun _ => fun
  | [d] => { results := [.lit (.bool true)], args := [d] }
  | _ => none }
def beliefTrueRow : OpenClaim := { program := "ytmicckgfpodahaa", sum := "104d51e2d30124a3fd629c6cada72b7282d08204cd7c397ba60e420221cfd0fb", func := "permitoffice/permitofficelaw08.BeliefTrue", spec := "beliefTrue", apart := false }
def BeliefTrueSaid : Prop := beliefTrueRow.holds Try.pinned (OpenSpec.ofChange beliefTrueSpec)

/-- ITS FALSE NEIGHBOUR: 'it returns false'. Refute it at one input. -/
def beliefTrueWrong : ChangeSpec := { name := "beliefTrue", fn := fun _ => fun
  | [d] => { results := [.lit (.bool false)], args := [d] }
  | _ => none }
def BeliefTrueWrongFalsely : Prop := beliefTrueRow.holds Try.pinned (OpenSpec.ofChange beliefTrueWrong)

/-- 'permitofficelaw08.BeliefStorms': WHATEVER THE INPUT: true; the input reads as it did. -/
def beliefStormsSpec : ChangeSpec := { name := "beliefStorms", fn := fun _ => fun
  | [d1, d2] => { results := [.lit (.bool true)], args := [d1, d2] }
  | _ => none }
def beliefStormsRow : OpenClaim := { program := "ytmicckgfpodahaa", sum := "104d51e2d30124a3fd629c6cada72b7282d08204cd7c397ba60e420221cfd0fb", func := "permitoffice/permitofficelaw08.BeliefStorms", spec := "beliefStorms", apart := false }
def BeliefStormsSaid : Prop := beliefStormsRow.holds Try.pinned (OpenSpec.ofChange beliefStormsSpec)

/-- ITS FALSE NEIGHBOUR: 'it returns false'. Refute it at one input. -/
def beliefStormsWrong : ChangeSpec := { name := "beliefStorms", fn := fun _ => fun
  | [d1, d2] => { results := [.lit (.bool false)], args := [d1, d2] }
  | _ => none }
def BeliefStormsWrongFalsely : Prop := beliefStormsRow.holds Try.pinned (OpenSpec.ofChange beliefStormsWrong)

/-- 'permitofficelaw08.BeliefAges': WHATEVER THE INPUT: true; the input reads as it did. -/
def beliefAgesSpec : ChangeSpec := { name := "beliefAges", fn := fun _ => fun
  | [d1, d2, d3] => { results := [.lit (.bool true)], args := [d1, d2, d3] }
  | _ => none }
def beliefAgesRow : OpenClaim := { program := "ytmicckgfpodahaa", sum := "104d51e2d30124a3fd629c6cada72b7282d08204cd7c397ba60e420221cfd0fb", func := "permitoffice/permitofficelaw08.BeliefAges", spec := "beliefAges", unfollowed := true, recurses := true, apart := false }
def BeliefAgesSaid : Prop := beliefAgesRow.holds Try.pinned (OpenSpec.ofChange beliefAgesSpec)

/-- ITS FALSE NEIGHBOUR: 'it returns false'. Refute it at one input. -/
def beliefAgesWrong : ChangeSpec := { name := "beliefAges", fn := fun _ => fun
  | [d1, d2, d3] => { results := [.lit (.bool false)], args := [d1, d2, d3] }
  | _ => none }
def BeliefAgesWrongFalsely : Prop := beliefAgesRow.holds Try.pinned (OpenSpec.ofChange beliefAgesWrong)

/-- 'permitofficelaw08.BeliefOrder': WHATEVER THE INPUT: true; the input reads as it did. -/
def beliefOrderSpec : ChangeSpec := { name := "beliefOrder", fn := fun _ => fun
  | [d] => { results := [.lit (.bool true)], args := [d] }
  | _ => none }
def beliefOrderRow : OpenClaim := { program := "ytmicckgfpodahaa", sum := "104d51e2d30124a3fd629c6cada72b7282d08204cd7c397ba60e420221cfd0fb", func := "permitoffice/permitofficelaw08.BeliefOrder", spec := "beliefOrder", apart := false }
def BeliefOrderSaid : Prop := beliefOrderRow.holds Try.pinned (OpenSpec.ofChange beliefOrderSpec)

/-- ITS FALSE NEIGHBOUR: 'it returns false'. Refute it at one input. -/
def beliefOrderWrong : ChangeSpec := { name := "beliefOrder", fn := fun _ => fun
  | [d] => { results := [.lit (.bool false)], args := [d] }
  | _ => none }
def BeliefOrderWrongFalsely : Prop := beliefOrderRow.holds Try.pinned (OpenSpec.ofChange beliefOrderWrong)

/-- 'permitofficelaw08.BeliefLikely': WHATEVER THE INPUT: true; the input reads as it did. -/
def beliefLikelySpec : ChangeSpec := { name := "beliefLikely", fn := fun _ => fun
  | [d1, d2, d3] => { results := [.lit (.bool true)], args := [d1, d2, d3] }
  | _ => none }
def beliefLikelyRow : OpenClaim := { program := "ytmicckgfpodahaa", sum := "104d51e2d30124a3fd629c6cada72b7282d08204cd7c397ba60e420221cfd0fb", func := "permitoffice/permitofficelaw08.BeliefLikely", spec := "beliefLikely", unfollowed := true, recurses := true, apart := false }
def BeliefLikelySaid : Prop := beliefLikelyRow.holds Try.pinned (OpenSpec.ofChange beliefLikelySpec)

/-- ITS FALSE NEIGHBOUR: 'it returns false'. Refute it at one input. -/
def beliefLikelyWrong : ChangeSpec := { name := "beliefLikely", fn := fun _ => fun
  | [d1, d2, d3] => { results := [.lit (.bool false)], args := [d1, d2, d3] }
  | _ => none }
def BeliefLikelyWrongFalsely : Prop := beliefLikelyRow.holds Try.pinned (OpenSpec.ofChange beliefLikelyWrong)

/-- 'permitofficelaw08.BeliefAnswers': WHATEVER THE INPUT: true; the input reads as it did. -/
def beliefAnswersSpec : ChangeSpec := { name := "beliefAnswers", fn := fun _ => fun
  | [d1, d2, d3, d4, d5, d6, d7] => { results := [.lit (.bool true)], args := [d1, d2, d3, d4, d5, d6, d7] }
  | _ => none }
def beliefAnswersRow : OpenClaim := { program := "ytmicckgfpodahaa", sum := "104d51e2d30124a3fd629c6cada72b7282d08204cd7c397ba60e420221cfd0fb", func := "permitoffice/permitofficelaw08.BeliefAnswers", spec := "beliefAnswers", unfollowed := true, recurses := true, apart := false }
def BeliefAnswersSaid : Prop := beliefAnswersRow.holds Try.pinned (OpenSpec.ofChange beliefAnswersSpec)

/-- ITS FALSE NEIGHBOUR: 'it returns false'. Refute it at one input. -/
def beliefAnswersWrong : ChangeSpec := { name := "beliefAnswers", fn := fun _ => fun
  | [d1, d2, d3, d4, d5, d6, d7] => { results := [.lit (.bool false)], args := [d1, d2, d3, d4, d5, d6, d7] }
  | _ => none }
def BeliefAnswersWrongFalsely : Prop := beliefAnswersRow.holds Try.pinned (OpenSpec.ofChange beliefAnswersWrong)

/- THE SECOND FORM. 'bulk': how many values and letters a reading holds, each counted each time it is reached (what is shared counts as often as it is met; a slice's spare places count too). A statement '..UptoSaid' is the law's where the arguments, and the package variables that the reading takes, are together of bulk at most 1048576: NARROWER than '..Said'. Prove '..Said' where nothing that the law and all that it calls make is longer than what came in: it says more and counts as full. Else prove '..UptoSaid'. A law counts once. -/
mutual
def uptoBulk {H : Type} : DataW H → Nat
  | .lit (.string bytes) => bytes.length + 1
  | .lit _ => 1
  | .nil => 1
  | .ptr d => uptoBulk d + 1
  | .slice elems spare => uptoBulkAll elems + uptoBulkAll spare + 1
  | .agg parts => uptoBulkAll parts + 1
  | .iface _ d => uptoBulk d + 1
  | .map entries => uptoBulkEntries entries + 1
  | .held _ => 1
def uptoBulkAll {H : Type} : List (DataW H) → Nat
  | [] => 0
  | d :: r => uptoBulk d + uptoBulkAll r
def uptoBulkEntries {H : Type} : List (Lit × DataW H) → Nat
  | [] => 0
  | x :: r => uptoBulkEntry x + uptoBulkEntries r
def uptoBulkEntry {H : Type} : Lit × DataW H → Nat
  | (.string bytes, d) => bytes.length + uptoBulk d + 1
  | (_, d) => uptoBulk d + 1
 end
def uptoSmall : (H : Type) → List (DataW H) → Bool := fun _ ds => decide (uptoBulkAll ds ≤ 1048576)
def OpenSpec.upto (s : _root_.Go.ChangeSpec) : _root_.Go.OpenSpec := { _root_.Go.OpenSpec.ofChange s with cond := some uptoSmall }

/-- 'permitofficelaw08.BeliefTrue', WHERE WHAT IT READS IS OF BULK AT MOST 1048576: true; the input reads as it did. -/
def beliefTrueUptoRow : OpenClaim := { program := "ytmicckgfpodahaa", sum := "104d51e2d30124a3fd629c6cada72b7282d08204cd7c397ba60e420221cfd0fb", func := "permitoffice/permitofficelaw08.BeliefTrue", spec := "beliefTrue", apart := false, narrowed := true }
def BeliefTrueUptoSaid : Prop := beliefTrueUptoRow.holds Try.pinned (OpenSpec.upto beliefTrueSpec)

/-- 'permitofficelaw08.BeliefStorms', WHERE WHAT IT READS IS OF BULK AT MOST 1048576: true; the input reads as it did. -/
def beliefStormsUptoRow : OpenClaim := { program := "ytmicckgfpodahaa", sum := "104d51e2d30124a3fd629c6cada72b7282d08204cd7c397ba60e420221cfd0fb", func := "permitoffice/permitofficelaw08.BeliefStorms", spec := "beliefStorms", apart := false, narrowed := true }
def BeliefStormsUptoSaid : Prop := beliefStormsUptoRow.holds Try.pinned (OpenSpec.upto beliefStormsSpec)

/-- 'permitofficelaw08.BeliefAges', WHERE WHAT IT READS IS OF BULK AT MOST 1048576: true; the input reads as it did. -/
def beliefAgesUptoRow : OpenClaim := { program := "ytmicckgfpodahaa", sum := "104d51e2d30124a3fd629c6cada72b7282d08204cd7c397ba60e420221cfd0fb", func := "permitoffice/permitofficelaw08.BeliefAges", spec := "beliefAges", unfollowed := true, recurses := true, apart := false, narrowed := true }
def BeliefAgesUptoSaid : Prop := beliefAgesUptoRow.holds Try.pinned (OpenSpec.upto beliefAgesSpec)

/-- 'permitofficelaw08.BeliefOrder', WHERE WHAT IT READS IS OF BULK AT MOST 1048576: true; the input reads as it did. -/
def beliefOrderUptoRow : OpenClaim := { program := "ytmicckgfpodahaa", sum := "104d51e2d30124a3fd629c6cada72b7282d08204cd7c397ba60e420221cfd0fb", func := "permitoffice/permitofficelaw08.BeliefOrder", spec := "beliefOrder", apart := false, narrowed := true }
def BeliefOrderUptoSaid : Prop := beliefOrderUptoRow.holds Try.pinned (OpenSpec.upto beliefOrderSpec)

/-- 'permitofficelaw08.BeliefLikely', WHERE WHAT IT READS IS OF BULK AT MOST 1048576: true; the input reads as it did. -/
def beliefLikelyUptoRow : OpenClaim := { program := "ytmicckgfpodahaa", sum := "104d51e2d30124a3fd629c6cada72b7282d08204cd7c397ba60e420221cfd0fb", func := "permitoffice/permitofficelaw08.BeliefLikely", spec := "beliefLikely", unfollowed := true, recurses := true, apart := false, narrowed := true }
def BeliefLikelyUptoSaid : Prop := beliefLikelyUptoRow.holds Try.pinned (OpenSpec.upto beliefLikelySpec)

/-- 'permitofficelaw08.BeliefAnswers', WHERE WHAT IT READS IS OF BULK AT MOST 1048576: true; the input reads as it did. -/
def beliefAnswersUptoRow : OpenClaim := { program := "ytmicckgfpodahaa", sum := "104d51e2d30124a3fd629c6cada72b7282d08204cd7c397ba60e420221cfd0fb", func := "permitoffice/permitofficelaw08.BeliefAnswers", spec := "beliefAnswers", unfollowed := true, recurses := true, apart := false, narrowed := true }
def BeliefAnswersUptoSaid : Prop := beliefAnswersUptoRow.holds Try.pinned (OpenSpec.upto beliefAnswersSpec)

end Rows
end Go.Proofs.Ytmicckgfpodahaa
