/-
  NARROWER THAN 'FOR EVERY INPUT', by the rows' own cells (each row's printed sentence says how): LexemeNames: laid · LexemeNumbers: laid · LexemeLong: laid · LexemeAnswers: laid · LexemeLines: laid.
  DERIVED. THE GIVEN ROWS OF THIS SEAT. 5 by the template 'for every input the law returns true; each argument reads behind the call as it read before'; 0 by the template 'total and deterministic' (their statements: YtblopmoapfcfhaaDoorTotals.lean).
  GIVEN WITH THE SEED: the statements are not yours to turn. If you find one false, say at which input.
  Laid BY PROGRAM, IN A SANDBOX (cutbox-rows.mjs): the forced cells as the released guide's own fill.sh prints them over the translation 078e37f931336f02… (all of the seat's roots in one cut). By AI agents, Wed Nov 11 2026. No macro, syntax, notation, axiom, sorry.
-/
import Derived.Test.YtblopmoapfcfhaaDoorChecked
import GoSem.PinnedTables
import GoSem.Claim
import GoSem.ClaimJoined
import GoSem.ClaimMapViews
import Derived.JoinedTies
import Derived.KernelRfl
namespace Go.Proofs.YtblopmoapfcfhaaDoor
/- THE CELL 'sum', in the pinned program and in every row, IS THE sha256 OF THE DUMP (.gsa) THAT YtblopmoapfcfhaaDoorProg.lean LOADS. Nothing in Lean hashes anything: it is a label: what it is worth is what the hold of that sum in a sandbox is worth. -/
noncomputable def Tryd.pinned : Pinned := { name := "ytblopmoapfcfhaadoor", sum := "078e37f931336f02d90fa823c8b987477bf40d8d9ff3ea980f7c2425b1f5c484", checked := Tryd.checked }
namespace Rows
def none {H : Type} : Left H := { results := [], args := [] }

/- WHAT THE LISTED PACKAGE-LEVEL VARIABLES READ AS WHEN THE CALL BEGINS. Each datum BY PROGRAM (the guide's laid-datum.mjs) off the statement by which the dump's own 'gosem.cut.vars' lays the variable. In a bare row this is a premise. The card (YtblopmoapfcfhaaDoorCards.lean) ties it to the program's text. -/
def laid_math_bits_deBruijn32tab {H : Type} : DataW H := .agg [.lit (.int .u8 0), .lit (.int .u8 1), .lit (.int .u8 28), .lit (.int .u8 2), .lit (.int .u8 29), .lit (.int .u8 14), .lit (.int .u8 24), .lit (.int .u8 3), .lit (.int .u8 30), .lit (.int .u8 22), .lit (.int .u8 20), .lit (.int .u8 15), .lit (.int .u8 25), .lit (.int .u8 17), .lit (.int .u8 4), .lit (.int .u8 8), .lit (.int .u8 31), .lit (.int .u8 27), .lit (.int .u8 13), .lit (.int .u8 23), .lit (.int .u8 21), .lit (.int .u8 19), .lit (.int .u8 16), .lit (.int .u8 7), .lit (.int .u8 26), .lit (.int .u8 12), .lit (.int .u8 18), .lit (.int .u8 6), .lit (.int .u8 11), .lit (.int .u8 5), .lit (.int .u8 10), .lit (.int .u8 9)]
def laid_math_bits_deBruijn64tab {H : Type} : DataW H := .agg [.lit (.int .u8 0), .lit (.int .u8 1), .lit (.int .u8 56), .lit (.int .u8 2), .lit (.int .u8 57), .lit (.int .u8 49), .lit (.int .u8 28), .lit (.int .u8 3), .lit (.int .u8 61), .lit (.int .u8 58), .lit (.int .u8 42), .lit (.int .u8 50), .lit (.int .u8 38), .lit (.int .u8 29), .lit (.int .u8 17), .lit (.int .u8 4), .lit (.int .u8 62), .lit (.int .u8 47), .lit (.int .u8 59), .lit (.int .u8 36), .lit (.int .u8 45), .lit (.int .u8 43), .lit (.int .u8 51), .lit (.int .u8 22), .lit (.int .u8 53), .lit (.int .u8 39), .lit (.int .u8 33), .lit (.int .u8 30), .lit (.int .u8 24), .lit (.int .u8 18), .lit (.int .u8 12), .lit (.int .u8 5), .lit (.int .u8 63), .lit (.int .u8 55), .lit (.int .u8 48), .lit (.int .u8 27), .lit (.int .u8 60), .lit (.int .u8 41), .lit (.int .u8 37), .lit (.int .u8 16), .lit (.int .u8 46), .lit (.int .u8 35), .lit (.int .u8 44), .lit (.int .u8 21), .lit (.int .u8 52), .lit (.int .u8 32), .lit (.int .u8 23), .lit (.int .u8 11), .lit (.int .u8 54), .lit (.int .u8 26), .lit (.int .u8 40), .lit (.int .u8 15), .lit (.int .u8 34), .lit (.int .u8 20), .lit (.int .u8 31), .lit (.int .u8 10), .lit (.int .u8 25), .lit (.int .u8 14), .lit (.int .u8 19), .lit (.int .u8 9), .lit (.int .u8 13), .lit (.int .u8 8), .lit (.int .u8 7), .lit (.int .u8 6)]
def laid_internal_strconv_uint64pow10 {H : Type} : DataW H := .agg [.lit (.int .u64 1), .lit (.int .u64 10), .lit (.int .u64 100), .lit (.int .u64 1000), .lit (.int .u64 10000), .lit (.int .u64 100000), .lit (.int .u64 1000000), .lit (.int .u64 10000000), .lit (.int .u64 100000000), .lit (.int .u64 1000000000), .lit (.int .u64 10000000000), .lit (.int .u64 100000000000), .lit (.int .u64 1000000000000), .lit (.int .u64 10000000000000), .lit (.int .u64 100000000000000), .lit (.int .u64 1000000000000000), .lit (.int .u64 10000000000000000), .lit (.int .u64 100000000000000000), .lit (.int .u64 1000000000000000000), .lit (.int .u64 10000000000000000000)]
def laid_permitoffice_lexeme_classes {H : Type} : DataW H := .agg [.agg [.lit (.int .u8 65), .lit (.int .u8 90), .lit (.bool true)], .agg [.lit (.int .u8 97), .lit (.int .u8 122), .lit (.bool true)], .agg [.lit (.int .u8 48), .lit (.int .u8 57), .lit (.bool false)], .agg [.lit (.int .u8 95), .lit (.int .u8 95), .lit (.bool false)]]
def laid_unicode_utf8_acceptRanges {H : Type} : DataW H := .agg [.agg [.lit (.int .u8 128), .lit (.int .u8 191)], .agg [.lit (.int .u8 160), .lit (.int .u8 191)], .agg [.lit (.int .u8 128), .lit (.int .u8 159)], .agg [.lit (.int .u8 144), .lit (.int .u8 191)], .agg [.lit (.int .u8 128), .lit (.int .u8 143)], .agg [.lit (.int .u8 0), .lit (.int .u8 0)], .agg [.lit (.int .u8 0), .lit (.int .u8 0)], .agg [.lit (.int .u8 0), .lit (.int .u8 0)], .agg [.lit (.int .u8 0), .lit (.int .u8 0)], .agg [.lit (.int .u8 0), .lit (.int .u8 0)], .agg [.lit (.int .u8 0), .lit (.int .u8 0)], .agg [.lit (.int .u8 0), .lit (.int .u8 0)], .agg [.lit (.int .u8 0), .lit (.int .u8 0)], .agg [.lit (.int .u8 0), .lit (.int .u8 0)], .agg [.lit (.int .u8 0), .lit (.int .u8 0)], .agg [.lit (.int .u8 0), .lit (.int .u8 0)]]
/-- One of Go's own tables, pinned by name: the form's constant. -/
def laid_unicode_utf8_first : DataW Unit := Go.Pinned.utf8First

/-- 'permitofficelaw01.LexemeNames': WHATEVER THE INPUT: true; the input reads as it did. -/
def lexemeNamesSpec : ChangeSpec := { name := "lexemeNames", fn := fun _ => fun
  | [d] => { results := [.lit (.bool true)], args := [d] }
  | _ => none }
def lexemeNamesRow : OpenClaim := { program := "ytblopmoapfcfhaadoor", sum := "078e37f931336f02d90fa823c8b987477bf40d8d9ff3ea980f7c2425b1f5c484", func := "permitoffice/permitofficelaw01.LexemeNames", spec := "lexemeNames", named := ["permitoffice/lexeme.classes", "internal/strconv.uint64pow10", "math/bits.deBruijn32tab", "math/bits.deBruijn64tab"], apart := false, laid := [("math/bits.deBruijn32tab", laid_math_bits_deBruijn32tab), ("math/bits.deBruijn64tab", laid_math_bits_deBruijn64tab), ("internal/strconv.uint64pow10", laid_internal_strconv_uint64pow10), ("permitoffice/lexeme.classes", laid_permitoffice_lexeme_classes)] }
def LexemeNamesSaid : Prop := lexemeNamesRow.holds Tryd.pinned (OpenSpec.ofChange lexemeNamesSpec)

/-- ITS FALSE NEIGHBOUR: 'it returns false'. Refute it at one input. -/
def lexemeNamesWrong : ChangeSpec := { name := "lexemeNames", fn := fun _ => fun
  | [d] => { results := [.lit (.bool false)], args := [d] }
  | _ => none }
def LexemeNamesWrongFalsely : Prop := lexemeNamesRow.holds Tryd.pinned (OpenSpec.ofChange lexemeNamesWrong)

/-- 'permitofficelaw01.LexemeNumbers': WHATEVER THE INPUT: true; the input reads as it did. -/
def lexemeNumbersSpec : ChangeSpec := { name := "lexemeNumbers", fn := fun _ => fun
  | [d1, d2] => { results := [.lit (.bool true)], args := [d1, d2] }
  | _ => none }
def lexemeNumbersRow : OpenClaim := { program := "ytblopmoapfcfhaadoor", sum := "078e37f931336f02d90fa823c8b987477bf40d8d9ff3ea980f7c2425b1f5c484", func := "permitoffice/permitofficelaw01.LexemeNumbers", spec := "lexemeNumbers", named := ["internal/strconv.uint64pow10", "math/bits.deBruijn32tab", "math/bits.deBruijn64tab", "permitoffice/lexeme.classes"], apart := false, laid := [("math/bits.deBruijn32tab", laid_math_bits_deBruijn32tab), ("math/bits.deBruijn64tab", laid_math_bits_deBruijn64tab), ("internal/strconv.uint64pow10", laid_internal_strconv_uint64pow10), ("permitoffice/lexeme.classes", laid_permitoffice_lexeme_classes)] }
def LexemeNumbersSaid : Prop := lexemeNumbersRow.holds Tryd.pinned (OpenSpec.ofChange lexemeNumbersSpec)

/-- ITS FALSE NEIGHBOUR: 'it returns false'. Refute it at one input. -/
def lexemeNumbersWrong : ChangeSpec := { name := "lexemeNumbers", fn := fun _ => fun
  | [d1, d2] => { results := [.lit (.bool false)], args := [d1, d2] }
  | _ => none }
def LexemeNumbersWrongFalsely : Prop := lexemeNumbersRow.holds Tryd.pinned (OpenSpec.ofChange lexemeNumbersWrong)

/-- 'permitofficelaw01.LexemeLong': WHATEVER THE INPUT: true; the input reads as it did. -/
def lexemeLongSpec : ChangeSpec := { name := "lexemeLong", fn := fun _ => fun
  | [d] => { results := [.lit (.bool true)], args := [d] }
  | _ => none }
def lexemeLongRow : OpenClaim := { program := "ytblopmoapfcfhaadoor", sum := "078e37f931336f02d90fa823c8b987477bf40d8d9ff3ea980f7c2425b1f5c484", func := "permitoffice/permitofficelaw01.LexemeLong", spec := "lexemeLong", inPlace := ["internal/bytealg.CountString", "internal/bytealg.IndexByteString", "internal/bytealg.IndexString"], named := ["unicode/utf8.first", "unicode/utf8.acceptRanges", "internal/bytealg.MaxLen", "permitoffice/lexeme.classes", "internal/strconv.uint64pow10", "math/bits.deBruijn32tab", "math/bits.deBruijn64tab"], apart := false, laid := [("math/bits.deBruijn32tab", laid_math_bits_deBruijn32tab), ("math/bits.deBruijn64tab", laid_math_bits_deBruijn64tab), ("internal/strconv.uint64pow10", laid_internal_strconv_uint64pow10), ("unicode/utf8.acceptRanges", laid_unicode_utf8_acceptRanges), ("permitoffice/lexeme.classes", laid_permitoffice_lexeme_classes), ("unicode/utf8.first", laid_unicode_utf8_first)] }
def LexemeLongSaid : Prop := lexemeLongRow.holds Tryd.pinned (OpenSpec.ofChange lexemeLongSpec)

/-- ITS FALSE NEIGHBOUR: 'it returns false'. Refute it at one input. -/
def lexemeLongWrong : ChangeSpec := { name := "lexemeLong", fn := fun _ => fun
  | [d] => { results := [.lit (.bool false)], args := [d] }
  | _ => none }
def LexemeLongWrongFalsely : Prop := lexemeLongRow.holds Tryd.pinned (OpenSpec.ofChange lexemeLongWrong)

/-- 'permitofficelaw01.LexemeAnswers': WHATEVER THE INPUT: true; the input reads as it did. -/
def lexemeAnswersSpec : ChangeSpec := { name := "lexemeAnswers", fn := fun _ => fun
  | [d1, d2, d3, d4] => { results := [.lit (.bool true)], args := [d1, d2, d3, d4] }
  | _ => none }
def lexemeAnswersRow : OpenClaim := { program := "ytblopmoapfcfhaadoor", sum := "078e37f931336f02d90fa823c8b987477bf40d8d9ff3ea980f7c2425b1f5c484", func := "permitoffice/permitofficelaw01.LexemeAnswers", spec := "lexemeAnswers", inPlace := ["internal/bytealg.CountString", "internal/bytealg.IndexByteString", "internal/bytealg.IndexString", "internal/abi.NoEscape", "internal/bytealg.MakeNoZero"], unfollowed := true, recurses := true, named := ["permitoffice/lexeme.classes", "internal/strconv.uint64pow10", "math/bits.deBruijn32tab", "math/bits.deBruijn64tab", "unicode/utf8.first", "unicode/utf8.acceptRanges", "internal/bytealg.MaxLen"], apart := false, laid := [("math/bits.deBruijn32tab", laid_math_bits_deBruijn32tab), ("math/bits.deBruijn64tab", laid_math_bits_deBruijn64tab), ("internal/strconv.uint64pow10", laid_internal_strconv_uint64pow10), ("unicode/utf8.acceptRanges", laid_unicode_utf8_acceptRanges), ("permitoffice/lexeme.classes", laid_permitoffice_lexeme_classes), ("unicode/utf8.first", laid_unicode_utf8_first)] }
def LexemeAnswersSaid : Prop := lexemeAnswersRow.holds Tryd.pinned (OpenSpec.ofChange lexemeAnswersSpec)

/-- ITS FALSE NEIGHBOUR: 'it returns false'. Refute it at one input. -/
def lexemeAnswersWrong : ChangeSpec := { name := "lexemeAnswers", fn := fun _ => fun
  | [d1, d2, d3, d4] => { results := [.lit (.bool false)], args := [d1, d2, d3, d4] }
  | _ => none }
def LexemeAnswersWrongFalsely : Prop := lexemeAnswersRow.holds Tryd.pinned (OpenSpec.ofChange lexemeAnswersWrong)

/-- 'permitofficelaw01.LexemeLines': WHATEVER THE INPUT: true; the input reads as it did. -/
def lexemeLinesSpec : ChangeSpec := { name := "lexemeLines", fn := fun _ => fun
  | [d] => { results := [.lit (.bool true)], args := [d] }
  | _ => none }
def lexemeLinesRow : OpenClaim := { program := "ytblopmoapfcfhaadoor", sum := "078e37f931336f02d90fa823c8b987477bf40d8d9ff3ea980f7c2425b1f5c484", func := "permitoffice/permitofficelaw01.LexemeLines", spec := "lexemeLines", inPlace := ["internal/bytealg.CountString", "internal/bytealg.IndexByteString", "internal/bytealg.IndexString", "internal/abi.NoEscape", "internal/bytealg.MakeNoZero"], unfollowed := true, recurses := true, named := ["permitoffice/lexeme.classes", "internal/strconv.uint64pow10", "math/bits.deBruijn32tab", "math/bits.deBruijn64tab", "unicode/utf8.first", "unicode/utf8.acceptRanges", "internal/bytealg.MaxLen"], apart := false, laid := [("math/bits.deBruijn32tab", laid_math_bits_deBruijn32tab), ("math/bits.deBruijn64tab", laid_math_bits_deBruijn64tab), ("internal/strconv.uint64pow10", laid_internal_strconv_uint64pow10), ("unicode/utf8.acceptRanges", laid_unicode_utf8_acceptRanges), ("permitoffice/lexeme.classes", laid_permitoffice_lexeme_classes), ("unicode/utf8.first", laid_unicode_utf8_first)] }
def LexemeLinesSaid : Prop := lexemeLinesRow.holds Tryd.pinned (OpenSpec.ofChange lexemeLinesSpec)

/-- ITS FALSE NEIGHBOUR: 'it returns false'. Refute it at one input. -/
def lexemeLinesWrong : ChangeSpec := { name := "lexemeLines", fn := fun _ => fun
  | [d] => { results := [.lit (.bool false)], args := [d] }
  | _ => none }
def LexemeLinesWrongFalsely : Prop := lexemeLinesRow.holds Tryd.pinned (OpenSpec.ofChange lexemeLinesWrong)

/- THE SECOND FORM. 'bulk': how many values and letters a reading holds, each counted each time it is reached (what is shared counts as often as it is met; a slice's spare places count too). A statement '..UptoSaid' is the law's where the arguments, and the package variables that the reading takes, are together of bulk at most 1048576: NARROWER than '..Said'. Prove '..Said' where nothing that the law and all that it calls make is longer than what came in: it says more and counts as full. Else prove '..UptoSaid'. A law counts once. -/
mutual
def uptoBulk {H : Type} : DataW H → Nat
  | .lit (.string bytes) => bytes.length + 1
  | .lit _ => 1
  | .nil => 1
  | .ptr d => uptoBulk d + 1
  | .slice elems spare => uptoBulkAll elems + uptoBulkAll spare + 1
  | .agg parts => uptoBulkAll parts + 1
  | .iface _ d => uptoBulk d + 1
  | .map entries => uptoBulkEntries entries + 1
  | .held _ => 1
def uptoBulkAll {H : Type} : List (DataW H) → Nat
  | [] => 0
  | d :: r => uptoBulk d + uptoBulkAll r
def uptoBulkEntries {H : Type} : List (Lit × DataW H) → Nat
  | [] => 0
  | x :: r => uptoBulkEntry x + uptoBulkEntries r
def uptoBulkEntry {H : Type} : Lit × DataW H → Nat
  | (.string bytes, d) => bytes.length + uptoBulk d + 1
  | (_, d) => uptoBulk d + 1
 end
def uptoSmall : (H : Type) → List (DataW H) → Bool := fun _ ds => decide (uptoBulkAll ds ≤ 1048576)
def OpenSpec.upto (s : _root_.Go.ChangeSpec) : _root_.Go.OpenSpec := { _root_.Go.OpenSpec.ofChange s with cond := some uptoSmall }

/-- 'permitofficelaw01.LexemeNames', WHERE WHAT IT READS IS OF BULK AT MOST 1048576: true; the input reads as it did. -/
def lexemeNamesUptoRow : OpenClaim := { program := "ytblopmoapfcfhaadoor", sum := "078e37f931336f02d90fa823c8b987477bf40d8d9ff3ea980f7c2425b1f5c484", func := "permitoffice/permitofficelaw01.LexemeNames", spec := "lexemeNames", named := ["permitoffice/lexeme.classes", "internal/strconv.uint64pow10", "math/bits.deBruijn32tab", "math/bits.deBruijn64tab"], apart := false, laid := [("math/bits.deBruijn32tab", laid_math_bits_deBruijn32tab), ("math/bits.deBruijn64tab", laid_math_bits_deBruijn64tab), ("internal/strconv.uint64pow10", laid_internal_strconv_uint64pow10), ("permitoffice/lexeme.classes", laid_permitoffice_lexeme_classes)], narrowed := true }
def LexemeNamesUptoSaid : Prop := lexemeNamesUptoRow.holds Tryd.pinned (OpenSpec.upto lexemeNamesSpec)

/-- 'permitofficelaw01.LexemeNumbers', WHERE WHAT IT READS IS OF BULK AT MOST 1048576: true; the input reads as it did. -/
def lexemeNumbersUptoRow : OpenClaim := { program := "ytblopmoapfcfhaadoor", sum := "078e37f931336f02d90fa823c8b987477bf40d8d9ff3ea980f7c2425b1f5c484", func := "permitoffice/permitofficelaw01.LexemeNumbers", spec := "lexemeNumbers", named := ["internal/strconv.uint64pow10", "math/bits.deBruijn32tab", "math/bits.deBruijn64tab", "permitoffice/lexeme.classes"], apart := false, laid := [("math/bits.deBruijn32tab", laid_math_bits_deBruijn32tab), ("math/bits.deBruijn64tab", laid_math_bits_deBruijn64tab), ("internal/strconv.uint64pow10", laid_internal_strconv_uint64pow10), ("permitoffice/lexeme.classes", laid_permitoffice_lexeme_classes)], narrowed := true }
def LexemeNumbersUptoSaid : Prop := lexemeNumbersUptoRow.holds Tryd.pinned (OpenSpec.upto lexemeNumbersSpec)

/-- 'permitofficelaw01.LexemeLong', WHERE WHAT IT READS IS OF BULK AT MOST 1048576: true; the input reads as it did. -/
def lexemeLongUptoRow : OpenClaim := { program := "ytblopmoapfcfhaadoor", sum := "078e37f931336f02d90fa823c8b987477bf40d8d9ff3ea980f7c2425b1f5c484", func := "permitoffice/permitofficelaw01.LexemeLong", spec := "lexemeLong", inPlace := ["internal/bytealg.CountString", "internal/bytealg.IndexByteString", "internal/bytealg.IndexString"], named := ["unicode/utf8.first", "unicode/utf8.acceptRanges", "internal/bytealg.MaxLen", "permitoffice/lexeme.classes", "internal/strconv.uint64pow10", "math/bits.deBruijn32tab", "math/bits.deBruijn64tab"], apart := false, laid := [("math/bits.deBruijn32tab", laid_math_bits_deBruijn32tab), ("math/bits.deBruijn64tab", laid_math_bits_deBruijn64tab), ("internal/strconv.uint64pow10", laid_internal_strconv_uint64pow10), ("unicode/utf8.acceptRanges", laid_unicode_utf8_acceptRanges), ("permitoffice/lexeme.classes", laid_permitoffice_lexeme_classes), ("unicode/utf8.first", laid_unicode_utf8_first)], narrowed := true }
def LexemeLongUptoSaid : Prop := lexemeLongUptoRow.holds Tryd.pinned (OpenSpec.upto lexemeLongSpec)

/-- 'permitofficelaw01.LexemeAnswers', WHERE WHAT IT READS IS OF BULK AT MOST 1048576: true; the input reads as it did. -/
def lexemeAnswersUptoRow : OpenClaim := { program := "ytblopmoapfcfhaadoor", sum := "078e37f931336f02d90fa823c8b987477bf40d8d9ff3ea980f7c2425b1f5c484", func := "permitoffice/permitofficelaw01.LexemeAnswers", spec := "lexemeAnswers", inPlace := ["internal/bytealg.CountString", "internal/bytealg.IndexByteString", "internal/bytealg.IndexString", "internal/abi.NoEscape", "internal/bytealg.MakeNoZero"], unfollowed := true, recurses := true, named := ["permitoffice/lexeme.classes", "internal/strconv.uint64pow10", "math/bits.deBruijn32tab", "math/bits.deBruijn64tab", "unicode/utf8.first", "unicode/utf8.acceptRanges", "internal/bytealg.MaxLen"], apart := false, laid := [("math/bits.deBruijn32tab", laid_math_bits_deBruijn32tab), ("math/bits.deBruijn64tab", laid_math_bits_deBruijn64tab), ("internal/strconv.uint64pow10", laid_internal_strconv_uint64pow10), ("unicode/utf8.acceptRanges", laid_unicode_utf8_acceptRanges), ("permitoffice/lexeme.classes", laid_permitoffice_lexeme_classes), ("unicode/utf8.first", laid_unicode_utf8_first)], narrowed := true }
def LexemeAnswersUptoSaid : Prop := lexemeAnswersUptoRow.holds Tryd.pinned (OpenSpec.upto lexemeAnswersSpec)

/-- 'permitofficelaw01.LexemeLines', WHERE WHAT IT READS IS OF BULK AT MOST 1048576: true; the input reads as it did. -/
def lexemeLinesUptoRow : OpenClaim := { program := "ytblopmoapfcfhaadoor", sum := "078e37f931336f02d90fa823c8b987477bf40d8d9ff3ea980f7c2425b1f5c484", func := "permitoffice/permitofficelaw01.LexemeLines", spec := "lexemeLines", inPlace := ["internal/bytealg.CountString", "internal/bytealg.IndexByteString", "internal/bytealg.IndexString", "internal/abi.NoEscape", "internal/bytealg.MakeNoZero"], unfollowed := true, recurses := true, named := ["permitoffice/lexeme.classes", "internal/strconv.uint64pow10", "math/bits.deBruijn32tab", "math/bits.deBruijn64tab", "unicode/utf8.first", "unicode/utf8.acceptRanges", "internal/bytealg.MaxLen"], apart := false, laid := [("math/bits.deBruijn32tab", laid_math_bits_deBruijn32tab), ("math/bits.deBruijn64tab", laid_math_bits_deBruijn64tab), ("internal/strconv.uint64pow10", laid_internal_strconv_uint64pow10), ("unicode/utf8.acceptRanges", laid_unicode_utf8_acceptRanges), ("permitoffice/lexeme.classes", laid_permitoffice_lexeme_classes), ("unicode/utf8.first", laid_unicode_utf8_first)], narrowed := true }
def LexemeLinesUptoSaid : Prop := lexemeLinesUptoRow.holds Tryd.pinned (OpenSpec.upto lexemeLinesSpec)

end Rows
end Go.Proofs.YtblopmoapfcfhaaDoor
