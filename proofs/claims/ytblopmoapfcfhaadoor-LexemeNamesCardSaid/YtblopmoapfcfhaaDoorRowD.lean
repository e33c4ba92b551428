/- Closed facts that the cards of this seat share; conditions: none. -/
import Derived.Test.YtblopmoapfcfhaaDoorCards
import Derived.Test.YtblopmoapfcfhaaDoorTie
import Derived.Test.YtblopmoapfcfhaaDoorLexM
import Derived.Test.YtblopmoapfcfhaaDoorLexO
import Derived.Test.YtblopmoapfcfhaaDoorFin
import Derived.SevenTiedAt
set_option linter.unusedVariables false
set_option linter.unusedSimpArgs false
namespace Go.Proofs.YtblopmoapfcfhaaDoor
open Go Go.ChangeShapes Go.WideShapes Go.ChangeAt Go.RowKit
theorem ownD : ownKnob Tryd.prog.godebug = none := by kernel_rfl
theorem laidOutD : laidOutB Tryd.prog = true := by kernel_rfl
theorem pow_of_head {rest : List (String × DataW Unit)} {W : World} (h : laidMet Tryd.prog (("internal/strconv.uint64pow10", Rows.laid_internal_strconv_uint64pow10) :: rest) W) : Pow W :=
  Lib.tabIs_of_head (t := 83) (e := 42) (n := 20) gPow (by kernel_rfl) Tryd.underlying83 Tryd.underlying42 (by kernel_rfl) (by kernel_rfl) h
theorem cellsIntD : Tryd.prog.cellsOf 3 = 1 := by kernel_rfl
end Go.Proofs.YtblopmoapfcfhaaDoor
