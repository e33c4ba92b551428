/- Closed facts that the cards of this seat share, and from a row's condition on the listed tables to what the walks ask: the tables of classes and of powers; conditions: none. -/
import Derived.Test.YtgpglcccjkpmdaaDoorCards
import Derived.Test.YtgpglcccjkpmdaaDoorTie
import Derived.Test.YtgpglcccjkpmdaaDoorRows
import Derived.Test.YtgpglcccjkpmdaaDoorTxB
import Derived.Test.YtgpglcccjkpmdaaDoorLexR
import Derived.Test.YtgpglcccjkpmdaaDoorFinA
import Derived.ProofKit
import Derived.LaidMore
import Derived.OpenShut
import Derived.Stop.Joined
import Derived.Stop.LaidErr
import Derived.Deep.Strs
import Derived.Lib.LaidTab
import Derived.MakeChecks
import Derived.SevenTiedAt
set_option linter.unusedVariables false
set_option linter.unusedSimpArgs false
namespace Go.Proofs.YtgpglcccjkpmdaaDoor
open Go Go.ChangeShapes Go.WideShapes Go.ChangeAt Go.RowKit
theorem ownD : ownKnob Tryd.prog.godebug = none := by kernel_rfl
theorem laidOutD : laidOutB Tryd.prog = true := by kernel_rfl
theorem cellsIntD : Tryd.prog.cellsOf 3 = 1 := by kernel_rfl
def Pow (w : World) : Prop := ∃ t fr, w.heap[2]? = some (.cells ⟨powL⟩ t fr)
theorem pow_of_tab {W : World} (h : Lib.TabIs Tryd.prog W "internal/strconv.uint64pow10" .u64 Lib.pow10Tab) : Pow W := by
  unfold Lib.TabIs World.var? at h
  rw [gPowN] at h
  simp only [Option.bind_some] at h
  split at h
  · rename_i c t fr hh
    injection h with h
    refine ⟨t, fr, ?_⟩
    rw [hh, h]
    rfl
  · cases h
theorem pow_of_head {rest : List (String × DataW Unit)} {W : World} (h : laidMet Tryd.prog (("internal/strconv.uint64pow10", Rows.laid_internal_strconv_uint64pow10) :: rest) W) : Pow W :=
  pow_of_tab (Lib.tabIs_of_head (t := 142) (e := 68) (n := 20) gPowN (by kernel_rfl) Tryd.underlying142 Tryd.underlying68 (by kernel_rfl) (by kernel_rfl) h)
def GOf2 : Nat → Option (List Value) := fun g => if g = 0 then some clsL else if g = 2 then some powL else none
theorem GOf2_cls : GCls GOf2 := rfl
theorem GOf2_pow : GPow GOf2 := rfl
theorem GOf2_at {W : World} (hc : Cls W) (hp : Pow W) : ∀ g us, GOf2 g = some us → ∃ t fr, W.heap[g]? = some (.cells ⟨us⟩ t fr) := fun g us e => by
  unfold GOf2 at e
  split at e
  · rename_i hg
    injection e with e
    subst hg; subst e
    exact hc
  · split at e
    · rename_i hg
      injection e with e
      subst hg; subst e
      exact hp
    · cases e
end Go.Proofs.YtgpglcccjkpmdaaDoor
