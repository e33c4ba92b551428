/- From a row's condition on the listed tables to what the walks ask of them (for the abstract machine); conditions: none. -/
import Derived.Test.YtggngllfnboehaaGreatDoorRows
import Derived.Test.YtggngllfnboehaaGreatDoorLexA
import Derived.ProofKit
import Derived.LaidMore
import Derived.OpenShut
import Derived.Stop.Joined
import Derived.Stop.LaidErr
import Derived.Deep.Strs
import Derived.Lib.LaidTab
import Derived.MakeChecks
set_option linter.unusedVariables false
set_option linter.unusedSimpArgs false
namespace Go.Proofs.YtggngllfnboehaaGreatDoor
open Go Go.ChangeShapes Go.WideShapes Go.ChangeAt Go.RowKit Go.Deep
def Cls (w : World) : Prop := ∃ t fr, w.heap[1]? = some (.cells ⟨clsL⟩ t fr)
theorem cellsArr0 : Tryz.prog.cellsOf 119 = 12 := by kernel_rfl
theorem cellsRow0 : Tryz.prog.cellsOf 118 = 3 := by kernel_rfl
theorem cellsU80 : Tryz.prog.cellsOf 5 = 1 := by kernel_rfl
theorem cellsBoolL : Tryz.prog.cellsOf 4 = 1 := by kernel_rfl
theorem gCls : Tryz.prog.globalNamed "permitoffice/lexeme.classes" = some 1 := by kernel_rfl
theorem tCls : (Tryz.prog.globals[1]?).map (·.type) = some 119 := by kernel_rfl
set_option maxRecDepth 100000 in
theorem cls_row {H : Type} {enc : TypeId × Value → H} {W : World} {base : Nat} {sp : Nat → Bool} {held : Bool} {m : Nat} {cs : List Value} {x : DataW H × List MemPlace} (h : DataW.trod enc Tryz.prog W base sp held m 118 cs = some x) :
    ∃ a b f, cs = [.int .u8 a, .int .u8 b, .bool f] ∧ x.1 = .agg [.lit (.int .u8 a), .lit (.int .u8 b), .lit (.bool f)] := by
  obtain ⟨y0, y1, y2, n', rfl, hl, h0, h1, h2⟩ := trod_struct3 Tryz.underlying118 h
  rw [cellsRow0] at hl
  simp only [cellsU80, cellsBoolL] at h0 h1 h2
  match cs, hl with
  | [v0, v1, v2], _ =>
    simp only [List.drop_zero, List.drop_succ_cons, List.take_succ_cons, List.take_zero] at h0 h1 h2
    obtain ⟨k0, e0, z0, -⟩ := DataW.trod_int Tryz.underlying5 h0
    obtain ⟨k1, e1, z1, -⟩ := DataW.trod_int Tryz.underlying5 h1
    obtain ⟨k2, e2, z2⟩ := DataW.trod_bool Tryz.underlying4 h2
    simp only [List.cons.injEq, and_true] at e0 e1 e2
    subst e0; subst e1; subst e2
    exact ⟨k0, k1, k2, rfl, by rw [z0, z1, z2]⟩
set_option maxRecDepth 100000 in
theorem cls_of_head {rest : List (String × DataW Unit)} {W : World} (h : laidMet Tryz.prog (("permitoffice/lexeme.classes", Rows.laid_permitoffice_lexeme_classes) :: rest) W) : Cls W := by
  obtain ⟨ps, ⟨g', t', cs, fuel, p, q, hg', ht', hvar, hd, _, _⟩, _⟩ := h
  obtain rfl := Option.some.inj (gCls.symm.trans hg')
  obtain rfl := Option.some.inj (tCls.symm.trans ht')
  obtain ⟨xs, m1, rfl, hx1, hlen, hn, hel⟩ := DataW.trod_array Tryz.underlying119 hd
  rw [cellsArr0] at hlen
  simp only [cellsRow0] at hel
  obtain ⟨l⟩ := cs
  simp only [Prod.mk.injEq, Rows.laid_permitoffice_lexeme_classes, DataW.agg.injEq] at hx1
  have hcs : l = clsL := by
    match xs, hn, l, hlen with
    | [x0, x1, x2, x3], _, [v0, v1, v2, v3, v4, v5, v6, v7, v8, v9, v10, v11], _ =>
      obtain ⟨a0, b0, f0, c0, d0⟩ := cls_row (hel 0 (by omega))
      obtain ⟨a1, b1, f1, c1, d1⟩ := cls_row (hel 1 (by omega))
      obtain ⟨a2, b2, f2, c2, d2⟩ := cls_row (hel 2 (by omega))
      obtain ⟨a3, b3, f3, c3, d3⟩ := cls_row (hel 3 (by omega))
      simp at c0 c1 c2 c3
      have hx := hx1.1
      simp only [List.map_cons, List.map_nil, d0, d1, d2, d3] at hx
      simp at hx
      simp_all [clsL]
  unfold World.var? at hvar
  rw [gCls] at hvar
  simp only [Option.bind_some] at hvar
  split at hvar
  · rename_i c t fr hh
    injection hvar with hvar
    refine ⟨t, fr, ?_⟩
    rw [hh, hvar, hcs]
  · cases hvar
end Go.Proofs.YtggngllfnboehaaGreatDoor
