/- How rows and holders are compared; conditions: none. -/
import Derived.Test.YtaoegbmgombhdaaDoorKyA
set_option linter.unusedVariables false
set_option linter.unusedSimpArgs false
namespace Go.Proofs.YtaoegbmgombhdaaDoor
open Go Go.RowKit
def Hol.vals (h : Hol) : List Value := [.int .i64 h.k, .int .i64 h.i, .string h.n]
def Rw.vals (r : Rw) : List Value := [.int .i64 r.num, .int .i64 r.h.k, .int .i64 r.h.i, .string r.h.n]
theorem str_inj {x y : ByteArray} (h : x.toList = y.toList) : x = y := strEq_iff.1 (by unfold strEq; rw [h]; simp)
theorem hol_ext {a b : Hol} (h1 : a.k = b.k) (h2 : a.i = b.i) (h3 : a.n.toList = b.n.toList) : a = b := by
  cases a; cases b
  simp at h1 h2 h3
  have := str_inj h3
  simp [h1, h2, this]
theorem held_Hol : Tryd.prog.stoodInHeld 43 = false := by kernel_rfl
theorem held_Row : Tryd.prog.stoodInHeld 46 = false := by kernel_rfl
theorem holEq (a b : Hol) (w : World) (d : Nat) : (Op.equalIn (d + 2) 43 (.agg ⟨a.vals⟩) (.agg ⟨b.vals⟩)).run Tryd.prog w = .ok (decide (a = b)) w := by
  obtain ⟨k, i, n⟩ := a
  obtain ⟨k', i', n'⟩ := b
  rw [run_equalIn_struct w (d + 1) 43 _ _ (by kernel_rfl) held_Hol]
  simp only [Hol.mk.injEq]
  by_cases h1 : k = k' <;> by_cases h2 : i = i' <;> by_cases h3 : n = n' <;> simp [Hol.vals, Program.fieldsOf, Tryd.underlying43, Op.eqFields, go_sem, Tryd.underlying3, Tryd.underlying9, h1, h2, h3]
  all_goals exact fun e => h3 (str_inj e)
theorem rowEq (a b : Rw) (w : World) (d : Nat) : (Op.equalIn (d + 3) 46 (.agg ⟨a.vals⟩) (.agg ⟨b.vals⟩)).run Tryd.prog w = .ok (decide (a = b)) w := by
  obtain ⟨m, h⟩ := a
  obtain ⟨m', h'⟩ := b
  rw [run_equalIn_struct w (d + 2) 46 _ _ (by kernel_rfl) held_Row]
  simp only [Rw.mk.injEq]
  have hh := holEq h h' w d
  simp only [Hol.vals] at hh
  by_cases h1 : m = m' <;> by_cases h2 : h = h' <;> simp [Rw.vals, Program.fieldsOf, Tryd.underlying46, Op.eqFields, go_sem, Tryd.underlying3, Tryd.underlying9, Tryd.underlying43, h1, h2, hh]
  all_goals exact fun e1 e2 e3 => h2 (hol_ext e1 e2 e3)
theorem holNe (x y : Operand) (a b : Hol) (w : World) : (do eqGuard .neq 43 x y (.agg ⟨a.vals⟩) (.agg ⟨b.vals⟩); binOp .neq 43 (.agg ⟨a.vals⟩) (.agg ⟨b.vals⟩) : Sem Value).run Tryd.prog w = .ok (.bool (!decide (a = b))) w := by
  have hg : (eqGuard .neq 43 x y (.agg ⟨a.vals⟩) (.agg ⟨b.vals⟩)).run Tryd.prog w = .ok () w := by
    unfold eqGuard
    simp [show Tryd.prog.eqGuardType Tryd.prog.depth 43 = false by kernel_rfl]
  rw [Sem.run_bind, hg]
  simp only [Result.andThen_ok, binOp]
  simp [Op.equal, Op.maxDepth, holEq a b w 9998]
theorem rowNe (x y : Operand) (a b : Rw) (w : World) : (do eqGuard .neq 46 x y (.agg ⟨a.vals⟩) (.agg ⟨b.vals⟩); binOp .neq 46 (.agg ⟨a.vals⟩) (.agg ⟨b.vals⟩) : Sem Value).run Tryd.prog w = .ok (.bool (!decide (a = b))) w := by
  have hg : (eqGuard .neq 46 x y (.agg ⟨a.vals⟩) (.agg ⟨b.vals⟩)).run Tryd.prog w = .ok () w := by
    unfold eqGuard
    simp [show Tryd.prog.eqGuardType Tryd.prog.depth 46 = false by kernel_rfl]
  rw [Sem.run_bind, hg]
  simp only [Result.andThen_ok, binOp]
  simp [Op.equal, Op.maxDepth, rowEq a b w 9997]
end Go.Proofs.YtaoegbmgombhdaaDoor
