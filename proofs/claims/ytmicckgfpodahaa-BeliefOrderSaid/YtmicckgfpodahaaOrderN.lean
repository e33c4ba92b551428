/- belief.New(4): four beliefs without marks, in a row of its own; conditions: none. -/
import Derived.Test.YtmicckgfpodahaaMerge
import Derived.Test.YtmicckgfpodahaaLists2
set_option linter.unusedVariables false
set_option linter.unusedSimpArgs false
namespace Go.Proofs.Ytmicckgfpodahaa
open Go Go.RowKit
theorem new4 (w : World) : Calls Try.prog 21 #[.int .i64 4] w fun e w' =>
    ∃ v, e = .returned (.tuple #[v, .int .i64 0]) ∧ w'.ownsRow w.heap.size 30 3 v 4 ([(⟨0, 0, 0⟩ : Bel), ⟨0, 0, 0⟩, ⟨0, 0, 0⟩, ⟨0, 0, 0⟩].flatMap Bel.cells) ∧ Below w.heap.size w w' := by
  obtain ⟨i0, hi, hz0, hz1, hz2⟩ := info_parts infoBel
  go_enter Try.func21, Try.ntmps21
  go_wp2_with (at_make; refine wpList_make_full _ rfl _ _ 37 rfl w.heap.size 30 i0 (.agg #[.int .i64 0, .int .i64 0, .int .i64 0]) 3 Try.underlying37 hi hz0 hz1 _ _ _ _ 4 rfl rfl rfl rfl (by rw [hz2]; omega) (by simp only [maxLen]; omega) (Nat.le_refl _) ?_; intro w2 hown2 hg2)
  go_ret2
  have e12 : (madeCells (Value.agg #[.int .i64 0, .int .i64 0, .int .i64 0]).cells (4 * 3)).toList = [(⟨0, 0, 0⟩ : Bel), ⟨0, 0, 0⟩, ⟨0, 0, 0⟩, ⟨0, 0, 0⟩].flatMap Bel.cells := by kernel_rfl
  rw [e12] at hown2
  exact ⟨.slice (some ⟨w.heap.size, 0, none⟩) 4 4, rfl, hown2, (Below.refl _ _).grown hg2 (Nat.le_refl _) (fun k hk => by cases hk)⟩
end Go.Proofs.Ytmicckgfpodahaa
