/- The single functions of the reference of the package belief: each returns what a plain function says and lays only new memory; conditions: none but the ranges of integers. -/
import Derived.Test.YtmicckgfpodahaaScal
set_option linter.unusedVariables false
set_option linter.unusedSimpArgs false
namespace Go.Proofs.Ytmicckgfpodahaa
open Go Go.RowKit
def rfaultE (p s t : Int) (b : Bool) : Int :=
  if s < 1 ∨ 4 < s then 6 else if t < 0 ∨ 16777216 < t then 11 else if (s = 4 ∧ (p ≠ 0 ∨ b = true)) ∨ (s ≠ 4 ∧ p ≠ 1 ∧ p ≠ 2) then 10 else 0
set_option maxHeartbeats 2000000 in
theorem rfault_any (d p s t : Int) (b : Bool) (w : World) : Calls Try.prog 46 #[.agg #[.int .i64 d, .int .i64 p, .int .i64 s, .int .i64 t, .bool b]] w fun e w' => e = .returned (.int .i64 (rfaultE p s t b)) ∧ Below w.heap.size w w' := by
  go_enter Try.func46, Try.ntmps46
  go_wp2
  all_goals go_ret
  all_goals refine ⟨?_, (Below.refl _ _).alloc (Nat.le_refl _) _⟩
  all_goals simp [rfaultE, *]
  all_goals (repeat' split) <;> first | rfl | omega | simp_all
def rfreshB (t now limit : Int) : Bool :=
  if now ≤ limit then true else if limit < 0 ∧ 0 ≤ now ∧ (16777216 < now ∨ limit < -16777216) then false else decide (wrap64 (now - limit) ≤ t)
set_option maxHeartbeats 2000000 in
theorem rfresh_any (t now limit : Int) (w : World) : Calls Try.prog 48 #[.int .i64 t, .int .i64 now, .int .i64 limit] w fun e w' => e = .returned (.bool (rfreshB t now limit)) ∧ w = w' := by
  go_enter Try.func48, Try.ntmps48
  go_wp2
  all_goals go_ret
  all_goals refine ⟨?_, rfl⟩
  all_goals simp [rfreshB, *]
  all_goals by_cases h1 : now ≤ limit <;> by_cases h2 : limit < 0 <;> by_cases h3 : 0 ≤ now <;> by_cases h4 : 16777216 < now <;> by_cases h5 : limit < -16777216 <;> simp [*] <;> first | omega | (rw [IntWalk.wrap64_in _ ⟨by omega, by omega⟩])
def rrightB (d p s t : Int) (b : Bool) : Bool := decide (0 ≤ d ∧ d < 64 ∧ rfaultE p s t b = 0)
set_option maxHeartbeats 2000000 in
theorem rright_any (d p s t : Int) (b : Bool) (w : World) : Calls Try.prog 50 #[.agg #[.int .i64 d, .int .i64 p, .int .i64 s, .int .i64 t, .bool b]] w fun e w' => e = .returned (.bool (rrightB d p s t b)) ∧ Below w.heap.size w w' := by
  go_enter Try.func50, Try.ntmps50
  go_wp2_with (first | (go_at_call 46; refine (rfault_any _ _ _ _ _ _).mono ?_; rintro e w1 ⟨rfl, hb1⟩))
  all_goals go_ret
  all_goals refine ⟨?_, by first | exact ((Below.refl _ _).alloc (Nat.le_refl _) _).trans (hb1.mono (by simp)) | exact (Below.refl _ _).alloc (Nat.le_refl _) _⟩
  all_goals simp [rrightB, *]
  all_goals first | done | (intros; omega) | (rw [Bool.eq_iff_iff]; simp)
def rmarkI (p s : Int) (b : Bool) : Int :=
  if s = 1 then (if b = true then 256 else 4 * p) else if s = 2 then (if b = true then 16 * p else p) else if s = 3 then 64 * p else 512
set_option maxHeartbeats 2000000 in
theorem rmark_any (d p s t : Int) (b : Bool) (w : World) (hp : 0 ≤ p) (hp3 : p ≤ 3) : Calls Try.prog 51 #[.agg #[.int .i64 d, .int .i64 p, .int .i64 s, .int .i64 t, .bool b]] w fun e w' => e = .returned (.int .i64 (rmarkI p s b)) ∧ Below w.heap.size w w' := by
  go_enter Try.func51, Try.ntmps51
  go_wp2
  all_goals go_ret
  all_goals refine ⟨?_, (Below.refl _ _).alloc (Nat.le_refl _) _⟩
  all_goals simp [rmarkI, *]
  all_goals (repeat' split) <;> first | rfl | omega | simp_all
end Go.Proofs.Ytmicckgfpodahaa
