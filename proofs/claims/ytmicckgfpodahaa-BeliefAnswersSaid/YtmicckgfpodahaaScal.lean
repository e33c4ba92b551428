/- The functions of the package belief, and of its reference, that take single beliefs and reports: each returns what a plain function says and lays only new memory; conditions: none but the ranges of integers. -/
import Derived.Test.YtmicckgfpodahaaMk
set_option linter.unusedVariables false
set_option linter.unusedSimpArgs false
namespace Go.Proofs.Ytmicckgfpodahaa
open Go Go.RowKit
structure Bel where
  t : Int
  m : Int
  n : Int
  deriving DecidableEq
structure Rep where
  d : Int
  p : Int
  s : Int
  t : Int
  b : Bool
  deriving DecidableEq
def Bel.cells (b : Bel) : List Value := [.int .i64 b.t, .int .i64 b.m, .int .i64 b.n]
def Rep.cells (r : Rep) : List Value := [.int .i64 r.d, .int .i64 r.p, .int .i64 r.s, .int .i64 r.t, .bool r.b]
def timeB (t : Int) : Bool := decide (0 ≤ t) && decide (t ≤ 16777216)
def validE (t m n : Int) : Int := if !timeB t then 11 else if bits .andNot .i64 m 1023 != 0 || decide (n < 0) || decide (n > 2) then 10 else 0
def reportE (d p s t : Int) (b : Bool) (k : Int) : Int :=
  if decide (d < 0) || decide (k ≤ d) then 8 else if decide (s < 1) || decide (4 < s) then 6 else if !timeB t then 11 else
    if (decide (s = 4) && (p != 0 || b)) || (!decide (s = 4) && p != 1 && p != 2) then 10 else 0
theorem time_any (t : Int) (w : World) : Calls Try.prog 49 #[.int .i64 t] w fun e w' => e = .returned (.bool (timeB t)) ∧ w = w' := by
  go_enter Try.func49, Try.ntmps49
  go_wp2
  all_goals go_ret
  all_goals exact ⟨by simp [timeB]; try omega, rfl⟩
set_option maxHeartbeats 400000 in
theorem valid_any (t m n : Int) (w : World) : Calls Try.prog 37 #[.agg #[.int .i64 t, .int .i64 m, .int .i64 n]] w fun e w' => e = .returned (.int .i64 (validE t m n)) ∧ Below w.heap.size w w' := by
  go_enter Try.func37, Try.ntmps37
  go_wp2_with (first | (go_at_call 49; refine (time_any _ _).mono ?_; rintro e w' ⟨rfl, rfl⟩))
  all_goals go_ret
  all_goals refine ⟨?_, (Below.refl _ _).alloc (Nat.le_refl _) _⟩
  all_goals simp [validE, *]
set_option maxHeartbeats 1000000 in
theorem report_any (d p s t : Int) (b : Bool) (k : Int) (w : World) : Calls Try.prog 38 #[.agg #[.int .i64 d, .int .i64 p, .int .i64 s, .int .i64 t, .bool b], .int .i64 k] w fun e w' => e = .returned (.int .i64 (reportE d p s t b k)) ∧ Below w.heap.size w w' := by
  go_enter Try.func38, Try.ntmps38
  go_wp2_with (first | (go_at_call 49; refine (time_any _ _).mono ?_; rintro e w' ⟨rfl, rfl⟩))
  all_goals go_ret
  all_goals refine ⟨?_, (Below.refl _ _).alloc (Nat.le_refl _) _⟩
  all_goals simp [reportE, *]
  all_goals (repeat' split) <;> first | rfl | omega | simp_all
def markI (p s : Int) (b : Bool) : Int :=
  if s = 4 then 512 else if s = 1 ∧ b = true then 256 else p * (if s = 1 then 4 else if s = 2 ∧ b = true then 16 else if s = 2 then 1 else 64)
set_option maxHeartbeats 1000000 in
theorem mark_any (d p s t : Int) (b : Bool) (w : World) (hp : 0 ≤ p) (hp3 : p ≤ 3) : Calls Try.prog 39 #[.agg #[.int .i64 d, .int .i64 p, .int .i64 s, .int .i64 t, .bool b]] w fun e w' => e = .returned (.int .i64 (markI p s b)) ∧ Below w.heap.size w w' := by
  go_enter Try.func39, Try.ntmps39
  go_wp2
  all_goals go_ret
  all_goals refine ⟨?_, (Below.refl _ _).alloc (Nat.le_refl _) _⟩
  all_goals simp [markI, *]
  all_goals (repeat' split) <;> first | rfl | omega | simp_all
def freshB (now t limit : Int) : Bool := (decide (now < 0) && decide (0 < wrap64 (now - t))) || decide (wrap64 (now - t) ≤ limit)
set_option maxHeartbeats 1000000 in
theorem fresh_any (now t limit : Int) (w : World) : Calls Try.prog 40 #[.int .i64 now, .int .i64 t, .int .i64 limit] w fun e w' => e = .returned (.bool (freshB now t limit)) ∧ w = w' := by
  go_enter Try.func40, Try.ntmps40
  go_wp2
  all_goals go_ret
  all_goals refine ⟨?_, rfl⟩
  all_goals simp [freshB, *]
  all_goals (repeat' split) <;> first | rfl | omega | simp_all
def rvalidB (t m n : Int) : Bool := decide (0 ≤ t ∧ t ≤ 16777216 ∧ 0 ≤ m ∧ m ≤ 1023 ∧ 0 ≤ n ∧ n ≤ 2)
set_option maxHeartbeats 1000000 in
theorem rvalid_any (t m n : Int) (w : World) : Calls Try.prog 45 #[.agg #[.int .i64 t, .int .i64 m, .int .i64 n]] w fun e w' => e = .returned (.bool (rvalidB t m n)) ∧ Below w.heap.size w w' := by
  go_enter Try.func45, Try.ntmps45
  go_wp2
  all_goals go_ret
  all_goals refine ⟨?_, (Below.refl _ _).alloc (Nat.le_refl _) _⟩
  all_goals simp [rvalidB, *]
  all_goals first | done | omega
end Go.Proofs.Ytmicckgfpodahaa
