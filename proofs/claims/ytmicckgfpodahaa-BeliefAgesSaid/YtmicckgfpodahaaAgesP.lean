/- What ages mean for single beliefs: plain laws; conditions: none but ranges. -/
import Derived.Test.YtmicckgfpodahaaLikelyW
set_option linter.unusedVariables false
set_option linter.unusedSimpArgs false
namespace Go.Proofs.Ytmicckgfpodahaa
open Go Go.RowKit
def sureA (a b c : Int) (e f : Bool) : Int × Int := if e = true then (if f = true then pick (bits .or .i64 a b) c else pick a (bits .or .i64 c b)) else (0, 0)
theorem bits_a : ∀ m : Fin 1024, bits .and .i64 (m.val : Int) 3 = ((m.val % 4 : Nat) : Int) := by decide +kernel
theorem bits_b : ∀ m : Fin 1024, bits .and .i64 ((m.val : Int) / 4) 3 = ((m.val / 4 % 4 : Nat) : Int) := by decide +kernel
theorem bits_c : ∀ m : Fin 1024, bits .and .i64 ((m.val : Int) / 16) 3 = ((m.val / 16 % 4 : Nat) : Int) := by decide +kernel
theorem bits_e : ∀ m : Fin 1024, decide (bits .and .i64 (m.val : Int) 960 = 0) = decide (m.val / 64 = 0) := by decide +kernel
theorem bits_t : ∀ m : Fin 1024, decide (bits .and .i64 (m.val : Int) 12 = 0) = decide (m.val / 4 % 4 = 0) := by decide +kernel
def maskA (a b c : Int) (e f : Bool) : Int := orBoth (if (sureA a b c e f).1 = 2 then (sureA a b c e f).2 else 0)
def ages1 (a b c : Nat) (e f1 f2 : Bool) : Bool := decide (bits .and .i64 (maskA a b c e f2) (maskA a b c e f1) = maskA a b c e f1) || decide (a ≠ 0)
def ages2 (a b c : Nat) (e f1 f3 : Bool) : Bool := decide ((sureA a b c e f3).1 ≤ (sureA a b c e f1).1) || decide (a ≠ 0)
def ages3 (a b c : Nat) (e f1 f3 : Bool) : Bool := decide ((sureA a b c e f3).1 ≠ 2) || decide ((sureA a b c e f1).2 = 0) || decide ((sureA a b c e f1).1 ≠ 2) || decide ((sureA a b c e f1).2 = (sureA a b c e f3).2)
def ages4 (a b c : Nat) (e f1 f3 : Bool) : Bool := decide (a = 0) || decide (b ≠ 0) || decide (sureA a b c e f1 = sureA a b c e f3)
def agesB (a b c : Nat) (e f1 f2 f3 : Bool) : Bool := (f2 && !f1) || (f3 && !f1) || (ages1 a b c e f1 f2 && ages2 a b c e f1 f3 && ages3 a b c e f1 f3 && ages4 a b c e f1 f3)
theorem ages_all : ∀ a b c : Fin 4, ∀ e f1 f2 f3 : Bool, agesB a.val b.val c.val e f1 f2 f3 = true := by decide +kernel
theorem ages_fin (a b c : Fin 4) (e f1 f2 f3 : Bool) (h2 : f2 = true → f1 = true) (h3 : f3 = true → f1 = true) :
    (bits .and .i64 (maskA a.val b.val c.val e f2) (maskA a.val b.val c.val e f1) ≠ maskA a.val b.val c.val e f1 → a.val ≠ 0) ∧
    ((sureA a.val b.val c.val e f1).1 < (sureA a.val b.val c.val e f3).1 → a.val ≠ 0) ∧
    ((sureA a.val b.val c.val e f3).1 = 2 → (sureA a.val b.val c.val e f1).2 ≠ 0 → (sureA a.val b.val c.val e f1).1 = 2 → (sureA a.val b.val c.val e f1).2 = (sureA a.val b.val c.val e f3).2) ∧
    (a.val ≠ 0 → b.val = 0 → sureA a.val b.val c.val e f1 = sureA a.val b.val c.val e f3) := by
  have h := ages_all a b c e f1 f2 f3
  have k2 : (f2 && !f1) = false := by cases f2 <;> cases f1 <;> simp_all
  have k3 : (f3 && !f1) = false := by cases f3 <;> cases f1 <;> simp_all
  unfold agesB at h
  rw [k2, k3, Bool.false_or, Bool.false_or, Bool.and_eq_true, Bool.and_eq_true, Bool.and_eq_true] at h
  obtain ⟨⟨⟨q1, q2⟩, q3⟩, q4⟩ := h
  simp only [ages1, ages2, ages3, ages4, Bool.or_eq_true, decide_eq_true_eq] at q1 q2 q3 q4
  refine ⟨fun h => q1.resolve_left h, fun h => q2.resolve_left (by omega), fun x1 x2 x3 => ?_, fun x1 x2 => ?_⟩
  · rcases q3 with ((h | h) | h) | h
    · exact absurd x1 h
    · exact absurd h x2
    · exact absurd x3 h
    · exact h
  · rcases q4 with (h | h) | h
    · exact absurd h x1
    · exact absurd x2 h
    · exact h
theorem fresh_pos {now t limit : Int} (h0 : 0 ≤ now) (h1 : now ≤ 1000) (h2 : 0 ≤ t) (h3 : t ≤ 1000) : freshB now t limit = decide (now - t ≤ limit) := by
  unfold freshB
  rw [IntWalk.wrap64_in _ ⟨by omega, by omega⟩]
  have : decide (now < 0) = false := by simp; omega
  simp [this]
theorem sure_A {b : Bel} (hg : GoodBel b) (now limit : Int) : ∃ (x : Fin 1024), (x.val : Int) = b.m ∧ sure b now limit = sureA ((x.val % 4 : Nat) : Int) ((x.val / 4 % 4 : Nat) : Int) ((x.val / 16 % 4 : Nat) : Int) (decide (x.val / 64 = 0)) (freshB now b.t limit) := by
  obtain ⟨g0, g1, g2, g3, g4, g5⟩ := hg
  obtain ⟨x, hx⟩ := Int.eq_ofNat_of_zero_le g2
  have hx4 : x < 1024 := by omega
  refine ⟨⟨x, hx4⟩, hx.symm, ?_⟩
  rw [sure_m b now limit (valid_good g0 (by omega) g2 g3 g4 g5), hx]
  have h1 := bits_a ⟨x, hx4⟩
  have h2 := bits_b ⟨x, hx4⟩
  have h3 := bits_c ⟨x, hx4⟩
  have h4 := bits_e ⟨x, hx4⟩
  simp only at h1 h2 h3 h4
  unfold sureM sureA
  rw [h1, h2, h3, ← h4]
  simp only [decide_eq_true_eq]
def AgesOk (b : Bel) (τ τ2 κ : Int) : Prop :=
  (bits .and .i64 (orBoth (maskK b τ2 κ)) (orBoth (maskK b τ κ)) ≠ orBoth (maskK b τ κ) → bits .and .i64 b.m 3 ≠ 0) ∧
  ((sure b τ κ).1 < (sure b (τ + 40) κ).1 → bits .and .i64 b.m 3 ≠ 0) ∧
  ((sure b (τ + 40) κ).1 = 2 → (sure b τ κ).2 ≠ 0 → (sure b τ κ).1 = 2 → (sure b τ κ).2 = (sure b (τ + 40) κ).2) ∧
  (bits .and .i64 b.m 3 ≠ 0 → bits .and .i64 b.m 12 = 0 → sure b τ κ = sure b (τ + 40) κ)
theorem ages_ok {b : Bel} (hg : GoodBel b) {τ τ2 κ : Int} (h0 : 0 ≤ τ) (h1 : τ < 40) (h2 : τ < τ2) (h3 : τ2 ≤ 100) : AgesOk b τ τ2 κ := by
  obtain ⟨x, hx, e1⟩ := sure_A hg τ κ
  obtain ⟨x2, hx2, e2⟩ := sure_A hg τ2 κ
  obtain ⟨x3, hx3, e3⟩ := sure_A hg (τ + 40) κ
  obtain rfl : x2 = x := Fin.ext (by omega)
  obtain rfl : x3 = x2 := Fin.ext (by omega)
  have g := hg
  obtain ⟨g0, g1, g2, g3, g4, g5⟩ := g
  have f1 := fresh_pos (limit := κ) h0 (by omega) g0 (by omega)
  have f2 := fresh_pos (now := τ2) (limit := κ) (by omega) (by omega) g0 (by omega)
  have f3 := fresh_pos (now := τ + 40) (limit := κ) (by omega) (by omega) g0 (by omega)
  have A := ages_fin ⟨x3.val % 4, by omega⟩ ⟨x3.val / 4 % 4, by omega⟩ ⟨x3.val / 16 % 4, by omega⟩ (decide (x3.val / 64 = 0)) (freshB τ b.t κ) (freshB τ2 b.t κ) (freshB (τ + 40) b.t κ)
    (by rw [f1, f2]; simp only [decide_eq_true_eq]; omega) (by rw [f1, f3]; simp only [decide_eq_true_eq]; omega)
  have ba := bits_a x3
  have bt := bits_t x3
  rw [hx] at ba bt
  simp only at A
  unfold AgesOk maskK
  rw [e1, e2, e3, ba]
  have hz : ((x3.val % 4 : Nat) : Int) ≠ 0 ↔ x3.val % 4 ≠ 0 := by omega
  rw [hz]
  refine ⟨A.1, A.2.1, A.2.2.1, fun ha hb => A.2.2.2 ha ?_⟩
  have : decide (x3.val / 4 % 4 = 0) = true := by rw [← bt]; simpa using hb
  simpa using this
set_option maxHeartbeats 400000 in
theorem mod_any (n k : Int) (w : World) (h1 : 1 ≤ k) (h2 : k ≤ 1000) : Calls Try.prog 18 #[.int .i64 n, .int .i64 k] w fun e w' => ∃ v : Int, e = .returned (.int .i64 v) ∧ 0 ≤ v ∧ v < k ∧ w = w' := by
  have a1 : -k < n.tmod k := by have := Int.lt_tmod_of_pos n (show 0 < k by omega); omega
  have a2 : n.tmod k < k := Int.tmod_lt_of_pos n (by omega)
  go_enter Try.func18, Try.ntmps18
  go_wp2
  go_ret
  exact ⟨_, rfl, Int.emod_nonneg _ (by omega), Int.emod_lt_of_pos _ (by omega), rfl⟩
end Go.Proofs.Ytmicckgfpodahaa
