/- BeliefAnswers where its arguments are too long, and small lemmas of its walk; conditions: none. -/
import Derived.Test.YtmicckgfpodahaaAnsC
import Derived.Test.YtmicckgfpodahaaAnsN
import Derived.Test.YtmicckgfpodahaaAnsM
import Derived.Test.YtmicckgfpodahaaAwake
import Derived.Test.YtmicckgfpodahaaMk3
set_option linter.unusedVariables false
set_option linter.unusedSimpArgs false
namespace Go.Proofs.Ytmicckgfpodahaa
open Go Go.RowKit
def MlP (l : List Int) (w w' : World) (v : Value) : Prop := ∃ A c, v = .slice A l.length c ∧ Rd w' (fun b => w.heap.size ≤ b ∧ b < w'.heap.size) A 1 intCell l
def ml (L : List Bel) (f : Bel → Int) : List Int := if checkE L = 0 then L.map fun b => orBoth (f b) else []
theorem masks_ml {L : List Bel} {f : Bel → Int} {w w' : World} {e : Ending} (h : MasksPost L f w e w') : ∃ v, e = .returned (.tuple #[v, .int .i64 (checkE L)]) ∧ MlP (ml L f) w w' v ∧ Below w.heap.size w w' := by
  obtain ⟨⟨v, he, h1, h2⟩, hb⟩ := h
  refine ⟨v, he, ?_, hb⟩
  unfold ml
  by_cases hc : checkE L = 0
  · rw [if_pos hc]
    have ho := h1 hc
    rw [show L.length = (L.map fun b => orBoth (f b)).length by simp] at ho
    obtain ⟨A, c, rfl, -⟩ := own_shape ho
    exact ⟨A, c, rfl, Rd.of_own (by omega) (fun _ => rfl) ho⟩
  · rw [if_neg hc, h2 hc]
    exact ⟨none, 0, rfl, Rd.nil _ _ _ _ _⟩
theorem ml_len (L : List Bel) (f : Bel → Int) : (ml L f).length ≤ L.length := by
  unfold ml
  split <;> simp
theorem newL_len (n : Int) : (newL n).length ≤ 64 := by
  unfold newL
  split
  · simp
  · simp; omega
theorem allL_len (L : List Bel) (R : List Rep) : (allL L R).length ≤ L.length := by
  unfold allL
  split
  · rw [show (allA L R).1.length = L.length from foldA_len _ _ _]; exact Nat.le_refl _
  · simp
theorem applyL_len (L : List Bel) (r : Rep) : (applyL L r).length ≤ L.length := by
  unfold applyL
  split <;> simp
theorem normL_len (L : List Bel) (Z : List Int) : (normL L Z).length ≤ L.length := by
  unfold normL
  split
  · rw [normK_len]; exact Nat.le_refl _
  · simp
theorem same_res {w0 w1 w : World} {M : List Bel} {A B : Option Addr} {c d : Nat} (hm : M.length ≤ 1000) (h : Rd w (· < w.heap.size) A 3 Bel.cells M) (h' : Rd w (· < w.heap.size) B 3 Bel.cells M) :
    Calls Try.prog 23 #[.slice A M.length c, .slice B M.length d] w fun e w' => e = .returned (.bool true) ∧ Below w.heap.size w w' := by
  have := same_any A B c d M M w _ hm h h'
  rw [show sameB M M = true by simp [sameB]] at this
  exact this
theorem ints_res {w : World} {l : List Int} {A B : Option Addr} {c d : Nat} (hm : l.length ≤ 1000) (h : Rd w (· < w.heap.size) A 1 intCell l) (h' : Rd w (· < w.heap.size) B 1 intCell l) :
    Calls Try.prog 35 #[.slice A l.length c, .slice B l.length d] w fun e w' => e = .returned (.bool true) ∧ Below w.heap.size w w' := by
  have := ints_any A B c d l l w _ hm h h'
  rw [show decide (l = l) = true by simp] at this
  exact this
set_option maxRecDepth 100000 in
theorem answers_none (A1 A2 A3 A4 : Option Addr) (m1 m2 m3 m4 c1 c2 c3 c4 : Nat) (n now limit : Int) (w : World) (h : ¬ (m1 ≤ 400 ∧ m3 ≤ 70 ∧ m4 ≤ 40 ∧ m2 ≤ 80)) :
    Calls Try.prog 8 #[.slice A1 m1 c1, .slice A2 m2 c2, .slice A3 m3 c3, .slice A4 m4 c4, .int .i64 n, .int .i64 now, .int .i64 limit] w fun e w' => e = .returned (.bool true) ∧ Below w.heap.size w w' := by
  by_cases h1 : m1 ≤ 400
  · have h1' : decide ((m1 : Int) ≤ 400) = true := by simp; omega
    by_cases h3 : 70 < m3
    · have h3' : (70 : Int) < (m3 : Int) := by omega
      go_enter Try.func8, Try.ntmps8
      go_wp2_with (first | (go_at_call 9; refine (few_any _ _ _ _).mono ?_; rintro e w1 ⟨rfl, rfl⟩) | (go_at_call 10; refine (awake_any _).mono ?_; rintro e w2 ⟨rfl, hb2⟩))
      go_ret
      exact ⟨rfl, hb2⟩
    · have h3' : ¬ (70 : Int) < (m3 : Int) := by omega
      by_cases h4 : 40 < m4
      · have h4' : (40 : Int) < (m4 : Int) := by omega
        go_enter Try.func8, Try.ntmps8
        go_wp2_with (first | (go_at_call 9; refine (few_any _ _ _ _).mono ?_; rintro e w1 ⟨rfl, rfl⟩) | (go_at_call 10; refine (awake_any _).mono ?_; rintro e w2 ⟨rfl, hb2⟩))
        go_ret
        exact ⟨rfl, hb2⟩
      · have h4' : ¬ (40 : Int) < (m4 : Int) := by omega
        have h2' : (80 : Int) < (m2 : Int) := by omega
        go_enter Try.func8, Try.ntmps8
        go_wp2_with (first | (go_at_call 9; refine (few_any _ _ _ _).mono ?_; rintro e w1 ⟨rfl, rfl⟩) | (go_at_call 10; refine (awake_any _).mono ?_; rintro e w2 ⟨rfl, hb2⟩))
        go_ret
        exact ⟨rfl, hb2⟩
  · have h1' : decide ((m1 : Int) ≤ 400) = false := by simp; omega
    go_enter Try.func8, Try.ntmps8
    go_wp2_with (first | (go_at_call 9; refine (few_any _ _ _ _).mono ?_; rintro e w1 ⟨rfl, rfl⟩) | (go_at_call 10; refine (awake_any _).mono ?_; rintro e w2 ⟨rfl, hb2⟩))
    go_ret
    exact ⟨rfl, hb2⟩
theorem rd_ints {w : World} {g : Nat} {t : TypeId} (Z : List Int) (h : Blk w g t (Z.map (Value.int .i64)).toArray) {S : Nat → Prop} (hS : S g) : Rd w S (some ⟨g, 0, none⟩) 1 (fun n => [.int .i64 n]) Z := by
  intro _
  refine ⟨g, 0, rfl, hS, ?_⟩
  intro k j x u hx hu
  rw [h.cell]
  match j, hu with
  | 0, hu =>
    cases hu
    have hk := lt_at hx
    simp [hx]
  | j + 1, hu => cases hu
end Go.Proofs.Ytmicckgfpodahaa
