/- Names, by plain functions on bytes: what lexeme.Name and its reference say, and that they say the same; nothing of the program stands here. -/
import Derived.Test.YtggagmafkdhjcaaGreatDoorLib
set_option linter.unusedVariables false
set_option linter.unusedSimpArgs false
namespace Go.Proofs.YtggagmafkdhjcaaGreatDoor
open Go Go.RowKit
def cR : List (Int × Int × Bool) := [(65, 90, true), (97, 122, true), (48, 57, false), (95, 95, false)]
def bQ : List (Int × Int × Bool) → Int → Bool → Bool
  | [], _, _ => false
  | (lo, hi, fs) :: r, b, f => if lo ≤ b ∧ b ≤ hi then (fs || !f) else bQ r b f
def bV (b : Int) (f : Bool) : Bool := bQ cR b f
def qD : List UInt8 → Bool → Bool
  | [], _ => true
  | c :: r, f => bV c.toNat f && qD r false
def ql (l : List UInt8) : Bool := qD l true && decide (1 ≤ l.length) && decide (l.length ≤ 12)
def qB (b : Int) : Bool := (decide (65 ≤ b) && decide (b ≤ 90)) || (decide (97 ≤ b) && decide (b ≤ 122))
def fA (b : Int) : Bool := decide (48 ≤ b) && decide (b ≤ 57)
def aE (b : Int) : Bool := qB b || fA b || b == 95
def qJ : List UInt8 → Bool
  | [] => true
  | c :: r => aE c.toNat && qJ r
def aR (l : List UInt8) : Bool := match l with
  | [] => false
  | c :: r => decide ((c :: r).length ≤ 12) && qB c.toNat && qJ (c :: r)
theorem mR (b : Int) : bV b true = qB b := by
  unfold bV cR qB
  simp only [bQ]
  by_cases h1 : 65 ≤ b ∧ b ≤ 90
  · simp [h1]
  · by_cases h2 : 97 ≤ b ∧ b ≤ 122
    · simp [h2]
    · have e1 : (decide (65 ≤ b) && decide (b ≤ 90)) = false := by simp; omega
      have e2 : (decide (97 ≤ b) && decide (b ≤ 122)) = false := by simp; omega
      rw [e1, e2, if_neg h1, if_neg h2]
      by_cases h3 : 48 ≤ b ∧ b ≤ 57
      · rw [if_pos h3]; rfl
      · rw [if_neg h3]
        by_cases h4 : 95 ≤ b ∧ b ≤ 95
        · rw [if_pos h4]; rfl
        · rw [if_neg h4]; rfl
theorem mG (b : Int) : bV b false = aE b := by
  unfold bV cR aE qB fA
  simp only [bQ]
  by_cases h1 : 65 ≤ b ∧ b ≤ 90
  · simp [h1]
  · by_cases h2 : 97 ≤ b ∧ b ≤ 122
    · simp [h2]
    · have e1 : (decide (65 ≤ b) && decide (b ≤ 90)) = false := by simp; omega
      have e2 : (decide (97 ≤ b) && decide (b ≤ 122)) = false := by simp; omega
      rw [e1, e2, if_neg h1, if_neg h2]
      by_cases h3 : 48 ≤ b ∧ b ≤ 57
      · simp [h3]
      · have e3 : (decide (48 ≤ b) && decide (b ≤ 57)) = false := by simp; omega
        rw [if_neg h3, e3]
        by_cases h4 : b = 95
        · simp [h4]
        · rw [if_neg (by omega)]
          simp [h4]
theorem bJ : ∀ l : List UInt8, qD l false = qJ l
  | [] => rfl
  | c :: r => by rw [qD, qJ, mG, bJ r]
theorem kB {b : Int} (h : qB b = true) : aE b = true := by simp [aE, h]
theorem iT (l : List UInt8) : aR l = ql l := by
  cases l with
  | nil => rfl
  | cons c r =>
    unfold aR ql
    have e : qJ (c :: r) = (aE c.toNat && qJ r) := rfl
    dsimp only
    rw [qD, mR, bJ, e]
    cases hl : qB c.toNat with
    | false => simp
    | true =>
      rw [kB hl]
      simp
      rw [Bool.and_comm]
end Go.Proofs.YtggagmafkdhjcaaGreatDoor
