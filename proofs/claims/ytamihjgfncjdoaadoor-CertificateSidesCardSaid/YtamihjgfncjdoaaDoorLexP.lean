/- Names, by plain functions on bytes: what lexeme.Name and its reference say, and that they say the same; nothing of the program stands here. -/
import Derived.Test.YtamihjgfncjdoaaDoorLib
set_option linter.unusedVariables false
set_option linter.unusedSimpArgs false
namespace Go.Proofs.YtamihjgfncjdoaaDoor
open Go Go.RowKit
def clsTab : List (Int × Int × Bool) := [(65, 90, true), (97, 122, true), (48, 57, false), (95, 95, false)]
def fitsGo : List (Int × Int × Bool) → Int → Bool → Bool
  | [], _, _ => false
  | (lo, hi, fs) :: r, b, f => if lo ≤ b ∧ b ≤ hi then (fs || !f) else fitsGo r b f
def fitsB (b : Int) (f : Bool) : Bool := fitsGo clsTab b f
def fitsAll : List UInt8 → Bool → Bool
  | [], _ => true
  | c :: r, f => fitsB c.toNat f && fitsAll r false
def nameB (l : List UInt8) : Bool := fitsAll l true && decide (1 ≤ l.length) && decide (l.length ≤ 12)
def letterB (b : Int) : Bool := (decide (65 ≤ b) && decide (b ≤ 90)) || (decide (97 ≤ b) && decide (b ≤ 122))
def digitB (b : Int) : Bool := decide (48 ≤ b) && decide (b ≤ 57)
def charB (b : Int) : Bool := letterB b || digitB b || b == 95
def charsB : List UInt8 → Bool
  | [] => true
  | c :: r => charB c.toNat && charsB r
def rnameB (l : List UInt8) : Bool := match l with
  | [] => false
  | c :: r => decide ((c :: r).length ≤ 12) && letterB c.toNat && charsB (c :: r)
theorem fits_first (b : Int) : fitsB b true = letterB b := by
  unfold fitsB clsTab letterB
  simp only [fitsGo]
  by_cases h1 : 65 ≤ b ∧ b ≤ 90
  · simp [h1]
  · by_cases h2 : 97 ≤ b ∧ b ≤ 122
    · simp [h2]
    · have e1 : (decide (65 ≤ b) && decide (b ≤ 90)) = false := by simp; omega
      have e2 : (decide (97 ≤ b) && decide (b ≤ 122)) = false := by simp; omega
      rw [e1, e2, if_neg h1, if_neg h2]
      by_cases h3 : 48 ≤ b ∧ b ≤ 57
      · rw [if_pos h3]; rfl
      · rw [if_neg h3]
        by_cases h4 : 95 ≤ b ∧ b ≤ 95
        · rw [if_pos h4]; rfl
        · rw [if_neg h4]; rfl
theorem fits_later (b : Int) : fitsB b false = charB b := by
  unfold fitsB clsTab charB letterB digitB
  simp only [fitsGo]
  by_cases h1 : 65 ≤ b ∧ b ≤ 90
  · simp [h1]
  · by_cases h2 : 97 ≤ b ∧ b ≤ 122
    · simp [h2]
    · have e1 : (decide (65 ≤ b) && decide (b ≤ 90)) = false := by simp; omega
      have e2 : (decide (97 ≤ b) && decide (b ≤ 122)) = false := by simp; omega
      rw [e1, e2, if_neg h1, if_neg h2]
      by_cases h3 : 48 ≤ b ∧ b ≤ 57
      · simp [h3]
      · have e3 : (decide (48 ≤ b) && decide (b ≤ 57)) = false := by simp; omega
        rw [if_neg h3, e3]
        by_cases h4 : b = 95
        · simp [h4]
        · rw [if_neg (by omega)]
          simp [h4]
theorem fitsAll_later : ∀ l : List UInt8, fitsAll l false = charsB l
  | [] => rfl
  | c :: r => by rw [fitsAll, charsB, fits_later, fitsAll_later r]
theorem letter_char {b : Int} (h : letterB b = true) : charB b = true := by simp [charB, h]
theorem rname_eq (l : List UInt8) : rnameB l = nameB l := by
  cases l with
  | nil => rfl
  | cons c r =>
    unfold rnameB nameB
    have e : charsB (c :: r) = (charB c.toNat && charsB r) := rfl
    dsimp only
    rw [fitsAll, fits_first, fitsAll_later, e]
    cases hl : letterB c.toNat with
    | false => simp
    | true =>
      rw [letter_char hl]
      simp
      rw [Bool.and_comm]
end Go.Proofs.YtamihjgfncjdoaaDoor
