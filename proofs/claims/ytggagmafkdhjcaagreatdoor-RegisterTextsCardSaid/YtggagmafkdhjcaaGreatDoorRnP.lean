/- Numbers, by plain functions on bytes: what lexeme.Number says of any text, and of a numeral; nothing of the program stands here / Numerals as the reference reads them: the same as lexeme.Number; nothing of the program stands here. -/
import Derived.Test.YtggagmafkdhjcaaGreatDoorLib
import Derived.Lib.ItoaNum
set_option linter.unusedVariables false
set_option linter.unusedSimpArgs false
namespace Go.Proofs.YtggagmafkdhjcaaGreatDoor
open Go Go.RowKit
def jt (most n d : Int) : Option Int := if d < 0 ∨ 9 < d ∨ most < d ∨ (most - d) / 10 < n then none else some (10 * n + d)
def jr (most : Int) : List UInt8 → Int → Option Int
  | [], n => some n
  | c :: r, n => (jt most n ((c.toNat : Int) - 48)).bind (jr most r)
def numP (l : List UInt8) (most : Int) : Option Int := match l with
  | [] => none
  | c :: r => if r ≠ [] ∧ c = 48 then none else jr most (c :: r) 0
theorem cN (most : Int) : ∀ (l r : List UInt8) (n : Int), jr most (l ++ r) n = (jr most l n).bind (jr most r)
  | [], r, n => rfl
  | c :: l, r, n => by
    rw [List.cons_append, jr, jr, Option.bind_assoc]
    congr 1
    funext m
    exact cN most l r m
theorem cZ {d : Nat} (h : d < 10) : (((UInt8.ofNat (48 + d)).toNat : Nat) : Int) - 48 = d := by
  rw [UInt8.toNat_ofNat']
  omega
theorem hO (most : Int) : ∀ u : Nat, jr most (Lib.decDigits u) 0 = if (u : Int) ≤ most then some (u : Int) else none := by
  intro u
  induction u using Nat.strongRecOn with
  | ind u ih =>
    rw [Lib.decDigits]
    by_cases h : u < 10
    · rw [dif_pos h, jr, cZ h, jt]
      by_cases h2 : (u : Int) ≤ most
      · rw [if_neg (by omega), if_pos h2]
        simp [jr]
      · rw [if_pos (by omega), if_neg h2]
        rfl
    · rw [dif_neg h, cN, ih (u / 10) (by omega)]
      by_cases h3 : ((u / 10 : Nat) : Int) ≤ most
      · rw [if_pos h3]
        simp only [Option.bind_some]
        rw [jr, cZ (by omega), jt]
        by_cases h2 : (u : Int) ≤ most
        · rw [if_neg (by omega), if_pos h2]
          simp [jr]
          omega
        · rw [if_pos (by omega), if_neg h2]
          rfl
      · rw [if_neg h3, if_neg (by omega)]
        rfl
theorem dC : ∀ u : Nat, ∃ c r, Lib.decDigits u = c :: r ∧ (10 ≤ u → c ≠ 48) ∧ (u < 10 → r = []) := by
  intro u
  induction u using Nat.strongRecOn with
  | ind u ih =>
    rw [Lib.decDigits]
    by_cases h : u < 10
    · rw [dif_pos h]
      exact ⟨_, [], rfl, fun h2 => by omega, fun _ => rfl⟩
    · rw [dif_neg h]
      obtain ⟨c, r, e, h1, h2⟩ := ih (u / 10) (by omega)
      rw [e]
      refine ⟨c, r ++ [_], rfl, fun _ => ?_, fun h3 => by omega⟩
      by_cases h4 : 10 ≤ u / 10
      · exact h1 h4
      · have hlt : u / 10 < 10 := by omega
        have e2 : Lib.decDigits (u / 10) = [UInt8.ofNat (48 + u / 10)] := by rw [Lib.decDigits, dif_pos hlt]
        rw [e2] at e
        injection e with e3 _
        rw [← e3]
        intro h5
        have := cZ hlt
        rw [h5] at this
        have h6 : (((48 : UInt8).toNat : Nat) : Int) = 48 := rfl
        rw [h6] at this
        omega
theorem lK (u : Nat) (most : Int) : numP (Lib.decDigits u) most = if (u : Int) ≤ most then some (u : Int) else none := by
  have h := hO most u
  obtain ⟨c, r, e, h1, h2⟩ := dC u
  rw [e] at h ⊢
  unfold numP
  dsimp only
  by_cases h10 : u < 10
  · rw [if_neg (fun h3 => h3.1 (h2 h10)), h]
  · rw [if_neg (fun h3 => h1 (by omega) h3.2), h]
theorem mZ (l : List UInt8) (most : Int) : numP (45 :: l) most = none := by
  unfold numP
  dsimp only
  have e : (((45 : UInt8).toNat : Nat) : Int) - 48 = -3 := rfl
  split
  · rfl
  · rw [jr, e, jt, if_pos (by omega)]
    rfl
theorem oJ (n : Int) : Lib.itoa n ≠ [] := by
  unfold Lib.itoa
  split
  · simp
  · obtain ⟨c, r, e, -⟩ := dC n.toNat
    rw [e]; simp
/-- What the law says of a number's text. -/
theorem fK (n most : Int) : numP (Lib.itoa n) most = if n < 0 then none else if n ≤ most then some n else none := by
  unfold Lib.itoa
  by_cases h : n < 0
  · rw [if_pos h, if_pos h, mZ]
  · rw [if_neg h, if_neg h, lK]
    have e : ((n.toNat : Nat) : Int) = n := by omega
    rw [e]
end Go.Proofs.YtggagmafkdhjcaaGreatDoor
namespace Go.Proofs.YtggagmafkdhjcaaGreatDoor
open Go Go.RowKit
def txtP (n : Int) : ByteArray := ⟨(Lib.itoa n).toArray⟩
/-- The digits of a number, none of zero. -/
def digs (u : Nat) : List UInt8 := if u = 0 then [] else Lib.decDigits u
theorem pN {u : Nat} (h : u ≠ 0) : digs u = digs (u / 10) ++ [UInt8.ofNat (48 + u % 10)] := by
  unfold digs
  rw [if_neg h, Lib.decDigits]
  by_cases h10 : u < 10
  · rw [dif_pos h10, if_pos (by omega), Nat.mod_eq_of_lt h10]; rfl
  · rw [dif_neg h10, if_neg (by omega)]
theorem kD : ∀ (k u : Nat), u < 10 ^ k → (digs u).length ≤ k
  | 0, u, h => by
    have : u = 0 := by simpa using h
    simp [digs, this]
  | k + 1, u, h => by
    by_cases h0 : u = 0
    · simp [digs, h0]
    · rw [pN h0, List.length_append]
      have := kD k (u / 10) (by rw [Nat.pow_succ] at h; omega)
      simp; omega
theorem oY : Lib.itoa 0 = [48] := by decide +kernel
theorem pD (n : Int) : Lib.itoa n = if n = 0 then [48] else if n < 0 then 45 :: digs n.natAbs else digs n.natAbs := by
  by_cases h0 : n = 0
  · subst h0; rw [oY]; rfl
  · unfold Lib.itoa digs
    rw [if_neg h0, if_neg (show ¬ n.natAbs = 0 by omega)]
    by_cases h : n < 0
    · rw [if_pos h, if_pos h]
    · rw [if_neg h, if_neg h]
      congr 1; omega
theorem fC {n : Int} (h1 : -9223372036854775808 ≤ n) (h2 : n ≤ 9223372036854775807) : (Lib.itoa n).length ≤ 20 := by
  have := kD 19 n.natAbs (by omega)
  rw [pD]
  split
  · simp
  · split
    · simp; omega
    · omega
def dig (c : UInt8) : Int := (c.toNat : Int) - 48
def qO (c : UInt8) : Bool := decide (48 ≤ c.toNat) && decide (c.toNat ≤ 57)
theorem oO {c : UInt8} : qO c = true ↔ 0 ≤ dig c ∧ dig c ≤ 9 := by
  unfold qO dig
  simp
  omega
end Go.Proofs.YtggagmafkdhjcaaGreatDoor
