/- Numbers, by plain functions on bytes: what lexeme.Number says of any text, and of a numeral; nothing of the program stands here / Numerals as the reference reads them: the same as lexeme.Number; nothing of the program stands here. -/
import Derived.Test.YtggngllfnboehaaDoorLib
import Derived.Lib.ItoaNum
set_option linter.unusedVariables false
set_option linter.unusedSimpArgs false
namespace Go.Proofs.YtggngllfnboehaaDoor
open Go Go.RowKit
def numStep (most n d : Int) : Option Int := if d < 0 ∨ 9 < d ∨ most < d ∨ (most - d) / 10 < n then none else some (10 * n + d)
def numGo (most : Int) : List UInt8 → Int → Option Int
  | [], n => some n
  | c :: r, n => (numStep most n ((c.toNat : Int) - 48)).bind (numGo most r)
def numP (l : List UInt8) (most : Int) : Option Int := match l with
  | [] => none
  | c :: r => if r ≠ [] ∧ c = 48 then none else numGo most (c :: r) 0
theorem numGo_append (most : Int) : ∀ (l r : List UInt8) (n : Int), numGo most (l ++ r) n = (numGo most l n).bind (numGo most r)
  | [], r, n => rfl
  | c :: l, r, n => by
    rw [List.cons_append, numGo, numGo, Option.bind_assoc]
    congr 1
    funext m
    exact numGo_append most l r m
theorem digit_val {d : Nat} (h : d < 10) : (((UInt8.ofNat (48 + d)).toNat : Nat) : Int) - 48 = d := by
  rw [UInt8.toNat_ofNat']
  omega
theorem numGo_digits (most : Int) : ∀ u : Nat, numGo most (Lib.decDigits u) 0 = if (u : Int) ≤ most then some (u : Int) else none := by
  intro u
  induction u using Nat.strongRecOn with
  | ind u ih =>
    rw [Lib.decDigits]
    by_cases h : u < 10
    · rw [dif_pos h, numGo, digit_val h, numStep]
      by_cases h2 : (u : Int) ≤ most
      · rw [if_neg (by omega), if_pos h2]
        simp [numGo]
      · rw [if_pos (by omega), if_neg h2]
        rfl
    · rw [dif_neg h, numGo_append, ih (u / 10) (by omega)]
      by_cases h3 : ((u / 10 : Nat) : Int) ≤ most
      · rw [if_pos h3]
        simp only [Option.bind_some]
        rw [numGo, digit_val (by omega), numStep]
        by_cases h2 : (u : Int) ≤ most
        · rw [if_neg (by omega), if_pos h2]
          simp [numGo]
          omega
        · rw [if_pos (by omega), if_neg h2]
          rfl
      · rw [if_neg h3, if_neg (by omega)]
        rfl
theorem digits_head : ∀ u : Nat, ∃ c r, Lib.decDigits u = c :: r ∧ (10 ≤ u → c ≠ 48) ∧ (u < 10 → r = []) := by
  intro u
  induction u using Nat.strongRecOn with
  | ind u ih =>
    rw [Lib.decDigits]
    by_cases h : u < 10
    · rw [dif_pos h]
      exact ⟨_, [], rfl, fun h2 => by omega, fun _ => rfl⟩
    · rw [dif_neg h]
      obtain ⟨c, r, e, h1, h2⟩ := ih (u / 10) (by omega)
      rw [e]
      refine ⟨c, r ++ [_], rfl, fun _ => ?_, fun h3 => by omega⟩
      by_cases h4 : 10 ≤ u / 10
      · exact h1 h4
      · have hlt : u / 10 < 10 := by omega
        have e2 : Lib.decDigits (u / 10) = [UInt8.ofNat (48 + u / 10)] := by rw [Lib.decDigits, dif_pos hlt]
        rw [e2] at e
        injection e with e3 _
        rw [← e3]
        intro h5
        have := digit_val hlt
        rw [h5] at this
        have h6 : (((48 : UInt8).toNat : Nat) : Int) = 48 := rfl
        rw [h6] at this
        omega
theorem numP_digits (u : Nat) (most : Int) : numP (Lib.decDigits u) most = if (u : Int) ≤ most then some (u : Int) else none := by
  have h := numGo_digits most u
  obtain ⟨c, r, e, h1, h2⟩ := digits_head u
  rw [e] at h ⊢
  unfold numP
  dsimp only
  by_cases h10 : u < 10
  · rw [if_neg (fun h3 => h3.1 (h2 h10)), h]
  · rw [if_neg (fun h3 => h1 (by omega) h3.2), h]
theorem numP_minus (l : List UInt8) (most : Int) : numP (45 :: l) most = none := by
  unfold numP
  dsimp only
  have e : (((45 : UInt8).toNat : Nat) : Int) - 48 = -3 := rfl
  split
  · rfl
  · rw [numGo, e, numStep, if_pos (by omega)]
    rfl
theorem itoa_ne (n : Int) : Lib.itoa n ≠ [] := by
  unfold Lib.itoa
  split
  · simp
  · obtain ⟨c, r, e, -⟩ := digits_head n.toNat
    rw [e]; simp
/-- What the law says of a number's text. -/
theorem numP_itoa (n most : Int) : numP (Lib.itoa n) most = if n < 0 then none else if n ≤ most then some n else none := by
  unfold Lib.itoa
  by_cases h : n < 0
  · rw [if_pos h, if_pos h, numP_minus]
  · rw [if_neg h, if_neg h, numP_digits]
    have e : ((n.toNat : Nat) : Int) = n := by omega
    rw [e]
end Go.Proofs.YtggngllfnboehaaDoor
namespace Go.Proofs.YtggngllfnboehaaDoor
open Go Go.RowKit
def txtP (n : Int) : ByteArray := ⟨(Lib.itoa n).toArray⟩
/-- The digits of a number, none of zero. -/
def digs (u : Nat) : List UInt8 := if u = 0 then [] else Lib.decDigits u
theorem digs_step {u : Nat} (h : u ≠ 0) : digs u = digs (u / 10) ++ [UInt8.ofNat (48 + u % 10)] := by
  unfold digs
  rw [if_neg h, Lib.decDigits]
  by_cases h10 : u < 10
  · rw [dif_pos h10, if_pos (by omega), Nat.mod_eq_of_lt h10]; rfl
  · rw [dif_neg h10, if_neg (by omega)]
theorem digs_len : ∀ (k u : Nat), u < 10 ^ k → (digs u).length ≤ k
  | 0, u, h => by
    have : u = 0 := by simpa using h
    simp [digs, this]
  | k + 1, u, h => by
    by_cases h0 : u = 0
    · simp [digs, h0]
    · rw [digs_step h0, List.length_append]
      have := digs_len k (u / 10) (by rw [Nat.pow_succ] at h; omega)
      simp; omega
theorem itoa_zero : Lib.itoa 0 = [48] := by decide +kernel
theorem itoa_digs (n : Int) : Lib.itoa n = if n = 0 then [48] else if n < 0 then 45 :: digs n.natAbs else digs n.natAbs := by
  by_cases h0 : n = 0
  · subst h0; rw [itoa_zero]; rfl
  · unfold Lib.itoa digs
    rw [if_neg h0, if_neg (show ¬ n.natAbs = 0 by omega)]
    by_cases h : n < 0
    · rw [if_pos h, if_pos h]
    · rw [if_neg h, if_neg h]
      congr 1; omega
theorem itoa_len {n : Int} (h1 : -9223372036854775808 ≤ n) (h2 : n ≤ 9223372036854775807) : (Lib.itoa n).length ≤ 20 := by
  have := digs_len 19 n.natAbs (by omega)
  rw [itoa_digs]
  split
  · simp
  · split
    · simp; omega
    · omega
end Go.Proofs.YtggngllfnboehaaDoor
