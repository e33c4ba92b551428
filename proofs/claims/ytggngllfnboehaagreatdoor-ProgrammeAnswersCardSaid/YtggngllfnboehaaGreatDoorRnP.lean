/- Numbers, by plain functions on bytes: what lexeme.Number says of any text, and of a numeral; nothing of the program stands here / Numerals as the reference reads them: the same as lexeme.Number; nothing of the program stands here. -/
import Derived.Test.YtggngllfnboehaaGreatDoorLib
import Derived.Lib.ItoaNum
set_option linter.unusedVariables false
set_option linter.unusedSimpArgs false
namespace Go.Proofs.YtggngllfnboehaaGreatDoor
open Go Go.RowKit
def qx (most n d : Int) : Option Int := if d < 0 ∨ 9 < d ∨ most < d ∨ (most - d) / 10 < n then none else some (10 * n + d)
def numGo (most : Int) : List UInt8 → Int → Option Int
  | [], n => some n
  | c :: r, n => (qx most n ((c.toNat : Int) - 48)).bind (numGo most r)
def numP (l : List UInt8) (most : Int) : Option Int := match l with
  | [] => none
  | c :: r => if r ≠ [] ∧ c = 48 then none else numGo most (c :: r) 0
theorem digit_val {d : Nat} (h : d < 10) : (((UInt8.ofNat (48 + d)).toNat : Nat) : Int) - 48 = d := by
  rw [UInt8.toNat_ofNat']
  omega
theorem digits_head : ∀ u : Nat, ∃ c r, Lib.decDigits u = c :: r ∧ (10 ≤ u → c ≠ 48) ∧ (u < 10 → r = []) := by
  intro u
  induction u using Nat.strongRecOn with
  | ind u ih =>
    rw [Lib.decDigits]
    by_cases h : u < 10
    · rw [dif_pos h]
      exact ⟨_, [], rfl, fun h2 => by omega, fun _ => rfl⟩
    · rw [dif_neg h]
      obtain ⟨c, r, e, h1, h2⟩ := ih (u / 10) (by omega)
      rw [e]
      refine ⟨c, r ++ [_], rfl, fun _ => ?_, fun h3 => by omega⟩
      by_cases h4 : 10 ≤ u / 10
      · exact h1 h4
      · have hlt : u / 10 < 10 := by omega
        have e2 : Lib.decDigits (u / 10) = [UInt8.ofNat (48 + u / 10)] := by rw [Lib.decDigits, dif_pos hlt]
        rw [e2] at e
        injection e with e3 _
        rw [← e3]
        intro h5
        have := digit_val hlt
        rw [h5] at this
        have h6 : (((48 : UInt8).toNat : Nat) : Int) = 48 := rfl
        rw [h6] at this
        omega
theorem itoa_ne (n : Int) : Lib.itoa n ≠ [] := by
  unfold Lib.itoa
  split
  · simp
  · obtain ⟨c, r, e, -⟩ := digits_head n.toNat
    rw [e]; simp
end Go.Proofs.YtggngllfnboehaaGreatDoor
namespace Go.Proofs.YtggngllfnboehaaGreatDoor
open Go Go.RowKit
def txtP (n : Int) : ByteArray := ⟨(Lib.itoa n).toArray⟩
/-- The digits of a number, none of zero. -/
def digs (u : Nat) : List UInt8 := if u = 0 then [] else Lib.decDigits u
theorem digs_step {u : Nat} (h : u ≠ 0) : digs u = digs (u / 10) ++ [UInt8.ofNat (48 + u % 10)] := by
  unfold digs
  rw [if_neg h, Lib.decDigits]
  by_cases h10 : u < 10
  · rw [dif_pos h10, if_pos (by omega), Nat.mod_eq_of_lt h10]; rfl
  · rw [dif_neg h10, if_neg (by omega)]
theorem digs_len : ∀ (k u : Nat), u < 10 ^ k → (digs u).length ≤ k
  | 0, u, h => by
    have : u = 0 := by simpa using h
    simp [digs, this]
  | k + 1, u, h => by
    by_cases h0 : u = 0
    · simp [digs, h0]
    · rw [digs_step h0, List.length_append]
      have := digs_len k (u / 10) (by rw [Nat.pow_succ] at h; omega)
      simp; omega
theorem itoa_zero : Lib.itoa 0 = [48] := by decide +kernel
theorem itoa_digs (n : Int) : Lib.itoa n = if n = 0 then [48] else if n < 0 then 45 :: digs n.natAbs else digs n.natAbs := by
  by_cases h0 : n = 0
  · subst h0; rw [itoa_zero]; rfl
  · unfold Lib.itoa digs
    rw [if_neg h0, if_neg (show ¬ n.natAbs = 0 by omega)]
    by_cases h : n < 0
    · rw [if_pos h, if_pos h]
    · rw [if_neg h, if_neg h]
      congr 1; omega
theorem itoa_len {n : Int} (h1 : -9223372036854775808 ≤ n) (h2 : n ≤ 9223372036854775807) : (Lib.itoa n).length ≤ 20 := by
  have := digs_len 19 n.natAbs (by omega)
  rw [itoa_digs]
  split
  · simp
  · split
    · simp; omega
    · omega
def dig (c : UInt8) : Int := (c.toNat : Int) - 48
def isDig (c : UInt8) : Bool := decide (48 ≤ c.toNat) && decide (c.toNat ≤ 57)
/-- The reference's numerals: a number that is too great for any integer is refused at once, one that is too great for the limit at the end. -/
def qS : List UInt8 → Int → Option Int
  | [], n => some n
  | c :: r, n => if isDig c = false ∨ (9223372036854775807 - dig c) / 10 < n then none else qS r (10 * n + dig c)
theorem isDig_iff {c : UInt8} : isDig c = true ↔ 0 ≤ dig c ∧ dig c ≤ 9 := by
  unfold isDig dig
  simp
  omega
theorem rnumGo_eq {most : Int} (h0 : 0 ≤ most) (h1 : most ≤ 9223372036854775807) : ∀ (l : List UInt8) (n : Int), 0 ≤ n → (qS l n).bind (fun m => if most < m then none else some m) = if n ≤ most then numGo most l n else none
  | [], n, hn => by
    show (if most < n then none else some n) = _
    by_cases h : n ≤ most
    · rw [if_pos h, if_neg (by omega)]; rfl
    · rw [if_neg h, if_pos (by omega)]
  | c :: l, n, hn => by
    rw [qS, numGo]
    have hs : (c.toNat : Int) - 48 = dig c := rfl
    rw [hs, qx]
    by_cases hd : isDig c = true
    · obtain ⟨d0, d9⟩ := isDig_iff.1 hd
      by_cases hb : (9223372036854775807 - dig c) / 10 < n
      · rw [if_pos (.inr hb)]
        by_cases h : n ≤ most
        · rw [if_pos h, if_pos (by omega)]; rfl
        · rw [if_neg h]; rfl
      · rw [if_neg (by rw [hd]; simp; omega), rnumGo_eq h0 h1 l _ (by omega)]
        by_cases h : n ≤ most
        · rw [if_pos h]
          by_cases h2 : 10 * n + dig c ≤ most
          · rw [if_pos h2, if_neg (by omega)]; rfl
          · rw [if_neg h2, if_pos (by omega)]; rfl
        · rw [if_neg h, if_neg (by omega)]
    · have hd' : isDig c = false := by simpa using hd
      rw [if_pos (.inl hd')]
      have : ¬ (0 ≤ dig c ∧ dig c ≤ 9) := fun e => hd (isDig_iff.2 e)
      have hq : dig c < 0 ∨ 9 < dig c ∨ most < dig c ∨ (most - dig c) / 10 < n := by omega
      rw [if_pos hq]
      split <;> rfl
theorem rnumGo_nn : ∀ (l : List UInt8) (n m : Int), 0 ≤ n → qS l n = some m → 0 ≤ m
  | [], n, m, hn, h => by injection h with h; omega
  | c :: l, n, m, hn, h => by
    rw [qS] at h
    split at h
    · cases h
    · rename_i hc
      have hd : isDig c = true := by
        cases hq : isDig c with
        | true => rfl
        | false => exact absurd (.inl hq) hc
      have := isDig_iff.1 hd
      exact rnumGo_nn l _ m (by omega) h
theorem rnum_any {most : Int} (h1 : most ≤ 9223372036854775807) {l : List UInt8} (hne : l ≠ []) : numGo most l 0 = (qS l 0).bind fun m => if most < m then none else some m := by
  by_cases h0 : 0 ≤ most
  · rw [rnumGo_eq h0 h1 _ 0 (by omega), if_pos h0]
  · have hr : ((qS l 0).bind fun m => if most < m then none else some m) = none := by
      cases hq : qS l 0 with
      | none => rfl
      | some m =>
        have := rnumGo_nn l 0 m (by omega) hq
        show (if most < m then none else some m) = none
        rw [if_pos (by omega)]
    rw [hr]
    match l, hne with
    | c :: r, _ =>
      rw [numGo, qx, if_pos (by omega)]
      rfl
end Go.Proofs.YtggngllfnboehaaGreatDoor
