/- Names, by plain functions on bytes: what lexeme.Name and its reference say, and that they say the same; nothing of the program stands here / Numbers, by plain functions on bytes: what lexeme.Number says of any text, and of a numeral; nothing of the program stands here / Numerals as the reference reads them: the same as lexeme.Number; nothing of the program stands here. -/
import Derived.Test.YtgpglcccjkpmdaaDoorLib
import Derived.Lib.ItoaNum
set_option linter.unusedVariables false
set_option linter.unusedSimpArgs false
namespace Go.Proofs.YtgpglcccjkpmdaaDoor
open Go Go.RowKit
def clsTab : List (Int × Int × Bool) := [(65, 90, true), (97, 122, true), (48, 57, false), (95, 95, false)]
def fitsGo : List (Int × Int × Bool) → Int → Bool → Bool
  | [], _, _ => false
  | (lo, hi, fs) :: r, b, f => if lo ≤ b ∧ b ≤ hi then (fs || !f) else fitsGo r b f
def fitsB (b : Int) (f : Bool) : Bool := fitsGo clsTab b f
def fitsAll : List UInt8 → Bool → Bool
  | [], _ => true
  | c :: r, f => fitsB c.toNat f && fitsAll r false
def nameB (l : List UInt8) : Bool := fitsAll l true && decide (1 ≤ l.length) && decide (l.length ≤ 12)
def letterB (b : Int) : Bool := (decide (65 ≤ b) && decide (b ≤ 90)) || (decide (97 ≤ b) && decide (b ≤ 122))
def digitB (b : Int) : Bool := decide (48 ≤ b) && decide (b ≤ 57)
def charB (b : Int) : Bool := letterB b || digitB b || b == 95
def charsB : List UInt8 → Bool
  | [] => true
  | c :: r => charB c.toNat && charsB r
def rnameB (l : List UInt8) : Bool := match l with
  | [] => false
  | c :: r => decide ((c :: r).length ≤ 12) && letterB c.toNat && charsB (c :: r)
theorem fits_first (b : Int) : fitsB b true = letterB b := by
  unfold fitsB clsTab letterB
  simp only [fitsGo]
  by_cases h1 : 65 ≤ b ∧ b ≤ 90
  · simp [h1]
  · by_cases h2 : 97 ≤ b ∧ b ≤ 122
    · simp [h2]
    · have e1 : (decide (65 ≤ b) && decide (b ≤ 90)) = false := by simp; omega
      have e2 : (decide (97 ≤ b) && decide (b ≤ 122)) = false := by simp; omega
      rw [e1, e2, if_neg h1, if_neg h2]
      by_cases h3 : 48 ≤ b ∧ b ≤ 57
      · rw [if_pos h3]; rfl
      · rw [if_neg h3]
        by_cases h4 : 95 ≤ b ∧ b ≤ 95
        · rw [if_pos h4]; rfl
        · rw [if_neg h4]; rfl
theorem fits_later (b : Int) : fitsB b false = charB b := by
  unfold fitsB clsTab charB letterB digitB
  simp only [fitsGo]
  by_cases h1 : 65 ≤ b ∧ b ≤ 90
  · simp [h1]
  · by_cases h2 : 97 ≤ b ∧ b ≤ 122
    · simp [h2]
    · have e1 : (decide (65 ≤ b) && decide (b ≤ 90)) = false := by simp; omega
      have e2 : (decide (97 ≤ b) && decide (b ≤ 122)) = false := by simp; omega
      rw [e1, e2, if_neg h1, if_neg h2]
      by_cases h3 : 48 ≤ b ∧ b ≤ 57
      · simp [h3]
      · have e3 : (decide (48 ≤ b) && decide (b ≤ 57)) = false := by simp; omega
        rw [if_neg h3, e3]
        by_cases h4 : b = 95
        · simp [h4]
        · rw [if_neg (by omega)]
          simp [h4]
theorem fitsAll_later : ∀ l : List UInt8, fitsAll l false = charsB l
  | [] => rfl
  | c :: r => by rw [fitsAll, charsB, fits_later, fitsAll_later r]
theorem letter_char {b : Int} (h : letterB b = true) : charB b = true := by simp [charB, h]
theorem rname_eq (l : List UInt8) : rnameB l = nameB l := by
  cases l with
  | nil => rfl
  | cons c r =>
    unfold rnameB nameB
    have e : charsB (c :: r) = (charB c.toNat && charsB r) := rfl
    dsimp only
    rw [fitsAll, fits_first, fitsAll_later, e]
    cases hl : letterB c.toNat with
    | false => simp
    | true =>
      rw [letter_char hl]
      simp
      rw [Bool.and_comm]
end Go.Proofs.YtgpglcccjkpmdaaDoor
namespace Go.Proofs.YtgpglcccjkpmdaaDoor
open Go Go.RowKit
def numStep (most n d : Int) : Option Int := if d < 0 ∨ 9 < d ∨ most < d ∨ (most - d) / 10 < n then none else some (10 * n + d)
def numGo (most : Int) : List UInt8 → Int → Option Int
  | [], n => some n
  | c :: r, n => (numStep most n ((c.toNat : Int) - 48)).bind (numGo most r)
def numP (l : List UInt8) (most : Int) : Option Int := match l with
  | [] => none
  | c :: r => if r ≠ [] ∧ c = 48 then none else numGo most (c :: r) 0
theorem numGo_append (most : Int) : ∀ (l r : List UInt8) (n : Int), numGo most (l ++ r) n = (numGo most l n).bind (numGo most r)
  | [], r, n => rfl
  | c :: l, r, n => by
    rw [List.cons_append, numGo, numGo, Option.bind_assoc]
    congr 1
    funext m
    exact numGo_append most l r m
theorem digit_val {d : Nat} (h : d < 10) : (((UInt8.ofNat (48 + d)).toNat : Nat) : Int) - 48 = d := by
  rw [UInt8.toNat_ofNat']
  omega
theorem numGo_digits (most : Int) : ∀ u : Nat, numGo most (Lib.decDigits u) 0 = if (u : Int) ≤ most then some (u : Int) else none := by
  intro u
  induction u using Nat.strongRecOn with
  | ind u ih =>
    rw [Lib.decDigits]
    by_cases h : u < 10
    · rw [dif_pos h, numGo, digit_val h, numStep]
      by_cases h2 : (u : Int) ≤ most
      · rw [if_neg (by omega), if_pos h2]
        simp [numGo]
      · rw [if_pos (by omega), if_neg h2]
        rfl
    · rw [dif_neg h, numGo_append, ih (u / 10) (by omega)]
      by_cases h3 : ((u / 10 : Nat) : Int) ≤ most
      · rw [if_pos h3]
        simp only [Option.bind_some]
        rw [numGo, digit_val (by omega), numStep]
        by_cases h2 : (u : Int) ≤ most
        · rw [if_neg (by omega), if_pos h2]
          simp [numGo]
          omega
        · rw [if_pos (by omega), if_neg h2]
          rfl
      · rw [if_neg h3, if_neg (by omega)]
        rfl
theorem digits_head : ∀ u : Nat, ∃ c r, Lib.decDigits u = c :: r ∧ (10 ≤ u → c ≠ 48) ∧ (u < 10 → r = []) := by
  intro u
  induction u using Nat.strongRecOn with
  | ind u ih =>
    rw [Lib.decDigits]
    by_cases h : u < 10
    · rw [dif_pos h]
      exact ⟨_, [], rfl, fun h2 => by omega, fun _ => rfl⟩
    · rw [dif_neg h]
      obtain ⟨c, r, e, h1, h2⟩ := ih (u / 10) (by omega)
      rw [e]
      refine ⟨c, r ++ [_], rfl, fun _ => ?_, fun h3 => by omega⟩
      by_cases h4 : 10 ≤ u / 10
      · exact h1 h4
      · have hlt : u / 10 < 10 := by omega
        have e2 : Lib.decDigits (u / 10) = [UInt8.ofNat (48 + u / 10)] := by rw [Lib.decDigits, dif_pos hlt]
        rw [e2] at e
        injection e with e3 _
        rw [← e3]
        intro h5
        have := digit_val hlt
        rw [h5] at this
        have h6 : (((48 : UInt8).toNat : Nat) : Int) = 48 := rfl
        rw [h6] at this
        omega
theorem numP_digits (u : Nat) (most : Int) : numP (Lib.decDigits u) most = if (u : Int) ≤ most then some (u : Int) else none := by
  have h := numGo_digits most u
  obtain ⟨c, r, e, h1, h2⟩ := digits_head u
  rw [e] at h ⊢
  unfold numP
  dsimp only
  by_cases h10 : u < 10
  · rw [if_neg (fun h3 => h3.1 (h2 h10)), h]
  · rw [if_neg (fun h3 => h1 (by omega) h3.2), h]
theorem numP_minus (l : List UInt8) (most : Int) : numP (45 :: l) most = none := by
  unfold numP
  dsimp only
  have e : (((45 : UInt8).toNat : Nat) : Int) - 48 = -3 := rfl
  split
  · rfl
  · rw [numGo, e, numStep, if_pos (by omega)]
    rfl
theorem itoa_ne (n : Int) : Lib.itoa n ≠ [] := by
  unfold Lib.itoa
  split
  · simp
  · obtain ⟨c, r, e, -⟩ := digits_head n.toNat
    rw [e]; simp
/-- What the law says of a number's text. -/
theorem numP_itoa (n most : Int) : numP (Lib.itoa n) most = if n < 0 then none else if n ≤ most then some n else none := by
  unfold Lib.itoa
  by_cases h : n < 0
  · rw [if_pos h, if_pos h, numP_minus]
  · rw [if_neg h, if_neg h, numP_digits]
    have e : ((n.toNat : Nat) : Int) = n := by omega
    rw [e]
end Go.Proofs.YtgpglcccjkpmdaaDoor
namespace Go.Proofs.YtgpglcccjkpmdaaDoor
open Go Go.RowKit
def txtP (n : Int) : ByteArray := ⟨(Lib.itoa n).toArray⟩
/-- The digits of a number, none of zero. -/
def digs (u : Nat) : List UInt8 := if u = 0 then [] else Lib.decDigits u
theorem digs_step {u : Nat} (h : u ≠ 0) : digs u = digs (u / 10) ++ [UInt8.ofNat (48 + u % 10)] := by
  unfold digs
  rw [if_neg h, Lib.decDigits]
  by_cases h10 : u < 10
  · rw [dif_pos h10, if_pos (by omega), Nat.mod_eq_of_lt h10]; rfl
  · rw [dif_neg h10, if_neg (by omega)]
theorem digs_len : ∀ (k u : Nat), u < 10 ^ k → (digs u).length ≤ k
  | 0, u, h => by
    have : u = 0 := by simpa using h
    simp [digs, this]
  | k + 1, u, h => by
    by_cases h0 : u = 0
    · simp [digs, h0]
    · rw [digs_step h0, List.length_append]
      have := digs_len k (u / 10) (by rw [Nat.pow_succ] at h; omega)
      simp; omega
theorem itoa_zero : Lib.itoa 0 = [48] := by decide +kernel
theorem itoa_digs (n : Int) : Lib.itoa n = if n = 0 then [48] else if n < 0 then 45 :: digs n.natAbs else digs n.natAbs := by
  by_cases h0 : n = 0
  · subst h0; rw [itoa_zero]; rfl
  · unfold Lib.itoa digs
    rw [if_neg h0, if_neg (show ¬ n.natAbs = 0 by omega)]
    by_cases h : n < 0
    · rw [if_pos h, if_pos h]
    · rw [if_neg h, if_neg h]
      congr 1; omega
theorem itoa_len {n : Int} (h1 : -9223372036854775808 ≤ n) (h2 : n ≤ 9223372036854775807) : (Lib.itoa n).length ≤ 20 := by
  have := digs_len 19 n.natAbs (by omega)
  rw [itoa_digs]
  split
  · simp
  · split
    · simp; omega
    · omega
def dig (c : UInt8) : Int := (c.toNat : Int) - 48
def isDig (c : UInt8) : Bool := decide (48 ≤ c.toNat) && decide (c.toNat ≤ 57)
/-- The reference's numerals: a number that is too great for any integer is refused at once, one that is too great for the limit at the end. -/
def rnumGo : List UInt8 → Int → Option Int
  | [], n => some n
  | c :: r, n => if isDig c = false ∨ (9223372036854775807 - dig c) / 10 < n then none else rnumGo r (10 * n + dig c)
theorem isDig_iff {c : UInt8} : isDig c = true ↔ 0 ≤ dig c ∧ dig c ≤ 9 := by
  unfold isDig dig
  simp
  omega
theorem rnumGo_eq {most : Int} (h0 : 0 ≤ most) (h1 : most ≤ 9223372036854775807) : ∀ (l : List UInt8) (n : Int), 0 ≤ n → (rnumGo l n).bind (fun m => if most < m then none else some m) = if n ≤ most then numGo most l n else none
  | [], n, hn => by
    show (if most < n then none else some n) = _
    by_cases h : n ≤ most
    · rw [if_pos h, if_neg (by omega)]; rfl
    · rw [if_neg h, if_pos (by omega)]
  | c :: l, n, hn => by
    rw [rnumGo, numGo]
    have hs : (c.toNat : Int) - 48 = dig c := rfl
    rw [hs, numStep]
    by_cases hd : isDig c = true
    · obtain ⟨d0, d9⟩ := isDig_iff.1 hd
      by_cases hb : (9223372036854775807 - dig c) / 10 < n
      · rw [if_pos (.inr hb)]
        by_cases h : n ≤ most
        · rw [if_pos h, if_pos (by omega)]; rfl
        · rw [if_neg h]; rfl
      · rw [if_neg (by rw [hd]; simp; omega), rnumGo_eq h0 h1 l _ (by omega)]
        by_cases h : n ≤ most
        · rw [if_pos h]
          by_cases h2 : 10 * n + dig c ≤ most
          · rw [if_pos h2, if_neg (by omega)]; rfl
          · rw [if_neg h2, if_pos (by omega)]; rfl
        · rw [if_neg h, if_neg (by omega)]
    · have hd' : isDig c = false := by simpa using hd
      rw [if_pos (.inl hd')]
      have : ¬ (0 ≤ dig c ∧ dig c ≤ 9) := fun e => hd (isDig_iff.2 e)
      have hq : dig c < 0 ∨ 9 < dig c ∨ most < dig c ∨ (most - dig c) / 10 < n := by omega
      rw [if_pos hq]
      split <;> rfl
theorem rnumGo_nn : ∀ (l : List UInt8) (n m : Int), 0 ≤ n → rnumGo l n = some m → 0 ≤ m
  | [], n, m, hn, h => by injection h with h; omega
  | c :: l, n, m, hn, h => by
    rw [rnumGo] at h
    split at h
    · cases h
    · rename_i hc
      have hd : isDig c = true := by
        cases hq : isDig c with
        | true => rfl
        | false => exact absurd (.inl hq) hc
      have := isDig_iff.1 hd
      exact rnumGo_nn l _ m (by omega) h
theorem rnum_any {most : Int} (h1 : most ≤ 9223372036854775807) {l : List UInt8} (hne : l ≠ []) : numGo most l 0 = (rnumGo l 0).bind fun m => if most < m then none else some m := by
  by_cases h0 : 0 ≤ most
  · rw [rnumGo_eq h0 h1 _ 0 (by omega), if_pos h0]
  · have hr : ((rnumGo l 0).bind fun m => if most < m then none else some m) = none := by
      cases hq : rnumGo l 0 with
      | none => rfl
      | some m =>
        have := rnumGo_nn l 0 m (by omega) hq
        show (if most < m then none else some m) = none
        rw [if_pos (by omega)]
    rw [hr]
    match l, hne with
    | c :: r, _ =>
      rw [numGo, numStep, if_pos (by omega)]
      rfl
end Go.Proofs.YtgpglcccjkpmdaaDoor
