/- Tables of types, as the program has them; conditions: none / Numbers, by plain functions on bytes: what lexeme.Number says of any text, and of a numeral; nothing of the program stands here / Numerals as the reference reads them: the same as lexeme.Number; nothing of the program stands here. -/
import Derived.Test.YtggagmafkdhjcaaGreatDoorChecked
import Derived.Test.YtggagmafkdhjcaaGreatDoorAbsE
import Derived.Test.YtggagmafkdhjcaaGreatDoorLib
import Derived.Lib.ItoaNum
set_option linter.unusedVariables false
set_option linter.unusedSimpArgs false
namespace Go.Proofs.YtggagmafkdhjcaaGreatDoor
open Go Go.RowKit
def tb : Tabs where
  ty := [(2, false, 1), (3, false, 1), (4, false, 1), (5, false, 1), (9, false, 1), (12, false, 1), (13, true, 2), (20, false, 1), (21, false, 1), (22, false, 1), (25, false, 1), (27, false, 1), (28, true, 1), (29, true, 1), (31, false, 1), (37, true, 5), (38, true, 5), (40, false, 1), (42, false, 1), (50, false, 1), (51, true, 3), (52, true, 3), (53, false, 1), (54, false, 1), (55, true, 2), (56, true, 2), (58, false, 1), (59, false, 1), (70, false, 1), (82, false, 1), (91, true, 2), (92, true, 2), (106, true, 4), (111, false, 1), (118, false, 1), (122, false, 1), (123, true, 2), (124, true, 2), (125, true, 3), (126, true, 12), (127, false, 1), (131, false, 1), (134, true, 24), (142, false, 1), (146, true, 20), (149, true, 2)]
  sle := [(22, 3), (27, 38), (40, 29), (42, 9), (54, 5), (122, 124)]
  fld := [(13, [(0, 9), (1, 12)]), (28, [(0, 27)]), (29, [(0, 27)]), (37, [(0, 9), (1, 3), (2, 3), (3, 3), (4, 3)]), (38, [(0, 9), (1, 3), (2, 3), (3, 3), (4, 3)]), (51, [(0, 22), (1, 3), (2, 50)]), (52, [(0, 22), (1, 3), (2, 50)]), (55, [(0, 53), (1, 54)]), (56, [(0, 53), (1, 54)]), (91, [(0, 3), (1, 3)]), (92, [(0, 3), (1, 3)]), (123, [(0, 3), (1, 3)]), (124, [(0, 3), (1, 3)]), (125, [(0, 5), (1, 5), (2, 4)]), (149, [(0, 5), (1, 5)])]
  zer := [(2, [.int .i64 0]), (3, [.int .i64 0]), (4, [.bool false]), (5, [.int .u8 0]), (9, [.string ByteArray.empty]), (12, [.int .u64 0]), (13, [.string ByteArray.empty, .int .u64 0]), (20, [.nilIface]), (21, [.int .i32 0]), (22, [.slice none 0 0]), (25, [.pointer none]), (27, [.slice none 0 0]), (28, [.slice none 0 0]), (29, [.slice none 0 0]), (31, [.int .i64 0]), (37, [.string ByteArray.empty, .int .i64 0, .int .i64 0, .int .i64 0, .int .i64 0]), (38, [.string ByteArray.empty, .int .i64 0, .int .i64 0, .int .i64 0, .int .i64 0]), (40, [.slice none 0 0]), (42, [.slice none 0 0]), (50, [.int .u64 0]), (51, [.slice none 0 0, .int .i64 0, .int .u64 0]), (52, [.slice none 0 0, .int .i64 0, .int .u64 0]), (53, [.pointer none]), (54, [.slice none 0 0]), (55, [.pointer none, .slice none 0 0]), (56, [.pointer none, .slice none 0 0]), (58, [.nilIface]), (59, [.nilIface]), (70, [.int .u64 0]), (82, [.pointer none]), (91, [.int .i64 0, .int .i64 0]), (92, [.int .i64 0, .int .i64 0]), (106, [.int .i64 0, .int .i64 0, .int .i64 0, .int .i64 0]), (111, [.int .i64 0]), (118, [.int .u32 0]), (122, [.slice none 0 0]), (123, [.int .i64 0, .int .i64 0]), (124, [.int .i64 0, .int .i64 0]), (125, [.int .u8 0, .int .u8 0, .bool false]), (126, [.int .u8 0, .int .u8 0, .bool false, .int .u8 0, .int .u8 0, .bool false, .int .u8 0, .int .u8 0, .bool false, .int .u8 0, .int .u8 0, .bool false]), (127, [.int .u64 0]), (131, [.pointer none]), (134, [.int .u8 0, .int .u8 0, .int .u8 0, .int .u8 0, .int .u8 0, .int .u8 0, .int .u8 0, .int .u8 0, .int .u8 0, .int .u8 0, .int .u8 0, .int .u8 0, .int .u8 0, .int .u8 0, .int .u8 0, .int .u8 0, .int .u8 0, .int .u8 0, .int .u8 0, .int .u8 0, .int .u8 0, .int .u8 0, .int .u8 0, .int .u8 0]), (142, [.pointer none]), (146, [.int .u64 0, .int .u64 0, .int .u64 0, .int .u64 0, .int .u64 0, .int .u64 0, .int .u64 0, .int .u64 0, .int .u64 0, .int .u64 0, .int .u64 0, .int .u64 0, .int .u64 0, .int .u64 0, .int .u64 0, .int .u64 0, .int .u64 0, .int .u64 0, .int .u64 0, .int .u64 0]), (149, [.int .u8 0, .int .u8 0])]
  byt := [(2, 8), (3, 8), (4, 1), (5, 1), (9, 16), (12, 8), (13, 24), (20, 16), (21, 4), (22, 24), (25, 8), (27, 24), (28, 24), (29, 24), (31, 8), (37, 48), (38, 48), (40, 24), (42, 24), (50, 8), (51, 40), (52, 40), (53, 8), (54, 24), (55, 32), (56, 32), (58, 16), (59, 16), (70, 8), (82, 8), (91, 16), (92, 16), (106, 32), (111, 8), (118, 4), (122, 24), (123, 16), (124, 16), (125, 3), (126, 12), (127, 8), (131, 8), (134, 24), (142, 8), (146, 160), (149, 2)]
  ik := [(2, .i64), (3, .i64), (5, .u8), (12, .u64), (21, .i32), (31, .i64), (50, .u64), (70, .u64), (111, .i64), (118, .u32), (127, .u64)]
theorem tbOk : TabsOk Tryz.prog tb := ⟨by kernel_rfl, by kernel_rfl, by kernel_rfl, by kernel_rfl, by kernel_rfl, by kernel_rfl⟩
theorem mixd : Tryz.prog.follows .mixedOrders = true := Tryz.checked.mixed
end Go.Proofs.YtggagmafkdhjcaaGreatDoor
namespace Go.Proofs.YtggagmafkdhjcaaGreatDoor
open Go Go.RowKit
def numStep (most n d : Int) : Option Int := if d < 0 ∨ 9 < d ∨ most < d ∨ (most - d) / 10 < n then none else some (10 * n + d)
def numGo (most : Int) : List UInt8 → Int → Option Int
  | [], n => some n
  | c :: r, n => (numStep most n ((c.toNat : Int) - 48)).bind (numGo most r)
def numP (l : List UInt8) (most : Int) : Option Int := match l with
  | [] => none
  | c :: r => if r ≠ [] ∧ c = 48 then none else numGo most (c :: r) 0
theorem numGo_append (most : Int) : ∀ (l r : List UInt8) (n : Int), numGo most (l ++ r) n = (numGo most l n).bind (numGo most r)
  | [], r, n => rfl
  | c :: l, r, n => by
    rw [List.cons_append, numGo, numGo, Option.bind_assoc]
    congr 1
    funext m
    exact numGo_append most l r m
theorem digit_val {d : Nat} (h : d < 10) : (((UInt8.ofNat (48 + d)).toNat : Nat) : Int) - 48 = d := by
  rw [UInt8.toNat_ofNat']
  omega
theorem numGo_digits (most : Int) : ∀ u : Nat, numGo most (Lib.decDigits u) 0 = if (u : Int) ≤ most then some (u : Int) else none := by
  intro u
  induction u using Nat.strongRecOn with
  | ind u ih =>
    rw [Lib.decDigits]
    by_cases h : u < 10
    · rw [dif_pos h, numGo, digit_val h, numStep]
      by_cases h2 : (u : Int) ≤ most
      · rw [if_neg (by omega), if_pos h2]
        simp [numGo]
      · rw [if_pos (by omega), if_neg h2]
        rfl
    · rw [dif_neg h, numGo_append, ih (u / 10) (by omega)]
      by_cases h3 : ((u / 10 : Nat) : Int) ≤ most
      · rw [if_pos h3]
        simp only [Option.bind_some]
        rw [numGo, digit_val (by omega), numStep]
        by_cases h2 : (u : Int) ≤ most
        · rw [if_neg (by omega), if_pos h2]
          simp [numGo]
          omega
        · rw [if_pos (by omega), if_neg h2]
          rfl
      · rw [if_neg h3, if_neg (by omega)]
        rfl
theorem digits_head : ∀ u : Nat, ∃ c r, Lib.decDigits u = c :: r ∧ (10 ≤ u → c ≠ 48) ∧ (u < 10 → r = []) := by
  intro u
  induction u using Nat.strongRecOn with
  | ind u ih =>
    rw [Lib.decDigits]
    by_cases h : u < 10
    · rw [dif_pos h]
      exact ⟨_, [], rfl, fun h2 => by omega, fun _ => rfl⟩
    · rw [dif_neg h]
      obtain ⟨c, r, e, h1, h2⟩ := ih (u / 10) (by omega)
      rw [e]
      refine ⟨c, r ++ [_], rfl, fun _ => ?_, fun h3 => by omega⟩
      by_cases h4 : 10 ≤ u / 10
      · exact h1 h4
      · have hlt : u / 10 < 10 := by omega
        have e2 : Lib.decDigits (u / 10) = [UInt8.ofNat (48 + u / 10)] := by rw [Lib.decDigits, dif_pos hlt]
        rw [e2] at e
        injection e with e3 _
        rw [← e3]
        intro h5
        have := digit_val hlt
        rw [h5] at this
        have h6 : (((48 : UInt8).toNat : Nat) : Int) = 48 := rfl
        rw [h6] at this
        omega
theorem numP_digits (u : Nat) (most : Int) : numP (Lib.decDigits u) most = if (u : Int) ≤ most then some (u : Int) else none := by
  have h := numGo_digits most u
  obtain ⟨c, r, e, h1, h2⟩ := digits_head u
  rw [e] at h ⊢
  unfold numP
  dsimp only
  by_cases h10 : u < 10
  · rw [if_neg (fun h3 => h3.1 (h2 h10)), h]
  · rw [if_neg (fun h3 => h1 (by omega) h3.2), h]
theorem numP_minus (l : List UInt8) (most : Int) : numP (45 :: l) most = none := by
  unfold numP
  dsimp only
  have e : (((45 : UInt8).toNat : Nat) : Int) - 48 = -3 := rfl
  split
  · rfl
  · rw [numGo, e, numStep, if_pos (by omega)]
    rfl
theorem itoa_ne (n : Int) : Lib.itoa n ≠ [] := by
  unfold Lib.itoa
  split
  · simp
  · obtain ⟨c, r, e, -⟩ := digits_head n.toNat
    rw [e]; simp
/-- What the law says of a number's text. -/
theorem numP_itoa (n most : Int) : numP (Lib.itoa n) most = if n < 0 then none else if n ≤ most then some n else none := by
  unfold Lib.itoa
  by_cases h : n < 0
  · rw [if_pos h, if_pos h, numP_minus]
  · rw [if_neg h, if_neg h, numP_digits]
    have e : ((n.toNat : Nat) : Int) = n := by omega
    rw [e]
end Go.Proofs.YtggagmafkdhjcaaGreatDoor
namespace Go.Proofs.YtggagmafkdhjcaaGreatDoor
open Go Go.RowKit
def txtP (n : Int) : ByteArray := ⟨(Lib.itoa n).toArray⟩
/-- The digits of a number, none of zero. -/
def digs (u : Nat) : List UInt8 := if u = 0 then [] else Lib.decDigits u
theorem digs_step {u : Nat} (h : u ≠ 0) : digs u = digs (u / 10) ++ [UInt8.ofNat (48 + u % 10)] := by
  unfold digs
  rw [if_neg h, Lib.decDigits]
  by_cases h10 : u < 10
  · rw [dif_pos h10, if_pos (by omega), Nat.mod_eq_of_lt h10]; rfl
  · rw [dif_neg h10, if_neg (by omega)]
theorem digs_len : ∀ (k u : Nat), u < 10 ^ k → (digs u).length ≤ k
  | 0, u, h => by
    have : u = 0 := by simpa using h
    simp [digs, this]
  | k + 1, u, h => by
    by_cases h0 : u = 0
    · simp [digs, h0]
    · rw [digs_step h0, List.length_append]
      have := digs_len k (u / 10) (by rw [Nat.pow_succ] at h; omega)
      simp; omega
theorem itoa_zero : Lib.itoa 0 = [48] := by decide +kernel
theorem itoa_digs (n : Int) : Lib.itoa n = if n = 0 then [48] else if n < 0 then 45 :: digs n.natAbs else digs n.natAbs := by
  by_cases h0 : n = 0
  · subst h0; rw [itoa_zero]; rfl
  · unfold Lib.itoa digs
    rw [if_neg h0, if_neg (show ¬ n.natAbs = 0 by omega)]
    by_cases h : n < 0
    · rw [if_pos h, if_pos h]
    · rw [if_neg h, if_neg h]
      congr 1; omega
theorem itoa_len {n : Int} (h1 : -9223372036854775808 ≤ n) (h2 : n ≤ 9223372036854775807) : (Lib.itoa n).length ≤ 20 := by
  have := digs_len 19 n.natAbs (by omega)
  rw [itoa_digs]
  split
  · simp
  · split
    · simp; omega
    · omega
def dig (c : UInt8) : Int := (c.toNat : Int) - 48
def isDig (c : UInt8) : Bool := decide (48 ≤ c.toNat) && decide (c.toNat ≤ 57)
/-- The reference's numerals: a number that is too great for any integer is refused at once, one that is too great for the limit at the end. -/
def rnumGo : List UInt8 → Int → Option Int
  | [], n => some n
  | c :: r, n => if isDig c = false ∨ (9223372036854775807 - dig c) / 10 < n then none else rnumGo r (10 * n + dig c)
theorem isDig_iff {c : UInt8} : isDig c = true ↔ 0 ≤ dig c ∧ dig c ≤ 9 := by
  unfold isDig dig
  simp
  omega
theorem rnumGo_eq {most : Int} (h0 : 0 ≤ most) (h1 : most ≤ 9223372036854775807) : ∀ (l : List UInt8) (n : Int), 0 ≤ n → (rnumGo l n).bind (fun m => if most < m then none else some m) = if n ≤ most then numGo most l n else none
  | [], n, hn => by
    show (if most < n then none else some n) = _
    by_cases h : n ≤ most
    · rw [if_pos h, if_neg (by omega)]; rfl
    · rw [if_neg h, if_pos (by omega)]
  | c :: l, n, hn => by
    rw [rnumGo, numGo]
    have hs : (c.toNat : Int) - 48 = dig c := rfl
    rw [hs, numStep]
    by_cases hd : isDig c = true
    · obtain ⟨d0, d9⟩ := isDig_iff.1 hd
      by_cases hb : (9223372036854775807 - dig c) / 10 < n
      · rw [if_pos (.inr hb)]
        by_cases h : n ≤ most
        · rw [if_pos h, if_pos (by omega)]; rfl
        · rw [if_neg h]; rfl
      · rw [if_neg (by rw [hd]; simp; omega), rnumGo_eq h0 h1 l _ (by omega)]
        by_cases h : n ≤ most
        · rw [if_pos h]
          by_cases h2 : 10 * n + dig c ≤ most
          · rw [if_pos h2, if_neg (by omega)]; rfl
          · rw [if_neg h2, if_pos (by omega)]; rfl
        · rw [if_neg h, if_neg (by omega)]
    · have hd' : isDig c = false := by simpa using hd
      rw [if_pos (.inl hd')]
      have : ¬ (0 ≤ dig c ∧ dig c ≤ 9) := fun e => hd (isDig_iff.2 e)
      have hq : dig c < 0 ∨ 9 < dig c ∨ most < dig c ∨ (most - dig c) / 10 < n := by omega
      rw [if_pos hq]
      split <;> rfl
theorem rnumGo_nn : ∀ (l : List UInt8) (n m : Int), 0 ≤ n → rnumGo l n = some m → 0 ≤ m
  | [], n, m, hn, h => by injection h with h; omega
  | c :: l, n, m, hn, h => by
    rw [rnumGo] at h
    split at h
    · cases h
    · rename_i hc
      have hd : isDig c = true := by
        cases hq : isDig c with
        | true => rfl
        | false => exact absurd (.inl hq) hc
      have := isDig_iff.1 hd
      exact rnumGo_nn l _ m (by omega) h
theorem rnum_any {most : Int} (h1 : most ≤ 9223372036854775807) {l : List UInt8} (hne : l ≠ []) : numGo most l 0 = (rnumGo l 0).bind fun m => if most < m then none else some m := by
  by_cases h0 : 0 ≤ most
  · rw [rnumGo_eq h0 h1 _ 0 (by omega), if_pos h0]
  · have hr : ((rnumGo l 0).bind fun m => if most < m then none else some m) = none := by
      cases hq : rnumGo l 0 with
      | none => rfl
      | some m =>
        have := rnumGo_nn l 0 m (by omega) hq
        show (if most < m then none else some m) = none
        rw [if_pos (by omega)]
    rw [hr]
    match l, hne with
    | c :: r, _ =>
      rw [numGo, numStep, if_pos (by omega)]
      rfl
end Go.Proofs.YtggagmafkdhjcaaGreatDoor
