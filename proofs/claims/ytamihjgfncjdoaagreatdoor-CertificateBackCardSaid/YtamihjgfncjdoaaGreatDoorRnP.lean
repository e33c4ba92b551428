/- Tables of types, as the program has them; conditions: none / Numbers, by plain functions on bytes: what lexeme.Number says of any text, and of a numeral; nothing of the program stands here / Numerals as the reference reads them: the same as lexeme.Number; nothing of the program stands here. -/
import Derived.Test.YtamihjgfncjdoaaGreatDoorChecked
import Derived.Test.YtamihjgfncjdoaaGreatDoorAbsE
import Derived.Test.YtamihjgfncjdoaaGreatDoorLib
import Derived.Lib.ItoaNum
set_option linter.unusedVariables false
set_option linter.unusedSimpArgs false
namespace Go.Proofs.YtamihjgfncjdoaaGreatDoor
open Go Go.RowKit
def tb : Tabs where
  ty := [(1, false, 1), (2, false, 1), (3, false, 1), (4, false, 1), (5, false, 1), (9, false, 1), (12, false, 1), (13, true, 2), (20, false, 1), (21, false, 1), (22, false, 1), (23, false, 1), (24, false, 1), (25, false, 1), (26, false, 1), (27, false, 1), (28, false, 1), (29, true, 2), (30, true, 2), (32, false, 1), (33, false, 1), (34, true, 5), (35, true, 5), (36, false, 1), (37, false, 1), (39, false, 1), (40, false, 1), (42, false, 1), (43, false, 1), (44, false, 1), (45, false, 1), (46, false, 1), (47, true, 3), (48, true, 3), (49, true, 5), (50, true, 5), (51, true, 3), (52, true, 3), (53, false, 1), (55, false, 1), (56, false, 1), (57, false, 1), (58, true, 3), (59, true, 3), (60, false, 1), (61, false, 1), (62, false, 1), (63, false, 1), (64, false, 1), (65, true, 3), (66, false, 1), (67, false, 1), (68, false, 1), (69, false, 1), (71, false, 1), (72, false, 1), (73, false, 1), (74, false, 1), (75, false, 1), (76, false, 1), (77, false, 1), (78, false, 1), (79, false, 1), (80, false, 1), (81, false, 1), (82, true, 4), (83, true, 4), (84, false, 1), (85, false, 1), (87, false, 1), (88, false, 1), (89, false, 1), (90, false, 1), (91, false, 1), (92, false, 1), (93, false, 1), (94, false, 1), (95, false, 1), (96, false, 1), (97, false, 1), (99, false, 1), (101, false, 1), (102, false, 1), (103, false, 1), (104, false, 1), (105, false, 1), (106, false, 1), (107, false, 1), (108, false, 1), (109, false, 1), (110, false, 1), (111, false, 1), (112, false, 1), (113, true, 2), (114, true, 2), (115, false, 1), (116, false, 1), (117, false, 1), (119, false, 1), (120, false, 1), (121, false, 1), (122, false, 1), (123, false, 1), (124, false, 1), (125, false, 1), (126, false, 1), (127, false, 1), (128, false, 1), (129, false, 1), (130, false, 1), (131, false, 1), (132, false, 1), (133, true, 3), (134, true, 12), (135, false, 1), (136, false, 1), (137, false, 1), (139, false, 1), (140, false, 1), (141, false, 1), (142, true, 24), (143, false, 1), (144, false, 1), (146, false, 1), (149, false, 1), (150, false, 1), (151, false, 1), (152, false, 1), (153, true, 20), (154, false, 1), (156, false, 1), (158, true, 2), (159, true, 2), (160, true, 32), (162, false, 1), (163, false, 1), (164, true, 32), (165, true, 64), (171, false, 1)]
  sle := [(22, 3), (27, 48), (28, 50), (33, 52), (43, 5), (53, 35), (64, 9), (79, 83)]
  fld := [(13, [(0, 9), (1, 12)]), (29, [(0, 27), (1, 28)]), (30, [(0, 27), (1, 28)]), (34, [(0, 3), (1, 3), (2, 3), (3, 3), (4, 33)]), (35, [(0, 3), (1, 3), (2, 3), (3, 3), (4, 33)]), (47, [(0, 9), (1, 3), (2, 3)]), (48, [(0, 9), (1, 3), (2, 3)]), (49, [(0, 9), (1, 3), (2, 3), (3, 3), (4, 3)]), (50, [(0, 9), (1, 3), (2, 3), (3, 3), (4, 3)]), (51, [(0, 3), (1, 3), (2, 3)]), (52, [(0, 3), (1, 3), (2, 3)]), (58, [(0, 22), (1, 3), (2, 57)]), (59, [(0, 22), (1, 3), (2, 57)]), (82, [(0, 3), (1, 3), (2, 3), (3, 81)]), (83, [(0, 3), (1, 3), (2, 3), (3, 81)]), (113, [(0, 112), (1, 43)]), (114, [(0, 112), (1, 43)]), (133, [(0, 5), (1, 5), (2, 4)]), (158, [(0, 5), (1, 5)]), (159, [(0, 5), (1, 5)])]
  zer := [(1, [.nilFunc]), (2, [.int .i64 0]), (3, [.int .i64 0]), (4, [.bool false]), (5, [.int .u8 0]), (9, [.string ByteArray.empty]), (12, [.int .u64 0]), (13, [.string ByteArray.empty, .int .u64 0]), (20, [.nilIface]), (21, [.int .i32 0]), (22, [.slice none 0 0]), (23, [.nilFunc]), (24, [.nilFunc]), (25, [.pointer none]), (26, [.nilFunc]), (27, [.slice none 0 0]), (28, [.slice none 0 0]), (29, [.slice none 0 0, .slice none 0 0]), (30, [.slice none 0 0, .slice none 0 0]), (32, [.nilFunc]), (33, [.slice none 0 0]), (34, [.int .i64 0, .int .i64 0, .int .i64 0, .int .i64 0, .slice none 0 0]), (35, [.int .i64 0, .int .i64 0, .int .i64 0, .int .i64 0, .slice none 0 0]), (36, [.nilFunc]), (37, [.int .i64 0]), (39, [.nilFunc]), (40, [.nilFunc]), (42, [.nilFunc]), (43, [.slice none 0 0]), (44, [.nilFunc]), (45, [.nilFunc]), (46, [.nilFunc]), (47, [.string ByteArray.empty, .int .i64 0, .int .i64 0]), (48, [.string ByteArray.empty, .int .i64 0, .int .i64 0]), (49, [.string ByteArray.empty, .int .i64 0, .int .i64 0, .int .i64 0, .int .i64 0]), (50, [.string ByteArray.empty, .int .i64 0, .int .i64 0, .int .i64 0, .int .i64 0]), (51, [.int .i64 0, .int .i64 0, .int .i64 0]), (52, [.int .i64 0, .int .i64 0, .int .i64 0]), (53, [.slice none 0 0]), (55, [.nilFunc]), (56, [.nilFunc]), (57, [.int .u64 0]), (58, [.slice none 0 0, .int .i64 0, .int .u64 0]), (59, [.slice none 0 0, .int .i64 0, .int .u64 0]), (60, [.nilFunc]), (61, [.nilFunc]), (62, [.nilFunc]), (63, [.nilFunc]), (64, [.slice none 0 0]), (65, [.string ByteArray.empty, .string ByteArray.empty, .string ByteArray.empty]), (66, [.nilFunc]), (67, [.nilFunc]), (68, [.nilFunc]), (69, [.nilFunc]), (71, [.nilFunc]), (72, [.nilFunc]), (73, [.nilFunc]), (74, [.nilFunc]), (75, [.nilFunc]), (76, [.nilFunc]), (77, [.nilFunc]), (78, [.nilFunc]), (79, [.slice none 0 0]), (80, [.nilFunc]), (81, [.nilFunc]), (82, [.int .i64 0, .int .i64 0, .int .i64 0, .nilFunc]), (83, [.int .i64 0, .int .i64 0, .int .i64 0, .nilFunc]), (84, [.nilFunc]), (85, [.int .u64 0]), (87, [.nilFunc]), (88, [.nilFunc]), (89, [.map none]), (90, [.nilFunc]), (91, [.nilFunc]), (92, [.nilFunc]), (93, [.nilFunc]), (94, [.nilFunc]), (95, [.nilFunc]), (96, [.pointer none]), (97, [.map none]), (99, [.nilFunc]), (101, [.nilFunc]), (102, [.nilFunc]), (103, [.nilFunc]), (104, [.nilFunc]), (105, [.nilFunc]), (106, [.nilFunc]), (107, [.nilFunc]), (108, [.nilFunc]), (109, [.nilFunc]), (110, [.nilFunc]), (111, [.nilFunc]), (112, [.pointer none]), (113, [.pointer none, .slice none 0 0]), (114, [.pointer none, .slice none 0 0]), (115, [.nilFunc]), (116, [.nilIface]), (117, [.nilIface]), (119, [.nilFunc]), (120, [.nilFunc]), (121, [.nilFunc]), (122, [.nilFunc]), (123, [.nilFunc]), (124, [.nilFunc]), (125, [.nilFunc]), (126, [.nilFunc]), (127, [.nilFunc]), (128, [.nilFunc]), (129, [.nilFunc]), (130, [.nilFunc]), (131, [.nilFunc]), (132, [.pointer none]), (133, [.int .u8 0, .int .u8 0, .bool false]), (134, [.int .u8 0, .int .u8 0, .bool false, .int .u8 0, .int .u8 0, .bool false, .int .u8 0, .int .u8 0, .bool false, .int .u8 0, .int .u8 0, .bool false]), (135, [.nilFunc]), (136, [.nilFunc]), (137, [.nilFunc]), (139, [.nilFunc]), (140, [.nilFunc]), (141, [.nilFunc]), (142, [.int .u8 0, .int .u8 0, .int .u8 0, .int .u8 0, .int .u8 0, .int .u8 0, .int .u8 0, .int .u8 0, .int .u8 0, .int .u8 0, .int .u8 0, .int .u8 0, .int .u8 0, .int .u8 0, .int .u8 0, .int .u8 0, .int .u8 0, .int .u8 0, .int .u8 0, .int .u8 0, .int .u8 0, .int .u8 0, .int .u8 0, .int .u8 0]), (143, [.nilFunc]), (144, [.nilFunc]), (146, [.nilFunc]), (149, [.nilFunc]), (150, [.nilFunc]), (151, [.nilFunc]), (152, [.nilFunc]), (153, [.int .u64 0, .int .u64 0, .int .u64 0, .int .u64 0, .int .u64 0, .int .u64 0, .int .u64 0, .int .u64 0, .int .u64 0, .int .u64 0, .int .u64 0, .int .u64 0, .int .u64 0, .int .u64 0, .int .u64 0, .int .u64 0, .int .u64 0, .int .u64 0, .int .u64 0, .int .u64 0]), (154, [.int .u32 0]), (156, [.nilFunc]), (158, [.int .u8 0, .int .u8 0]), (159, [.int .u8 0, .int .u8 0]), (160, [.int .u8 0, .int .u8 0, .int .u8 0, .int .u8 0, .int .u8 0, .int .u8 0, .int .u8 0, .int .u8 0, .int .u8 0, .int .u8 0, .int .u8 0, .int .u8 0, .int .u8 0, .int .u8 0, .int .u8 0, .int .u8 0, .int .u8 0, .int .u8 0, .int .u8 0, .int .u8 0, .int .u8 0, .int .u8 0, .int .u8 0, .int .u8 0, .int .u8 0, .int .u8 0, .int .u8 0, .int .u8 0, .int .u8 0, .int .u8 0, .int .u8 0, .int .u8 0]), (162, [.nilFunc]), (163, [.nilFunc]), (164, [.int .u8 0, .int .u8 0, .int .u8 0, .int .u8 0, .int .u8 0, .int .u8 0, .int .u8 0, .int .u8 0, .int .u8 0, .int .u8 0, .int .u8 0, .int .u8 0, .int .u8 0, .int .u8 0, .int .u8 0, .int .u8 0, .int .u8 0, .int .u8 0, .int .u8 0, .int .u8 0, .int .u8 0, .int .u8 0, .int .u8 0, .int .u8 0, .int .u8 0, .int .u8 0, .int .u8 0, .int .u8 0, .int .u8 0, .int .u8 0, .int .u8 0, .int .u8 0]), (165, [.int .u8 0, .int .u8 0, .int .u8 0, .int .u8 0, .int .u8 0, .int .u8 0, .int .u8 0, .int .u8 0, .int .u8 0, .int .u8 0, .int .u8 0, .int .u8 0, .int .u8 0, .int .u8 0, .int .u8 0, .int .u8 0, .int .u8 0, .int .u8 0, .int .u8 0, .int .u8 0, .int .u8 0, .int .u8 0, .int .u8 0, .int .u8 0, .int .u8 0, .int .u8 0, .int .u8 0, .int .u8 0, .int .u8 0, .int .u8 0, .int .u8 0, .int .u8 0, .int .u8 0, .int .u8 0, .int .u8 0, .int .u8 0, .int .u8 0, .int .u8 0, .int .u8 0, .int .u8 0, .int .u8 0, .int .u8 0, .int .u8 0, .int .u8 0, .int .u8 0, .int .u8 0, .int .u8 0, .int .u8 0, .int .u8 0, .int .u8 0, .int .u8 0, .int .u8 0, .int .u8 0, .int .u8 0, .int .u8 0, .int .u8 0, .int .u8 0, .int .u8 0, .int .u8 0, .int .u8 0, .int .u8 0, .int .u8 0, .int .u8 0, .int .u8 0]), (171, [.nilFunc])]
  byt := [(1, 8), (2, 8), (3, 8), (4, 1), (5, 1), (9, 16), (12, 8), (13, 24), (20, 16), (21, 4), (22, 24), (23, 8), (24, 8), (25, 8), (26, 8), (27, 24), (28, 24), (29, 48), (30, 48), (32, 8), (33, 24), (34, 56), (35, 56), (36, 8), (37, 8), (39, 8), (40, 8), (42, 8), (43, 24), (44, 8), (45, 8), (46, 8), (47, 32), (48, 32), (49, 48), (50, 48), (51, 24), (52, 24), (53, 24), (55, 8), (56, 8), (57, 8), (58, 40), (59, 40), (60, 8), (61, 8), (62, 8), (63, 8), (64, 24), (65, 48), (66, 8), (67, 8), (68, 8), (69, 8), (71, 8), (72, 8), (73, 8), (74, 8), (75, 8), (76, 8), (77, 8), (78, 8), (79, 24), (80, 8), (81, 8), (82, 32), (83, 32), (84, 8), (85, 8), (87, 8), (88, 8), (89, 8), (90, 8), (91, 8), (92, 8), (93, 8), (94, 8), (95, 8), (96, 8), (97, 8), (99, 8), (101, 8), (102, 8), (103, 8), (104, 8), (105, 8), (106, 8), (107, 8), (108, 8), (109, 8), (110, 8), (111, 8), (112, 8), (113, 32), (114, 32), (115, 8), (116, 16), (117, 16), (119, 8), (120, 8), (121, 8), (122, 8), (123, 8), (124, 8), (125, 8), (126, 8), (127, 8), (128, 8), (129, 8), (130, 8), (131, 8), (132, 8), (133, 3), (134, 12), (135, 8), (136, 8), (137, 8), (139, 8), (140, 8), (141, 8), (142, 24), (143, 8), (144, 8), (146, 8), (149, 8), (150, 8), (151, 8), (152, 8), (153, 160), (154, 4), (156, 8), (158, 2), (159, 2), (160, 32), (162, 8), (163, 8), (164, 32), (165, 64), (171, 8)]
  ik := [(2, .i64), (3, .i64), (5, .u8), (12, .u64), (21, .i32), (37, .i64), (57, .u64), (85, .u64), (154, .u32)]
theorem tbOk : TabsOk Tryz.prog tb := ⟨by kernel_rfl, by kernel_rfl, by kernel_rfl, by kernel_rfl, by kernel_rfl, by kernel_rfl⟩
theorem mixd : Tryz.prog.follows .mixedOrders = true := Tryz.checked.mixed
end Go.Proofs.YtamihjgfncjdoaaGreatDoor
namespace Go.Proofs.YtamihjgfncjdoaaGreatDoor
open Go Go.RowKit
def numStep (most n d : Int) : Option Int := if d < 0 ∨ 9 < d ∨ most < d ∨ (most - d) / 10 < n then none else some (10 * n + d)
def numGo (most : Int) : List UInt8 → Int → Option Int
  | [], n => some n
  | c :: r, n => (numStep most n ((c.toNat : Int) - 48)).bind (numGo most r)
def numP (l : List UInt8) (most : Int) : Option Int := match l with
  | [] => none
  | c :: r => if r ≠ [] ∧ c = 48 then none else numGo most (c :: r) 0
theorem numGo_append (most : Int) : ∀ (l r : List UInt8) (n : Int), numGo most (l ++ r) n = (numGo most l n).bind (numGo most r)
  | [], r, n => rfl
  | c :: l, r, n => by
    rw [List.cons_append, numGo, numGo, Option.bind_assoc]
    congr 1
    funext m
    exact numGo_append most l r m
theorem digit_val {d : Nat} (h : d < 10) : (((UInt8.ofNat (48 + d)).toNat : Nat) : Int) - 48 = d := by
  rw [UInt8.toNat_ofNat']
  omega
theorem numGo_digits (most : Int) : ∀ u : Nat, numGo most (Lib.decDigits u) 0 = if (u : Int) ≤ most then some (u : Int) else none := by
  intro u
  induction u using Nat.strongRecOn with
  | ind u ih =>
    rw [Lib.decDigits]
    by_cases h : u < 10
    · rw [dif_pos h, numGo, digit_val h, numStep]
      by_cases h2 : (u : Int) ≤ most
      · rw [if_neg (by omega), if_pos h2]
        simp [numGo]
      · rw [if_pos (by omega), if_neg h2]
        rfl
    · rw [dif_neg h, numGo_append, ih (u / 10) (by omega)]
      by_cases h3 : ((u / 10 : Nat) : Int) ≤ most
      · rw [if_pos h3]
        simp only [Option.bind_some]
        rw [numGo, digit_val (by omega), numStep]
        by_cases h2 : (u : Int) ≤ most
        · rw [if_neg (by omega), if_pos h2]
          simp [numGo]
          omega
        · rw [if_pos (by omega), if_neg h2]
          rfl
      · rw [if_neg h3, if_neg (by omega)]
        rfl
theorem digits_head : ∀ u : Nat, ∃ c r, Lib.decDigits u = c :: r ∧ (10 ≤ u → c ≠ 48) ∧ (u < 10 → r = []) := by
  intro u
  induction u using Nat.strongRecOn with
  | ind u ih =>
    rw [Lib.decDigits]
    by_cases h : u < 10
    · rw [dif_pos h]
      exact ⟨_, [], rfl, fun h2 => by omega, fun _ => rfl⟩
    · rw [dif_neg h]
      obtain ⟨c, r, e, h1, h2⟩ := ih (u / 10) (by omega)
      rw [e]
      refine ⟨c, r ++ [_], rfl, fun _ => ?_, fun h3 => by omega⟩
      by_cases h4 : 10 ≤ u / 10
      · exact h1 h4
      · have hlt : u / 10 < 10 := by omega
        have e2 : Lib.decDigits (u / 10) = [UInt8.ofNat (48 + u / 10)] := by rw [Lib.decDigits, dif_pos hlt]
        rw [e2] at e
        injection e with e3 _
        rw [← e3]
        intro h5
        have := digit_val hlt
        rw [h5] at this
        have h6 : (((48 : UInt8).toNat : Nat) : Int) = 48 := rfl
        rw [h6] at this
        omega
theorem numP_digits (u : Nat) (most : Int) : numP (Lib.decDigits u) most = if (u : Int) ≤ most then some (u : Int) else none := by
  have h := numGo_digits most u
  obtain ⟨c, r, e, h1, h2⟩ := digits_head u
  rw [e] at h ⊢
  unfold numP
  dsimp only
  by_cases h10 : u < 10
  · rw [if_neg (fun h3 => h3.1 (h2 h10)), h]
  · rw [if_neg (fun h3 => h1 (by omega) h3.2), h]
theorem numP_minus (l : List UInt8) (most : Int) : numP (45 :: l) most = none := by
  unfold numP
  dsimp only
  have e : (((45 : UInt8).toNat : Nat) : Int) - 48 = -3 := rfl
  split
  · rfl
  · rw [numGo, e, numStep, if_pos (by omega)]
    rfl
/-- What the law says of a number's text. -/
theorem numP_itoa (n most : Int) : numP (Lib.itoa n) most = if n < 0 then none else if n ≤ most then some n else none := by
  unfold Lib.itoa
  by_cases h : n < 0
  · rw [if_pos h, if_pos h, numP_minus]
  · rw [if_neg h, if_neg h, numP_digits]
    have e : ((n.toNat : Nat) : Int) = n := by omega
    rw [e]
end Go.Proofs.YtamihjgfncjdoaaGreatDoor
namespace Go.Proofs.YtamihjgfncjdoaaGreatDoor
open Go Go.RowKit
def txtP (n : Int) : ByteArray := ⟨(Lib.itoa n).toArray⟩
/-- The digits of a number, none of zero. -/
def digs (u : Nat) : List UInt8 := if u = 0 then [] else Lib.decDigits u
theorem digs_step {u : Nat} (h : u ≠ 0) : digs u = digs (u / 10) ++ [UInt8.ofNat (48 + u % 10)] := by
  unfold digs
  rw [if_neg h, Lib.decDigits]
  by_cases h10 : u < 10
  · rw [dif_pos h10, if_pos (by omega), Nat.mod_eq_of_lt h10]; rfl
  · rw [dif_neg h10, if_neg (by omega)]
theorem digs_len : ∀ (k u : Nat), u < 10 ^ k → (digs u).length ≤ k
  | 0, u, h => by
    have : u = 0 := by simpa using h
    simp [digs, this]
  | k + 1, u, h => by
    by_cases h0 : u = 0
    · simp [digs, h0]
    · rw [digs_step h0, List.length_append]
      have := digs_len k (u / 10) (by rw [Nat.pow_succ] at h; omega)
      simp; omega
theorem itoa_zero : Lib.itoa 0 = [48] := by decide +kernel
theorem itoa_digs (n : Int) : Lib.itoa n = if n = 0 then [48] else if n < 0 then 45 :: digs n.natAbs else digs n.natAbs := by
  by_cases h0 : n = 0
  · subst h0; rw [itoa_zero]; rfl
  · unfold Lib.itoa digs
    rw [if_neg h0, if_neg (show ¬ n.natAbs = 0 by omega)]
    by_cases h : n < 0
    · rw [if_pos h, if_pos h]
    · rw [if_neg h, if_neg h]
      congr 1; omega
theorem itoa_len {n : Int} (h1 : -9223372036854775808 ≤ n) (h2 : n ≤ 9223372036854775807) : (Lib.itoa n).length ≤ 20 := by
  have := digs_len 19 n.natAbs (by omega)
  rw [itoa_digs]
  split
  · simp
  · split
    · simp; omega
    · omega
end Go.Proofs.YtamihjgfncjdoaaGreatDoor
