/- Numbers, by plain functions on bytes: what lexeme.Number says of any text, and of a numeral; nothing of the program stands here / Numerals as the reference reads them: the same as lexeme.Number; nothing of the program stands here / Words between spaces and lines, by plain functions on bytes; nothing of the program stands here. -/
import Derived.Test.YthhhpnbnkolgmaaDoorLib
import Derived.Lib.ItoaNum
import Derived.Lib.FieldsP
import Derived.Lib.SplitLaws
import Derived.Lib.Join
import Derived.Laws.RangeString
import Derived.Laws.RangeAny
set_option linter.unusedVariables false
set_option linter.unusedSimpArgs false
namespace Go.Proofs.YthhhpnbnkolgmaaDoor
open Go Go.RowKit
def numStep (most n d : Int) : Option Int := if d < 0 ∨ 9 < d ∨ most < d ∨ (most - d) / 10 < n then none else some (10 * n + d)
def numGo (most : Int) : List UInt8 → Int → Option Int
  | [], n => some n
  | c :: r, n => (numStep most n ((c.toNat : Int) - 48)).bind (numGo most r)
def numP (l : List UInt8) (most : Int) : Option Int := match l with
  | [] => none
  | c :: r => if r ≠ [] ∧ c = 48 then none else numGo most (c :: r) 0
theorem numGo_append (most : Int) : ∀ (l r : List UInt8) (n : Int), numGo most (l ++ r) n = (numGo most l n).bind (numGo most r)
  | [], r, n => rfl
  | c :: l, r, n => by
    rw [List.cons_append, numGo, numGo, Option.bind_assoc]
    congr 1
    funext m
    exact numGo_append most l r m
theorem digit_val {d : Nat} (h : d < 10) : (((UInt8.ofNat (48 + d)).toNat : Nat) : Int) - 48 = d := by
  rw [UInt8.toNat_ofNat']
  omega
theorem numGo_digits (most : Int) : ∀ u : Nat, numGo most (Lib.decDigits u) 0 = if (u : Int) ≤ most then some (u : Int) else none := by
  intro u
  induction u using Nat.strongRecOn with
  | ind u ih =>
    rw [Lib.decDigits]
    by_cases h : u < 10
    · rw [dif_pos h, numGo, digit_val h, numStep]
      by_cases h2 : (u : Int) ≤ most
      · rw [if_neg (by omega), if_pos h2]
        simp [numGo]
      · rw [if_pos (by omega), if_neg h2]
        rfl
    · rw [dif_neg h, numGo_append, ih (u / 10) (by omega)]
      by_cases h3 : ((u / 10 : Nat) : Int) ≤ most
      · rw [if_pos h3]
        simp only [Option.bind_some]
        rw [numGo, digit_val (by omega), numStep]
        by_cases h2 : (u : Int) ≤ most
        · rw [if_neg (by omega), if_pos h2]
          simp [numGo]
          omega
        · rw [if_pos (by omega), if_neg h2]
          rfl
      · rw [if_neg h3, if_neg (by omega)]
        rfl
theorem digits_head : ∀ u : Nat, ∃ c r, Lib.decDigits u = c :: r ∧ (10 ≤ u → c ≠ 48) ∧ (u < 10 → r = []) := by
  intro u
  induction u using Nat.strongRecOn with
  | ind u ih =>
    rw [Lib.decDigits]
    by_cases h : u < 10
    · rw [dif_pos h]
      exact ⟨_, [], rfl, fun h2 => by omega, fun _ => rfl⟩
    · rw [dif_neg h]
      obtain ⟨c, r, e, h1, h2⟩ := ih (u / 10) (by omega)
      rw [e]
      refine ⟨c, r ++ [_], rfl, fun _ => ?_, fun h3 => by omega⟩
      by_cases h4 : 10 ≤ u / 10
      · exact h1 h4
      · have hlt : u / 10 < 10 := by omega
        have e2 : Lib.decDigits (u / 10) = [UInt8.ofNat (48 + u / 10)] := by rw [Lib.decDigits, dif_pos hlt]
        rw [e2] at e
        injection e with e3 _
        rw [← e3]
        intro h5
        have := digit_val hlt
        rw [h5] at this
        have h6 : (((48 : UInt8).toNat : Nat) : Int) = 48 := rfl
        rw [h6] at this
        omega
theorem numP_digits (u : Nat) (most : Int) : numP (Lib.decDigits u) most = if (u : Int) ≤ most then some (u : Int) else none := by
  have h := numGo_digits most u
  obtain ⟨c, r, e, h1, h2⟩ := digits_head u
  rw [e] at h ⊢
  unfold numP
  dsimp only
  by_cases h10 : u < 10
  · rw [if_neg (fun h3 => h3.1 (h2 h10)), h]
  · rw [if_neg (fun h3 => h1 (by omega) h3.2), h]
theorem numP_minus (l : List UInt8) (most : Int) : numP (45 :: l) most = none := by
  unfold numP
  dsimp only
  have e : (((45 : UInt8).toNat : Nat) : Int) - 48 = -3 := rfl
  split
  · rfl
  · rw [numGo, e, numStep, if_pos (by omega)]
    rfl
theorem numP_zero (l : List UInt8) (most : Int) (h : l ≠ []) : numP (48 :: l) most = none := by
  unfold numP
  dsimp only
  rw [if_pos ⟨h, rfl⟩]
theorem itoa_ne (n : Int) : Lib.itoa n ≠ [] := by
  unfold Lib.itoa
  split
  · simp
  · obtain ⟨c, r, e, -⟩ := digits_head n.toNat
    rw [e]; simp
/-- What the law says of a number's text. -/
theorem numP_itoa (n most : Int) : numP (Lib.itoa n) most = if n < 0 then none else if n ≤ most then some n else none := by
  unfold Lib.itoa
  by_cases h : n < 0
  · rw [if_pos h, if_pos h, numP_minus]
  · rw [if_neg h, if_neg h, numP_digits]
    have e : ((n.toNat : Nat) : Int) = n := by omega
    rw [e]
end Go.Proofs.YthhhpnbnkolgmaaDoor
namespace Go.Proofs.YthhhpnbnkolgmaaDoor
open Go Go.RowKit
def txtP (n : Int) : ByteArray := ⟨(Lib.itoa n).toArray⟩
/-- The digits of a number, none of zero. -/
def digs (u : Nat) : List UInt8 := if u = 0 then [] else Lib.decDigits u
theorem digs_step {u : Nat} (h : u ≠ 0) : digs u = digs (u / 10) ++ [UInt8.ofNat (48 + u % 10)] := by
  unfold digs
  rw [if_neg h, Lib.decDigits]
  by_cases h10 : u < 10
  · rw [dif_pos h10, if_pos (by omega), Nat.mod_eq_of_lt h10]; rfl
  · rw [dif_neg h10, if_neg (by omega)]
theorem digs_len : ∀ (k u : Nat), u < 10 ^ k → (digs u).length ≤ k
  | 0, u, h => by
    have : u = 0 := by simpa using h
    simp [digs, this]
  | k + 1, u, h => by
    by_cases h0 : u = 0
    · simp [digs, h0]
    · rw [digs_step h0, List.length_append]
      have := digs_len k (u / 10) (by rw [Nat.pow_succ] at h; omega)
      simp; omega
theorem itoa_zero : Lib.itoa 0 = [48] := by decide +kernel
theorem itoa_digs (n : Int) : Lib.itoa n = if n = 0 then [48] else if n < 0 then 45 :: digs n.natAbs else digs n.natAbs := by
  by_cases h0 : n = 0
  · subst h0; rw [itoa_zero]; rfl
  · unfold Lib.itoa digs
    rw [if_neg h0, if_neg (show ¬ n.natAbs = 0 by omega)]
    by_cases h : n < 0
    · rw [if_pos h, if_pos h]
    · rw [if_neg h, if_neg h]
      congr 1; omega
theorem itoa_len {n : Int} (h1 : -9223372036854775808 ≤ n) (h2 : n ≤ 9223372036854775807) : (Lib.itoa n).length ≤ 20 := by
  have := digs_len 19 n.natAbs (by omega)
  rw [itoa_digs]
  split
  · simp
  · split
    · simp; omega
    · omega
def dig (c : UInt8) : Int := (c.toNat : Int) - 48
def isDig (c : UInt8) : Bool := decide (48 ≤ c.toNat) && decide (c.toNat ≤ 57)
/-- The reference's numerals: a number that is too great for any integer is refused at once, one that is too great for the limit at the end. -/
def rnumGo : List UInt8 → Int → Option Int
  | [], n => some n
  | c :: r, n => if isDig c = false ∨ (9223372036854775807 - dig c) / 10 < n then none else rnumGo r (10 * n + dig c)
theorem isDig_iff {c : UInt8} : isDig c = true ↔ 0 ≤ dig c ∧ dig c ≤ 9 := by
  unfold isDig dig
  simp
  omega
theorem rnumGo_eq {most : Int} (h0 : 0 ≤ most) (h1 : most ≤ 9223372036854775807) : ∀ (l : List UInt8) (n : Int), 0 ≤ n → (rnumGo l n).bind (fun m => if most < m then none else some m) = if n ≤ most then numGo most l n else none
  | [], n, hn => by
    show (if most < n then none else some n) = _
    by_cases h : n ≤ most
    · rw [if_pos h, if_neg (by omega)]; rfl
    · rw [if_neg h, if_pos (by omega)]
  | c :: l, n, hn => by
    rw [rnumGo, numGo]
    have hs : (c.toNat : Int) - 48 = dig c := rfl
    rw [hs, numStep]
    by_cases hd : isDig c = true
    · obtain ⟨d0, d9⟩ := isDig_iff.1 hd
      by_cases hb : (9223372036854775807 - dig c) / 10 < n
      · rw [if_pos (.inr hb)]
        by_cases h : n ≤ most
        · rw [if_pos h, if_pos (by omega)]; rfl
        · rw [if_neg h]; rfl
      · rw [if_neg (by rw [hd]; simp; omega), rnumGo_eq h0 h1 l _ (by omega)]
        by_cases h : n ≤ most
        · rw [if_pos h]
          by_cases h2 : 10 * n + dig c ≤ most
          · rw [if_pos h2, if_neg (by omega)]; rfl
          · rw [if_neg h2, if_pos (by omega)]; rfl
        · rw [if_neg h, if_neg (by omega)]
    · have hd' : isDig c = false := by simpa using hd
      rw [if_pos (.inl hd')]
      have : ¬ (0 ≤ dig c ∧ dig c ≤ 9) := fun e => hd (isDig_iff.2 e)
      have hq : dig c < 0 ∨ 9 < dig c ∨ most < dig c ∨ (most - dig c) / 10 < n := by omega
      rw [if_pos hq]
      split <;> rfl
theorem rnumGo_nn : ∀ (l : List UInt8) (n m : Int), 0 ≤ n → rnumGo l n = some m → 0 ≤ m
  | [], n, m, hn, h => by injection h with h; omega
  | c :: l, n, m, hn, h => by
    rw [rnumGo] at h
    split at h
    · cases h
    · rename_i hc
      have hd : isDig c = true := by
        cases hq : isDig c with
        | true => rfl
        | false => exact absurd (.inl hq) hc
      have := isDig_iff.1 hd
      exact rnumGo_nn l _ m (by omega) h
theorem rnum_any {most : Int} (h1 : most ≤ 9223372036854775807) {l : List UInt8} (hne : l ≠ []) : numGo most l 0 = (rnumGo l 0).bind fun m => if most < m then none else some m := by
  by_cases h0 : 0 ≤ most
  · rw [rnumGo_eq h0 h1 _ 0 (by omega), if_pos h0]
  · have hr : ((rnumGo l 0).bind fun m => if most < m then none else some m) = none := by
      cases hq : rnumGo l 0 with
      | none => rfl
      | some m =>
        have := rnumGo_nn l 0 m (by omega) hq
        show (if most < m then none else some m) = none
        rw [if_pos (by omega)]
    rw [hr]
    match l, hne with
    | c :: r, _ =>
      rw [numGo, numStep, if_pos (by omega)]
      rfl
def rnumP (l : List UInt8) (most : Int) : Option Int := match l with
  | [] => none
  | c :: r => if r ≠ [] ∧ c = 48 then none else (rnumGo (c :: r) 0).bind fun m => if most < m then none else some m
theorem rnumP_eq {most : Int} (h0 : 0 ≤ most) (h1 : most ≤ 9223372036854775807) (l : List UInt8) : rnumP l most = numP l most := by
  match l with
  | [] => rfl
  | c :: r =>
    unfold rnumP numP
    dsimp only
    split
    · rfl
    · rw [rnumGo_eq h0 h1 _ 0 (by omega), if_pos h0]
end Go.Proofs.YthhhpnbnkolgmaaDoor
namespace Go.Proofs.YthhhpnbnkolgmaaDoor
open Go Go.RowKit
/-- The words of some bytes, behind a word that is begun. -/
def wl : List UInt8 → List UInt8 → List (List UInt8)
  | cur, [] => if cur = [] then [] else [cur]
  | cur, c :: l => if c = 32 then (if cur = [] then wl [] l else cur :: wl [] l) else wl (cur ++ [c]) l
def wordsL (l : List UInt8) : List (List UInt8) := wl [] l
theorem wl_skip : ∀ (bs cur l : List UInt8), (∀ c ∈ bs, c ≠ 32) → wl cur (bs ++ l) = wl (cur ++ bs) l
  | [], cur, l, _ => by simp
  | b :: bs, cur, l, h => by
    rw [List.cons_append, wl, if_neg (h b (by simp)), wl_skip bs _ l (fun c hc => h c (by simp [hc]))]
    simp
theorem wl_word {w : List UInt8} (h0 : w ≠ []) (h : ∀ c ∈ w, c ≠ 32) : wl [] w = [w] := by
  have := wl_skip w [] [] h
  rw [List.append_nil, List.nil_append] at this
  rw [this, wl, if_neg h0]
/-- A word and a space ahead of more. -/
theorem wl_cons {w l : List UInt8} (h0 : w ≠ []) (h : ∀ c ∈ w, c ≠ 32) : wl [] (w ++ 32 :: l) = w :: wl [] l := by
  rw [wl_skip w [] _ h, List.nil_append, wl, if_pos rfl, if_neg h0]
theorem wl_space (l : List UInt8) : wl [] (32 :: l) = wl [] l := by rw [wl, if_pos rfl, if_pos rfl]
/-- What joining words with single spaces gives. -/
def joinW (ws : List (List UInt8)) : List UInt8 := Lib.join ws [32]
theorem joinW_nil : joinW [] = [] := rfl
theorem joinW_one (w : List UInt8) : joinW [w] = w := Lib.join_one w [32]
theorem joinW_cons (w x : List UInt8) (r : List (List UInt8)) : joinW (w :: x :: r) = w ++ 32 :: joinW (x :: r) := by
  unfold joinW
  rw [Lib.join_cons, Lib.join_cons]
  unfold Lib.joinTail
  simp
theorem words_join : ∀ {ws : List (List UInt8)}, (∀ w ∈ ws, w ≠ [] ∧ ∀ c ∈ w, c ≠ 32) → wordsL (joinW ws) = ws
  | [], _ => rfl
  | [w], h => by
    rw [joinW_one]
    obtain ⟨h0, h1⟩ := h w (by simp)
    exact wl_word h0 h1
  | w :: x :: r, h => by
    rw [joinW_cons]
    obtain ⟨h0, h1⟩ := h w (by simp)
    show wl [] _ = _
    rw [wl_cons h0 h1]
    have := words_join (ws := x :: r) (fun y hy => h y (by simp at hy ⊢; exact .inr hy))
    rw [show wl [] (joinW (x :: r)) = wordsL (joinW (x :: r)) from rfl, this]
theorem wl_ok : ∀ {l cur : List UInt8}, (∀ c ∈ cur, c ≠ 32) → ∀ w ∈ wl cur l, w ≠ [] ∧ ∀ c ∈ w, c ≠ 32
  | [], cur, h, w, hw => by
    unfold wl at hw
    split at hw
    · simp at hw
    · rename_i h0
      simp at hw; subst hw
      exact ⟨h0, h⟩
  | c :: l, cur, h, w, hw => by
    unfold wl at hw
    split at hw
    · split at hw
      · exact wl_ok (l := l) (cur := []) (by simp) w hw
      · rename_i h0
        rcases List.mem_cons.1 hw with rfl | hw
        · exact ⟨h0, h⟩
        · exact wl_ok (l := l) (cur := []) (by simp) w hw
    · rename_i hc
      refine wl_ok (l := l) (cur := cur ++ [c]) (fun d hd => ?_) w hw
      rcases List.mem_append.1 hd with hd | hd
      · exact h d hd
      · simp at hd; subst hd; exact hc
theorem words_ok {l : List UInt8} : ∀ w ∈ wordsL l, w ≠ [] ∧ ∀ c ∈ w, c ≠ 32 := wl_ok (by simp)
theorem wl_len : ∀ {l cur w : List UInt8}, w ∈ wl cur l → w.length ≤ cur.length + l.length
  | [], cur, w, h => by
    unfold wl at h
    split at h
    · simp at h
    · simp at h; subst h; simp
  | c :: l, cur, w, h => by
    unfold wl at h
    split at h
    · split at h
      · have := wl_len h; simp at this ⊢; omega
      · rcases List.mem_cons.1 h with rfl | h
        · simp
        · have := wl_len h; simp at this ⊢; omega
    · have := wl_len h; simp at this ⊢; omega
theorem wl_count : ∀ {l cur : List UInt8}, (wl cur l).length ≤ l.length + 1
  | [], cur => by unfold wl; split <;> simp
  | c :: l, cur => by
    unfold wl
    split
    · split
      · have := wl_count (l := l) (cur := []); simp; omega
      · have := wl_count (l := l) (cur := []); simp; omega
    · have := wl_count (l := l) (cur := cur ++ [c]); simp; omega
section
variable {s : ByteArray}
theorem get_list {i : Nat} (h : i < s.size) : s.data.toList[i]? = some (s.get! i) := by
  have : i < s.data.size := h
  simp [ByteArray.get!, h, this]
theorem dec_cont (pos k : Nat) (h1 : 1 ≤ k) (h2 : k < (Utf8.decode s pos).2) : pos + k < s.size ∧ 128 ≤ (s.get! (pos + k)).toNat := by
  have key : ∀ j, (decide (pos + j < s.size) && ((s.get! (pos + j)).toNat / 64 == 2)) = true → pos + j < s.size ∧ 128 ≤ (s.get! (pos + j)).toNat := fun j h => by
    simp at h
    omega
  unfold Utf8.decode at h2
  simp only at h2
  split at h2
  · simp at h2; omega
  split at h2
  · rename_i hc
    simp only [Bool.and_eq_true] at hc
    split at h2
    · obtain rfl : k = 1 := by simp at h2; omega
      exact key 1 (by simpa using hc.2)
    · simp at h2; omega
  split at h2
  · rename_i hc
    simp only [Bool.and_eq_true] at hc
    split at h2
    · obtain rfl | rfl : k = 1 ∨ k = 2 := by simp at h2; omega
      · exact key 1 (by simpa using hc.1.2)
      · exact key 2 (by simpa using hc.2)
    · simp at h2; omega
  split at h2
  · rename_i hc
    simp only [Bool.and_eq_true] at hc
    split at h2
    · obtain rfl | rfl | rfl : k = 1 ∨ k = 2 ∨ k = 3 := by simp at h2; omega
      · exact key 1 (by simpa using hc.1.1.2)
      · exact key 2 (by simpa using hc.1.2)
      · exact key 3 (by simpa using hc.2)
    · simp at h2; omega
  · simp at h2; omega
end
def spP (n : Nat) : Bool := n == 32
def extL (s : ByteArray) (x : Nat × Nat) : List UInt8 := (s.data.toList.take x.2).drop x.1
def curL (s : ByteArray) (pos : Nat) : Option Nat → List UInt8
  | none => []
  | some a => extL s (a, pos)
theorem extL_app (s : ByteArray) {a b c : Nat} (h1 : a ≤ b) (h2 : b ≤ c) : extL s (a, c) = extL s (a, b) ++ extL s (b, c) := by
  unfold extL
  simp only
  have e : s.data.toList.take c = s.data.toList.take b ++ (s.data.toList.take c).drop b := by
    conv => lhs; rw [← List.take_append_drop b (s.data.toList.take c)]
    rw [List.take_take, Nat.min_eq_left h2]
  rcases Nat.le_total b s.data.toList.length with hb | hb
  · conv => lhs; rw [e]
    rw [List.drop_append_of_le_length (by rw [List.length_take]; omega)]
  · rw [List.take_of_length_le (Nat.le_trans hb h2), List.take_of_length_le hb, List.drop_of_length_le (l := s.data.toList) (i := b) hb, List.append_nil]
theorem extL_ne (s : ByteArray) {a b : Nat} (h : a < b) (hb : b ≤ s.size) : extL s (a, b) ≠ [] := by
  intro e
  have := congrArg List.length e
  have hz : s.size = s.data.toList.length := by simp
  unfold extL at this
  rw [List.length_drop, List.length_take] at this
  simp at this
  omega
theorem spans_wl (s : ByteArray) : ∀ (f pos : Nat) (st : Option Nat) (acc : List (Nat × Nat)), s.size - pos ≤ f → pos ≤ s.size → (∀ a, st = some a → a < pos) →
    (Lib.closeSpans s (Lib.spansFromP spP s f pos st acc)).map (extL s) = acc.map (extL s) ++ wl (curL s pos st) (s.data.toList.drop pos)
  | f, pos, st, acc, hf, hp, hst => by
    have hz : s.size = s.data.toList.length := by simp
    have hend : pos = s.size → (Lib.closeSpans s (acc, st)).map (extL s) = acc.map (extL s) ++ wl (curL s pos st) (s.data.toList.drop pos) := fun he => by
      rw [List.drop_of_length_le (by omega)]
      cases st with
      | none => simp [Lib.closeSpans, curL, wl]
      | some a =>
        have hne := extL_ne s (hst a rfl) hp
        subst he
        simp only [Lib.closeSpans, curL]
        rw [wl, if_neg hne, List.map_append]
        rfl
    by_cases hlt : pos < s.size
    · match f, hf with
      | 0, hf => omega
      | f + 1, hf =>
        have hg := get_list hlt
        have hd : s.data.toList.drop pos = s.get! pos :: s.data.toList.drop (pos + 1) := drop_at hg
        have hgb : s[pos]'hlt = s.get! pos := by simp [ByteArray.get!, hlt]; rfl
        unfold Lib.spansFromP
        rw [if_pos hlt]
        by_cases hasc : (s.get! pos).toNat < 128
        · have hdec := decode_ascii s pos hlt (by rw [hgb]; exact hasc)
          rw [hgb] at hdec
          rw [hdec]
          simp only
          by_cases hsp : s.get! pos = 32
          · have : spP (s.get! pos).toNat = true := by rw [hsp]; rfl
            rw [if_pos this]
            cases st with
            | none =>
              simp only
              rw [spans_wl s f (pos + 1) none acc (by omega) (by omega) (by simp), hd, hsp]
              simp only [curL]
              rw [wl_space]
            | some a =>
              simp only
              rw [spans_wl s f (pos + 1) none _ (by omega) (by omega) (by simp), hd, hsp]
              simp only [curL]
              rw [wl, if_pos rfl, if_neg (extL_ne s (hst a rfl) hp), List.map_append, List.append_assoc]
              rfl
          · have : ¬ spP (s.get! pos).toNat = true := by
              unfold spP
              simp
              intro e
              exact hsp (UInt8.toNat_inj.1 (by rw [e]; rfl))
            rw [if_neg this]
            have hone : extL s (pos, pos + 1) = [s.get! pos] := by
              unfold extL
              simp only
              rw [take_at hg, List.drop_append_of_le_length (by rw [List.length_take]; omega), List.drop_of_length_le (by rw [List.length_take]; omega)]
              rfl
            cases st with
            | none =>
              simp only
              rw [spans_wl s f (pos + 1) (some pos) acc (by omega) (by omega) (by simp), hd]
              simp only [curL]
              rw [wl, if_neg hsp, hone]
              rfl
            | some a =>
              have ha := hst a rfl
              simp only
              rw [spans_wl s f (pos + 1) (some a) acc (by omega) (by omega) (by simp; omega), hd]
              simp only [curL]
              rw [wl, if_neg hsp, extL_app s (show a ≤ pos by omega) (show pos ≤ pos + 1 by omega), hone]
        · have hh := decode_high s pos hlt (by rw [hgb]; omega)
          have hcont := fun k => dec_cont (s := s) pos k
          generalize Utf8.decode s pos = D at hh hcont
          obtain ⟨r, n⟩ := D
          simp only at hh hcont ⊢
          have hn : pos + n ≤ s.size := by
            by_cases h1 : n = 1
            · omega
            · have := (hcont (n - 1) (by omega) (by omega)).1
              omega
          have hns : ¬ spP r = true := by unfold spP; simp; omega
          rw [if_neg hns]
          have hsplit : s.data.toList.drop pos = extL s (pos, pos + n) ++ s.data.toList.drop (pos + n) := by
            unfold extL
            simp only
            conv => lhs; rw [← List.take_append_drop n (s.data.toList.drop pos)]
            rw [List.drop_drop, List.drop_take]
            congr 2
            omega
          have hno : ∀ c ∈ extL s (pos, pos + n), c ≠ 32 := fun c hc => by
            obtain ⟨k, hk⟩ := List.getElem?_of_mem hc
            unfold extL at hk
            simp only at hk
            rw [List.getElem?_drop, List.getElem?_take] at hk
            split at hk
            · rename_i hkn
              have hkn2 : pos + k < pos + n := hkn
              have hb : 128 ≤ (s.get! (pos + k)).toNat := by
                by_cases h0 : k = 0
                · rw [h0, Nat.add_zero]; omega
                · exact (hcont k (by omega) (by omega)).2
              rw [get_list (i := pos + k) (by omega)] at hk
              injection hk with hk
              rintro rfl
              rw [hk] at hb
              exact absurd hb (by decide)
            · cases hk
          cases st with
          | none =>
            simp only
            rw [spans_wl s f (pos + n) (some pos) acc (by omega) hn (by simp; omega), hsplit]
            simp only [curL]
            rw [wl_skip _ _ _ hno]
            rfl
          | some a =>
            have ha := hst a rfl
            simp only
            rw [spans_wl s f (pos + n) (some a) acc (by omega) hn (by simp; omega), hsplit]
            simp only [curL]
            rw [wl_skip _ _ _ hno, extL_app s (show a ≤ pos by omega) (show pos ≤ pos + n by omega)]
    · rw [Lib.spansFromP_end _ _ _ _ _ _ hlt]
      exact hend (by omega)
theorem fields_words (s : ByteArray) : Lib.goFieldsP spP s = (wordsL s.data.toList).map fun w => ⟨w.toArray⟩ := by
  have h := spans_wl s s.size 0 none [] (by omega) (by omega) (by simp)
  simp only [List.map_nil, List.nil_append, curL, List.drop_zero] at h
  have h2 : wordsL s.data.toList = (Lib.spansOfP spP s).map (extL s) := h.symm
  rw [h2]
  unfold Lib.goFieldsP
  rw [List.map_map]
  refine List.map_congr_left fun x _ => ?_
  show s.extract x.1 x.2 = ⟨(extL s x).toArray⟩
  unfold extL
  have e : (s.extract x.1 x.2).data.toList = (s.data.toList.take x.2).drop x.1 := by
    rw [ByteArray.data_extract, Array.toList_extract, List.extract_eq_take_drop, List.drop_take]
  rw [← e]
end Go.Proofs.YthhhpnbnkolgmaaDoor
