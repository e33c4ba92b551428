/- Numbers, by plain functions on bytes: what lexeme.Number says of any text, and of a numeral; nothing of the program stands here / Numerals as the reference reads them: the same as lexeme.Number; nothing of the program stands here / lexeme.Number and its reference, and the reference of Text, by the abstract machine; conditions: none. -/
import Derived.Test.YtjamibeffalhaaaGreatDoorLib
import Derived.Lib.ItoaNum
import Derived.Test.YtjamibeffalhaaaGreatDoorAbsX
import Derived.Test.YtjamibeffalhaaaGreatDoorTab
set_option linter.unusedVariables false
set_option linter.unusedSimpArgs false
namespace Go.Proofs.YtjamibeffalhaaaGreatDoor
open Go Go.RowKit
def qy (most n d : Int) : Option Int := if d < 0 ∨ 9 < d ∨ most < d ∨ (most - d) / 10 < n then none else some (10 * n + d)
def cC (most : Int) : List UInt8 → Int → Option Int
  | [], n => some n
  | c :: r, n => (qy most n ((c.toNat : Int) - 48)).bind (cC most r)
def numP (l : List UInt8) (most : Int) : Option Int := match l with
  | [] => none
  | c :: r => if r ≠ [] ∧ c = 48 then none else cC most (c :: r) 0
theorem uQ {d : Nat} (h : d < 10) : (((UInt8.ofNat (48 + d)).toNat : Nat) : Int) - 48 = d := by
  rw [UInt8.toNat_ofNat']
  omega
theorem pY : ∀ u : Nat, ∃ c r, Lib.decDigits u = c :: r ∧ (10 ≤ u → c ≠ 48) ∧ (u < 10 → r = []) := by
  intro u
  induction u using Nat.strongRecOn with
  | ind u ih =>
    rw [Lib.decDigits]
    by_cases h : u < 10
    · rw [dif_pos h]
      exact ⟨_, [], rfl, fun h2 => by omega, fun _ => rfl⟩
    · rw [dif_neg h]
      obtain ⟨c, r, e, h1, h2⟩ := ih (u / 10) (by omega)
      rw [e]
      refine ⟨c, r ++ [_], rfl, fun _ => ?_, fun h3 => by omega⟩
      by_cases h4 : 10 ≤ u / 10
      · exact h1 h4
      · have hlt : u / 10 < 10 := by omega
        have e2 : Lib.decDigits (u / 10) = [UInt8.ofNat (48 + u / 10)] := by rw [Lib.decDigits, dif_pos hlt]
        rw [e2] at e
        injection e with e3 _
        rw [← e3]
        intro h5
        have := uQ hlt
        rw [h5] at this
        have h6 : (((48 : UInt8).toNat : Nat) : Int) = 48 := rfl
        rw [h6] at this
        omega
theorem sQ (n : Int) : Lib.itoa n ≠ [] := by
  unfold Lib.itoa
  split
  · simp
  · obtain ⟨c, r, e, -⟩ := pY n.toNat
    rw [e]; simp
end Go.Proofs.YtjamibeffalhaaaGreatDoor
namespace Go.Proofs.YtjamibeffalhaaaGreatDoor
open Go Go.RowKit
def txtP (n : Int) : ByteArray := ⟨(Lib.itoa n).toArray⟩
/-- The digits of a number, none of zero. -/
def digs (u : Nat) : List UInt8 := if u = 0 then [] else Lib.decDigits u
theorem mU {u : Nat} (h : u ≠ 0) : digs u = digs (u / 10) ++ [UInt8.ofNat (48 + u % 10)] := by
  unfold digs
  rw [if_neg h, Lib.decDigits]
  by_cases h10 : u < 10
  · rw [dif_pos h10, if_pos (by omega), Nat.mod_eq_of_lt h10]; rfl
  · rw [dif_neg h10, if_neg (by omega)]
theorem kM : ∀ (k u : Nat), u < 10 ^ k → (digs u).length ≤ k
  | 0, u, h => by
    have : u = 0 := by simpa using h
    simp [digs, this]
  | k + 1, u, h => by
    by_cases h0 : u = 0
    · simp [digs, h0]
    · rw [mU h0, List.length_append]
      have := kM k (u / 10) (by rw [Nat.pow_succ] at h; omega)
      simp; omega
theorem vJ : Lib.itoa 0 = [48] := by decide +kernel
theorem mP (n : Int) : Lib.itoa n = if n = 0 then [48] else if n < 0 then 45 :: digs n.natAbs else digs n.natAbs := by
  by_cases h0 : n = 0
  · subst h0; rw [vJ]; rfl
  · unfold Lib.itoa digs
    rw [if_neg h0, if_neg (show ¬ n.natAbs = 0 by omega)]
    by_cases h : n < 0
    · rw [if_pos h, if_pos h]
    · rw [if_neg h, if_neg h]
      congr 1; omega
theorem qY {n : Int} (h1 : -9223372036854775808 ≤ n) (h2 : n ≤ 9223372036854775807) : (Lib.itoa n).length ≤ 20 := by
  have := kM 19 n.natAbs (by omega)
  rw [mP]
  split
  · simp
  · split
    · simp; omega
    · omega
def dig (c : UInt8) : Int := (c.toNat : Int) - 48
def fB (c : UInt8) : Bool := decide (48 ≤ c.toNat) && decide (c.toNat ≤ 57)
/-- The reference's numerals: a number that is too great for any integer is refused at once, one that is too great for the limit at the end. -/
def qR : List UInt8 → Int → Option Int
  | [], n => some n
  | c :: r, n => if fB c = false ∨ (9223372036854775807 - dig c) / 10 < n then none else qR r (10 * n + dig c)
theorem gQ {c : UInt8} : fB c = true ↔ 0 ≤ dig c ∧ dig c ≤ 9 := by
  unfold fB dig
  simp
  omega
theorem lS {most : Int} (h0 : 0 ≤ most) (h1 : most ≤ 9223372036854775807) : ∀ (l : List UInt8) (n : Int), 0 ≤ n → (qR l n).bind (fun m => if most < m then none else some m) = if n ≤ most then cC most l n else none
  | [], n, hn => by
    show (if most < n then none else some n) = _
    by_cases h : n ≤ most
    · rw [if_pos h, if_neg (by omega)]; rfl
    · rw [if_neg h, if_pos (by omega)]
  | c :: l, n, hn => by
    rw [qR, cC]
    have hs : (c.toNat : Int) - 48 = dig c := rfl
    rw [hs, qy]
    by_cases hd : fB c = true
    · obtain ⟨d0, d9⟩ := gQ.1 hd
      by_cases hb : (9223372036854775807 - dig c) / 10 < n
      · rw [if_pos (.inr hb)]
        by_cases h : n ≤ most
        · rw [if_pos h, if_pos (by omega)]; rfl
        · rw [if_neg h]; rfl
      · rw [if_neg (by rw [hd]; simp; omega), lS h0 h1 l _ (by omega)]
        by_cases h : n ≤ most
        · rw [if_pos h]
          by_cases h2 : 10 * n + dig c ≤ most
          · rw [if_pos h2, if_neg (by omega)]; rfl
          · rw [if_neg h2, if_pos (by omega)]; rfl
        · rw [if_neg h, if_neg (by omega)]
    · have hd' : fB c = false := by simpa using hd
      rw [if_pos (.inl hd')]
      have : ¬ (0 ≤ dig c ∧ dig c ≤ 9) := fun e => hd (gQ.2 e)
      have hq : dig c < 0 ∨ 9 < dig c ∨ most < dig c ∨ (most - dig c) / 10 < n := by omega
      rw [if_pos hq]
      split <;> rfl
theorem mM : ∀ (l : List UInt8) (n m : Int), 0 ≤ n → qR l n = some m → 0 ≤ m
  | [], n, m, hn, h => by injection h with h; omega
  | c :: l, n, m, hn, h => by
    rw [qR] at h
    split at h
    · cases h
    · rename_i hc
      have hd : fB c = true := by
        cases hq : fB c with
        | true => rfl
        | false => exact absurd (.inl hq) hc
      have := gQ.1 hd
      exact mM l _ m (by omega) h
theorem rnum_any {most : Int} (h1 : most ≤ 9223372036854775807) {l : List UInt8} (hne : l ≠ []) : cC most l 0 = (qR l 0).bind fun m => if most < m then none else some m := by
  by_cases h0 : 0 ≤ most
  · rw [lS h0 h1 _ 0 (by omega), if_pos h0]
  · have hr : ((qR l 0).bind fun m => if most < m then none else some m) = none := by
      cases hq : qR l 0 with
      | none => rfl
      | some m =>
        have := mM l 0 m (by omega) hq
        show (if most < m then none else some m) = none
        rw [if_pos (by omega)]
    rw [hr]
    match l, hne with
    | c :: r, _ =>
      rw [cC, qy, if_pos (by omega)]
      rfl
end Go.Proofs.YtjamibeffalhaaaGreatDoor
namespace Go.Proofs.YtjamibeffalhaaaGreatDoor
open Go Go.RowKit
set_option maxRecDepth 10000
variable {G : Nat → Option (List Value)}
theorem cO (s : ByteArray) (k : Nat) (c : UInt8) (hc : s.data.toList[k]? = some c) (w : World) : (Instr.index 9 (.string s) (.int .i64 k)).run Tryz.prog w = .ok (.int .u8 (c.toNat : Int)) w := by
  have hk := yO hc
  have hk2 : k < s.size := by simpa using hk
  rw [run_index_string w 9 s .i64 _ Tryz.underlying9, dif_pos ⟨by omega, by omega⟩]
  have e : ((k : Int)).toNat = k := by omega
  simp only [e]
  have : s[k] = c := by
    rw [List.getElem?_eq_getElem hk] at hc
    injection hc with hc
  rw [this]
theorem bU (s : ByteArray) : s.size = s.data.toList.length := by simp
theorem gG {s : ByteArray} : yI s ⟨#[]⟩ = decide (s.size = 0) := by
  cases h : yI s ⟨#[]⟩ with
  | true => rw [yz.1 h]; rfl
  | false =>
    symm
    apply decide_eq_false
    intro e
    have : s = ⟨#[]⟩ := by
      cases s with | mk a => exact congrArg _ (Array.eq_empty_of_size_eq_zero e)
    rw [yz.2 this] at h
    cases h
/-- What numP says of a text whose first byte is known. -/
theorem sV {s : ByteArray} {c0 : UInt8} {most : Int} (h0 : s.data.toList[0]? = some c0) (hb : ¬ (1 < s.size ∧ c0 = 48)) : numP s.data.toList most = cC most s.data.toList 0 := by
  match hl : s.data.toList with
  | [] => rw [hl] at h0; cases h0
  | c :: r =>
    rw [hl] at h0
    injection h0 with h0
    subst h0
    unfold numP
    dsimp only
    rw [if_neg]
    rintro ⟨h3, h4⟩
    apply hb
    rw [bU, hl]
    refine ⟨?_, h4⟩
    have : r.length ≠ 0 := fun h => h3 (List.eq_nil_of_length_eq_zero h)
    simp; omega
theorem iN {s : ByteArray} {c0 : UInt8} {most : Int} (h0 : s.data.toList[0]? = some c0) (hb : 1 < s.size ∧ c0 = 48) : numP s.data.toList most = none := by
  match hl : s.data.toList with
  | [] => rw [hl] at h0; cases h0
  | c :: r =>
    rw [hl] at h0
    injection h0 with h0
    subst h0
    unfold numP
    dsimp only
    rw [if_pos]
    refine ⟨fun e => ?_, hb.2⟩
    have := hb.1
    rw [bU, hl, e] at this
    simp at this
theorem vG {most : Int} {l : List UInt8} {k : Nat} {c : UInt8} (hx : l[k]? = some c) (n : Int) : cC most (l.drop k) n = (qy most n ((c.toNat : Int) - 48)).bind (cC most (l.drop (k + 1))) := by
  rw [yT hx, cC]
set_option maxHeartbeats 2000000 in
theorem number_A (s : ByteArray) (most : Int) (hm : s.size ≤ maxLen) (hm1 : -9223372036854775808 ≤ most) (hm2 : most ≤ 9223372036854775807) :
    zz Tryz.prog G 123 [.v (.string s), .v (.int .i64 most)] [] (.tu [.v (.int .i64 ((numP s.data.toList most).getD 0)), .v (.bool (numP s.data.toList most).isSome)]) [] := by
  have hmx : s.size ≤ 9223372036854775807 := by unfold maxLen at hm; omega
  have hs := bU s
  refine zb tbOk (zc Tryz.func123 (by kernel_rfl) rfl) Tryz.func123 rfl _ Tryz.ntmps123 (Nat.le_of_ble_eq_true rfl) fun X hX => ?_
  subst hX
  repeat (first | ((with_reducible refine zK ?_); refine zJ rfl ?_) | ((with_reducible refine zE ?_); refine zF rfl ?_) | ((with_reducible refine zQ ?_); refine yh rfl rfl rfl ?_)  | refine zL ?_ | refine zB rfl ?_ | with_reducible (first | refine zG ?_ | refine zH ?_) | ((with_reducible refine zA ?_ ?_); kernel_rfl))
  rw [gG]
  refine zv rfl rfl (fun h1 => ?_) (fun h1 => ?_)
  · have e : s.data.toList = [] := List.eq_nil_of_length_eq_zero (by rw [← hs]; simpa using h1)
    rw [e, h1]
    repeat (first | ((with_reducible refine zE ?_); refine zF rfl ?_) | ((with_reducible refine za ?_); refine zh rfl (by first | rfl | assumption) rfl ?_)  | refine zL ?_ | refine zB rfl ?_ | refine yA rfl rfl (by first | rfl | assumption) ?_ | refine jT rfl rfl rfl ?_ | with_reducible (first | refine zG ?_ | refine zO ?_ | refine zH ?_ | refine zN ?_) | ((with_reducible refine zA ?_ ?_); kernel_rfl) | refine zn rfl (by first | rfl | assumption) ?_)
    refine yp (by first | exact .inr rfl | exact .inl rfl) rfl rfl rfl ?_
    repeat' (first | exact trivial | exact Ren.v _ | exact Ren.sl _ _ | exact Ren.ep _ | exact Ren.ptr _ _ _ _ rfl | exact Ren.bs _ _ _ _ _ rfl | exact Ren.nil _ | exact Ren.own _ _ _ _ ⟨_, rfl⟩ | refine zi ?_ | refine zj ?_ | refine zl ?_ | refine ⟨?_, ?_⟩)
  · have h1n : ¬ s.size = 0 := by simpa using h1
    rw [h1]
    obtain ⟨c0, h0⟩ := zd (L := s.data.toList) (k := 0) (by rw [← hs]; omega)
    have ix0 : ∀ w : World, (Instr.index 9 (.string s) (.int .i64 0)).run Tryz.prog w = .ok (.int .u8 (c0.toNat : Int)) w := fun w => cO s 0 c0 h0 w
    repeat (first | ((with_reducible refine zK ?_); refine zJ rfl ?_) | ((with_reducible refine zt ?_); refine yv (by exact Tryz.underlying9) rfl ?_) | ((with_reducible refine zQ ?_); refine zT rfl rfl rfl ?_)  | refine zw rfl rfl (by first | rfl | assumption) ?_  )
    by_cases hb : 1 < s.size ∧ c0 = 48
    · rw [iN h0 hb]
      have q1 : decide ((s.size : Int) > 1) = true := by simp; omega
      have q2 : ((c0.toNat : Int) == 48) = true := by rw [hb.2]; rfl
      repeat (first | ((with_reducible refine zK ?_); refine zJ rfl ?_) | ((with_reducible refine zE ?_); refine zF rfl ?_) | ((with_reducible refine za ?_); (first | refine zh rfl (by first | rfl | assumption) rfl ?_ | refine zf rfl (by first | rfl | assumption) rfl ?_)) | ((with_reducible refine jA ?_); refine jC rfl rfl (by assumption) ?_) | ((with_reducible refine zQ ?_); refine zT rfl rfl rfl ?_)  | refine zL ?_ | refine zB rfl ?_ | refine yC rfl rfl (by first | rfl | assumption) ?_ | refine zw rfl rfl (by first | rfl | assumption) ?_ | with_reducible (first | refine zG ?_ | refine zO ?_ | refine zH ?_ | refine zN ?_) | ((with_reducible refine zA ?_ ?_); kernel_rfl) | refine zn rfl (by first | rfl | assumption) ?_)
      refine yp (by first | exact .inr rfl | exact .inl rfl) rfl rfl rfl ?_
      repeat' (first | exact trivial | exact Ren.v _ | exact Ren.sl _ _ | exact Ren.ep _ | exact Ren.ptr _ _ _ _ rfl | exact Ren.bs _ _ _ _ _ rfl | exact Ren.nil _ | exact Ren.own _ _ _ _ ⟨_, rfl⟩ | refine zi ?_ | refine zj ?_ | refine zl ?_ | refine ⟨?_, ?_⟩)
    · rw [sV h0 hb]
      repeat' (first | ((with_reducible refine zK ?_); refine zJ rfl ?_) | ((with_reducible refine zE ?_); refine zF rfl ?_) | ((with_reducible refine za ?_); (first | refine zh rfl (by first | rfl | assumption) rfl ?_ | refine zf rfl (by first | rfl | assumption) rfl ?_)) | ((with_reducible refine jA ?_); refine jC rfl rfl (by assumption) ?_) | ((with_reducible refine zt ?_); refine yv (by exact Tryz.underlying9) rfl ?_) | ((with_reducible refine zQ ?_); refine zT rfl rfl rfl ?_)  | refine zL ?_ | refine zB rfl ?_ | refine yC rfl rfl (by first | rfl | assumption) ?_ | refine yE rfl rfl (by first | rfl | assumption) ?_ | refine zw rfl rfl (by first | rfl | assumption) ?_ | with_reducible (first | refine zG ?_ | refine zO ?_ | refine zH ?_ | refine zY ?_ | refine zS ?_ | refine zN ?_) | ((with_reducible refine zA ?_ ?_); kernel_rfl) | refine yF rfl (by first | rfl | assumption) ?_ | refine zv rfl rfl (fun _ => ?_) (fun _ => ?_) | refine zZ rfl (fun _ => ?_) (fun _ => ?_))
      all_goals first
        | (exfalso
           apply hb
           simp at *
           exact ⟨by omega, UInt8.toNat_inj.1 (by show c0.toNat = 48; omega)⟩)
        | skip
      all_goals (
        refine yL (ι := Nat × Int) (fun q => q.1 ≤ s.size ∧ 0 ≤ q.2 ∧ q.2 ≤ 9223372036854775807 ∧ cC most (s.data.toList.drop q.1) q.2 = cC most s.data.toList 0) (fun q => s.size - q.1) (fun v q => [(0, .v (.string s)), (1, .v (.int .i64 most)), (6, .v (.int .i64 q.2)), (22, .v (.int .i64 s.size)), (23, .v (.int .i64 (q.1 : Nat)))]) (fun v q => []) ?_ ?_)
      all_goals first
        | exact ⟨(0, 0), ⟨Nat.zero_le _, by simp, by simp, rfl⟩, trivial, ⟨rfl, rfl, rfl, rfl, rfl, trivial⟩, trivial⟩
        | skip
      all_goals (
        rintro v ⟨k, m⟩ ⟨hk, hm3, hm4, hf⟩
        simp only at hk hm3 hm4 hf
        dsimp only
        repeat (first | ((with_reducible refine zQ ?_); refine zT rfl rfl rfl ?_)  | refine zL ?_ | refine zB rfl ?_ | with_reducible (first | refine zG ?_ | refine zH ?_) | ((with_reducible refine zA ?_ ?_); kernel_rfl))
        refine zZ rfl (fun h => ?_) (fun h => ?_)
        · have hlt : k < s.size := by simp at h; omega
          obtain ⟨c, hx⟩ := zd (L := s.data.toList) (k := k) (by rw [← hs]; exact hlt)
          have ix := cO s k c hx
          rw [vG hx] at hf
          obtain ⟨b, hbb⟩ : ∃ b : Int, (c.toNat : Int) = b := ⟨_, rfl⟩
          have hb2 : 0 ≤ b ∧ b < 256 := by have := c.toNat_lt; omega
          obtain ⟨hb3, hb4⟩ := hb2
          rw [hbb] at ix hf
          clear hbb
          repeat (first | ((with_reducible refine zK ?_); refine zJ rfl ?_) | ((with_reducible refine zE ?_); refine zF rfl ?_) | ((with_reducible refine jA ?_); refine jC rfl rfl (by assumption) ?_) | ((with_reducible refine jS ?_); refine qM tbOk rfl rfl rfl (by first | assumption | exact jQ (by omega) | exact yg (by omega) | exact jj (by omega)) ?_) | ((with_reducible refine zQ ?_); (first | refine jm rfl rfl (by omega) ?_ | refine zT rfl rfl rfl ?_))  | refine zL ?_ | refine zB rfl ?_ | with_reducible (first | refine zG ?_ | refine zH ?_ | refine zY ?_ | refine zS ?_) | ((with_reducible refine zA ?_ ?_); kernel_rfl))
          by_cases q1 : b - 48 < 0
          · rw [qy, if_pos (.inl q1)] at hf
            have p1 : decide (b - 48 < 0) = true := by simpa using q1
            repeat (first | ((with_reducible refine zK ?_); refine zJ rfl ?_) | ((with_reducible refine zE ?_); refine zF rfl ?_) | ((with_reducible refine za ?_); refine zh rfl (by first | rfl | assumption) rfl ?_)  | refine zL ?_ | refine zB rfl ?_ | refine yA rfl rfl (by first | rfl | assumption) ?_ | with_reducible (first | refine zG ?_ | refine zO ?_ | refine zV ?_ | refine zH ?_ | refine zN ?_) | ((with_reducible refine zA ?_ ?_); kernel_rfl) | refine zn rfl (by first | rfl | assumption) ?_)
            refine yp (by first | exact .inr rfl | exact .inl rfl) rfl rfl rfl ?_
            rw [← hf]
            repeat' (first | exact trivial | exact Ren.v _ | exact Ren.sl _ _ | exact Ren.ep _ | exact Ren.ptr _ _ _ _ rfl | exact Ren.bs _ _ _ _ _ rfl | exact Ren.nil _ | exact Ren.own _ _ _ _ ⟨_, rfl⟩ | refine zi ?_ | refine zj ?_ | refine zl ?_ | refine ⟨?_, ?_⟩)
          by_cases q2 : 9 < b - 48
          · rw [qy, if_pos (.inr (.inl q2))] at hf
            have p1 : decide (b - 48 < 0) = false := by simpa using q1
            have p2 : decide (b - 48 > 9) = true := by simpa using q2
            repeat (first | ((with_reducible refine zK ?_); refine zJ rfl ?_) | ((with_reducible refine zE ?_); refine zF rfl ?_) | ((with_reducible refine za ?_); (first | refine zh rfl (by first | rfl | assumption) rfl ?_ | refine zf rfl (by first | rfl | assumption) rfl ?_)) | ((with_reducible refine zQ ?_); refine zT rfl rfl rfl ?_)  | refine zL ?_ | refine zB rfl ?_ | refine zw rfl rfl (by first | rfl | assumption) ?_ | refine yA rfl rfl (by first | rfl | assumption) ?_ | with_reducible (first | refine zG ?_ | refine zO ?_ | refine zV ?_ | refine zH ?_ | refine zN ?_) | ((with_reducible refine zA ?_ ?_); kernel_rfl) | refine zn rfl (by first | rfl | assumption) ?_)
            refine yp (by first | exact .inr rfl | exact .inl rfl) rfl rfl rfl ?_
            rw [← hf]
            repeat' (first | exact trivial | exact Ren.v _ | exact Ren.sl _ _ | exact Ren.ep _ | exact Ren.ptr _ _ _ _ rfl | exact Ren.bs _ _ _ _ _ rfl | exact Ren.nil _ | exact Ren.own _ _ _ _ ⟨_, rfl⟩ | refine zi ?_ | refine zj ?_ | refine zl ?_ | refine ⟨?_, ?_⟩)
          by_cases q3 : most < b - 48
          · rw [qy, if_pos (.inr (.inr (.inl q3)))] at hf
            have p1 : decide (b - 48 < 0) = false := by simpa using q1
            have p2 : decide (b - 48 > 9) = false := by simpa using q2
            have p3 : decide (b - 48 > most) = true := by simpa using q3
            repeat (first | ((with_reducible refine zK ?_); refine zJ rfl ?_) | ((with_reducible refine zE ?_); refine zF rfl ?_) | ((with_reducible refine za ?_); (first | refine zh rfl (by first | rfl | assumption) rfl ?_ | refine zf rfl (by first | rfl | assumption) rfl ?_)) | ((with_reducible refine zQ ?_); refine zT rfl rfl rfl ?_)  | refine zL ?_ | refine zB rfl ?_ | refine zw rfl rfl (by first | rfl | assumption) ?_ | refine yA rfl rfl (by first | rfl | assumption) ?_ | with_reducible (first | refine zG ?_ | refine zO ?_ | refine zV ?_ | refine zH ?_ | refine zN ?_) | ((with_reducible refine zA ?_ ?_); kernel_rfl) | refine zn rfl (by first | rfl | assumption) ?_)
            refine yp (by first | exact .inr rfl | exact .inl rfl) rfl rfl rfl ?_
            rw [← hf]
            repeat' (first | exact trivial | exact Ren.v _ | exact Ren.sl _ _ | exact Ren.ep _ | exact Ren.ptr _ _ _ _ rfl | exact Ren.bs _ _ _ _ _ rfl | exact Ren.nil _ | exact Ren.own _ _ _ _ ⟨_, rfl⟩ | refine zi ?_ | refine zj ?_ | refine zl ?_ | refine ⟨?_, ?_⟩)
          have p1 : decide (b - 48 < 0) = false := by simpa using q1
          have p2 : decide (b - 48 > 9) = false := by simpa using q2
          have p3 : decide (b - 48 > most) = false := by simpa using q3
          have hqq : IntKind.i64.wrap ((most - (b - 48)).tdiv 10) = (most - (b - 48)) / 10 := by
            rw [Int.tdiv_eq_ediv_of_nonneg (by omega)]
            exact yg (by omega)
          repeat (first | ((with_reducible refine zK ?_); refine zJ rfl ?_) | ((with_reducible refine za ?_); refine zf rfl (by first | rfl | assumption) rfl ?_) | ((with_reducible refine zQ ?_); (first | refine jm rfl rfl (by omega) ?_ | refine zT rfl rfl rfl ?_ | refine lY rfl rfl (by first | decide | assumption | omega) ?_))  | refine zL ?_ | refine zB rfl ?_ | refine zw rfl rfl (by first | rfl | assumption) ?_ | with_reducible refine zG ?_ )
          rw [hqq]
          by_cases q4 : (most - (b - 48)) / 10 < m
          · rw [qy, if_pos (.inr (.inr (.inr q4)))] at hf
            have p4 : decide (m > (most - (b - 48)) / 10) = true := by simpa using q4
            repeat (first | ((with_reducible refine zE ?_); refine zF rfl ?_)  | refine zL ?_ | refine zB rfl ?_ | with_reducible (first | refine zG ?_ | refine zO ?_ | refine zV ?_ | refine zH ?_ | refine zN ?_) | ((with_reducible refine zA ?_ ?_); kernel_rfl) | refine zn rfl (by first | rfl | assumption) ?_)
            refine yp (by first | exact .inr rfl | exact .inl rfl) rfl rfl rfl ?_
            rw [← hf]
            repeat' (first | exact trivial | exact Ren.v _ | exact Ren.sl _ _ | exact Ren.ep _ | exact Ren.ptr _ _ _ _ rfl | exact Ren.bs _ _ _ _ _ rfl | exact Ren.nil _ | exact Ren.own _ _ _ _ ⟨_, rfl⟩ | refine zi ?_ | refine zj ?_ | refine zl ?_ | refine ⟨?_, ?_⟩)
          · rw [qy, if_neg (by omega)] at hf
            have p4 : decide (m > (most - (b - 48)) / 10) = false := by simpa using q4
            have hw : IntKind.i64.wrap (10 * m) = 10 * m := yg (by omega)
            repeat (first | ((with_reducible refine zK ?_); refine zJ rfl ?_) | ((with_reducible refine zE ?_); refine zF rfl ?_) | ((with_reducible refine zQ ?_); (first | refine zg rfl rfl (by omega) ?_ | refine zT rfl rfl rfl ?_))  | refine zL ?_ | refine zB rfl ?_ | with_reducible (first | refine zG ?_ | refine zu ?_ | refine zS ?_) | ((with_reducible refine zA ?_ ?_); kernel_rfl) | refine yF rfl (by first | rfl | assumption) ?_)
            refine ⟨(k + 1, IntKind.i64.wrap (10 * m) + (b - 48)), ?_, ?_, ⟨rfl, rfl, rfl, rfl, rfl, trivial⟩, trivial⟩
            · dsimp only
              rw [hw]
              exact ⟨by omega, by omega, by omega, hf⟩
            · show s.size - (k + 1) < s.size - k
              omega
        · obtain rfl : k = s.size := by simp at h; omega
          rw [List.drop_of_length_le (by rw [← hs]; exact Nat.le_refl _)] at hf
          repeat (first | ((with_reducible refine zK ?_); refine zJ rfl ?_) | ((with_reducible refine zE ?_); refine zF rfl ?_)  | refine zL ?_ | refine zB rfl ?_ | with_reducible (first | refine zG ?_ | refine zo ?_ | refine zH ?_ | refine yB ?_ | refine zN ?_) | ((with_reducible refine ze ?_ ?_); rfl) | ((with_reducible refine zA ?_ ?_); kernel_rfl))
          refine yp (by first | exact .inr rfl | exact .inl rfl) rfl rfl rfl ?_
          rw [← hf]
          repeat' (first | exact trivial | exact Ren.v _ | exact Ren.sl _ _ | exact Ren.ep _ | exact Ren.ptr _ _ _ _ rfl | exact Ren.bs _ _ _ _ _ rfl | exact Ren.nil _ | exact Ren.own _ _ _ _ ⟨_, rfl⟩ | refine zi ?_ | refine zj ?_ | refine zl ?_ | refine ⟨?_, ?_⟩))
theorem wY (b : Int) : zz Tryz.prog G 104 [.v (.int .u8 b)] [] (.v (.bool (decide (48 ≤ b) && decide (b ≤ 57)))) [] := by
  refine zb tbOk (zc Tryz.func104 (by kernel_rfl) rfl) Tryz.func104 rfl _ Tryz.ntmps104 (Nat.le_of_ble_eq_true rfl) fun X hX => ?_
  subst hX
  repeat' (first | ((with_reducible refine zK ?_); refine zJ rfl ?_) | ((with_reducible refine zE ?_); refine zF rfl ?_) | ((with_reducible refine za ?_); (first | refine zh rfl (by first | rfl | assumption) rfl ?_ | refine zf rfl (by first | rfl | assumption) rfl ?_)) | ((with_reducible refine zQ ?_); refine zT rfl rfl rfl ?_)  | refine zL ?_ | refine zB rfl ?_ | refine yC rfl rfl (by first | rfl | assumption) ?_ | refine yE rfl rfl (by first | rfl | assumption) ?_ | with_reducible (first | refine zG ?_ | refine zH ?_ | refine zN ?_) | ((with_reducible refine zA ?_ ?_); kernel_rfl) | refine zv rfl rfl (fun _ => ?_) (fun _ => ?_) | refine zZ rfl (fun _ => ?_) (fun _ => ?_))
  all_goals refine zm (by first | exact .inr rfl | exact .inl rfl) rfl rfl ?_
  all_goals simp_all
  all_goals omega
end Go.Proofs.YtjamibeffalhaaaGreatDoor
