/- lexeme.Lines, its reference, and the comparison of lists of strings, by the abstract machine; conditions: a cell of the library stands. -/
import Derived.Test.YtggagmafkdhjcaaGreatDoorLxA
set_option linter.unusedVariables false
set_option linter.unusedSimpArgs false
namespace Go.Proofs.YtggagmafkdhjcaaGreatDoor
open Go Go.RowKit
set_option maxRecDepth 10000
variable {G : Nat → Option (List Value)}
theorem cA {c : UInt8} : okB c = true ↔ c = 10 ∨ (32 ≤ c.toNat ∧ c.toNat ≤ 126) := by
  unfold okB
  simp
theorem ne10 {c : UInt8} (h : c ≠ 10) : (c.toNat : Int) ≠ 10 := fun e => h (UInt8.toNat_inj.1 (by show c.toNat = 10; omega))
theorem tW {l : List UInt8} {c : UInt8} (h : l[l.length - 1]? = some c) : l.getLast? = some c := by
  rw [List.getLast?_eq_getElem?]; exact h
theorem oL {l : List UInt8} {k : Nat} {c : UInt8} (hx : l[k]? = some c) (h : okB c = false) : l.all okB = false := by
  cases hq : l.all okB with
  | false => rfl
  | true =>
    rw [List.all_eq_true] at hq
    rw [hq c (List.mem_of_getElem? hx)] at h
    cases h
theorem lI {l : List UInt8} {k : Nat} {c : UInt8} (hx : l[k]? = some c) (h : okB c = true) (ha : (l.take k).all okB = true) : (l.take (k + 1)).all okB = true := by
  rw [aB hx, List.all_append, ha]
  simp [h]
theorem qx {l : List UInt8} (h0 : l ≠ []) (h : (65536 < l.length ∨ l.getLast? ≠ some 10) ∨ l.all okB = false) : jy l = none := by
  unfold jy
  rw [if_neg h0]
  rcases h with h | h
  · rw [if_pos h]
  · split
    · rfl
    · rw [if_neg (by rw [h]; decide)]
theorem eT {l : List UInt8} (h0 : l ≠ []) (h1 : l.length ≤ 65536) (h2 : l.getLast? = some 10) (h3 : l.all okB = true) : jy l = some (ll [] l) := by
  unfold jy
  rw [if_neg h0, if_neg (by rintro (h | h); omega; exact h h2), if_pos h3]
set_option maxHeartbeats 2000000 in
theorem tU (s : ByteArray) (hG : GMax G) (hs : s.size ≤ 4294967296) : jD Tryz.prog G 33 [.v (.string s)] [] (.tu [.sl 1 (((jy s.data.toList).getD []).map svL), .v (.bool (jy s.data.toList).isSome)]) [] := by
  have hz := bN s
  by_cases h0 : s.size = 0
  · have hl : s.data.toList = [] := List.eq_nil_of_length_eq_zero (by omega)
    rw [hl]
    have p0 : jM s ⟨#[]⟩ = true := by rw [dA, h0]; rfl
    refine yi tbOk (yj Tryz.func33 (by kernel_rfl) rfl) Tryz.func33 rfl _ Tryz.ntmps33 (Nat.le_of_ble_eq_true rfl) fun X hX => ?_
    subst hX
    repeat (first | ((with_reducible refine zm ?_); refine zl rfl ?_) | ((with_reducible refine zL ?_); refine zM rfl ?_) | ((with_reducible refine zA ?_); refine yh rfl rfl rfl ?_)  | refine yA ?_ | refine zS rfl ?_ | with_reducible (first | refine zY ?_ | refine zV ?_ | refine zR ?_ | refine zv ?_) | ((with_reducible refine zJ ?_ ?_); kernel_rfl) | refine yD rfl (by first | rfl | assumption) ?_)
    refine jP (by first | exact .inr rfl | exact .inl rfl) rfl rfl rfl ?_
    repeat' (first | exact trivial | exact Ren.v _ | exact Ren.sl _ _ | exact Ren.ep _ | exact Ren.ptr _ _ _ _ rfl | exact Ren.bs _ _ _ _ _ rfl | exact Ren.nil _ | exact Ren.own _ _ _ _ ⟨_, rfl⟩ | refine yz ?_ | refine jA ?_ | refine jB ?_ | refine ⟨?_, ?_⟩)
  have p0 : jM s ⟨#[]⟩ = false := by rw [dA]; exact decide_eq_false h0
  have hne : s.data.toList ≠ [] := fun e => h0 (by rw [hz, e]; rfl)
  obtain ⟨c0, hx0⟩ := yr (L := s.data.toList) (k := s.size - 1) (by omega)
  have ix0 : ∀ w : World, (Instr.index 9 (.string s) (.int .i64 ((s.size : Int) - 1))).run Tryz.prog w = .ok (.int .u8 (c0.toNat : Int)) w := fun w => by
    have := gG s (s.size - 1) c0 hx0 w
    rwa [show ((s.size - 1 : Nat) : Int) = (s.size : Int) - 1 by omega] at this
  have hlast : s.data.toList.getLast? = some c0 := tW (by rw [← hz]; exact hx0)
  refine yi tbOk (yj Tryz.func33 (by kernel_rfl) rfl) Tryz.func33 rfl _ Tryz.ntmps33 (Nat.le_of_ble_eq_true rfl) fun X hX => ?_
  subst hX
  repeat (first | ((with_reducible refine zm ?_); refine zl rfl ?_) | ((with_reducible refine zL ?_); refine zM rfl ?_) | ((with_reducible refine zG ?_); refine yB (by exact Tryz.underlying9) rfl ?_) | ((with_reducible refine zA ?_); (first | refine yN rfl rfl (by omega) ?_ | refine yM rfl rfl rfl ?_ | refine yh rfl rfl rfl ?_))  | refine yA ?_ | refine zS rfl ?_ | with_reducible (first | refine zY ?_ | refine zR ?_ | refine zr ?_) | ((with_reducible refine zJ ?_ ?_); kernel_rfl) | refine yJ rfl (by first | rfl | assumption) ?_)
  by_cases hbig : 65536 < s.size
  · have p1 : decide ((s.size : Int) > 65536) = true := by simp; omega
    rw [qx hne (.inl (.inl (by omega)))]
    repeat (first | ((with_reducible refine zL ?_); refine zM rfl ?_) | ((with_reducible refine zh ?_); refine yO rfl (by first | rfl | assumption) rfl ?_)  | refine yA ?_ | refine zS rfl ?_ | refine yI rfl rfl (by first | rfl | assumption) ?_ | with_reducible (first | refine zY ?_ | refine zV ?_ | refine zR ?_ | refine zv ?_) | ((with_reducible refine zJ ?_ ?_); kernel_rfl) | refine yD rfl (by first | rfl | assumption) ?_)
    refine jP (by first | exact .inr rfl | exact .inl rfl) rfl rfl rfl ?_
    repeat' (first | exact trivial | exact Ren.v _ | exact Ren.sl _ _ | exact Ren.ep _ | exact Ren.ptr _ _ _ _ rfl | exact Ren.bs _ _ _ _ _ rfl | exact Ren.nil _ | exact Ren.own _ _ _ _ ⟨_, rfl⟩ | refine yz ?_ | refine jA ?_ | refine jB ?_ | refine ⟨?_, ?_⟩)
  have p1 : decide ((s.size : Int) > 65536) = false := by simp; omega
  by_cases h10 : c0 = 10
  · subst h10
    have p2 : (((10 : UInt8).toNat : Int) != 10) = false := rfl
    repeat (first | ((with_reducible refine zm ?_); refine zl rfl ?_) | ((with_reducible refine zh ?_); refine yP rfl (by first | rfl | assumption) rfl ?_) | ((with_reducible refine zZ ?_); refine yY rfl rfl (by assumption) ?_) | ((with_reducible refine zA ?_); refine yM rfl rfl rfl ?_)  | refine yA ?_ | refine zS rfl ?_ | refine yU rfl rfl (by first | rfl | assumption) ?_ | with_reducible (first | refine zY ?_ | refine zR ?_ | refine zq ?_ | refine zr ?_) | ((with_reducible refine zJ ?_ ?_); kernel_rfl) | refine yJ rfl (by first | rfl | assumption) ?_)
    refine jZ (ι := Nat) (fun k => k ≤ s.size - 1 ∧ (s.data.toList.take k).all okB = true) (fun k => s.size - 1 - k) (fun v k => [(0, .v (.string s)), (4, .v (.int .i64 ((s.size : Int) - 1))), (21, .v (.int .i64 ((s.size : Int) - 1))), (22, .v (.int .i64 k))]) (fun v k => []) ?_ ?_
    · exact ⟨0, ⟨Nat.zero_le _, by simp⟩, trivial, ⟨rfl, rfl, rfl, rfl, trivial⟩, trivial⟩
    rintro v k ⟨hk, hall⟩
    repeat (first | ((with_reducible refine zA ?_); refine yM rfl rfl rfl ?_)  | refine yA ?_ | refine zS rfl ?_ | with_reducible (first | refine zY ?_ | refine zR ?_) | ((with_reducible refine zJ ?_ ?_); kernel_rfl))
    refine jE rfl (fun h => ?_) (fun h => ?_)
    · have hlt : k < s.size - 1 := by simp at h; omega
      obtain ⟨c, hx⟩ := yr (L := s.data.toList) (k := k) (by omega)
      have ix := gG s k c hx
      repeat (first | ((with_reducible refine zm ?_); refine zl rfl ?_) | ((with_reducible refine zL ?_); refine zM rfl ?_) | ((with_reducible refine zZ ?_); refine yY rfl rfl (by assumption) ?_) | ((with_reducible refine zA ?_); refine yM rfl rfl rfl ?_)  | refine yA ?_ | refine zS rfl ?_ | with_reducible (first | refine zY ?_ | refine zR ?_ | refine zq ?_ | refine zr ?_) | ((with_reducible refine zJ ?_ ?_); kernel_rfl))
      by_cases hc10 : c = 10
      · subst hc10
        have q1 : (((10 : UInt8).toNat : Int) != 10) = false := rfl
        repeat (first | ((with_reducible refine zm ?_); refine zl rfl ?_) | ((with_reducible refine zh ?_); refine yP rfl (by first | rfl | assumption) rfl ?_) | ((with_reducible refine zA ?_); refine yE rfl rfl (by omega) ?_)  | refine yA ?_ | refine zS rfl ?_ | refine yL rfl rfl (by first | rfl | assumption) ?_ | refine yc rfl rfl rfl ?_ | with_reducible (first | refine zY ?_ | refine yV ?_ | refine zr ?_) | ((with_reducible refine zJ ?_ ?_); kernel_rfl) | refine yJ rfl (by first | rfl | assumption) ?_)
        exact ⟨k + 1, ⟨by omega, lI hx (by decide) hall⟩, by omega, ⟨rfl, rfl, rfl, rfl, trivial⟩, trivial⟩
      · have q1 : ((c.toNat : Int) != 10) = true := by rw [bne_iff_ne]; exact ne10 hc10
        by_cases hlo : c.toNat < 32
        · have q2 : decide ((c.toNat : Int) < 32) = true := by simp; omega
          have hb : okB c = false := by
            cases hq : okB c with
            | false => rfl
            | true => rcases cA.1 hq with h | h; exact absurd h hc10; omega
          rw [qx hne (.inr (oL hx hb))]
          repeat (first | ((with_reducible refine zm ?_); refine zl rfl ?_) | ((with_reducible refine zL ?_); refine zM rfl ?_) | ((with_reducible refine zh ?_); refine yO rfl (by first | rfl | assumption) rfl ?_) | ((with_reducible refine zA ?_); refine yM rfl rfl rfl ?_)  | refine yA ?_ | refine zS rfl ?_ | refine yR rfl rfl (by first | rfl | assumption) ?_ | refine yI rfl rfl (by first | rfl | assumption) ?_ | with_reducible (first | refine zY ?_ | refine zV ?_ | refine za ?_ | refine zR ?_ | refine zv ?_) | ((with_reducible refine zJ ?_ ?_); kernel_rfl) | refine yD rfl (by first | rfl | assumption) ?_)
          refine jP (by first | exact .inr rfl | exact .inl rfl) rfl rfl rfl ?_
          repeat' (first | exact trivial | exact Ren.v _ | exact Ren.sl _ _ | exact Ren.ep _ | exact Ren.ptr _ _ _ _ rfl | exact Ren.bs _ _ _ _ _ rfl | exact Ren.nil _ | exact Ren.own _ _ _ _ ⟨_, rfl⟩ | refine yz ?_ | refine jA ?_ | refine jB ?_ | refine ⟨?_, ?_⟩)
        · have q2 : decide ((c.toNat : Int) < 32) = false := by simp; omega
          by_cases hhi : 126 < c.toNat
          · have q3 : decide ((c.toNat : Int) > 126) = true := by simp; omega
            have hb : okB c = false := by
              cases hq : okB c with
              | false => rfl
              | true => rcases cA.1 hq with h | h; exact absurd h hc10; omega
            rw [qx hne (.inr (oL hx hb))]
            repeat (first | ((with_reducible refine zm ?_); refine zl rfl ?_) | ((with_reducible refine zL ?_); refine zM rfl ?_) | ((with_reducible refine zh ?_); (first | refine yO rfl (by first | rfl | assumption) rfl ?_ | refine yP rfl (by first | rfl | assumption) rfl ?_)) | ((with_reducible refine zA ?_); refine yM rfl rfl rfl ?_)  | refine yA ?_ | refine zS rfl ?_ | refine yR rfl rfl (by first | rfl | assumption) ?_ | refine yU rfl rfl (by first | rfl | assumption) ?_ | with_reducible (first | refine zY ?_ | refine zV ?_ | refine za ?_ | refine zR ?_ | refine zv ?_) | ((with_reducible refine zJ ?_ ?_); kernel_rfl) | refine yD rfl (by first | rfl | assumption) ?_)
            refine jP (by first | exact .inr rfl | exact .inl rfl) rfl rfl rfl ?_
            repeat' (first | exact trivial | exact Ren.v _ | exact Ren.sl _ _ | exact Ren.ep _ | exact Ren.ptr _ _ _ _ rfl | exact Ren.bs _ _ _ _ _ rfl | exact Ren.nil _ | exact Ren.own _ _ _ _ ⟨_, rfl⟩ | refine yz ?_ | refine jA ?_ | refine jB ?_ | refine ⟨?_, ?_⟩)
          · have q3 : decide ((c.toNat : Int) > 126) = false := by simp; omega
            repeat (first | ((with_reducible refine zm ?_); refine zl rfl ?_) | ((with_reducible refine zh ?_); (first | refine yO rfl (by first | rfl | assumption) rfl ?_ | refine yP rfl (by first | rfl | assumption) rfl ?_)) | ((with_reducible refine zA ?_); (first | refine yE rfl rfl (by omega) ?_ | refine yM rfl rfl rfl ?_))  | refine yA ?_ | refine zS rfl ?_ | refine yR rfl rfl (by first | rfl | assumption) ?_ | refine yU rfl rfl (by first | rfl | assumption) ?_ | with_reducible (first | refine zY ?_ | refine yV ?_ | refine zr ?_) | ((with_reducible refine zJ ?_ ?_); kernel_rfl) | refine yJ rfl (by first | rfl | assumption) ?_)
            exact ⟨k + 1, ⟨by omega, lI hx (cA.2 (.inr (by omega))) hall⟩, by omega, ⟨rfl, rfl, rfl, rfl, trivial⟩, trivial⟩
    · obtain rfl : k = s.size - 1 := by simp at h; omega
      have hdec : s.data.toList = s.data.toList.take (s.size - 1) ++ [10] := by
        have := aB hx0
        rw [← this, List.take_of_length_le (by omega)]
      have hall2 : s.data.toList.all okB = true := by rw [hdec, List.all_append, hall]; rfl
      have hsz : (s.extract (0 : Int).toNat ((s.size : Int) - 1).toNat).size ≤ s.size := by rw [ByteArray.size_extract]; omega
      have hex : (s.extract (0 : Int).toNat ((s.size : Int) - 1).toNat).data.toList = s.data.toList.take (s.size - 1) := by
        rw [tF, jX, extL]
        simp only [Int.toNat_zero, List.drop_zero]
        congr 1
        omega
      have hS := tS (G := X.G) (s.extract (0 : Int).toNat ((s.size : Int) - 1).toNat) 10 hG (by omega)
      rw [hex, ← eM, ← hdec] at hS
      rw [eT hne (by omega) hlast hall2]
      repeat (first | ((with_reducible refine zm ?_); refine zl rfl ?_) | ((with_reducible refine zb ?_); refine yT (by exact Tryz.underlying9) rfl rfl rfl (by refine ⟨?_, ?_, ?_⟩ <;> omega) ?_)  | refine zS rfl ?_ | with_reducible (first | refine zY ?_ | refine ze ?_ | refine zR ?_ | refine yK ?_) | ((with_reducible refine zW ?_ ?_); rfl) | ((with_reducible refine zJ ?_ ?_); kernel_rfl))
      refine zC (hS) ?_
      repeat (first | ((with_reducible refine zL ?_); refine zM rfl ?_)  | refine yA ?_ | refine zS rfl ?_ | with_reducible (first | refine zY ?_ | refine zv ?_) )
      refine jP (by first | exact .inr rfl | exact .inl rfl) rfl rfl rfl ?_
      repeat' (first | exact trivial | exact Ren.v _ | exact Ren.sl _ _ | exact Ren.ep _ | exact Ren.ptr _ _ _ _ rfl | exact Ren.bs _ _ _ _ _ rfl | exact Ren.nil _ | exact Ren.own _ _ _ _ ⟨_, rfl⟩ | refine yz ?_ | refine jA ?_ | refine jB ?_ | refine ⟨?_, ?_⟩)
  · have p2 : ((c0.toNat : Int) != 10) = true := by rw [bne_iff_ne]; exact ne10 h10
    rw [qx hne (.inl (.inr (by rw [hlast]; intro e; injection e with e; exact h10 e)))]
    repeat (first | ((with_reducible refine zm ?_); refine zl rfl ?_) | ((with_reducible refine zL ?_); refine zM rfl ?_) | ((with_reducible refine zh ?_); refine yP rfl (by first | rfl | assumption) rfl ?_) | ((with_reducible refine zZ ?_); refine yY rfl rfl (by assumption) ?_) | ((with_reducible refine zA ?_); refine yM rfl rfl rfl ?_)  | refine yA ?_ | refine zS rfl ?_ | refine yU rfl rfl (by first | rfl | assumption) ?_ | with_reducible (first | refine zY ?_ | refine zV ?_ | refine zR ?_ | refine zv ?_) | ((with_reducible refine zJ ?_ ?_); kernel_rfl) | refine yD rfl (by first | rfl | assumption) ?_)
    refine jP (by first | exact .inr rfl | exact .inl rfl) rfl rfl rfl ?_
    repeat' (first | exact trivial | exact Ren.v _ | exact Ren.sl _ _ | exact Ren.ep _ | exact Ren.ptr _ _ _ _ rfl | exact Ren.bs _ _ _ _ _ rfl | exact Ren.nil _ | exact Ren.own _ _ _ _ ⟨_, rfl⟩ | refine yz ?_ | refine jA ?_ | refine jB ?_ | refine ⟨?_, ?_⟩)
end Go.Proofs.YtggagmafkdhjcaaGreatDoor
