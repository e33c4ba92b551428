/- lexeme.Number and its reference, and the reference of Text, by the abstract machine; conditions: none. -/
import Derived.Test.YtggagmafkdhjcaaGreatDoorAbsX
import Derived.Test.YtggagmafkdhjcaaGreatDoorTab
import Derived.Test.YtggagmafkdhjcaaGreatDoorRnP
set_option linter.unusedVariables false
set_option linter.unusedSimpArgs false
namespace Go.Proofs.YtggagmafkdhjcaaGreatDoor
open Go Go.RowKit
set_option maxRecDepth 10000
variable {G : Nat → Option (List Value)}
theorem gG (s : ByteArray) (k : Nat) (c : UInt8) (hc : s.data.toList[k]? = some c) (w : World) : (Instr.index 9 (.string s) (.int .i64 k)).run Tryz.prog w = .ok (.int .u8 (c.toNat : Int)) w := by
  have hk := jG hc
  have hk2 : k < s.size := by simpa using hk
  rw [run_index_string w 9 s .i64 _ Tryz.underlying9, dif_pos ⟨by omega, by omega⟩]
  have e : ((k : Int)).toNat = k := by omega
  simp only [e]
  have : s[k] = c := by
    rw [List.getElem?_eq_getElem hk] at hc
    injection hc with hc
  rw [this]
theorem bN (s : ByteArray) : s.size = s.data.toList.length := by simp
theorem dA {s : ByteArray} : jM s ⟨#[]⟩ = decide (s.size = 0) := by
  cases h : jM s ⟨#[]⟩ with
  | true => rw [ja.1 h]; rfl
  | false =>
    symm
    apply decide_eq_false
    intro e
    have : s = ⟨#[]⟩ := by
      cases s with | mk a => exact congrArg _ (Array.eq_empty_of_size_eq_zero e)
    rw [ja.2 this] at h
    cases h
/-- What numP says of a text whose first byte is known. -/
theorem uJ {s : ByteArray} {c0 : UInt8} {most : Int} (h0 : s.data.toList[0]? = some c0) (hb : ¬ (1 < s.size ∧ c0 = 48)) : numP s.data.toList most = jr most s.data.toList 0 := by
  match hl : s.data.toList with
  | [] => rw [hl] at h0; cases h0
  | c :: r =>
    rw [hl] at h0
    injection h0 with h0
    subst h0
    unfold numP
    dsimp only
    rw [if_neg]
    rintro ⟨h3, h4⟩
    apply hb
    rw [bN, hl]
    refine ⟨?_, h4⟩
    have : r.length ≠ 0 := fun h => h3 (List.eq_nil_of_length_eq_zero h)
    simp; omega
theorem mY {s : ByteArray} {c0 : UInt8} {most : Int} (h0 : s.data.toList[0]? = some c0) (hb : 1 < s.size ∧ c0 = 48) : numP s.data.toList most = none := by
  match hl : s.data.toList with
  | [] => rw [hl] at h0; cases h0
  | c :: r =>
    rw [hl] at h0
    injection h0 with h0
    subst h0
    unfold numP
    dsimp only
    rw [if_pos]
    refine ⟨fun e => ?_, hb.2⟩
    have := hb.1
    rw [bN, hl, e] at this
    simp at this
theorem pJ {most : Int} {l : List UInt8} {k : Nat} {c : UInt8} (hx : l[k]? = some c) (n : Int) : jr most (l.drop k) n = (jt most n ((c.toNat : Int) - 48)).bind (jr most (l.drop (k + 1))) := by
  rw [ju hx, jr]
set_option maxHeartbeats 2000000 in
theorem fB (s : ByteArray) (most : Int) (hm : s.size ≤ maxLen) (hm1 : -9223372036854775808 ≤ most) (hm2 : most ≤ 9223372036854775807) :
    jD Tryz.prog G 58 [.v (.string s), .v (.int .i64 most)] [] (.tu [.v (.int .i64 ((numP s.data.toList most).getD 0)), .v (.bool (numP s.data.toList most).isSome)]) [] := by
  have hmx : s.size ≤ 9223372036854775807 := by unfold maxLen at hm; omega
  have hs := bN s
  refine yi tbOk (yj Tryz.func58 (by kernel_rfl) rfl) Tryz.func58 rfl _ Tryz.ntmps58 (Nat.le_of_ble_eq_true rfl) fun X hX => ?_
  subst hX
  repeat (first | ((with_reducible refine zm ?_); refine zl rfl ?_) | ((with_reducible refine zL ?_); refine zM rfl ?_) | ((with_reducible refine zA ?_); refine yh rfl rfl rfl ?_)  | refine yA ?_ | refine zS rfl ?_ | with_reducible (first | refine zY ?_ | refine zR ?_) | ((with_reducible refine zJ ?_ ?_); kernel_rfl))
  rw [dA]
  refine jH rfl rfl (fun h1 => ?_) (fun h1 => ?_)
  · have e : s.data.toList = [] := List.eq_nil_of_length_eq_zero (by rw [← hs]; simpa using h1)
    rw [e, h1]
    repeat (first | ((with_reducible refine zL ?_); refine zM rfl ?_) | ((with_reducible refine zh ?_); refine yO rfl (by first | rfl | assumption) rfl ?_)  | refine yA ?_ | refine zS rfl ?_ | refine yI rfl rfl (by first | rfl | assumption) ?_ | refine yc rfl rfl rfl ?_ | with_reducible (first | refine zY ?_ | refine zV ?_ | refine zR ?_ | refine zv ?_) | ((with_reducible refine zJ ?_ ?_); kernel_rfl) | refine yD rfl (by first | rfl | assumption) ?_)
    refine jP (by first | exact .inr rfl | exact .inl rfl) rfl rfl rfl ?_
    repeat' (first | exact trivial | exact Ren.v _ | exact Ren.sl _ _ | exact Ren.ep _ | exact Ren.ptr _ _ _ _ rfl | exact Ren.bs _ _ _ _ _ rfl | exact Ren.nil _ | exact Ren.own _ _ _ _ ⟨_, rfl⟩ | refine yz ?_ | refine jA ?_ | refine jB ?_ | refine ⟨?_, ?_⟩)
  · have h1n : ¬ s.size = 0 := by simpa using h1
    rw [h1]
    obtain ⟨c0, h0⟩ := yr (L := s.data.toList) (k := 0) (by rw [← hs]; omega)
    have ix0 : ∀ w : World, (Instr.index 9 (.string s) (.int .i64 0)).run Tryz.prog w = .ok (.int .u8 (c0.toNat : Int)) w := fun w => gG s 0 c0 h0 w
    repeat (first | ((with_reducible refine zm ?_); refine zl rfl ?_) | ((with_reducible refine zG ?_); refine yB (by exact Tryz.underlying9) rfl ?_) | ((with_reducible refine zA ?_); refine yM rfl rfl rfl ?_)  | refine yU rfl rfl (by first | rfl | assumption) ?_  )
    by_cases hb : 1 < s.size ∧ c0 = 48
    · rw [mY h0 hb]
      have q1 : decide ((s.size : Int) > 1) = true := by simp; omega
      have q2 : ((c0.toNat : Int) == 48) = true := by rw [hb.2]; rfl
      repeat (first | ((with_reducible refine zm ?_); refine zl rfl ?_) | ((with_reducible refine zL ?_); refine zM rfl ?_) | ((with_reducible refine zh ?_); (first | refine yO rfl (by first | rfl | assumption) rfl ?_ | refine yP rfl (by first | rfl | assumption) rfl ?_)) | ((with_reducible refine zZ ?_); refine yY rfl rfl (by assumption) ?_) | ((with_reducible refine zA ?_); refine yM rfl rfl rfl ?_)  | refine yA ?_ | refine zS rfl ?_ | refine yR rfl rfl (by first | rfl | assumption) ?_ | refine yU rfl rfl (by first | rfl | assumption) ?_ | with_reducible (first | refine zY ?_ | refine zV ?_ | refine zR ?_ | refine zv ?_) | ((with_reducible refine zJ ?_ ?_); kernel_rfl) | refine yD rfl (by first | rfl | assumption) ?_)
      refine jP (by first | exact .inr rfl | exact .inl rfl) rfl rfl rfl ?_
      repeat' (first | exact trivial | exact Ren.v _ | exact Ren.sl _ _ | exact Ren.ep _ | exact Ren.ptr _ _ _ _ rfl | exact Ren.bs _ _ _ _ _ rfl | exact Ren.nil _ | exact Ren.own _ _ _ _ ⟨_, rfl⟩ | refine yz ?_ | refine jA ?_ | refine jB ?_ | refine ⟨?_, ?_⟩)
    · rw [uJ h0 hb]
      repeat' (first | ((with_reducible refine zm ?_); refine zl rfl ?_) | ((with_reducible refine zL ?_); refine zM rfl ?_) | ((with_reducible refine zh ?_); (first | refine yO rfl (by first | rfl | assumption) rfl ?_ | refine yP rfl (by first | rfl | assumption) rfl ?_)) | ((with_reducible refine zZ ?_); refine yY rfl rfl (by assumption) ?_) | ((with_reducible refine zG ?_); refine yB (by exact Tryz.underlying9) rfl ?_) | ((with_reducible refine zA ?_); refine yM rfl rfl rfl ?_)  | refine yA ?_ | refine zS rfl ?_ | refine yR rfl rfl (by first | rfl | assumption) ?_ | refine yL rfl rfl (by first | rfl | assumption) ?_ | refine yU rfl rfl (by first | rfl | assumption) ?_ | with_reducible (first | refine zY ?_ | refine zV ?_ | refine zR ?_ | refine zq ?_ | refine zr ?_ | refine zv ?_) | ((with_reducible refine zJ ?_ ?_); kernel_rfl) | refine yJ rfl (by first | rfl | assumption) ?_ | refine jH rfl rfl (fun _ => ?_) (fun _ => ?_) | refine jE rfl (fun _ => ?_) (fun _ => ?_))
      all_goals first
        | (exfalso
           apply hb
           simp at *
           exact ⟨by omega, UInt8.toNat_inj.1 (by show c0.toNat = 48; omega)⟩)
        | skip
      all_goals (
        refine jZ (ι := Nat × Int) (fun q => q.1 ≤ s.size ∧ 0 ≤ q.2 ∧ q.2 ≤ 9223372036854775807 ∧ jr most (s.data.toList.drop q.1) q.2 = jr most s.data.toList 0) (fun q => s.size - q.1) (fun v q => [(0, .v (.string s)), (1, .v (.int .i64 most)), (6, .v (.int .i64 q.2)), (22, .v (.int .i64 s.size)), (23, .v (.int .i64 (q.1 : Nat)))]) (fun v q => []) ?_ ?_)
      all_goals first
        | exact ⟨(0, 0), ⟨Nat.zero_le _, by simp, by simp, rfl⟩, trivial, ⟨rfl, rfl, rfl, rfl, rfl, trivial⟩, trivial⟩
        | skip
      all_goals (
        rintro v ⟨k, m⟩ ⟨hk, hm3, hm4, hf⟩
        simp only at hk hm3 hm4 hf
        dsimp only
        repeat (first | ((with_reducible refine zA ?_); refine yM rfl rfl rfl ?_)  | refine yA ?_ | refine zS rfl ?_ | with_reducible (first | refine zY ?_ | refine zR ?_) | ((with_reducible refine zJ ?_ ?_); kernel_rfl))
        refine jE rfl (fun h => ?_) (fun h => ?_)
        · have hlt : k < s.size := by simp at h; omega
          obtain ⟨c, hx⟩ := yr (L := s.data.toList) (k := k) (by rw [← hs]; exact hlt)
          have ix := gG s k c hx
          rw [pJ hx] at hf
          obtain ⟨b, hbb⟩ : ∃ b : Int, (c.toNat : Int) = b := ⟨_, rfl⟩
          have hb2 : 0 ≤ b ∧ b < 256 := by have := c.toNat_lt; omega
          obtain ⟨hb3, hb4⟩ := hb2
          rw [hbb] at ix hf
          clear hbb
          repeat (first | ((with_reducible refine zm ?_); refine zl rfl ?_) | ((with_reducible refine zL ?_); refine zM rfl ?_) | ((with_reducible refine zZ ?_); refine yY rfl rfl (by assumption) ?_) | ((with_reducible refine zK ?_); refine yC tbOk rfl rfl rfl (by first | assumption | exact zi (by omega) | exact zf (by omega) | exact zt (by omega)) ?_) | ((with_reducible refine zA ?_); (first | refine yN rfl rfl (by omega) ?_ | refine yM rfl rfl rfl ?_))  | refine yA ?_ | refine zS rfl ?_ | with_reducible (first | refine zY ?_ | refine zR ?_ | refine zq ?_ | refine zr ?_) | ((with_reducible refine zJ ?_ ?_); kernel_rfl))
          by_cases q1 : b - 48 < 0
          · rw [jt, if_pos (.inl q1)] at hf
            have p1 : decide (b - 48 < 0) = true := by simpa using q1
            repeat (first | ((with_reducible refine zm ?_); refine zl rfl ?_) | ((with_reducible refine zL ?_); refine zM rfl ?_) | ((with_reducible refine zh ?_); refine yO rfl (by first | rfl | assumption) rfl ?_)  | refine yA ?_ | refine zS rfl ?_ | refine yI rfl rfl (by first | rfl | assumption) ?_ | with_reducible (first | refine zY ?_ | refine zV ?_ | refine za ?_ | refine zR ?_ | refine zv ?_) | ((with_reducible refine zJ ?_ ?_); kernel_rfl) | refine yD rfl (by first | rfl | assumption) ?_)
            refine jP (by first | exact .inr rfl | exact .inl rfl) rfl rfl rfl ?_
            rw [← hf]
            repeat' (first | exact trivial | exact Ren.v _ | exact Ren.sl _ _ | exact Ren.ep _ | exact Ren.ptr _ _ _ _ rfl | exact Ren.bs _ _ _ _ _ rfl | exact Ren.nil _ | exact Ren.own _ _ _ _ ⟨_, rfl⟩ | refine yz ?_ | refine jA ?_ | refine jB ?_ | refine ⟨?_, ?_⟩)
          by_cases q2 : 9 < b - 48
          · rw [jt, if_pos (.inr (.inl q2))] at hf
            have p1 : decide (b - 48 < 0) = false := by simpa using q1
            have p2 : decide (b - 48 > 9) = true := by simpa using q2
            repeat (first | ((with_reducible refine zm ?_); refine zl rfl ?_) | ((with_reducible refine zL ?_); refine zM rfl ?_) | ((with_reducible refine zh ?_); (first | refine yO rfl (by first | rfl | assumption) rfl ?_ | refine yP rfl (by first | rfl | assumption) rfl ?_)) | ((with_reducible refine zA ?_); refine yM rfl rfl rfl ?_)  | refine yA ?_ | refine zS rfl ?_ | refine yU rfl rfl (by first | rfl | assumption) ?_ | refine yI rfl rfl (by first | rfl | assumption) ?_ | with_reducible (first | refine zY ?_ | refine zV ?_ | refine za ?_ | refine zR ?_ | refine zv ?_) | ((with_reducible refine zJ ?_ ?_); kernel_rfl) | refine yD rfl (by first | rfl | assumption) ?_)
            refine jP (by first | exact .inr rfl | exact .inl rfl) rfl rfl rfl ?_
            rw [← hf]
            repeat' (first | exact trivial | exact Ren.v _ | exact Ren.sl _ _ | exact Ren.ep _ | exact Ren.ptr _ _ _ _ rfl | exact Ren.bs _ _ _ _ _ rfl | exact Ren.nil _ | exact Ren.own _ _ _ _ ⟨_, rfl⟩ | refine yz ?_ | refine jA ?_ | refine jB ?_ | refine ⟨?_, ?_⟩)
          by_cases q3 : most < b - 48
          · rw [jt, if_pos (.inr (.inr (.inl q3)))] at hf
            have p1 : decide (b - 48 < 0) = false := by simpa using q1
            have p2 : decide (b - 48 > 9) = false := by simpa using q2
            have p3 : decide (b - 48 > most) = true := by simpa using q3
            repeat (first | ((with_reducible refine zm ?_); refine zl rfl ?_) | ((with_reducible refine zL ?_); refine zM rfl ?_) | ((with_reducible refine zh ?_); (first | refine yO rfl (by first | rfl | assumption) rfl ?_ | refine yP rfl (by first | rfl | assumption) rfl ?_)) | ((with_reducible refine zA ?_); refine yM rfl rfl rfl ?_)  | refine yA ?_ | refine zS rfl ?_ | refine yU rfl rfl (by first | rfl | assumption) ?_ | refine yI rfl rfl (by first | rfl | assumption) ?_ | with_reducible (first | refine zY ?_ | refine zV ?_ | refine za ?_ | refine zR ?_ | refine zv ?_) | ((with_reducible refine zJ ?_ ?_); kernel_rfl) | refine yD rfl (by first | rfl | assumption) ?_)
            refine jP (by first | exact .inr rfl | exact .inl rfl) rfl rfl rfl ?_
            rw [← hf]
            repeat' (first | exact trivial | exact Ren.v _ | exact Ren.sl _ _ | exact Ren.ep _ | exact Ren.ptr _ _ _ _ rfl | exact Ren.bs _ _ _ _ _ rfl | exact Ren.nil _ | exact Ren.own _ _ _ _ ⟨_, rfl⟩ | refine yz ?_ | refine jA ?_ | refine jB ?_ | refine ⟨?_, ?_⟩)
          have p1 : decide (b - 48 < 0) = false := by simpa using q1
          have p2 : decide (b - 48 > 9) = false := by simpa using q2
          have p3 : decide (b - 48 > most) = false := by simpa using q3
          have hqq : IntKind.i64.wrap ((most - (b - 48)).tdiv 10) = (most - (b - 48)) / 10 := by
            rw [Int.tdiv_eq_ediv_of_nonneg (by omega)]
            exact zf (by omega)
          repeat (first | ((with_reducible refine zm ?_); refine zl rfl ?_) | ((with_reducible refine zh ?_); refine yP rfl (by first | rfl | assumption) rfl ?_) | ((with_reducible refine zA ?_); (first | refine yN rfl rfl (by omega) ?_ | refine yM rfl rfl rfl ?_ | refine yw rfl rfl (by first | decide | assumption | omega) ?_))  | refine yA ?_ | refine zS rfl ?_ | refine yU rfl rfl (by first | rfl | assumption) ?_ | with_reducible refine zY ?_ )
          rw [hqq]
          by_cases q4 : (most - (b - 48)) / 10 < m
          · rw [jt, if_pos (.inr (.inr (.inr q4)))] at hf
            have p4 : decide (m > (most - (b - 48)) / 10) = true := by simpa using q4
            repeat (first | ((with_reducible refine zL ?_); refine zM rfl ?_)  | refine yA ?_ | refine zS rfl ?_ | with_reducible (first | refine zY ?_ | refine zV ?_ | refine za ?_ | refine zR ?_ | refine zv ?_) | ((with_reducible refine zJ ?_ ?_); kernel_rfl) | refine yD rfl (by first | rfl | assumption) ?_)
            refine jP (by first | exact .inr rfl | exact .inl rfl) rfl rfl rfl ?_
            rw [← hf]
            repeat' (first | exact trivial | exact Ren.v _ | exact Ren.sl _ _ | exact Ren.ep _ | exact Ren.ptr _ _ _ _ rfl | exact Ren.bs _ _ _ _ _ rfl | exact Ren.nil _ | exact Ren.own _ _ _ _ ⟨_, rfl⟩ | refine yz ?_ | refine jA ?_ | refine jB ?_ | refine ⟨?_, ?_⟩)
          · rw [jt, if_neg (by omega)] at hf
            have p4 : decide (m > (most - (b - 48)) / 10) = false := by simpa using q4
            have hw : IntKind.i64.wrap (10 * m) = 10 * m := zf (by omega)
            repeat (first | ((with_reducible refine zm ?_); refine zl rfl ?_) | ((with_reducible refine zL ?_); refine zM rfl ?_) | ((with_reducible refine zA ?_); (first | refine yE rfl rfl (by omega) ?_ | refine yM rfl rfl rfl ?_))  | refine yA ?_ | refine zS rfl ?_ | with_reducible (first | refine zY ?_ | refine yV ?_ | refine zr ?_) | ((with_reducible refine zJ ?_ ?_); kernel_rfl) | refine yJ rfl (by first | rfl | assumption) ?_)
            refine ⟨(k + 1, IntKind.i64.wrap (10 * m) + (b - 48)), ?_, ?_, ⟨rfl, rfl, rfl, rfl, rfl, trivial⟩, trivial⟩
            · dsimp only
              rw [hw]
              exact ⟨by omega, by omega, by omega, hf⟩
            · show s.size - (k + 1) < s.size - k
              omega
        · obtain rfl : k = s.size := by simp at h; omega
          rw [List.drop_of_length_le (by rw [← hs]; exact Nat.le_refl _)] at hf
          repeat (first | ((with_reducible refine zm ?_); refine zl rfl ?_) | ((with_reducible refine zL ?_); refine zM rfl ?_)  | refine yA ?_ | refine zS rfl ?_ | with_reducible (first | refine zY ?_ | refine ze ?_ | refine zR ?_ | refine yK ?_ | refine zv ?_) | ((with_reducible refine zW ?_ ?_); rfl) | ((with_reducible refine zJ ?_ ?_); kernel_rfl))
          refine jP (by first | exact .inr rfl | exact .inl rfl) rfl rfl rfl ?_
          rw [← hf]
          repeat' (first | exact trivial | exact Ren.v _ | exact Ren.sl _ _ | exact Ren.ep _ | exact Ren.ptr _ _ _ _ rfl | exact Ren.bs _ _ _ _ _ rfl | exact Ren.nil _ | exact Ren.own _ _ _ _ ⟨_, rfl⟩ | refine yz ?_ | refine jA ?_ | refine jB ?_ | refine ⟨?_, ?_⟩))
end Go.Proofs.YtggagmafkdhjcaaGreatDoor
