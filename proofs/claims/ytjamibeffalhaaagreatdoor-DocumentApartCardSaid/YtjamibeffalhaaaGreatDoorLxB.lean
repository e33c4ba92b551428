/- lexeme.Lines, its reference, and the comparison of lists of strings, by the abstract machine; conditions: a cell of the library stands. -/
import Derived.Test.YtjamibeffalhaaaGreatDoorLxA
set_option linter.unusedVariables false
set_option linter.unusedSimpArgs false
namespace Go.Proofs.YtjamibeffalhaaaGreatDoor
open Go Go.RowKit
set_option maxRecDepth 10000
variable {G : Nat → Option (List Value)}
theorem okB_iff {c : UInt8} : okB c = true ↔ c = 10 ∨ (32 ≤ c.toNat ∧ c.toNat ≤ 126) := by
  unfold okB
  simp
theorem ne10 {c : UInt8} (h : c ≠ 10) : (c.toNat : Int) ≠ 10 := fun e => h (UInt8.toNat_inj.1 (by show c.toNat = 10; omega))
theorem last_at {l : List UInt8} {c : UInt8} (h : l[l.length - 1]? = some c) : l.getLast? = some c := by
  rw [List.getLast?_eq_getElem?]; exact h
theorem all_bad {l : List UInt8} {k : Nat} {c : UInt8} (hx : l[k]? = some c) (h : okB c = false) : l.all okB = false := by
  cases hq : l.all okB with
  | false => rfl
  | true =>
    rw [List.all_eq_true] at hq
    rw [hq c (List.mem_of_getElem? hx)] at h
    cases h
theorem all_take {l : List UInt8} {k : Nat} {c : UInt8} (hx : l[k]? = some c) (h : okB c = true) (ha : (l.take k).all okB = true) : (l.take (k + 1)).all okB = true := by
  rw [ja hx, List.all_append, ha]
  simp [h]
theorem lines_none {l : List UInt8} (h0 : l ≠ []) (h : (65536 < l.length ∨ l.getLast? ≠ some 10) ∨ l.all okB = false) : jr l = none := by
  unfold jr
  rw [if_neg h0]
  rcases h with h | h
  · rw [if_pos h]
  · split
    · rfl
    · rw [if_neg (by rw [h]; decide)]
theorem lines_some {l : List UInt8} (h0 : l ≠ []) (h1 : l.length ≤ 65536) (h2 : l.getLast? = some 10) (h3 : l.all okB = true) : jr l = some (ll [] l) := by
  unfold jr
  rw [if_neg h0, if_neg (by rintro (h | h); omega; exact h h2), if_pos h3]
set_option maxHeartbeats 2000000 in
theorem lines_A (s : ByteArray) (hG : GMax G) (hs : s.size ≤ 4294967296) : zy Tryz.prog G 39 [.v (.string s)] [] (.tu [.sl 1 (((jr s.data.toList).getD []).map svL), .v (.bool (jr s.data.toList).isSome)]) [] := by
  have hz := nsizeS s
  by_cases h0 : s.size = 0
  · have hl : s.data.toList = [] := List.eq_nil_of_length_eq_zero (by omega)
    rw [hl]
    have p0 : yS s ⟨#[]⟩ = true := by rw [strEq_nil, h0]; rfl
    refine zf tbOk (zg Tryz.func39 (by kernel_rfl) rfl) Tryz.func39 rfl _ Tryz.ntmps39 (Nat.le_of_ble_eq_true rfl) fun X hX => ?_
    subst hX
    repeat (first | ((with_reducible refine zJ ?_); refine zI rfl ?_) | ((with_reducible refine zD ?_); refine zC rfl ?_) | ((with_reducible refine zS ?_); refine jB rfl rfl rfl ?_)  | refine zH ?_ | refine zB rfl ?_ | with_reducible refine zE ?_ | with_reducible refine zM ?_ | with_reducible refine zF ?_ | with_reducible refine zL ?_ | ((with_reducible refine zA ?_ ?_); kernel_rfl) | refine zv rfl (by first | rfl | assumption) ?_)
    refine jD (by first | exact .inr rfl | exact .inl rfl) rfl rfl rfl ?_
    repeat' (first | exact trivial | exact Ren.v _ | exact Ren.sl _ _ | exact Ren.ep _ | exact Ren.ptr _ _ _ _ rfl | exact Ren.bs _ _ _ _ _ rfl | exact Ren.nil _ | exact Ren.own _ _ _ _ ⟨_, rfl⟩ | refine zP ?_ | refine zQ ?_ | refine zR ?_ | refine ⟨?_, ?_⟩)
  have p0 : yS s ⟨#[]⟩ = false := by rw [strEq_nil]; exact decide_eq_false h0
  have hne : s.data.toList ≠ [] := fun e => h0 (by rw [hz, e]; rfl)
  obtain ⟨c0, hx0⟩ := zc (L := s.data.toList) (k := s.size - 1) (by omega)
  have ix0 : ∀ w : World, (Instr.index 9 (.string s) (.int .i64 ((s.size : Int) - 1))).run Tryz.prog w = .ok (.int .u8 (c0.toNat : Int)) w := fun w => by
    have := nidxS s (s.size - 1) c0 hx0 w
    rwa [show ((s.size - 1 : Nat) : Int) = (s.size : Int) - 1 by omega] at this
  have hlast : s.data.toList.getLast? = some c0 := last_at (by rw [← hz]; exact hx0)
  refine zf tbOk (zg Tryz.func39 (by kernel_rfl) rfl) Tryz.func39 rfl _ Tryz.ntmps39 (Nat.le_of_ble_eq_true rfl) fun X hX => ?_
  subst hX
  repeat (first | ((with_reducible refine zJ ?_); refine zI rfl ?_) | ((with_reducible refine zD ?_); refine zC rfl ?_) | ((with_reducible refine yA ?_); refine jb (by exact Tryz.underlying9) rfl ?_) | ((with_reducible refine zS ?_); refine qS rfl rfl (by omega) ?_) | ((with_reducible refine zS ?_); refine zT rfl rfl rfl ?_) | ((with_reducible refine zS ?_); refine jB rfl rfl rfl ?_)  | refine zH ?_ | refine zB rfl ?_ | with_reducible refine zE ?_ | with_reducible refine zF ?_ | with_reducible refine zU ?_ | ((with_reducible refine zA ?_ ?_); kernel_rfl) | refine yI rfl (by first | rfl | assumption) ?_)
  by_cases hbig : 65536 < s.size
  · have p1 : decide ((s.size : Int) > 65536) = true := by simp; omega
    rw [lines_none hne (.inl (.inl (by omega)))]
    repeat (first | ((with_reducible refine zD ?_); refine zC rfl ?_) | ((with_reducible refine za ?_); refine zp rfl (by first | rfl | assumption) rfl ?_)  | refine zH ?_ | refine zB rfl ?_ | refine yD rfl rfl (by first | rfl | assumption) ?_ | with_reducible refine zE ?_ | with_reducible refine zM ?_ | with_reducible refine zF ?_ | with_reducible refine zL ?_ | ((with_reducible refine zA ?_ ?_); kernel_rfl) | refine zv rfl (by first | rfl | assumption) ?_)
    refine jD (by first | exact .inr rfl | exact .inl rfl) rfl rfl rfl ?_
    repeat' (first | exact trivial | exact Ren.v _ | exact Ren.sl _ _ | exact Ren.ep _ | exact Ren.ptr _ _ _ _ rfl | exact Ren.bs _ _ _ _ _ rfl | exact Ren.nil _ | exact Ren.own _ _ _ _ ⟨_, rfl⟩ | refine zP ?_ | refine zQ ?_ | refine zR ?_ | refine ⟨?_, ?_⟩)
  have p1 : decide ((s.size : Int) > 65536) = false := by simp; omega
  by_cases h10 : c0 = 10
  · subst h10
    have p2 : (((10 : UInt8).toNat : Int) != 10) = false := rfl
    repeat (first | ((with_reducible refine zJ ?_); refine zI rfl ?_) | ((with_reducible refine za ?_); refine zn rfl (by first | rfl | assumption) rfl ?_) | ((with_reducible refine jY ?_); refine ji rfl rfl (by assumption) ?_) | ((with_reducible refine zS ?_); refine zT rfl rfl rfl ?_)  | refine zH ?_ | refine zB rfl ?_ | refine zz rfl rfl (by first | rfl | assumption) ?_ | with_reducible refine zE ?_ | with_reducible refine zF ?_ | with_reducible refine zY ?_ | with_reducible refine zU ?_ | ((with_reducible refine zA ?_ ?_); kernel_rfl) | refine yI rfl (by first | rfl | assumption) ?_)
    refine yN (ι := Nat) (fun k => k ≤ s.size - 1 ∧ (s.data.toList.take k).all okB = true) (fun k => s.size - 1 - k) (fun v k => [(0, .v (.string s)), (4, .v (.int .i64 ((s.size : Int) - 1))), (21, .v (.int .i64 ((s.size : Int) - 1))), (22, .v (.int .i64 k))]) (fun v k => []) ?_ ?_
    · exact ⟨0, ⟨Nat.zero_le _, by simp⟩, trivial, ⟨rfl, rfl, rfl, rfl, trivial⟩, trivial⟩
    rintro v k ⟨hk, hall⟩
    repeat (first | ((with_reducible refine zS ?_); refine zT rfl rfl rfl ?_)  | refine zH ?_ | refine zB rfl ?_ | with_reducible refine zE ?_ | with_reducible refine zF ?_ | ((with_reducible refine zA ?_ ?_); kernel_rfl))
    refine zZ rfl (fun h => ?_) (fun h => ?_)
    · have hlt : k < s.size - 1 := by simp at h; omega
      obtain ⟨c, hx⟩ := zc (L := s.data.toList) (k := k) (by omega)
      have ix := nidxS s k c hx
      repeat (first | ((with_reducible refine zJ ?_); refine zI rfl ?_) | ((with_reducible refine zD ?_); refine zC rfl ?_) | ((with_reducible refine jY ?_); refine ji rfl rfl (by assumption) ?_) | ((with_reducible refine zS ?_); refine zT rfl rfl rfl ?_)  | refine zH ?_ | refine zB rfl ?_ | with_reducible refine zE ?_ | with_reducible refine zF ?_ | with_reducible refine zY ?_ | with_reducible refine zU ?_ | ((with_reducible refine zA ?_ ?_); kernel_rfl))
      by_cases hc10 : c = 10
      · subst hc10
        have q1 : (((10 : UInt8).toNat : Int) != 10) = false := rfl
        repeat (first | ((with_reducible refine zJ ?_); refine zI rfl ?_) | ((with_reducible refine za ?_); refine zn rfl (by first | rfl | assumption) rfl ?_) | ((with_reducible refine zS ?_); refine zl rfl rfl (by omega) ?_)  | refine zH ?_ | refine zB rfl ?_ | refine yH rfl rfl (by first | rfl | assumption) ?_ | refine qB rfl rfl rfl ?_ | with_reducible refine zE ?_ | with_reducible refine zq ?_ | with_reducible refine zU ?_ | ((with_reducible refine zA ?_ ?_); kernel_rfl) | refine yI rfl (by first | rfl | assumption) ?_)
        exact ⟨k + 1, ⟨by omega, all_take hx (by decide) hall⟩, by omega, ⟨rfl, rfl, rfl, rfl, trivial⟩, trivial⟩
      · have q1 : ((c.toNat : Int) != 10) = true := by rw [bne_iff_ne]; exact ne10 hc10
        by_cases hlo : c.toNat < 32
        · have q2 : decide ((c.toNat : Int) < 32) = true := by simp; omega
          have hb : okB c = false := by
            cases hq : okB c with
            | false => rfl
            | true => rcases okB_iff.1 hq with h | h; exact absurd h hc10; omega
          rw [lines_none hne (.inr (all_bad hx hb))]
          repeat (first | ((with_reducible refine zJ ?_); refine zI rfl ?_) | ((with_reducible refine zD ?_); refine zC rfl ?_) | ((with_reducible refine za ?_); refine zp rfl (by first | rfl | assumption) rfl ?_) | ((with_reducible refine zS ?_); refine zT rfl rfl rfl ?_)  | refine zH ?_ | refine zB rfl ?_ | refine yF rfl rfl (by first | rfl | assumption) ?_ | refine yD rfl rfl (by first | rfl | assumption) ?_ | with_reducible refine zE ?_ | with_reducible refine zM ?_ | with_reducible refine zX ?_ | with_reducible refine zF ?_ | with_reducible refine zL ?_ | ((with_reducible refine zA ?_ ?_); kernel_rfl) | refine zv rfl (by first | rfl | assumption) ?_)
          refine jD (by first | exact .inr rfl | exact .inl rfl) rfl rfl rfl ?_
          repeat' (first | exact trivial | exact Ren.v _ | exact Ren.sl _ _ | exact Ren.ep _ | exact Ren.ptr _ _ _ _ rfl | exact Ren.bs _ _ _ _ _ rfl | exact Ren.nil _ | exact Ren.own _ _ _ _ ⟨_, rfl⟩ | refine zP ?_ | refine zQ ?_ | refine zR ?_ | refine ⟨?_, ?_⟩)
        · have q2 : decide ((c.toNat : Int) < 32) = false := by simp; omega
          by_cases hhi : 126 < c.toNat
          · have q3 : decide ((c.toNat : Int) > 126) = true := by simp; omega
            have hb : okB c = false := by
              cases hq : okB c with
              | false => rfl
              | true => rcases okB_iff.1 hq with h | h; exact absurd h hc10; omega
            rw [lines_none hne (.inr (all_bad hx hb))]
            repeat (first | ((with_reducible refine zJ ?_); refine zI rfl ?_) | ((with_reducible refine zD ?_); refine zC rfl ?_) | ((with_reducible refine za ?_); refine zp rfl (by first | rfl | assumption) rfl ?_) | ((with_reducible refine za ?_); refine zn rfl (by first | rfl | assumption) rfl ?_) | ((with_reducible refine zS ?_); refine zT rfl rfl rfl ?_)  | refine zH ?_ | refine zB rfl ?_ | refine yF rfl rfl (by first | rfl | assumption) ?_ | refine zz rfl rfl (by first | rfl | assumption) ?_ | with_reducible refine zE ?_ | with_reducible refine zM ?_ | with_reducible refine zX ?_ | with_reducible refine zF ?_ | with_reducible refine zL ?_ | ((with_reducible refine zA ?_ ?_); kernel_rfl) | refine zv rfl (by first | rfl | assumption) ?_)
            refine jD (by first | exact .inr rfl | exact .inl rfl) rfl rfl rfl ?_
            repeat' (first | exact trivial | exact Ren.v _ | exact Ren.sl _ _ | exact Ren.ep _ | exact Ren.ptr _ _ _ _ rfl | exact Ren.bs _ _ _ _ _ rfl | exact Ren.nil _ | exact Ren.own _ _ _ _ ⟨_, rfl⟩ | refine zP ?_ | refine zQ ?_ | refine zR ?_ | refine ⟨?_, ?_⟩)
          · have q3 : decide ((c.toNat : Int) > 126) = false := by simp; omega
            repeat (first | ((with_reducible refine zJ ?_); refine zI rfl ?_) | ((with_reducible refine za ?_); refine zp rfl (by first | rfl | assumption) rfl ?_) | ((with_reducible refine za ?_); refine zn rfl (by first | rfl | assumption) rfl ?_) | ((with_reducible refine zS ?_); refine zl rfl rfl (by omega) ?_) | ((with_reducible refine zS ?_); refine zT rfl rfl rfl ?_)  | refine zH ?_ | refine zB rfl ?_ | refine yF rfl rfl (by first | rfl | assumption) ?_ | refine zz rfl rfl (by first | rfl | assumption) ?_ | with_reducible refine zE ?_ | with_reducible refine zq ?_ | with_reducible refine zU ?_ | ((with_reducible refine zA ?_ ?_); kernel_rfl) | refine yI rfl (by first | rfl | assumption) ?_)
            exact ⟨k + 1, ⟨by omega, all_take hx (okB_iff.2 (.inr (by omega))) hall⟩, by omega, ⟨rfl, rfl, rfl, rfl, trivial⟩, trivial⟩
    · obtain rfl : k = s.size - 1 := by simp at h; omega
      have hdec : s.data.toList = s.data.toList.take (s.size - 1) ++ [10] := by
        have := ja hx0
        rw [← this, List.take_of_length_le (by omega)]
      have hall2 : s.data.toList.all okB = true := by rw [hdec, List.all_append, hall]; rfl
      have hsz : (s.extract (0 : Int).toNat ((s.size : Int) - 1).toNat).size ≤ s.size := by rw [ByteArray.size_extract]; omega
      have hex : (s.extract (0 : Int).toNat ((s.size : Int) - 1).toNat).data.toList = s.data.toList.take (s.size - 1) := by
        rw [ext_strL, yc, extL]
        simp only [Int.toNat_zero, List.drop_zero]
        congr 1
        omega
      have hS := split_A (G := X.G) (s.extract (0 : Int).toNat ((s.size : Int) - 1).toNat) 10 hG (by omega)
      rw [hex, ← ll_split, ← hdec] at hS
      rw [lines_some hne (by omega) hlast hall2]
      repeat (first | ((with_reducible refine zJ ?_); refine zI rfl ?_) | ((with_reducible refine qg ?_); refine x_sliceS (by exact Tryz.underlying9) rfl rfl rfl (by refine ⟨?_, ?_, ?_⟩ <;> omega) ?_)  | refine zB rfl ?_ | with_reducible refine zE ?_ | with_reducible refine zm ?_ | with_reducible refine zF ?_ | with_reducible refine yB ?_ | ((with_reducible refine zh ?_ ?_); rfl) | ((with_reducible refine zA ?_ ?_); kernel_rfl))
      refine zj (hS) (by repeat' (first | exact trivial | exact Ren.v _ | exact Ren.sl _ _ | exact Ren.ep _ | exact Ren.ptr _ _ _ _ rfl | exact Ren.bs _ _ _ _ _ rfl | exact Ren.nil _ | exact Ren.own _ _ _ _ ⟨_, rfl⟩ | refine zP ?_ | refine zQ ?_ | refine zR ?_ | refine ⟨?_, ?_⟩)) (by repeat' (first | exact trivial | exact RenB.v _ | exact RenB.sl _ _ | exact RenB.ep _ | exact RenB.ptr _ _ _ _ rfl | refine zW ?_ | refine zV ?_ | refine ⟨?_, ?_⟩)) ?_
      repeat (first | ((with_reducible refine zD ?_); refine zC rfl ?_)  | refine zH ?_ | refine zB rfl ?_ | with_reducible refine zE ?_ | with_reducible refine zL ?_ )
      refine jD (by first | exact .inr rfl | exact .inl rfl) rfl rfl rfl ?_
      repeat' (first | exact trivial | exact Ren.v _ | exact Ren.sl _ _ | exact Ren.ep _ | exact Ren.ptr _ _ _ _ rfl | exact Ren.bs _ _ _ _ _ rfl | exact Ren.nil _ | exact Ren.own _ _ _ _ ⟨_, rfl⟩ | refine zP ?_ | refine zQ ?_ | refine zR ?_ | refine ⟨?_, ?_⟩)
  · have p2 : ((c0.toNat : Int) != 10) = true := by rw [bne_iff_ne]; exact ne10 h10
    rw [lines_none hne (.inl (.inr (by rw [hlast]; intro e; injection e with e; exact h10 e)))]
    repeat (first | ((with_reducible refine zJ ?_); refine zI rfl ?_) | ((with_reducible refine zD ?_); refine zC rfl ?_) | ((with_reducible refine za ?_); refine zn rfl (by first | rfl | assumption) rfl ?_) | ((with_reducible refine jY ?_); refine ji rfl rfl (by assumption) ?_) | ((with_reducible refine zS ?_); refine zT rfl rfl rfl ?_)  | refine zH ?_ | refine zB rfl ?_ | refine zz rfl rfl (by first | rfl | assumption) ?_ | with_reducible refine zE ?_ | with_reducible refine zM ?_ | with_reducible refine zF ?_ | with_reducible refine zL ?_ | ((with_reducible refine zA ?_ ?_); kernel_rfl) | refine zv rfl (by first | rfl | assumption) ?_)
    refine jD (by first | exact .inr rfl | exact .inl rfl) rfl rfl rfl ?_
    repeat' (first | exact trivial | exact Ren.v _ | exact Ren.sl _ _ | exact Ren.ep _ | exact Ren.ptr _ _ _ _ rfl | exact Ren.bs _ _ _ _ _ rfl | exact Ren.nil _ | exact Ren.own _ _ _ _ ⟨_, rfl⟩ | refine zP ?_ | refine zQ ?_ | refine zR ?_ | refine ⟨?_, ?_⟩)
end Go.Proofs.YtjamibeffalhaaaGreatDoor
