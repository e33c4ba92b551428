/- calendar.Parse and its reference, by the abstract machine; conditions: none. -/
import Derived.Test.YtggagmafkdhjcaaGreatDoorCdB
set_option linter.unusedVariables false
set_option linter.unusedSimpArgs false
namespace Go.Proofs.YtggagmafkdhjcaaGreatDoor
open Go Go.RowKit
set_option maxRecDepth 10000
variable {G : Nat → Option (List Value)}
theorem oD (l : List UInt8) : (ByteArray.mk l.toArray).data.toList = l := by simp
set_option maxHeartbeats 4000000 in
theorem oB (s : ByteArray) (hm : s.size ≤ maxLen) : jD Tryz.prog G 60 [.v (.string s)] [] (.tu [.v (.int .i64 (jj s.data.toList).1), .v (.int .i64 (jj s.data.toList).2)]) [] := by
  have hs := bN s
  cases hc : cutP s.data.toList with
  | none =>
    have e : jj s.data.toList = (0, 2) := by unfold jj; rw [hc]
    rw [e]
    refine yi tbOk (yj Tryz.func60 (by kernel_rfl) rfl) Tryz.func60 rfl _ Tryz.ntmps60 (Nat.le_of_ble_eq_true rfl) fun X hX => ?_
    subst hX
    repeat (first | ((with_reducible refine zm ?_); refine zl rfl ?_) | ((with_reducible refine zL ?_); refine zM rfl ?_)  | refine yA ?_ | refine zS rfl ?_ | with_reducible (first | refine zY ?_ | refine zR ?_) | ((with_reducible refine zJ ?_ ?_); kernel_rfl))
    refine zC (mM s hc) ?_
    repeat (first | ((with_reducible refine zm ?_); refine zl rfl ?_) | ((with_reducible refine zL ?_); refine zM rfl ?_) | ((with_reducible refine yQ ?_); refine yS tbOk rfl rfl rfl rfl rfl rfl rfl (Nat.le_of_ble_eq_true rfl) rfl ?_) | ((with_reducible refine yZ ?_); refine ya tbOk rfl rfl ?_) | ((with_reducible refine zy ?_); refine zz rfl rfl ?_)  | refine yA ?_ | refine zS rfl ?_ | with_reducible (first | refine zY ?_ | refine zR ?_) | ((with_reducible refine zJ ?_ ?_); kernel_rfl))
    refine zC (fB s 16777216 hm (by omega) (by omega)) ?_
    repeat (first | ((with_reducible refine zm ?_); refine zl rfl ?_) | ((with_reducible refine zL ?_); refine zM rfl ?_) | ((with_reducible refine k_un ?_); refine yn rfl ?_) | ((with_reducible refine zy ?_); refine zz rfl rfl ?_) | ((with_reducible refine zh ?_); refine yO rfl (by first | rfl | assumption) rfl ?_)  | refine yA ?_ | refine zS rfl ?_ | refine yI rfl rfl (by first | rfl | assumption) ?_ | with_reducible (first | refine zY ?_ | refine zV ?_ | refine zR ?_ | refine zv ?_) | ((with_reducible refine zJ ?_ ?_); kernel_rfl) | refine yD rfl (by first | rfl | assumption) ?_)
    refine jP (by first | exact .inr rfl | exact .inl rfl) rfl rfl rfl ?_
    repeat' (first | exact trivial | exact Ren.v _ | exact Ren.sl _ _ | exact Ren.ep _ | exact Ren.ptr _ _ _ _ rfl | exact Ren.bs _ _ _ _ _ rfl | exact Ren.nil _ | exact Ren.own _ _ _ _ ⟨_, rfl⟩ | refine yz ?_ | refine jA ?_ | refine jB ?_ | refine ⟨?_, ?_⟩)
  | some p =>
    obtain ⟨f, r⟩ := p
    have e : jj s.data.toList = qK f r := by unfold jj; rw [hc]
    rw [e]
    obtain ⟨hl, hn47⟩ := bF hc
    have hz := congrArg List.length hl
    rw [List.length_append, List.length_cons] at hz
    have hfl : (ByteArray.mk f.toArray).size = f.length := by simp [ByteArray.size]
    have hrl : ((ByteArray.mk r.toArray).size : Int) = (r.length : Int) := by simp [ByteArray.size]
    have hN := fB (G := G) ⟨f.toArray⟩ 16777216 (by rw [hfl]; omega) (by omega) (by omega)
    rw [oD] at hN
    cases hnum : numP f 16777216 with
    | none =>
      rw [hnum] at hN
      have e2 : qK f r = (0, 2) := by unfold qK; rw [hnum]
      rw [e2]
      refine yi tbOk (yj Tryz.func60 (by kernel_rfl) rfl) Tryz.func60 rfl _ Tryz.ntmps60 (Nat.le_of_ble_eq_true rfl) fun X hX => ?_
      subst hX
      repeat (first | ((with_reducible refine zm ?_); refine zl rfl ?_) | ((with_reducible refine zL ?_); refine zM rfl ?_)  | refine yA ?_ | refine zS rfl ?_ | with_reducible (first | refine zY ?_ | refine zR ?_) | ((with_reducible refine zJ ?_ ?_); kernel_rfl))
      refine zC (bO s f r hc hm) ?_
      repeat (first | ((with_reducible refine zm ?_); refine zl rfl ?_) | ((with_reducible refine zL ?_); refine zM rfl ?_) | ((with_reducible refine yQ ?_); refine yS tbOk rfl rfl rfl rfl rfl rfl rfl (Nat.le_of_ble_eq_true rfl) rfl ?_) | ((with_reducible refine yZ ?_); refine ya tbOk rfl rfl ?_) | ((with_reducible refine zy ?_); refine zz rfl rfl ?_)  | refine yA ?_ | refine zS rfl ?_ | with_reducible (first | refine zY ?_ | refine zR ?_) | ((with_reducible refine zJ ?_ ?_); kernel_rfl))
      refine zC (hN) ?_
      repeat (first | ((with_reducible refine zm ?_); refine zl rfl ?_) | ((with_reducible refine zL ?_); refine zM rfl ?_) | ((with_reducible refine k_un ?_); refine yn rfl ?_) | ((with_reducible refine zy ?_); refine zz rfl rfl ?_) | ((with_reducible refine zh ?_); (first | refine yO rfl (by first | rfl | assumption) rfl ?_ | refine yP rfl (by first | rfl | assumption) rfl ?_))  | refine yA ?_ | refine zS rfl ?_ | refine yU rfl rfl (by first | rfl | assumption) ?_ | refine yI rfl rfl (by first | rfl | assumption) ?_ | with_reducible (first | refine zY ?_ | refine zV ?_ | refine zR ?_ | refine zv ?_) | ((with_reducible refine zJ ?_ ?_); kernel_rfl) | refine yD rfl (by first | rfl | assumption) ?_)
      refine jP (by first | exact .inr rfl | exact .inl rfl) rfl rfl rfl ?_
      repeat' (first | exact trivial | exact Ren.v _ | exact Ren.sl _ _ | exact Ren.ep _ | exact Ren.ptr _ _ _ _ rfl | exact Ren.bs _ _ _ _ _ rfl | exact Ren.nil _ | exact Ren.own _ _ _ _ ⟨_, rfl⟩ | refine yz ?_ | refine jA ?_ | refine jB ?_ | refine ⟨?_, ?_⟩)
    | some d =>
      rw [hnum] at hN
      have e2 : qK f r = gE d r := by unfold qK; rw [hnum]
      rw [e2]
      by_cases h5 : r.length = 5
      · match r, h5 with
        | [a, b, c, x, y], _ =>
          have ix : ∀ (k : Nat) (q : UInt8), [a, b, c, x, y][k]? = some q → ∀ w : World, (Instr.index 9 (.string ⟨([a, b, c, x, y] : List UInt8).toArray⟩) (.int .i64 k)).run Tryz.prog w = .ok (.int .u8 (q.toNat : Int)) w := fun k q hq w => gG _ k q (by rw [oD]; exact hq) w
          have i2 : ∀ w : World, (Instr.index 9 (.string ⟨([a, b, c, x, y] : List UInt8).toArray⟩) (.int .i64 2)).run Tryz.prog w = .ok (.int .u8 (c.toNat : Int)) w := ix 2 c rfl
          have q1 : (((ByteArray.mk ([a, b, c, x, y] : List UInt8).toArray).size : Int) != 5) = false := by rw [hrl]; rfl
          generalize hR : (ByteArray.mk ([a, b, c, x, y] : List UInt8).toArray) = R at ix i2 q1
          have hcut := bO (G := G) s f _ hc hm
          rw [hR] at hcut
          clear hR hl hn47 hz hfl hrl hs hc
          by_cases h58 : c = 58
          · subst h58
            have q2 : (((58 : UInt8).toNat : Int) != 58) = false := rfl
            refine yi tbOk (yj Tryz.func60 (by kernel_rfl) rfl) Tryz.func60 rfl _ Tryz.ntmps60 (Nat.le_of_ble_eq_true rfl) fun X hX => ?_
            subst hX
            repeat (first | ((with_reducible refine zm ?_); refine zl rfl ?_) | ((with_reducible refine zL ?_); refine zM rfl ?_)  | refine yA ?_ | refine zS rfl ?_ | with_reducible (first | refine zY ?_ | refine zR ?_) | ((with_reducible refine zJ ?_ ?_); kernel_rfl))
            refine zC (hcut) ?_
            repeat (first | ((with_reducible refine zm ?_); refine zl rfl ?_) | ((with_reducible refine zL ?_); refine zM rfl ?_) | ((with_reducible refine yQ ?_); refine yS tbOk rfl rfl rfl rfl rfl rfl rfl (Nat.le_of_ble_eq_true rfl) rfl ?_) | ((with_reducible refine yZ ?_); refine ya tbOk rfl rfl ?_) | ((with_reducible refine zy ?_); refine zz rfl rfl ?_)  | refine yA ?_ | refine zS rfl ?_ | with_reducible (first | refine zY ?_ | refine zR ?_) | ((with_reducible refine zJ ?_ ?_); kernel_rfl))
            refine zC (hN) ?_
            repeat (first | ((with_reducible refine zm ?_); refine zl rfl ?_) | ((with_reducible refine zL ?_); refine zM rfl ?_) | ((with_reducible refine zF ?_); refine zX tbOk rfl rfl rfl rfl rfl ?_) | ((with_reducible refine k_un ?_); refine yn rfl ?_) | ((with_reducible refine zy ?_); refine zz rfl rfl ?_) | ((with_reducible refine zh ?_); refine yP rfl (by first | rfl | assumption) rfl ?_) | ((with_reducible refine zZ ?_); refine yY rfl rfl (by assumption) ?_) | ((with_reducible refine zG ?_); refine yB (by exact Tryz.underlying9) rfl ?_) | ((with_reducible refine zA ?_); refine yM rfl rfl rfl ?_)  | refine yA ?_ | refine zS rfl ?_ | refine yU rfl rfl (by first | rfl | assumption) ?_ | with_reducible (first | refine zY ?_ | refine zR ?_ | refine zr ?_) | ((with_reducible refine zJ ?_ ?_); kernel_rfl) | refine yJ rfl (by first | rfl | assumption) ?_)
            with_reducible refine yW ?_
            refine lQ tbOk Tryz.underlying106 rfl rfl rfl rfl ?_
            repeat (first | ((with_reducible refine zm ?_); refine zl rfl ?_)  | refine yA ?_ | refine zS rfl ?_ | with_reducible (first | refine zY ?_ | refine zq ?_) )
            refine jZ (ι := Nat) (fun k => k ≤ 4 ∧ ∀ j, j < k → ∀ q, [a, b, x, y][j]? = some q → qO q = true) (fun k => 4 - k) (fun v k => [(5, .ptr 5 (v 5) 0), (7, .v (.int .i64 d)), (41, .ag [.v (.int .i64 0), .v (.int .i64 1), .v (.int .i64 3), .v (.int .i64 4)]), (42, .v (.int .i64 k))]) (fun v k => [(5, .box [.v (.string R)])]) ?_ ?_
            · exact ⟨0, ⟨by omega, fun j hj => absurd hj (by omega)⟩, trivial, ⟨rfl, rfl, rfl, rfl, trivial⟩, ⟨rfl, trivial⟩⟩
            rintro v k ⟨hk, hall⟩
            repeat (first | ((with_reducible refine zA ?_); refine yM rfl rfl rfl ?_)  | refine yA ?_ | refine zS rfl ?_ | with_reducible (first | refine zY ?_ | refine zR ?_) | ((with_reducible refine zJ ?_ ?_); kernel_rfl))
            refine jE rfl (fun h => ?_) (fun h => ?_)
            · have hlt : k < 4 := by simp at h; omega
              obtain ⟨p, q, hA, hp, hq⟩ := xK hlt a b 58 x y
              have ixp := ix p q hp
              repeat (first   | refine zS rfl ?_ | with_reducible (first | refine zY ?_ | refine zR ?_ | refine zq ?_ | refine zr ?_) | ((with_reducible refine zJ ?_ ?_); kernel_rfl))
              with_reducible refine zZ ?_
              refine kF tbOk Tryz.underlying106 rfl rfl rfl ⟨by omega, by omega⟩ rfl (by rw [Int.toNat_natCast]; exact hA) ?_
              repeat (first | ((with_reducible refine zm ?_); refine zl rfl ?_) | ((with_reducible refine zL ?_); refine zM rfl ?_) | ((with_reducible refine zF ?_); refine zX tbOk rfl rfl rfl rfl rfl ?_) | ((with_reducible refine zZ ?_); refine yY rfl rfl (by assumption) ?_) | ((with_reducible refine zA ?_); refine yM rfl rfl rfl ?_)  | refine yA ?_ | refine zS rfl ?_ | with_reducible (first | refine zY ?_ | refine zR ?_) | ((with_reducible refine zJ ?_ ?_); kernel_rfl))
              by_cases hd : qO q = true
              · obtain ⟨d1, d2, d3⟩ := gW hd
                have p1 : decide ((q.toNat : Int) < 48) = false := by simp; omega
                have p2 : decide ((q.toNat : Int) > 57) = false := by simp; omega
                repeat (first | ((with_reducible refine zm ?_); refine zl rfl ?_) | ((with_reducible refine zF ?_); refine zX tbOk rfl rfl rfl rfl rfl ?_) | ((with_reducible refine zh ?_); refine yP rfl (by first | rfl | assumption) rfl ?_) | ((with_reducible refine zZ ?_); refine yY rfl rfl (by assumption) ?_) | ((with_reducible refine zA ?_); (first | refine yE rfl rfl (by omega) ?_ | refine yM rfl rfl rfl ?_))  | refine yA ?_ | refine zS rfl ?_ | refine yU rfl rfl (by first | rfl | assumption) ?_ | with_reducible (first | refine zY ?_ | refine yV ?_ | refine zr ?_) | ((with_reducible refine zJ ?_ ?_); kernel_rfl) | refine yJ rfl (by first | rfl | assumption) ?_)
                refine ⟨k + 1, ⟨by omega, fun j hj q' hq' => ?_⟩, by omega, ⟨rfl, rfl, rfl, rfl, trivial⟩, ⟨rfl, trivial⟩⟩
                rcases Nat.lt_succ_iff_lt_or_eq.1 hj with hj | rfl
                · exact hall j hj q' hq'
                · rw [hq] at hq'; injection hq' with hq'; subst hq'; exact hd
              · have hbad : gE d [a, b, 58, x, y] = (0, 2) := by
                  show (if _ then _ else _) = ((0 : Int), (2 : Int))
                  rw [if_neg]
                  rintro ⟨-, e1, e2, e3, e4⟩
                  obtain rfl | rfl | rfl | rfl : k = 0 ∨ k = 1 ∨ k = 2 ∨ k = 3 := by omega
                  all_goals (injection hq with hq; subst hq; contradiction)
                have hnd : ¬ (48 ≤ q.toNat ∧ q.toNat ≤ 57) := fun hh => hd (by unfold qO; simp; exact hh)
                rw [hbad]
                by_cases hlo : (q.toNat : Int) < 48
                · have p1 : decide ((q.toNat : Int) < 48) = true := by simpa using hlo
                  repeat (first | ((with_reducible refine zL ?_); refine zM rfl ?_) | ((with_reducible refine zh ?_); refine yO rfl (by first | rfl | assumption) rfl ?_)  | refine yA ?_ | refine zS rfl ?_ | refine yI rfl rfl (by first | rfl | assumption) ?_ | with_reducible (first | refine zY ?_ | refine zV ?_ | refine za ?_ | refine zR ?_ | refine zv ?_) | ((with_reducible refine zJ ?_ ?_); kernel_rfl) | refine yD rfl (by first | rfl | assumption) ?_)
                  refine jP (by first | exact .inr rfl | exact .inl rfl) rfl rfl rfl ?_
                  repeat' (first | exact trivial | exact Ren.v _ | exact Ren.sl _ _ | exact Ren.ep _ | exact Ren.ptr _ _ _ _ rfl | exact Ren.bs _ _ _ _ _ rfl | exact Ren.nil _ | exact Ren.own _ _ _ _ ⟨_, rfl⟩ | refine yz ?_ | refine jA ?_ | refine jB ?_ | refine ⟨?_, ?_⟩)
                · have p1 : decide ((q.toNat : Int) < 48) = false := by simpa using hlo
                  have p2 : decide ((q.toNat : Int) > 57) = true := by simp; omega
                  repeat (first | ((with_reducible refine zm ?_); refine zl rfl ?_) | ((with_reducible refine zL ?_); refine zM rfl ?_) | ((with_reducible refine zF ?_); refine zX tbOk rfl rfl rfl rfl rfl ?_) | ((with_reducible refine zh ?_); refine yP rfl (by first | rfl | assumption) rfl ?_) | ((with_reducible refine zZ ?_); refine yY rfl rfl (by assumption) ?_) | ((with_reducible refine zA ?_); refine yM rfl rfl rfl ?_)  | refine yA ?_ | refine zS rfl ?_ | refine yU rfl rfl (by first | rfl | assumption) ?_ | with_reducible (first | refine zY ?_ | refine zV ?_ | refine za ?_ | refine zR ?_ | refine zv ?_) | ((with_reducible refine zJ ?_ ?_); kernel_rfl) | refine yD rfl (by first | rfl | assumption) ?_)
                  refine jP (by first | exact .inr rfl | exact .inl rfl) rfl rfl rfl ?_
                  repeat' (first | exact trivial | exact Ren.v _ | exact Ren.sl _ _ | exact Ren.ep _ | exact Ren.ptr _ _ _ _ rfl | exact Ren.bs _ _ _ _ _ rfl | exact Ren.nil _ | exact Ren.own _ _ _ _ ⟨_, rfl⟩ | refine yz ?_ | refine jA ?_ | refine jB ?_ | refine ⟨?_, ?_⟩)
            · obtain rfl : k = 4 := by simp at h; omega
              have da := hall 0 (by omega) a rfl
              have db := hall 1 (by omega) b rfl
              have dx := hall 2 (by omega) x rfl
              have dy := hall 3 (by omega) y rfl
              have hD1 := kK (G := X.G) R 0 a b (by omega) (by omega) (ix 0 a rfl) (ix 1 b rfl) da db
              have hD2 := kK (G := X.G) R 3 x y (by omega) (by omega) (ix 3 x rfl) (ix 4 y rfl) dx dy
              have ht : gE d [a, b, 58, x, y] = if (aF d (dig a * 10 + dig b) (dig x * 10 + dig y)).2 = 0 then ((aF d (dig a * 10 + dig b) (dig x * 10 + dig y)).1, 0) else (0, 2) := by
                show (if _ then _ else _) = _
                rw [if_pos ⟨rfl, da, db, dx, dy⟩]
              rw [ht]
              have hM := wD (G := X.G) d (dig a * 10 + dig b) (dig x * 10 + dig y)
              generalize aF d (dig a * 10 + dig b) (dig x * 10 + dig y) = mk at hM
              repeat (first | ((with_reducible refine zm ?_); refine zl rfl ?_) | ((with_reducible refine zL ?_); refine zM rfl ?_) | ((with_reducible refine zI ?_); refine yv rfl ?_)  | refine yA ?_ | refine zS rfl ?_ | with_reducible (first | refine zY ?_ | refine ze ?_ | refine zR ?_ | refine yK ?_) | ((with_reducible refine zW ?_ ?_); rfl) | ((with_reducible refine zJ ?_ ?_); kernel_rfl))
              refine dQ (ss := [(5, v 5)]) (hD1) rfl (by repeat' (first | exact trivial | exact Ren.v _ | exact Ren.sl _ _ | exact Ren.ep _ | exact Ren.ptr _ _ _ _ rfl | exact Ren.bs _ _ _ _ _ rfl | exact Ren.nil _ | exact Ren.own _ _ _ _ ⟨_, rfl⟩ | refine yz ?_ | refine jA ?_ | refine jB ?_ | refine ⟨?_, ?_⟩)) (by simp) (in1 rfl rfl) rfl (aD rfl) (by repeat' (first | exact trivial | exact RenB.v _ | exact RenB.sl _ _ | exact RenB.ep _ | exact RenB.ptr _ _ _ _ rfl | refine aA ?_ | refine qv ?_ | refine ⟨?_, ?_⟩)) ?_
              repeat (first | ((with_reducible refine zm ?_); refine zl rfl ?_)  | refine zS rfl ?_  )
              refine dQ (ss := [(5, v 5)]) (hD2) rfl (by repeat' (first | exact trivial | exact Ren.v _ | exact Ren.sl _ _ | exact Ren.ep _ | exact Ren.ptr _ _ _ _ rfl | exact Ren.bs _ _ _ _ _ rfl | exact Ren.nil _ | exact Ren.own _ _ _ _ ⟨_, rfl⟩ | refine yz ?_ | refine jA ?_ | refine jB ?_ | refine ⟨?_, ?_⟩)) (by simp) (in1 rfl rfl) rfl (aD rfl) (by repeat' (first | exact trivial | exact RenB.v _ | exact RenB.sl _ _ | exact RenB.ep _ | exact RenB.ptr _ _ _ _ rfl | refine aA ?_ | refine qv ?_ | refine ⟨?_, ?_⟩)) ?_
              repeat (first   | refine zS rfl ?_  )
              refine zC (hM) ?_
              repeat (first | ((with_reducible refine zm ?_); refine zl rfl ?_) | ((with_reducible refine zL ?_); refine zM rfl ?_) | ((with_reducible refine zy ?_); refine zz rfl rfl ?_) | ((with_reducible refine zA ?_); refine yM rfl rfl rfl ?_)  | refine yA ?_ | refine zS rfl ?_ | with_reducible (first | refine zY ?_ | refine zR ?_) | ((with_reducible refine zJ ?_ ?_); kernel_rfl))
              refine jE rfl (fun h => ?_) (fun h => ?_)
              · have e0 : ¬ mk.2 = 0 := by simpa using h
                rw [if_neg e0]
                repeat (first | ((with_reducible refine zL ?_); refine zM rfl ?_)  | refine yA ?_ | refine zS rfl ?_ | with_reducible (first | refine zY ?_ | refine zV ?_ | refine zR ?_ | refine zv ?_) | ((with_reducible refine zJ ?_ ?_); kernel_rfl))
                refine jP (by first | exact .inr rfl | exact .inl rfl) rfl rfl rfl ?_
                repeat' (first | exact trivial | exact Ren.v _ | exact Ren.sl _ _ | exact Ren.ep _ | exact Ren.ptr _ _ _ _ rfl | exact Ren.bs _ _ _ _ _ rfl | exact Ren.nil _ | exact Ren.own _ _ _ _ ⟨_, rfl⟩ | refine yz ?_ | refine jA ?_ | refine jB ?_ | refine ⟨?_, ?_⟩)
              · have e0 : mk.2 = 0 := by simpa using h
                rw [if_pos e0]
                repeat (first | ((with_reducible refine zm ?_); refine zl rfl ?_) | ((with_reducible refine zL ?_); refine zM rfl ?_)  | refine yA ?_ | refine zS rfl ?_ | with_reducible (first | refine zY ?_ | refine zR ?_ | refine zr ?_ | refine zv ?_) | ((with_reducible refine zJ ?_ ?_); kernel_rfl))
                refine jP (by first | exact .inr rfl | exact .inl rfl) rfl rfl rfl ?_
                repeat' (first | exact trivial | exact Ren.v _ | exact Ren.sl _ _ | exact Ren.ep _ | exact Ren.ptr _ _ _ _ rfl | exact Ren.bs _ _ _ _ _ rfl | exact Ren.nil _ | exact Ren.own _ _ _ _ ⟨_, rfl⟩ | refine yz ?_ | refine jA ?_ | refine jB ?_ | refine ⟨?_, ?_⟩)
          · have e3 : gE d [a, b, c, x, y] = (0, 2) := by
              show (if _ then _ else _) = ((0 : Int), (2 : Int))
              rw [if_neg (fun h => h58 h.1)]
            rw [e3]
            have q2 : ((c.toNat : Int) != 58) = true := by
              simp
              intro h
              exact h58 (UInt8.toNat_inj.1 (by show c.toNat = 58; omega))
            refine yi tbOk (yj Tryz.func60 (by kernel_rfl) rfl) Tryz.func60 rfl _ Tryz.ntmps60 (Nat.le_of_ble_eq_true rfl) fun X hX => ?_
            subst hX
            repeat (first | ((with_reducible refine zm ?_); refine zl rfl ?_) | ((with_reducible refine zL ?_); refine zM rfl ?_)  | refine yA ?_ | refine zS rfl ?_ | with_reducible (first | refine zY ?_ | refine zR ?_) | ((with_reducible refine zJ ?_ ?_); kernel_rfl))
            refine zC (hcut) ?_
            repeat (first | ((with_reducible refine zm ?_); refine zl rfl ?_) | ((with_reducible refine zL ?_); refine zM rfl ?_) | ((with_reducible refine yQ ?_); refine yS tbOk rfl rfl rfl rfl rfl rfl rfl (Nat.le_of_ble_eq_true rfl) rfl ?_) | ((with_reducible refine yZ ?_); refine ya tbOk rfl rfl ?_) | ((with_reducible refine zy ?_); refine zz rfl rfl ?_)  | refine yA ?_ | refine zS rfl ?_ | with_reducible (first | refine zY ?_ | refine zR ?_) | ((with_reducible refine zJ ?_ ?_); kernel_rfl))
            refine zC (hN) ?_
            repeat (first | ((with_reducible refine zm ?_); refine zl rfl ?_) | ((with_reducible refine zL ?_); refine zM rfl ?_) | ((with_reducible refine zF ?_); refine zX tbOk rfl rfl rfl rfl rfl ?_) | ((with_reducible refine k_un ?_); refine yn rfl ?_) | ((with_reducible refine zy ?_); refine zz rfl rfl ?_) | ((with_reducible refine zh ?_); refine yP rfl (by first | rfl | assumption) rfl ?_) | ((with_reducible refine zZ ?_); refine yY rfl rfl (by assumption) ?_) | ((with_reducible refine zG ?_); refine yB (by exact Tryz.underlying9) rfl ?_) | ((with_reducible refine zA ?_); refine yM rfl rfl rfl ?_)  | refine yA ?_ | refine zS rfl ?_ | refine yU rfl rfl (by first | rfl | assumption) ?_ | with_reducible (first | refine zY ?_ | refine zV ?_ | refine zR ?_ | refine zv ?_) | ((with_reducible refine zJ ?_ ?_); kernel_rfl) | refine yD rfl (by first | rfl | assumption) ?_)
            refine jP (by first | exact .inr rfl | exact .inl rfl) rfl rfl rfl ?_
            repeat' (first | exact trivial | exact Ren.v _ | exact Ren.sl _ _ | exact Ren.ep _ | exact Ren.ptr _ _ _ _ rfl | exact Ren.bs _ _ _ _ _ rfl | exact Ren.nil _ | exact Ren.own _ _ _ _ ⟨_, rfl⟩ | refine yz ?_ | refine jA ?_ | refine jB ?_ | refine ⟨?_, ?_⟩)
      · rw [fX h5]
        have q1 : (((ByteArray.mk r.toArray).size : Int) != 5) = true := by rw [hrl]; simp; omega
        refine yi tbOk (yj Tryz.func60 (by kernel_rfl) rfl) Tryz.func60 rfl _ Tryz.ntmps60 (Nat.le_of_ble_eq_true rfl) fun X hX => ?_
        subst hX
        repeat (first | ((with_reducible refine zm ?_); refine zl rfl ?_) | ((with_reducible refine zL ?_); refine zM rfl ?_)  | refine yA ?_ | refine zS rfl ?_ | with_reducible (first | refine zY ?_ | refine zR ?_) | ((with_reducible refine zJ ?_ ?_); kernel_rfl))
        refine zC (bO s f r hc hm) ?_
        repeat (first | ((with_reducible refine zm ?_); refine zl rfl ?_) | ((with_reducible refine zL ?_); refine zM rfl ?_) | ((with_reducible refine yQ ?_); refine yS tbOk rfl rfl rfl rfl rfl rfl rfl (Nat.le_of_ble_eq_true rfl) rfl ?_) | ((with_reducible refine yZ ?_); refine ya tbOk rfl rfl ?_) | ((with_reducible refine zy ?_); refine zz rfl rfl ?_)  | refine yA ?_ | refine zS rfl ?_ | with_reducible (first | refine zY ?_ | refine zR ?_) | ((with_reducible refine zJ ?_ ?_); kernel_rfl))
        refine zC (hN) ?_
        repeat (first | ((with_reducible refine zm ?_); refine zl rfl ?_) | ((with_reducible refine zL ?_); refine zM rfl ?_) | ((with_reducible refine zF ?_); refine zX tbOk rfl rfl rfl rfl rfl ?_) | ((with_reducible refine k_un ?_); refine yn rfl ?_) | ((with_reducible refine zy ?_); refine zz rfl rfl ?_) | ((with_reducible refine zh ?_); (first | refine yO rfl (by first | rfl | assumption) rfl ?_ | refine yP rfl (by first | rfl | assumption) rfl ?_)) | ((with_reducible refine zG ?_); refine yB (by exact Tryz.underlying9) rfl ?_) | ((with_reducible refine zA ?_); refine yM rfl rfl rfl ?_)  | refine yA ?_ | refine zS rfl ?_ | refine yU rfl rfl (by first | rfl | assumption) ?_ | refine yI rfl rfl (by first | rfl | assumption) ?_ | with_reducible (first | refine zY ?_ | refine zV ?_ | refine zR ?_ | refine zv ?_) | ((with_reducible refine zJ ?_ ?_); kernel_rfl) | refine yD rfl (by first | rfl | assumption) ?_)
        refine jP (by first | exact .inr rfl | exact .inl rfl) rfl rfl rfl ?_
        repeat' (first | exact trivial | exact Ren.v _ | exact Ren.sl _ _ | exact Ren.ep _ | exact Ren.ptr _ _ _ _ rfl | exact Ren.bs _ _ _ _ _ rfl | exact Ren.nil _ | exact Ren.own _ _ _ _ ⟨_, rfl⟩ | refine yz ?_ | refine jA ?_ | refine jB ?_ | refine ⟨?_, ?_⟩)
end Go.Proofs.YtggagmafkdhjcaaGreatDoor
