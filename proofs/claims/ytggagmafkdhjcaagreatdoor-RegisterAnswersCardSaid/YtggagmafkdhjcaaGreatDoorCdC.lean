/- calendar.Parse and its reference, by the abstract machine; conditions: none. -/
import Derived.Test.YtggagmafkdhjcaaGreatDoorCdB
set_option linter.unusedVariables false
set_option linter.unusedSimpArgs false
namespace Go.Proofs.YtggagmafkdhjcaaGreatDoor
open Go Go.RowKit
set_option maxRecDepth 10000
variable {G : Nat → Option (List Value)}
theorem bytesOf (l : List UInt8) : (ByteArray.mk l.toArray).data.toList = l := by simp
set_option maxHeartbeats 4000000 in
theorem parse_A (s : ByteArray) (hm : s.size ≤ maxLen) : ACalls Tryz.prog G 60 [.v (.string s)] [] (.tu [.v (.int .i64 (parseP s.data.toList).1), .v (.int .i64 (parseP s.data.toList).2)]) [] := by
  have hs := nsizeS s
  cases hc : cutP s.data.toList with
  | none =>
    have e : parseP s.data.toList = (0, 2) := by unfold parseP; rw [hc]
    rw [e]
    refine acalls_of tbOk (enter_of Tryz.func60 (by kernel_rfl) rfl) Tryz.func60 rfl _ Tryz.ntmps60 (Nat.le_of_ble_eq_true rfl) fun X hX => ?_
    subst hX
    repeat (first | ((with_reducible refine k_move ?_); refine m_move rfl ?_) | ((with_reducible refine k_assign ?_); refine m_assign rfl ?_)  | refine e_nrm ?_ | refine x_none rfl ?_ | with_reducible (first | refine q_then ?_ | refine awp_seq ?_) | ((with_reducible refine w_region ?_ ?_); kernel_rfl))
    refine zC (cut_none_A s hc) ?_
    repeat (first | ((with_reducible refine k_move ?_); refine m_move rfl ?_) | ((with_reducible refine k_assign ?_); refine m_assign rfl ?_) | ((with_reducible refine k_store ?_); refine m_store tbOk rfl rfl rfl rfl rfl rfl rfl (Nat.le_of_ble_eq_true rfl) rfl ?_) | ((with_reducible refine k_alloc ?_); refine x_alloc tbOk rfl rfl ?_) | ((with_reducible refine k_extract ?_); refine x_extract rfl rfl ?_)  | refine e_nrm ?_ | refine x_none rfl ?_ | with_reducible (first | refine q_then ?_ | refine awp_seq ?_) | ((with_reducible refine w_region ?_ ?_); kernel_rfl))
    refine zC (number_A s 16777216 hm (by omega) (by omega)) ?_
    repeat (first | ((with_reducible refine k_move ?_); refine m_move rfl ?_) | ((with_reducible refine k_assign ?_); refine m_assign rfl ?_) | ((with_reducible refine k_un ?_); refine x_not rfl ?_) | ((with_reducible refine k_extract ?_); refine x_extract rfl rfl ?_) | ((with_reducible refine k_pick ?_); refine m_pickt rfl (by first | rfl | assumption) rfl ?_)  | refine e_nrm ?_ | refine x_none rfl ?_ | refine x_skip_f rfl rfl (by first | rfl | assumption) ?_ | with_reducible (first | refine q_then ?_ | refine q_then_ret ?_ | refine awp_seq ?_ | refine awp_ret ?_) | ((with_reducible refine w_region ?_ ?_); kernel_rfl) | refine w_cond_t rfl (by first | rfl | assumption) ?_)
    refine ret0_2 (by first | exact .inr rfl | exact .inl rfl) rfl rfl rfl ?_
    repeat' (first | exact trivial | exact Ren.v _ | exact Ren.sl _ _ | exact Ren.ep _ | exact Ren.ptr _ _ _ _ rfl | exact Ren.bs _ _ _ _ _ rfl | exact Ren.nil _ | exact Ren.own _ _ _ _ ⟨_, rfl⟩ | refine ren_ag ?_ | refine ren_tu ?_ | refine ren_fn ?_ | refine ⟨?_, ?_⟩)
  | some p =>
    obtain ⟨f, r⟩ := p
    have e : parseP s.data.toList = partsP f r := by unfold parseP; rw [hc]
    rw [e]
    obtain ⟨hl, hn47⟩ := cutP_some hc
    have hz := congrArg List.length hl
    rw [List.length_append, List.length_cons] at hz
    have hfl : (ByteArray.mk f.toArray).size = f.length := by simp [ByteArray.size]
    have hrl : ((ByteArray.mk r.toArray).size : Int) = (r.length : Int) := by simp [ByteArray.size]
    have hN := number_A (G := G) ⟨f.toArray⟩ 16777216 (by rw [hfl]; omega) (by omega) (by omega)
    rw [bytesOf] at hN
    cases hnum : numP f 16777216 with
    | none =>
      rw [hnum] at hN
      have e2 : partsP f r = (0, 2) := by unfold partsP; rw [hnum]
      rw [e2]
      refine acalls_of tbOk (enter_of Tryz.func60 (by kernel_rfl) rfl) Tryz.func60 rfl _ Tryz.ntmps60 (Nat.le_of_ble_eq_true rfl) fun X hX => ?_
      subst hX
      repeat (first | ((with_reducible refine k_move ?_); refine m_move rfl ?_) | ((with_reducible refine k_assign ?_); refine m_assign rfl ?_)  | refine e_nrm ?_ | refine x_none rfl ?_ | with_reducible (first | refine q_then ?_ | refine awp_seq ?_) | ((with_reducible refine w_region ?_ ?_); kernel_rfl))
      refine zC (cut_some_A s f r hc hm) ?_
      repeat (first | ((with_reducible refine k_move ?_); refine m_move rfl ?_) | ((with_reducible refine k_assign ?_); refine m_assign rfl ?_) | ((with_reducible refine k_store ?_); refine m_store tbOk rfl rfl rfl rfl rfl rfl rfl (Nat.le_of_ble_eq_true rfl) rfl ?_) | ((with_reducible refine k_alloc ?_); refine x_alloc tbOk rfl rfl ?_) | ((with_reducible refine k_extract ?_); refine x_extract rfl rfl ?_)  | refine e_nrm ?_ | refine x_none rfl ?_ | with_reducible (first | refine q_then ?_ | refine awp_seq ?_) | ((with_reducible refine w_region ?_ ?_); kernel_rfl))
      refine zC (hN) ?_
      repeat (first | ((with_reducible refine k_move ?_); refine m_move rfl ?_) | ((with_reducible refine k_assign ?_); refine m_assign rfl ?_) | ((with_reducible refine k_un ?_); refine x_not rfl ?_) | ((with_reducible refine k_extract ?_); refine x_extract rfl rfl ?_) | ((with_reducible refine k_pick ?_); (first | refine m_pickt rfl (by first | rfl | assumption) rfl ?_ | refine m_pickf rfl (by first | rfl | assumption) rfl ?_))  | refine e_nrm ?_ | refine x_none rfl ?_ | refine x_run_f rfl rfl (by first | rfl | assumption) ?_ | refine x_skip_f rfl rfl (by first | rfl | assumption) ?_ | with_reducible (first | refine q_then ?_ | refine q_then_ret ?_ | refine awp_seq ?_ | refine awp_ret ?_) | ((with_reducible refine w_region ?_ ?_); kernel_rfl) | refine w_cond_t rfl (by first | rfl | assumption) ?_)
      refine ret0_2 (by first | exact .inr rfl | exact .inl rfl) rfl rfl rfl ?_
      repeat' (first | exact trivial | exact Ren.v _ | exact Ren.sl _ _ | exact Ren.ep _ | exact Ren.ptr _ _ _ _ rfl | exact Ren.bs _ _ _ _ _ rfl | exact Ren.nil _ | exact Ren.own _ _ _ _ ⟨_, rfl⟩ | refine ren_ag ?_ | refine ren_tu ?_ | refine ren_fn ?_ | refine ⟨?_, ?_⟩)
    | some d =>
      rw [hnum] at hN
      have e2 : partsP f r = tailP d r := by unfold partsP; rw [hnum]
      rw [e2]
      by_cases h5 : r.length = 5
      · match r, h5 with
        | [a, b, c, x, y], _ =>
          have ix : ∀ (k : Nat) (q : UInt8), [a, b, c, x, y][k]? = some q → ∀ w : World, (Instr.index 9 (.string ⟨([a, b, c, x, y] : List UInt8).toArray⟩) (.int .i64 k)).run Tryz.prog w = .ok (.int .u8 (q.toNat : Int)) w := fun k q hq w => nidxS _ k q (by rw [bytesOf]; exact hq) w
          have i2 : ∀ w : World, (Instr.index 9 (.string ⟨([a, b, c, x, y] : List UInt8).toArray⟩) (.int .i64 2)).run Tryz.prog w = .ok (.int .u8 (c.toNat : Int)) w := ix 2 c rfl
          have q1 : (((ByteArray.mk ([a, b, c, x, y] : List UInt8).toArray).size : Int) != 5) = false := by rw [hrl]; rfl
          generalize hR : (ByteArray.mk ([a, b, c, x, y] : List UInt8).toArray) = R at ix i2 q1
          have hcut := cut_some_A (G := G) s f _ hc hm
          rw [hR] at hcut
          clear hR hl hn47 hz hfl hrl hs hc
          by_cases h58 : c = 58
          · subst h58
            have q2 : (((58 : UInt8).toNat : Int) != 58) = false := rfl
            refine acalls_of tbOk (enter_of Tryz.func60 (by kernel_rfl) rfl) Tryz.func60 rfl _ Tryz.ntmps60 (Nat.le_of_ble_eq_true rfl) fun X hX => ?_
            subst hX
            repeat (first | ((with_reducible refine k_move ?_); refine m_move rfl ?_) | ((with_reducible refine k_assign ?_); refine m_assign rfl ?_)  | refine e_nrm ?_ | refine x_none rfl ?_ | with_reducible (first | refine q_then ?_ | refine awp_seq ?_) | ((with_reducible refine w_region ?_ ?_); kernel_rfl))
            refine zC (hcut) ?_
            repeat (first | ((with_reducible refine k_move ?_); refine m_move rfl ?_) | ((with_reducible refine k_assign ?_); refine m_assign rfl ?_) | ((with_reducible refine k_store ?_); refine m_store tbOk rfl rfl rfl rfl rfl rfl rfl (Nat.le_of_ble_eq_true rfl) rfl ?_) | ((with_reducible refine k_alloc ?_); refine x_alloc tbOk rfl rfl ?_) | ((with_reducible refine k_extract ?_); refine x_extract rfl rfl ?_)  | refine e_nrm ?_ | refine x_none rfl ?_ | with_reducible (first | refine q_then ?_ | refine awp_seq ?_) | ((with_reducible refine w_region ?_ ?_); kernel_rfl))
            refine zC (hN) ?_
            repeat (first | ((with_reducible refine k_move ?_); refine m_move rfl ?_) | ((with_reducible refine k_assign ?_); refine m_assign rfl ?_) | ((with_reducible refine k_load ?_); refine x_load_one tbOk rfl rfl rfl rfl rfl ?_) | ((with_reducible refine k_un ?_); refine x_not rfl ?_) | ((with_reducible refine k_extract ?_); refine x_extract rfl rfl ?_) | ((with_reducible refine k_pick ?_); refine m_pickf rfl (by first | rfl | assumption) rfl ?_) | ((with_reducible refine k_index ?_); refine x_index rfl rfl (by assumption) ?_) | ((with_reducible refine k_call ?_); refine x_len_str (by exact Tryz.underlying9) rfl ?_) | ((with_reducible refine k_bin ?_); refine m_binI rfl rfl rfl ?_)  | refine e_nrm ?_ | refine x_none rfl ?_ | refine x_run_f rfl rfl (by first | rfl | assumption) ?_ | with_reducible (first | refine q_then ?_ | refine awp_seq ?_ | refine awp_skip ?_) | ((with_reducible refine w_region ?_ ?_); kernel_rfl) | refine w_cond_f rfl (by first | rfl | assumption) ?_)
            with_reducible refine k_build ?_
            refine m_build_arr tbOk Tryz.underlying106 rfl rfl rfl rfl ?_
            repeat (first | ((with_reducible refine k_move ?_); refine m_move rfl ?_)  | refine e_nrm ?_ | refine x_none rfl ?_ | with_reducible (first | refine q_then ?_ | refine awp_block ?_) )
            refine awp_loop (ι := Nat) (fun k => k ≤ 4 ∧ ∀ j, j < k → ∀ q, [a, b, x, y][j]? = some q → isDig q = true) (fun k => 4 - k) (fun v k => [(5, .ptr 5 (v 5) 0), (7, .v (.int .i64 d)), (41, .ag [.v (.int .i64 0), .v (.int .i64 1), .v (.int .i64 3), .v (.int .i64 4)]), (42, .v (.int .i64 k))]) (fun v k => [(5, .box [.v (.string R)])]) ?_ ?_
            · exact ⟨0, ⟨by omega, fun j hj => absurd hj (by omega)⟩, trivial, ⟨rfl, rfl, rfl, rfl, trivial⟩, ⟨rfl, trivial⟩⟩
            rintro v k ⟨hk, hall⟩
            repeat (first | ((with_reducible refine k_bin ?_); refine m_binI rfl rfl rfl ?_)  | refine e_nrm ?_ | refine x_none rfl ?_ | with_reducible (first | refine q_then ?_ | refine awp_seq ?_) | ((with_reducible refine w_region ?_ ?_); kernel_rfl))
            refine w_cond rfl (fun h => ?_) (fun h => ?_)
            · have hlt : k < 4 := by simp at h; omega
              obtain ⟨p, q, hA, hp, hq⟩ := posAt hlt a b 58 x y
              have ixp := ix p q hp
              repeat (first   | refine x_none rfl ?_ | with_reducible (first | refine q_then ?_ | refine awp_seq ?_ | refine awp_block ?_ | refine awp_skip ?_) | ((with_reducible refine w_region ?_ ?_); kernel_rfl))
              with_reducible refine k_index ?_
              refine x_index_arr tbOk Tryz.underlying106 rfl rfl rfl ⟨by omega, by omega⟩ rfl (by rw [Int.toNat_natCast]; exact hA) ?_
              repeat (first | ((with_reducible refine k_move ?_); refine m_move rfl ?_) | ((with_reducible refine k_assign ?_); refine m_assign rfl ?_) | ((with_reducible refine k_load ?_); refine x_load_one tbOk rfl rfl rfl rfl rfl ?_) | ((with_reducible refine k_index ?_); refine x_index rfl rfl (by assumption) ?_) | ((with_reducible refine k_bin ?_); refine m_binI rfl rfl rfl ?_)  | refine e_nrm ?_ | refine x_none rfl ?_ | with_reducible (first | refine q_then ?_ | refine awp_seq ?_) | ((with_reducible refine w_region ?_ ?_); kernel_rfl))
              by_cases hd : isDig q = true
              · obtain ⟨d1, d2, d3⟩ := dig_rng hd
                have p1 : decide ((q.toNat : Int) < 48) = false := by simp; omega
                have p2 : decide ((q.toNat : Int) > 57) = false := by simp; omega
                repeat (first | ((with_reducible refine k_move ?_); refine m_move rfl ?_) | ((with_reducible refine k_load ?_); refine x_load_one tbOk rfl rfl rfl rfl rfl ?_) | ((with_reducible refine k_pick ?_); refine m_pickf rfl (by first | rfl | assumption) rfl ?_) | ((with_reducible refine k_index ?_); refine x_index rfl rfl (by assumption) ?_) | ((with_reducible refine k_bin ?_); (first | refine x_add_in rfl rfl (by omega) ?_ | refine m_binI rfl rfl rfl ?_))  | refine e_nrm ?_ | refine x_none rfl ?_ | refine x_run_f rfl rfl (by first | rfl | assumption) ?_ | with_reducible (first | refine q_then ?_ | refine q_block ?_ | refine awp_skip ?_) | ((with_reducible refine w_region ?_ ?_); kernel_rfl) | refine w_cond_f rfl (by first | rfl | assumption) ?_)
                refine ⟨k + 1, ⟨by omega, fun j hj q' hq' => ?_⟩, by omega, ⟨rfl, rfl, rfl, rfl, trivial⟩, ⟨rfl, trivial⟩⟩
                rcases Nat.lt_succ_iff_lt_or_eq.1 hj with hj | rfl
                · exact hall j hj q' hq'
                · rw [hq] at hq'; injection hq' with hq'; subst hq'; exact hd
              · have hbad : tailP d [a, b, 58, x, y] = (0, 2) := by
                  show (if _ then _ else _) = ((0 : Int), (2 : Int))
                  rw [if_neg]
                  rintro ⟨-, e1, e2, e3, e4⟩
                  obtain rfl | rfl | rfl | rfl : k = 0 ∨ k = 1 ∨ k = 2 ∨ k = 3 := by omega
                  all_goals (injection hq with hq; subst hq; contradiction)
                have hnd : ¬ (48 ≤ q.toNat ∧ q.toNat ≤ 57) := fun hh => hd (by unfold isDig; simp; exact hh)
                rw [hbad]
                by_cases hlo : (q.toNat : Int) < 48
                · have p1 : decide ((q.toNat : Int) < 48) = true := by simpa using hlo
                  repeat (first | ((with_reducible refine k_assign ?_); refine m_assign rfl ?_) | ((with_reducible refine k_pick ?_); refine m_pickt rfl (by first | rfl | assumption) rfl ?_)  | refine e_nrm ?_ | refine x_none rfl ?_ | refine x_skip_f rfl rfl (by first | rfl | assumption) ?_ | with_reducible (first | refine q_then ?_ | refine q_then_ret ?_ | refine q_block_ret ?_ | refine awp_seq ?_ | refine awp_ret ?_) | ((with_reducible refine w_region ?_ ?_); kernel_rfl) | refine w_cond_t rfl (by first | rfl | assumption) ?_)
                  refine ret0_2 (by first | exact .inr rfl | exact .inl rfl) rfl rfl rfl ?_
                  repeat' (first | exact trivial | exact Ren.v _ | exact Ren.sl _ _ | exact Ren.ep _ | exact Ren.ptr _ _ _ _ rfl | exact Ren.bs _ _ _ _ _ rfl | exact Ren.nil _ | exact Ren.own _ _ _ _ ⟨_, rfl⟩ | refine ren_ag ?_ | refine ren_tu ?_ | refine ren_fn ?_ | refine ⟨?_, ?_⟩)
                · have p1 : decide ((q.toNat : Int) < 48) = false := by simpa using hlo
                  have p2 : decide ((q.toNat : Int) > 57) = true := by simp; omega
                  repeat (first | ((with_reducible refine k_move ?_); refine m_move rfl ?_) | ((with_reducible refine k_assign ?_); refine m_assign rfl ?_) | ((with_reducible refine k_load ?_); refine x_load_one tbOk rfl rfl rfl rfl rfl ?_) | ((with_reducible refine k_pick ?_); refine m_pickf rfl (by first | rfl | assumption) rfl ?_) | ((with_reducible refine k_index ?_); refine x_index rfl rfl (by assumption) ?_) | ((with_reducible refine k_bin ?_); refine m_binI rfl rfl rfl ?_)  | refine e_nrm ?_ | refine x_none rfl ?_ | refine x_run_f rfl rfl (by first | rfl | assumption) ?_ | with_reducible (first | refine q_then ?_ | refine q_then_ret ?_ | refine q_block_ret ?_ | refine awp_seq ?_ | refine awp_ret ?_) | ((with_reducible refine w_region ?_ ?_); kernel_rfl) | refine w_cond_t rfl (by first | rfl | assumption) ?_)
                  refine ret0_2 (by first | exact .inr rfl | exact .inl rfl) rfl rfl rfl ?_
                  repeat' (first | exact trivial | exact Ren.v _ | exact Ren.sl _ _ | exact Ren.ep _ | exact Ren.ptr _ _ _ _ rfl | exact Ren.bs _ _ _ _ _ rfl | exact Ren.nil _ | exact Ren.own _ _ _ _ ⟨_, rfl⟩ | refine ren_ag ?_ | refine ren_tu ?_ | refine ren_fn ?_ | refine ⟨?_, ?_⟩)
            · obtain rfl : k = 4 := by simp at h; omega
              have da := hall 0 (by omega) a rfl
              have db := hall 1 (by omega) b rfl
              have dx := hall 2 (by omega) x rfl
              have dy := hall 3 (by omega) y rfl
              have hD1 := digits_A (G := X.G) R 0 a b (by omega) (by omega) (ix 0 a rfl) (ix 1 b rfl) da db
              have hD2 := digits_A (G := X.G) R 3 x y (by omega) (by omega) (ix 3 x rfl) (ix 4 y rfl) dx dy
              have ht : tailP d [a, b, 58, x, y] = if (makeP d (dig a * 10 + dig b) (dig x * 10 + dig y)).2 = 0 then ((makeP d (dig a * 10 + dig b) (dig x * 10 + dig y)).1, 0) else (0, 2) := by
                show (if _ then _ else _) = _
                rw [if_pos ⟨rfl, da, db, dx, dy⟩]
              rw [ht]
              have hM := make_A (G := X.G) d (dig a * 10 + dig b) (dig x * 10 + dig y)
              generalize makeP d (dig a * 10 + dig b) (dig x * 10 + dig y) = mk at hM
              repeat (first | ((with_reducible refine k_move ?_); refine m_move rfl ?_) | ((with_reducible refine k_assign ?_); refine m_assign rfl ?_) | ((with_reducible refine k_makeFunc ?_); refine m_fn1 rfl ?_)  | refine e_nrm ?_ | refine x_none rfl ?_ | with_reducible (first | refine q_then ?_ | refine q_then_exit ?_ | refine awp_seq ?_ | refine awp_exit ?_) | ((with_reducible refine q_block_exit ?_ ?_); rfl) | ((with_reducible refine w_region ?_ ?_); kernel_rfl))
              refine x_callV (ss := [(5, v 5)]) (hD1) rfl (by repeat' (first | exact trivial | exact Ren.v _ | exact Ren.sl _ _ | exact Ren.ep _ | exact Ren.ptr _ _ _ _ rfl | exact Ren.bs _ _ _ _ _ rfl | exact Ren.nil _ | exact Ren.own _ _ _ _ ⟨_, rfl⟩ | refine ren_ag ?_ | refine ren_tu ?_ | refine ren_fn ?_ | refine ⟨?_, ?_⟩)) (by simp) (in1 rfl rfl) rfl (back1 rfl) (by repeat' (first | exact trivial | exact RenB.v _ | exact RenB.sl _ _ | exact RenB.ep _ | exact RenB.ptr _ _ _ _ rfl | refine renb_ag ?_ | refine renb_tu ?_ | refine ⟨?_, ?_⟩)) ?_
              repeat (first | ((with_reducible refine k_move ?_); refine m_move rfl ?_)  | refine x_none rfl ?_  )
              refine x_callV (ss := [(5, v 5)]) (hD2) rfl (by repeat' (first | exact trivial | exact Ren.v _ | exact Ren.sl _ _ | exact Ren.ep _ | exact Ren.ptr _ _ _ _ rfl | exact Ren.bs _ _ _ _ _ rfl | exact Ren.nil _ | exact Ren.own _ _ _ _ ⟨_, rfl⟩ | refine ren_ag ?_ | refine ren_tu ?_ | refine ren_fn ?_ | refine ⟨?_, ?_⟩)) (by simp) (in1 rfl rfl) rfl (back1 rfl) (by repeat' (first | exact trivial | exact RenB.v _ | exact RenB.sl _ _ | exact RenB.ep _ | exact RenB.ptr _ _ _ _ rfl | refine renb_ag ?_ | refine renb_tu ?_ | refine ⟨?_, ?_⟩)) ?_
              repeat (first   | refine x_none rfl ?_  )
              refine zC (hM) ?_
              repeat (first | ((with_reducible refine k_move ?_); refine m_move rfl ?_) | ((with_reducible refine k_assign ?_); refine m_assign rfl ?_) | ((with_reducible refine k_extract ?_); refine x_extract rfl rfl ?_) | ((with_reducible refine k_bin ?_); refine m_binI rfl rfl rfl ?_)  | refine e_nrm ?_ | refine x_none rfl ?_ | with_reducible (first | refine q_then ?_ | refine awp_seq ?_) | ((with_reducible refine w_region ?_ ?_); kernel_rfl))
              refine w_cond rfl (fun h => ?_) (fun h => ?_)
              · have e0 : ¬ mk.2 = 0 := by simpa using h
                rw [if_neg e0]
                repeat (first | ((with_reducible refine k_assign ?_); refine m_assign rfl ?_)  | refine e_nrm ?_ | refine x_none rfl ?_ | with_reducible (first | refine q_then ?_ | refine q_then_ret ?_ | refine awp_seq ?_ | refine awp_ret ?_) | ((with_reducible refine w_region ?_ ?_); kernel_rfl))
                refine ret0_2 (by first | exact .inr rfl | exact .inl rfl) rfl rfl rfl ?_
                repeat' (first | exact trivial | exact Ren.v _ | exact Ren.sl _ _ | exact Ren.ep _ | exact Ren.ptr _ _ _ _ rfl | exact Ren.bs _ _ _ _ _ rfl | exact Ren.nil _ | exact Ren.own _ _ _ _ ⟨_, rfl⟩ | refine ren_ag ?_ | refine ren_tu ?_ | refine ren_fn ?_ | refine ⟨?_, ?_⟩)
              · have e0 : mk.2 = 0 := by simpa using h
                rw [if_pos e0]
                repeat (first | ((with_reducible refine k_move ?_); refine m_move rfl ?_) | ((with_reducible refine k_assign ?_); refine m_assign rfl ?_)  | refine e_nrm ?_ | refine x_none rfl ?_ | with_reducible (first | refine q_then ?_ | refine awp_seq ?_ | refine awp_skip ?_ | refine awp_ret ?_) | ((with_reducible refine w_region ?_ ?_); kernel_rfl))
                refine ret0_2 (by first | exact .inr rfl | exact .inl rfl) rfl rfl rfl ?_
                repeat' (first | exact trivial | exact Ren.v _ | exact Ren.sl _ _ | exact Ren.ep _ | exact Ren.ptr _ _ _ _ rfl | exact Ren.bs _ _ _ _ _ rfl | exact Ren.nil _ | exact Ren.own _ _ _ _ ⟨_, rfl⟩ | refine ren_ag ?_ | refine ren_tu ?_ | refine ren_fn ?_ | refine ⟨?_, ?_⟩)
          · have e3 : tailP d [a, b, c, x, y] = (0, 2) := by
              show (if _ then _ else _) = ((0 : Int), (2 : Int))
              rw [if_neg (fun h => h58 h.1)]
            rw [e3]
            have q2 : ((c.toNat : Int) != 58) = true := by
              simp
              intro h
              exact h58 (UInt8.toNat_inj.1 (by show c.toNat = 58; omega))
            refine acalls_of tbOk (enter_of Tryz.func60 (by kernel_rfl) rfl) Tryz.func60 rfl _ Tryz.ntmps60 (Nat.le_of_ble_eq_true rfl) fun X hX => ?_
            subst hX
            repeat (first | ((with_reducible refine k_move ?_); refine m_move rfl ?_) | ((with_reducible refine k_assign ?_); refine m_assign rfl ?_)  | refine e_nrm ?_ | refine x_none rfl ?_ | with_reducible (first | refine q_then ?_ | refine awp_seq ?_) | ((with_reducible refine w_region ?_ ?_); kernel_rfl))
            refine zC (hcut) ?_
            repeat (first | ((with_reducible refine k_move ?_); refine m_move rfl ?_) | ((with_reducible refine k_assign ?_); refine m_assign rfl ?_) | ((with_reducible refine k_store ?_); refine m_store tbOk rfl rfl rfl rfl rfl rfl rfl (Nat.le_of_ble_eq_true rfl) rfl ?_) | ((with_reducible refine k_alloc ?_); refine x_alloc tbOk rfl rfl ?_) | ((with_reducible refine k_extract ?_); refine x_extract rfl rfl ?_)  | refine e_nrm ?_ | refine x_none rfl ?_ | with_reducible (first | refine q_then ?_ | refine awp_seq ?_) | ((with_reducible refine w_region ?_ ?_); kernel_rfl))
            refine zC (hN) ?_
            repeat (first | ((with_reducible refine k_move ?_); refine m_move rfl ?_) | ((with_reducible refine k_assign ?_); refine m_assign rfl ?_) | ((with_reducible refine k_load ?_); refine x_load_one tbOk rfl rfl rfl rfl rfl ?_) | ((with_reducible refine k_un ?_); refine x_not rfl ?_) | ((with_reducible refine k_extract ?_); refine x_extract rfl rfl ?_) | ((with_reducible refine k_pick ?_); refine m_pickf rfl (by first | rfl | assumption) rfl ?_) | ((with_reducible refine k_index ?_); refine x_index rfl rfl (by assumption) ?_) | ((with_reducible refine k_call ?_); refine x_len_str (by exact Tryz.underlying9) rfl ?_) | ((with_reducible refine k_bin ?_); refine m_binI rfl rfl rfl ?_)  | refine e_nrm ?_ | refine x_none rfl ?_ | refine x_run_f rfl rfl (by first | rfl | assumption) ?_ | with_reducible (first | refine q_then ?_ | refine q_then_ret ?_ | refine awp_seq ?_ | refine awp_ret ?_) | ((with_reducible refine w_region ?_ ?_); kernel_rfl) | refine w_cond_t rfl (by first | rfl | assumption) ?_)
            refine ret0_2 (by first | exact .inr rfl | exact .inl rfl) rfl rfl rfl ?_
            repeat' (first | exact trivial | exact Ren.v _ | exact Ren.sl _ _ | exact Ren.ep _ | exact Ren.ptr _ _ _ _ rfl | exact Ren.bs _ _ _ _ _ rfl | exact Ren.nil _ | exact Ren.own _ _ _ _ ⟨_, rfl⟩ | refine ren_ag ?_ | refine ren_tu ?_ | refine ren_fn ?_ | refine ⟨?_, ?_⟩)
      · rw [tailP_len h5]
        have q1 : (((ByteArray.mk r.toArray).size : Int) != 5) = true := by rw [hrl]; simp; omega
        refine acalls_of tbOk (enter_of Tryz.func60 (by kernel_rfl) rfl) Tryz.func60 rfl _ Tryz.ntmps60 (Nat.le_of_ble_eq_true rfl) fun X hX => ?_
        subst hX
        repeat (first | ((with_reducible refine k_move ?_); refine m_move rfl ?_) | ((with_reducible refine k_assign ?_); refine m_assign rfl ?_)  | refine e_nrm ?_ | refine x_none rfl ?_ | with_reducible (first | refine q_then ?_ | refine awp_seq ?_) | ((with_reducible refine w_region ?_ ?_); kernel_rfl))
        refine zC (cut_some_A s f r hc hm) ?_
        repeat (first | ((with_reducible refine k_move ?_); refine m_move rfl ?_) | ((with_reducible refine k_assign ?_); refine m_assign rfl ?_) | ((with_reducible refine k_store ?_); refine m_store tbOk rfl rfl rfl rfl rfl rfl rfl (Nat.le_of_ble_eq_true rfl) rfl ?_) | ((with_reducible refine k_alloc ?_); refine x_alloc tbOk rfl rfl ?_) | ((with_reducible refine k_extract ?_); refine x_extract rfl rfl ?_)  | refine e_nrm ?_ | refine x_none rfl ?_ | with_reducible (first | refine q_then ?_ | refine awp_seq ?_) | ((with_reducible refine w_region ?_ ?_); kernel_rfl))
        refine zC (hN) ?_
        repeat (first | ((with_reducible refine k_move ?_); refine m_move rfl ?_) | ((with_reducible refine k_assign ?_); refine m_assign rfl ?_) | ((with_reducible refine k_load ?_); refine x_load_one tbOk rfl rfl rfl rfl rfl ?_) | ((with_reducible refine k_un ?_); refine x_not rfl ?_) | ((with_reducible refine k_extract ?_); refine x_extract rfl rfl ?_) | ((with_reducible refine k_pick ?_); (first | refine m_pickt rfl (by first | rfl | assumption) rfl ?_ | refine m_pickf rfl (by first | rfl | assumption) rfl ?_)) | ((with_reducible refine k_call ?_); refine x_len_str (by exact Tryz.underlying9) rfl ?_) | ((with_reducible refine k_bin ?_); refine m_binI rfl rfl rfl ?_)  | refine e_nrm ?_ | refine x_none rfl ?_ | refine x_run_f rfl rfl (by first | rfl | assumption) ?_ | refine x_skip_f rfl rfl (by first | rfl | assumption) ?_ | with_reducible (first | refine q_then ?_ | refine q_then_ret ?_ | refine awp_seq ?_ | refine awp_ret ?_) | ((with_reducible refine w_region ?_ ?_); kernel_rfl) | refine w_cond_t rfl (by first | rfl | assumption) ?_)
        refine ret0_2 (by first | exact .inr rfl | exact .inl rfl) rfl rfl rfl ?_
        repeat' (first | exact trivial | exact Ren.v _ | exact Ren.sl _ _ | exact Ren.ep _ | exact Ren.ptr _ _ _ _ rfl | exact Ren.bs _ _ _ _ _ rfl | exact Ren.nil _ | exact Ren.own _ _ _ _ ⟨_, rfl⟩ | refine ren_ag ?_ | refine ren_tu ?_ | refine ren_fn ?_ | refine ⟨?_, ?_⟩)
end Go.Proofs.YtggagmafkdhjcaaGreatDoor
