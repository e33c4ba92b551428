/- calendar.Print, Parse and their references, strings.Cut at a slash, by the abstract machine; conditions: the table of powers stands. -/
import Derived.Test.YtggagmafkdhjcaaGreatDoorCdA
import Derived.Test.YtggagmafkdhjcaaGreatDoorAbsQ
set_option linter.unusedVariables false
set_option linter.unusedSimpArgs false
namespace Go.Proofs.YtggagmafkdhjcaaGreatDoor
open Go Go.RowKit
set_option maxRecDepth 10000
variable {G : Nat → Option (List Value)}
set_option maxHeartbeats 1000000 in
theorem print_A (t : Int) (hG : GPow G) : ACalls Tryz.prog G 26 [.v (.int .i64 t)] [] (.tu [.v (.string (printP t)), .v (.int .i64 (printE t))]) [] := by
  refine acalls_of tbOk (enter_of Tryz.func26 (by kernel_rfl) rfl) Tryz.func26 rfl _ Tryz.ntmps26 (Nat.le_of_ble_eq_true rfl) fun X hX => ?_
  subst hX
  repeat (first | ((with_reducible refine k_move ?_); refine m_move rfl ?_) | ((with_reducible refine k_assign ?_); refine m_assign rfl ?_)  | refine e_nrm ?_ | refine x_none rfl ?_ | with_reducible (first | refine q_then ?_ | refine awp_seq ?_) | ((with_reducible refine w_region ?_ ?_); kernel_rfl))
  refine x_call0 (csplit_A t) (by repeat' (first | exact trivial | exact Ren.v _ | refine ⟨?_, ?_⟩)) (by repeat' (first | exact trivial | exact RenB.v _ | refine renb_tu ?_ | refine ⟨?_, ?_⟩)) ?_
  repeat (first | ((with_reducible refine k_move ?_); refine m_move rfl ?_) | ((with_reducible refine k_assign ?_); refine m_assign rfl ?_) | ((with_reducible refine k_un ?_); refine x_not rfl ?_) | ((with_reducible refine k_extract ?_); refine x_extract rfl rfl ?_)  | refine e_nrm ?_ | refine x_none rfl ?_ | with_reducible (first | refine q_then ?_ | refine awp_seq ?_) | ((with_reducible refine w_region ?_ ?_); kernel_rfl))
  unfold printP printE
  refine w_cond rfl (fun hc => ?_) (fun hc => ?_)
  · have ne : ¬ timeB t = true := by rw [not_t hc]; decide
    rw [if_neg ne, if_neg ne]
    repeat (first | ((with_reducible refine k_assign ?_); refine m_assign rfl ?_)  | refine e_nrm ?_ | refine x_none rfl ?_ | with_reducible (first | refine q_then ?_ | refine q_then_ret ?_ | refine awp_seq ?_ | refine awp_ret ?_) | ((with_reducible refine w_region ?_ ?_); kernel_rfl))
    refine ret0_2 (by first | exact .inr rfl | exact .inl rfl) rfl rfl rfl ?_
    repeat' (first | exact trivial | exact Ren.v _ | refine ren_tu ?_ | refine ⟨?_, ?_⟩)
  · have e := not_f hc
    have hb := timeB_iff.1 e
    have d1 : 0 ≤ dayP t ∧ dayP t ≤ 16777216 := by unfold dayP; rw [if_pos e]; omega
    have d2 : 0 ≤ hourP t ∧ hourP t ≤ 100 := by unfold hourP; rw [if_pos e]; omega
    have d3 : 0 ≤ minP t ∧ minP t ≤ 100 := by unfold minP; rw [if_pos e]; omega
    rw [if_pos e, if_pos e]
    have z1 := txtP_size (n := dayP t) (by omega) (by omega)
    have z2 := twoP_size d2.1 d2.2
    have z3 := twoP_size d3.1 d3.2
    have y1 : (txtP (dayP t) ++ slashS).size ≤ 21 := by rw [ByteArray.size_append]; show _ + 1 ≤ _; omega
    have y2 : (txtP (dayP t) ++ slashS ++ twoP (hourP t)).size ≤ 42 := by rw [ByteArray.size_append]; omega
    have y3 : (txtP (dayP t) ++ slashS ++ twoP (hourP t) ++ colonS).size ≤ 43 := by rw [ByteArray.size_append]; show _ + 1 ≤ _; omega
    repeat (first | ((with_reducible refine k_move ?_); refine m_move rfl ?_)  | refine x_none rfl ?_ | with_reducible (first | refine q_then ?_ | refine awp_seq ?_ | refine awp_skip ?_) | ((with_reducible refine w_region ?_ ?_); kernel_rfl))
    refine x_call0 (text_A (dayP t) hG (by omega) (by omega)) (by repeat' (first | exact trivial | exact Ren.v _ | refine ⟨?_, ?_⟩)) (by repeat' exact RenB.v _) ?_
    repeat (first   | refine x_none rfl ?_  )
    refine x_add_s rfl rfl (by show _ + 1 ≤ _; omega) ?_
    repeat (first | ((with_reducible refine k_move ?_); refine m_move rfl ?_)  | refine x_none rfl ?_  )
    refine x_call0 (two_A (hourP t) hG d2.1 d2.2) (by repeat' (first | exact trivial | exact Ren.v _ | refine ⟨?_, ?_⟩)) (by repeat' exact RenB.v _) ?_
    repeat (first   | refine x_none rfl ?_  )
    refine x_add_s rfl rfl (by show (txtP (dayP t) ++ slashS).size + _ ≤ _; omega) ?_
    repeat (first   | refine x_none rfl ?_  )
    refine x_add_s rfl rfl (by show (txtP (dayP t) ++ slashS ++ twoP (hourP t)).size + 1 ≤ _; omega) ?_
    repeat (first | ((with_reducible refine k_move ?_); refine m_move rfl ?_)  | refine x_none rfl ?_  )
    refine x_call0 (two_A (minP t) hG d3.1 d3.2) (by repeat' (first | exact trivial | exact Ren.v _ | refine ⟨?_, ?_⟩)) (by repeat' exact RenB.v _) ?_
    repeat (first   | refine x_none rfl ?_  )
    refine x_add_s rfl rfl (by show (txtP (dayP t) ++ slashS ++ twoP (hourP t) ++ colonS).size + _ ≤ _; omega) ?_
    repeat (first | ((with_reducible refine k_assign ?_); refine m_assign rfl ?_)  | refine e_nrm ?_ | refine x_none rfl ?_ | with_reducible (first | refine q_then ?_ | refine awp_ret ?_) )
    refine ret0_2 (by first | exact .inr rfl | exact .inl rfl) rfl rfl rfl ?_
    repeat' (first | exact trivial | exact Ren.v _ | refine ren_tu ?_ | refine ⟨?_, ?_⟩)
set_option maxHeartbeats 1000000 in
theorem rprint_A (t : Int) (hG : GPow G) : ACalls Tryz.prog G 36 [.v (.int .i64 t)] [] (.tu [.v (.string (printP t)), .v (.int .i64 (printE t))]) [] := by
  refine acalls_of tbOk (enter_of Tryz.func36 (by kernel_rfl) rfl) Tryz.func36 rfl _ Tryz.ntmps36 (Nat.le_of_ble_eq_true rfl) fun X hX => ?_
  subst hX
  repeat (first | ((with_reducible refine k_move ?_); refine m_move rfl ?_) | ((with_reducible refine k_assign ?_); refine m_assign rfl ?_)  | refine e_nrm ?_ | refine x_none rfl ?_ | with_reducible (first | refine q_then ?_ | refine awp_seq ?_) | ((with_reducible refine w_region ?_ ?_); kernel_rfl))
  refine x_call0 (rcsplit_A t) (by repeat' (first | exact trivial | exact Ren.v _ | refine ⟨?_, ?_⟩)) (by repeat' (first | exact trivial | exact RenB.v _ | refine renb_tu ?_ | refine ⟨?_, ?_⟩)) ?_
  repeat (first | ((with_reducible refine k_move ?_); refine m_move rfl ?_) | ((with_reducible refine k_assign ?_); refine m_assign rfl ?_) | ((with_reducible refine k_un ?_); refine x_not rfl ?_) | ((with_reducible refine k_extract ?_); refine x_extract rfl rfl ?_)  | refine e_nrm ?_ | refine x_none rfl ?_ | with_reducible (first | refine q_then ?_ | refine awp_seq ?_) | ((with_reducible refine w_region ?_ ?_); kernel_rfl))
  unfold printP printE
  refine w_cond rfl (fun hc => ?_) (fun hc => ?_)
  · have ne : ¬ timeB t = true := by rw [not_t hc]; decide
    rw [if_neg ne, if_neg ne]
    repeat (first | ((with_reducible refine k_assign ?_); refine m_assign rfl ?_)  | refine e_nrm ?_ | refine x_none rfl ?_ | with_reducible (first | refine q_then ?_ | refine q_then_ret ?_ | refine awp_seq ?_ | refine awp_ret ?_) | ((with_reducible refine w_region ?_ ?_); kernel_rfl))
    refine ret0_2 (by first | exact .inr rfl | exact .inl rfl) rfl rfl rfl ?_
    repeat' (first | exact trivial | exact Ren.v _ | refine ren_tu ?_ | refine ⟨?_, ?_⟩)
  · have e := not_f hc
    have hb := timeB_iff.1 e
    have d1 : 0 ≤ dayP t ∧ dayP t ≤ 16777216 := by unfold dayP; rw [if_pos e]; omega
    have d2 : 0 ≤ hourP t ∧ hourP t ≤ 100 := by unfold hourP; rw [if_pos e]; omega
    have d3 : 0 ≤ minP t ∧ minP t ≤ 100 := by unfold minP; rw [if_pos e]; omega
    rw [if_pos e, if_pos e]
    have z1 := txtP_size (n := dayP t) (by omega) (by omega)
    have z2 := twoP_size d2.1 d2.2
    have z3 := twoP_size d3.1 d3.2
    have y1 : (txtP (dayP t) ++ slashS).size ≤ 21 := by rw [ByteArray.size_append]; show _ + 1 ≤ _; omega
    have y2 : (txtP (dayP t) ++ slashS ++ twoP (hourP t)).size ≤ 42 := by rw [ByteArray.size_append]; omega
    have y3 : (txtP (dayP t) ++ slashS ++ twoP (hourP t) ++ colonS).size ≤ 43 := by rw [ByteArray.size_append]; show _ + 1 ≤ _; omega
    repeat (first | ((with_reducible refine k_move ?_); refine m_move rfl ?_)  | refine x_none rfl ?_ | with_reducible (first | refine q_then ?_ | refine awp_seq ?_ | refine awp_skip ?_) | ((with_reducible refine w_region ?_ ?_); kernel_rfl))
    refine x_call0 (rtext_A (dayP t) (by omega) (by omega)) (by repeat' (first | exact trivial | exact Ren.v _ | refine ⟨?_, ?_⟩)) (by repeat' exact RenB.v _) ?_
    repeat (first   | refine x_none rfl ?_  )
    refine x_add_s rfl rfl (by show _ + 1 ≤ _; omega) ?_
    repeat (first | ((with_reducible refine k_move ?_); refine m_move rfl ?_)  | refine x_none rfl ?_  )
    refine x_call0 (rtwo_A (hourP t) d2.1 d2.2) (by repeat' (first | exact trivial | exact Ren.v _ | refine ⟨?_, ?_⟩)) (by repeat' exact RenB.v _) ?_
    repeat (first   | refine x_none rfl ?_  )
    refine x_add_s rfl rfl (by show (txtP (dayP t) ++ slashS).size + _ ≤ _; omega) ?_
    repeat (first   | refine x_none rfl ?_  )
    refine x_add_s rfl rfl (by show (txtP (dayP t) ++ slashS ++ twoP (hourP t)).size + 1 ≤ _; omega) ?_
    repeat (first | ((with_reducible refine k_move ?_); refine m_move rfl ?_)  | refine x_none rfl ?_  )
    refine x_call0 (rtwo_A (minP t) d3.1 d3.2) (by repeat' (first | exact trivial | exact Ren.v _ | refine ⟨?_, ?_⟩)) (by repeat' exact RenB.v _) ?_
    repeat (first   | refine x_none rfl ?_  )
    refine x_add_s rfl rfl (by show (txtP (dayP t) ++ slashS ++ twoP (hourP t) ++ colonS).size + _ ≤ _; omega) ?_
    repeat (first | ((with_reducible refine k_assign ?_); refine m_assign rfl ?_)  | refine e_nrm ?_ | refine x_none rfl ?_ | with_reducible (first | refine q_then ?_ | refine awp_ret ?_) )
    refine ret0_2 (by first | exact .inr rfl | exact .inl rfl) rfl rfl rfl ?_
    repeat' (first | exact trivial | exact Ren.v _ | refine ren_tu ?_ | refine ⟨?_, ?_⟩)
theorem tindex_A (s : ByteArray) : ACalls Tryz.prog G 118 [.v (.string s), .v (.string ⟨#[47]⟩)] [] (.v (.int .i64 (Lib.indexByte s.data.toList 47))) [] :=
  acalls_lib (vs := [.string s, .string ⟨#[47]⟩]) (enter_of Tryz.func118 (by kernel_rfl) rfl) (fun _ _ => .v _ _) (fun w hw => by
    refine (Tryz.stringslite_Index_one s 47 w).mono ?_
    rintro e w' ⟨rfl, rfl⟩
    exact ⟨rfl, Below.refl _ _⟩)
theorem ba_sub (s : ByteArray) (a b : Nat) : (s.extract a b).data.toList = (s.data.toList.take b).drop a := by
  rw [ByteArray.data_extract, Array.toList_extract, List.extract_eq_take_drop, List.drop_take]
theorem cut_none_A (s : ByteArray) (h : cutP s.data.toList = none) : ACalls Tryz.prog G 81 [.v (.string s), .v (.string ⟨#[47]⟩)] [] (.tu [.v (.string s), .v (.string ⟨#[]⟩), .v (.bool false)]) [] := by
  have hl : ACalls Tryz.prog G 104 [.v (.string s), .v (.string ⟨#[47]⟩)] [] (.tu [.v (.string s), .v (.string ⟨#[]⟩), .v (.bool false)]) [] := by
    have hi := tindex_A (G := G) s
    rw [idx_none h] at hi
    refine acalls_of tbOk (enter_of Tryz.func104 (by kernel_rfl) rfl) Tryz.func104 rfl _ Tryz.ntmps104 (Nat.le_of_ble_eq_true rfl) fun X hX => ?_
    subst hX
    repeat (first | ((with_reducible refine k_move ?_); refine m_move rfl ?_) | ((with_reducible refine k_assign ?_); refine m_assign rfl ?_)  | refine e_nrm ?_ | refine x_none rfl ?_ | with_reducible (first | refine q_then ?_ | refine awp_seq ?_) | ((with_reducible refine w_region ?_ ?_); kernel_rfl))
    refine x_call0 (hi) (by repeat' (first | exact trivial | exact Ren.v _ | refine ⟨?_, ?_⟩)) (by repeat' exact RenB.v _) ?_
    repeat (first | ((with_reducible refine k_move ?_); refine m_move rfl ?_) | ((with_reducible refine k_assign ?_); refine m_assign rfl ?_) | ((with_reducible refine k_bin ?_); refine m_binI rfl rfl rfl ?_)  | refine e_nrm ?_ | refine x_none rfl ?_ | with_reducible (first | refine q_then ?_ | refine awp_seq ?_ | refine awp_skip ?_ | refine awp_ret ?_) | ((with_reducible refine w_region ?_ ?_); kernel_rfl) | refine w_cond_f rfl (by first | rfl | assumption) ?_)
    refine ret0_3 (by first | exact .inr rfl | exact .inl rfl) rfl rfl rfl rfl ?_
    repeat' (first | exact trivial | exact Ren.v _ | refine ren_tu ?_ | refine ⟨?_, ?_⟩)
  refine acalls_of tbOk (enter_of Tryz.func81 (by kernel_rfl) rfl) Tryz.func81 rfl _ Tryz.ntmps81 (Nat.le_of_ble_eq_true rfl) fun X hX => ?_
  subst hX
  repeat (first | ((with_reducible refine k_move ?_); refine m_move rfl ?_) | ((with_reducible refine k_assign ?_); refine m_assign rfl ?_)  | refine e_nrm ?_ | refine x_none rfl ?_ | with_reducible (first | refine q_then ?_ | refine awp_seq ?_) | ((with_reducible refine w_region ?_ ?_); kernel_rfl))
  refine x_call0 (hl) (by repeat' (first | exact trivial | exact Ren.v _ | refine ⟨?_, ?_⟩)) (by repeat' (first | exact trivial | exact RenB.v _ | refine renb_tu ?_ | refine ⟨?_, ?_⟩)) ?_
  repeat (first | ((with_reducible refine k_assign ?_); refine m_assign rfl ?_) | ((with_reducible refine k_extract ?_); refine x_extract rfl rfl ?_)  | refine e_nrm ?_ | refine x_none rfl ?_ | with_reducible (first | refine q_then ?_ | refine awp_ret ?_) )
  refine ret0_3 (by first | exact .inr rfl | exact .inl rfl) rfl rfl rfl rfl ?_
  repeat' (first | exact trivial | exact Ren.v _ | refine ren_tu ?_ | refine ⟨?_, ?_⟩)
theorem cut_some_A (s : ByteArray) (f r : List UInt8) (h : cutP s.data.toList = some (f, r)) (hm : s.size ≤ maxLen) : ACalls Tryz.prog G 81 [.v (.string s), .v (.string ⟨#[47]⟩)] [] (.tu [.v (.string ⟨f.toArray⟩), .v (.string ⟨r.toArray⟩), .v (.bool true)]) [] := by
  have hl : ACalls Tryz.prog G 104 [.v (.string s), .v (.string ⟨#[47]⟩)] [] (.tu [.v (.string ⟨f.toArray⟩), .v (.string ⟨r.toArray⟩), .v (.bool true)]) [] := by
    have hi := tindex_A (G := G) s
    rw [idx_some h] at hi
    obtain ⟨h1, h2⟩ := cutP_some h
    have hz := nsizeS s
    have hz2 := congrArg List.length h1
    rw [List.length_append, List.length_cons] at hz2
    unfold maxLen at hm
    have q : decide ((f.length : Int) ≥ 0) = true := by simp
    have e1 : s.extract (0 : Int).toNat ((f.length : Int)).toNat = ⟨f.toArray⟩ := by
      refine ba_ext ?_
      rw [ba_sub, h1]
      simp
    have hsz1 : ((ByteArray.mk #[47]).size : Int) = 1 := rfl
    have e2 : s.extract ((f.length : Int) + ((ByteArray.mk #[47]).size : Int)).toNat ((s.size : Int)).toNat = ⟨r.toArray⟩ := by
      refine ba_ext ?_
      rw [ba_sub, List.take_of_length_le (by rw [← hz]; simp), h1]
      have e : ((f.length : Int) + ((ByteArray.mk #[47]).size : Int)).toNat = f.length + 1 := by omega
      rw [e]
      simp [List.drop_append]
    refine acalls_of tbOk (enter_of Tryz.func104 (by kernel_rfl) rfl) Tryz.func104 rfl _ Tryz.ntmps104 (Nat.le_of_ble_eq_true rfl) fun X hX => ?_
    subst hX
    repeat (first | ((with_reducible refine k_move ?_); refine m_move rfl ?_) | ((with_reducible refine k_assign ?_); refine m_assign rfl ?_)  | refine e_nrm ?_ | refine x_none rfl ?_ | with_reducible (first | refine q_then ?_ | refine awp_seq ?_) | ((with_reducible refine w_region ?_ ?_); kernel_rfl))
    refine x_call0 (hi) (by repeat' (first | exact trivial | exact Ren.v _ | refine ⟨?_, ?_⟩)) (by repeat' exact RenB.v _) ?_
    repeat (first | ((with_reducible refine k_move ?_); refine m_move rfl ?_) | ((with_reducible refine k_assign ?_); refine m_assign rfl ?_) | ((with_reducible refine k_slice ?_); refine x_sliceS (by exact Tryz.underlying9) rfl rfl rfl (by refine ⟨?_, ?_, ?_⟩ <;> omega) ?_) | ((with_reducible refine k_call ?_); refine x_len_str (by exact Tryz.underlying9) rfl ?_) | ((with_reducible refine k_bin ?_); (first | refine x_add_in rfl rfl (by omega) ?_ | refine m_binI rfl rfl rfl ?_))  | refine e_nrm ?_ | refine e_drw (by kernel_rfl) ?_ | refine x_none rfl ?_ | with_reducible (first | refine q_then ?_ | refine q_then_ret ?_ | refine awp_seq ?_ | refine awp_ret ?_) | ((with_reducible refine w_region ?_ ?_); kernel_rfl) | ((with_reducible refine w_draw mixd ?_ ?_); kernel_rfl) | refine w_cond_t rfl (by first | rfl | assumption) ?_)
    refine ret0_3 (by first | exact .inr rfl | exact .inl rfl) rfl rfl rfl rfl ?_
    rw [e1, e2]
    repeat' (first | exact trivial | exact Ren.v _ | refine ren_tu ?_ | refine ⟨?_, ?_⟩)
  refine acalls_of tbOk (enter_of Tryz.func81 (by kernel_rfl) rfl) Tryz.func81 rfl _ Tryz.ntmps81 (Nat.le_of_ble_eq_true rfl) fun X hX => ?_
  subst hX
  repeat (first | ((with_reducible refine k_move ?_); refine m_move rfl ?_) | ((with_reducible refine k_assign ?_); refine m_assign rfl ?_)  | refine e_nrm ?_ | refine x_none rfl ?_ | with_reducible (first | refine q_then ?_ | refine awp_seq ?_) | ((with_reducible refine w_region ?_ ?_); kernel_rfl))
  refine x_call0 (hl) (by repeat' (first | exact trivial | exact Ren.v _ | refine ⟨?_, ?_⟩)) (by repeat' (first | exact trivial | exact RenB.v _ | refine renb_tu ?_ | refine ⟨?_, ?_⟩)) ?_
  repeat (first | ((with_reducible refine k_assign ?_); refine m_assign rfl ?_) | ((with_reducible refine k_extract ?_); refine x_extract rfl rfl ?_)  | refine e_nrm ?_ | refine x_none rfl ?_ | with_reducible (first | refine q_then ?_ | refine awp_ret ?_) )
  refine ret0_3 (by first | exact .inr rfl | exact .inl rfl) rfl rfl rfl rfl ?_
  repeat' (first | exact trivial | exact Ren.v _ | refine ren_tu ?_ | refine ⟨?_, ?_⟩)
theorem posAt {k : Nat} (hk : k < 4) (a b c x y : UInt8) : ∃ (p : Nat) (q : UInt8), ([.v (.int .i64 0), .v (.int .i64 1), .v (.int .i64 3), .v (.int .i64 4)] : List AV)[k]? = some (.v (.int .i64 p)) ∧ [a, b, c, x, y][p]? = some q ∧ [a, b, x, y][k]? = some q := by
  obtain rfl | rfl | rfl | rfl : k = 0 ∨ k = 1 ∨ k = 2 ∨ k = 3 := by omega
  · exact ⟨0, a, rfl, rfl, rfl⟩
  · exact ⟨1, b, rfl, rfl, rfl⟩
  · exact ⟨3, x, rfl, rfl, rfl⟩
  · exact ⟨4, y, rfl, rfl, rfl⟩
theorem digits_A (r : ByteArray) (i : Int) (c1 c2 : UInt8) (h0 : 0 ≤ i) (h3 : i ≤ 3) (h1 : ∀ w : World, (Instr.index 9 (.string r) (.int .i64 i)).run Tryz.prog w = .ok (.int .u8 (c1.toNat : Int)) w)
    (h2 : ∀ w : World, (Instr.index 9 (.string r) (.int .i64 (i + 1))).run Tryz.prog w = .ok (.int .u8 (c2.toNat : Int)) w) (d1 : isDig c1 = true) (d2 : isDig c2 = true) :
    ACalls Tryz.prog G 82 [.v (.int .i64 i), .ptr (refB + 0) 0 0] [[.v (.string r)]] (.v (.int .i64 (dig c1 * 10 + dig c2))) [[.v (.string r)]] := by
  obtain ⟨a1, a2, a3⟩ := dig_rng d1
  obtain ⟨b1, b2, b3⟩ := dig_rng d2
  rw [a3] at h1
  rw [b3] at h2
  have w1 : IntKind.u8.wrap (dig c1 + 48 - 48) = dig c1 := (wrap_u8_in (by omega)).trans (by omega)
  have w2 : IntKind.u8.wrap (dig c2 + 48 - 48) = dig c2 := (wrap_u8_in (by omega)).trans (by omega)
  have w3 : IntKind.i64.wrap (dig c1 * 10) = dig c1 * 10 := wrap_i64_in (by omega)
  refine acalls_of tbOk (enter_of Tryz.func82 (by kernel_rfl) rfl) Tryz.func82 rfl _ Tryz.ntmps82 (Nat.le_of_ble_eq_true rfl) fun X hX => ?_
  subst hX
  repeat (first | ((with_reducible refine k_move ?_); refine m_move rfl ?_) | ((with_reducible refine k_assign ?_); refine m_assign rfl ?_) | ((with_reducible refine k_load ?_); refine x_load_one tbOk rfl rfl rfl rfl rfl ?_) | ((with_reducible refine k_index ?_); refine x_index rfl rfl (by assumption) ?_) | ((with_reducible refine k_convert ?_); refine x_conv_in tbOk rfl rfl rfl (by first | assumption | exact wrap_u64_in (by omega) | exact wrap_i64_in (by omega) | exact wrap_u8_in (by omega)) ?_) | ((with_reducible refine k_bin ?_); (first | refine x_add_in rfl rfl (by omega) ?_ | refine m_binI rfl rfl rfl ?_))  | refine e_nrm ?_ | refine e_drw (by kernel_rfl) ?_ | refine x_none rfl ?_ | with_reducible (first | refine q_then ?_ | refine awp_seq ?_ | refine awp_ret ?_) | ((with_reducible refine w_region ?_ ?_); kernel_rfl) | ((with_reducible refine w_draw mixd ?_ ?_); kernel_rfl))
  rw [w1, w2, w3]
  refine ret1_v (by first | exact .inr rfl | exact .inl rfl) rfl rfl rfl (by first | rfl | assumption) ?_ ?_ (by repeat' (first | exact trivial | exact Ren.v _ | refine ⟨?_, ?_⟩))
  · rw [wrap_i64_in (by omega)]
  · rfl
end Go.Proofs.YtggagmafkdhjcaaGreatDoor
