/- slices.SortFunc at spans of time, where there are few; its copy; by the abstract machine; conditions: none. -/
import Derived.Test.YtdejgacclogaiaaDoorIsA
import Derived.Test.YtdejgacclogaiaaDoorAbsN
import Derived.Test.YtdejgacclogaiaaDoorShelf
set_option linter.unusedVariables false
set_option linter.unusedSimpArgs false
namespace Go.Proofs.YtdejgacclogaiaaDoor
open Go Go.RowKit
set_option maxRecDepth 10000
variable {G : Nat → Option (List Value)}
theorem bitsLen_A (n : Int) (h0 : 0 ≤ n) (h1 : n ≤ 18446744073709551615) : ACalls Tryd.prog G 53 [.v (.int .u64 n)] [] (.v (.int .i64 (Lib.bitLen n.toNat))) [] :=
  acalls_lib (vs := [.int .u64 n]) (enter_of Tryd.func53 (by kernel_rfl) rfl) (fun _ _ => .v _ _) (fun w hw => by
    refine (Tryd.bits_Len n w h0 h1).mono ?_
    rintro e w' ⟨rfl, rfl⟩
    exact ⟨rfl, Below.refl _ _⟩)
theorem pdq_A (L : List Spn) (J : List AV) (lim : Int) (hJ : ∀ x ∈ J, x = AV.junk) (hm : L.length ≤ 12) : ACalls Tryd.prog G 52 [.bs (refB + 0) 0 2 L.length, .v (.int .i64 0), .v (.int .i64 L.length), .v (.int .i64 lim), .fn 47 []] [bsC (L.map Spn.av) J] (.tu []) [bsC ((isort ltS L).map Spn.av) J] := by
  have hpu : ∀ (R : List Spn), ∀ x ∈ R.map Spn.av, pureL x.cells = true := fun R x hx => by
    obtain ⟨y, -, rfl⟩ := List.mem_map.1 hx
    rfl
  have q1 : decide ((L.length : Int) ≤ 12) = true := by simp; omega
  have q0 : (L.length : Int) - 0 = L.length := by omega
  refine acalls_of tbOk (enter_of Tryd.func52 (by kernel_rfl) rfl) Tryd.func52 rfl _ Tryd.ntmps52 (Nat.le_of_ble_eq_true rfl) fun X hX => ?_
  subst hX
  repeat (first | ((with_reducible refine k_assign ?_); refine m_assign rfl ?_)  | refine e_nrm ?_ | refine x_none rfl ?_ | with_reducible refine q_then ?_ | with_reducible refine awp_seq ?_ | with_reducible refine awp_block ?_ | ((with_reducible refine w_region ?_ ?_); kernel_rfl))
  refine awp_loopv (ι := Unit) (fun v i => v (refB + 0) = 0) (fun i => 0) (fun v i => [(0, .bs (refB + 0) (v (refB + 0)) 2 L.length), (1, .v (.int .i64 0)), (2, .v (.int .i64 L.length)), (3, .v (.int .i64 lim)), (4, .fn 47 [])]) (fun v i => [(refB + 0, .box (bsC (L.map Spn.av) J))]) ?_ ?_
  · exact ⟨(), rfl, trivial, ⟨rfl, rfl, rfl, rfl, rfl, trivial⟩, ⟨rfl, trivial⟩⟩
  rintro v ⟨⟩ hv0
  repeat (first | ((with_reducible refine k_move ?_); refine m_move rfl ?_) | ((with_reducible refine k_assign ?_); refine m_assign rfl ?_) | ((with_reducible refine k_bin ?_); refine x_sub_in rfl rfl (by omega) ?_) | ((with_reducible refine k_bin ?_); refine m_binI rfl rfl rfl ?_)  | refine e_nrm ?_ | refine x_none rfl ?_ | with_reducible refine q_then ?_ | with_reducible refine awp_seq ?_ | with_reducible refine awp_block ?_ | ((with_reducible refine w_region ?_ ?_); kernel_rfl) | refine w_cond_t rfl (by first | rfl | assumption) ?_)
  rw [q0]
  repeat (first | fail    )
  with_reducible refine k_call ?_
  refine x_call (y := .tu []) (ss := [(refB + 0, v (refB + 0))]) (ins_A L J hJ (by omega)) (by repeat' (first | exact trivial | exact Ren.v _ | exact Ren.sl _ _ | exact Ren.ep _ | exact Ren.ptr _ _ _ _ rfl | exact Ren.bs _ _ _ _ _ rfl | exact Ren.nil _ | exact Ren.own _ _ _ _ ⟨_, rfl⟩ | refine ren_ag ?_ | refine ren_tu ?_ | refine ren_fn ?_ | refine ⟨?_, ?_⟩)) (by simp) (in1_pj rfl (bsC_pj (hpu _) hJ)) rfl (back1_pj (bsC_pj (hpu _) hJ)) (by repeat' (first | exact trivial | exact RenB.v _ | exact RenB.sl _ _ | exact RenB.ep _ | exact RenB.ptr _ _ _ _ rfl | refine renb_ag ?_ | refine renb_tu ?_ | refine ⟨?_, ?_⟩)) ?_
  repeat (first   | refine e_nrm ?_ | with_reducible refine q_then ?_ | with_reducible refine q_then_ret ?_ | with_reducible refine q_block_ret ?_ | with_reducible refine awp_ret ?_ )
  refine ret1 (by first | exact .inr rfl | exact .inl rfl) (xs := []) ?_ (by repeat' (first | exact trivial | exact Ren.v _ | exact Ren.sl _ _ | exact Ren.ep _ | exact Ren.ptr _ _ _ _ rfl | exact Ren.bs _ _ _ _ _ rfl | exact Ren.nil _ | exact Ren.own _ _ _ _ ⟨_, rfl⟩ | refine ren_ag ?_ | refine ren_tu ?_ | refine ren_fn ?_ | refine ⟨?_, ?_⟩)) rfl hv0 (renl_pj (bsC_pj (hpu _) hJ))
  trivial
theorem sortf_A (L : List Spn) (J : List AV) (hJ : ∀ x ∈ J, x = AV.junk) (hm : L.length ≤ 12) : ACalls Tryd.prog G 46 [.bs (refB + 0) 0 2 L.length, .fn 47 []] [bsC (L.map Spn.av) J] (.tu []) [bsC ((isort ltS L).map Spn.av) J] := by
  have hpu : ∀ (R : List Spn), ∀ x ∈ R.map Spn.av, pureL x.cells = true := fun R x hx => by
    obtain ⟨y, -, rfl⟩ := List.mem_map.1 hx
    rfl
  refine acalls_of tbOk (enter_of Tryd.func46 (by kernel_rfl) rfl) Tryd.func46 rfl _ Tryd.ntmps46 (Nat.le_of_ble_eq_true rfl) fun X hX => ?_
  subst hX
  repeat (first | ((with_reducible refine k_move ?_); refine m_move rfl ?_)  | refine x_none rfl ?_ | with_reducible refine awp_seq ?_ | ((with_reducible refine w_region ?_ ?_); kernel_rfl))
  with_reducible refine k_call ?_
  refine x_len_bs tbOk rfl rfl ?_
  repeat (first | ((with_reducible refine k_move ?_); refine m_move rfl ?_) | ((with_reducible refine k_assign ?_); refine m_assign rfl ?_) | ((with_reducible refine k_convert ?_); refine x_conv_in tbOk rfl rfl rfl (by first | assumption | exact wrap_u64_in (by omega) | exact wrap_i64_in (by omega) | exact wrap_u8_in (by omega)) ?_)  | refine e_nrm ?_ | refine x_none rfl ?_ | with_reducible refine q_then ?_ | ((with_reducible refine w_region ?_ ?_); kernel_rfl))
  refine x_call0 (bitsLen_A (L.length : Int) (by omega) (by omega)) (by repeat' (first | exact trivial | exact Ren.v _ | exact Ren.sl _ _ | exact Ren.ep _ | exact Ren.ptr _ _ _ _ rfl | exact Ren.bs _ _ _ _ _ rfl | exact Ren.nil _ | exact Ren.own _ _ _ _ ⟨_, rfl⟩ | refine ren_ag ?_ | refine ren_tu ?_ | refine ren_fn ?_ | refine ⟨?_, ?_⟩)) (by repeat' (first | exact trivial | exact RenB.v _ | exact RenB.sl _ _ | exact RenB.ep _ | exact RenB.ptr _ _ _ _ rfl | refine renb_ag ?_ | refine renb_tu ?_ | refine ⟨?_, ?_⟩)) ?_
  repeat (first | ((with_reducible refine k_move ?_); refine m_move rfl ?_)  | refine x_none rfl ?_  )
  with_reducible refine k_call ?_
  refine x_call (y := .tu []) (ss := [(refB + 0, 0)]) (pdq_A L J _ hJ hm) (by repeat' (first | exact trivial | exact Ren.v _ | exact Ren.sl _ _ | exact Ren.ep _ | exact Ren.ptr _ _ _ _ rfl | exact Ren.bs _ _ _ _ _ rfl | exact Ren.nil _ | exact Ren.own _ _ _ _ ⟨_, rfl⟩ | refine ren_ag ?_ | refine ren_tu ?_ | refine ren_fn ?_ | refine ⟨?_, ?_⟩)) (by simp) (in1_pj rfl (bsC_pj (hpu _) hJ)) rfl (back1_pj (bsC_pj (hpu _) hJ)) (by repeat' (first | exact trivial | exact RenB.v _ | exact RenB.sl _ _ | exact RenB.ep _ | exact RenB.ptr _ _ _ _ rfl | refine renb_ag ?_ | refine renb_tu ?_ | refine ⟨?_, ?_⟩)) ?_
  repeat (first   | refine e_nrm ?_  )
  refine ret1 (by first | exact .inr rfl | exact .inl rfl) (xs := []) ?_ (by repeat' (first | exact trivial | exact Ren.v _ | exact Ren.sl _ _ | exact Ren.ep _ | exact Ren.ptr _ _ _ _ rfl | exact Ren.bs _ _ _ _ _ rfl | exact Ren.nil _ | exact Ren.own _ _ _ _ ⟨_, rfl⟩ | refine ren_ag ?_ | refine ren_tu ?_ | refine ren_fn ?_ | refine ⟨?_, ?_⟩)) rfl rfl (renl_pj (bsC_pj (hpu _) hJ))
  trivial
end Go.Proofs.YtdejgacclogaiaaDoor
