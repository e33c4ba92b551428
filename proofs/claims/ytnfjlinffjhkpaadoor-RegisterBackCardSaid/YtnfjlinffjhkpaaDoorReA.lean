/- slices.SortFunc at people, where there are few, by the abstract machine; conditions: none. -/
import Derived.Test.YtnfjlinffjhkpaaDoorAbsW
import Derived.Test.YtnfjlinffjhkpaaDoorAbsN
import Derived.Test.YtnfjlinffjhkpaaDoorShelf
import Derived.Test.YtnfjlinffjhkpaaDoorIsP
import Derived.Test.YtnfjlinffjhkpaaDoorRgE
set_option linter.unusedVariables false
set_option linter.unusedSimpArgs false
namespace Go.Proofs.YtnfjlinffjhkpaaDoor
open Go Go.RowKit
set_option maxRecDepth 10000
variable {G : Nat → Option (List Value)}
def cmpT (a b : ByteArray) : Int := if strLt a b = true then -1 else if strLt b a = true then 1 else 0
def cmpP (a b : Per) : Int := cmpT a.n b.n
def ltP (a b : Per) : Bool := decide (cmpP a b < 0)
theorem ltP_eq (a b : Per) : ltP a b = strLt a.n b.n := by
  unfold ltP cmpP cmpT
  cases h : strLt a.n b.n
  · cases h2 : strLt b.n a.n <;> rfl
  · rfl
theorem isNaN_A (n : ByteArray) : ACalls Tryd.prog G 37 [.v (.string n)] [] (.v (.bool false)) [] := by
  have q : (!strEq n n) = false := by rw [strEq_iff.2 rfl]; rfl
  refine acalls_of tbOk (enter_of Tryd.func37 (by kernel_rfl) rfl) Tryd.func37 rfl _ Tryd.ntmps37 (Nat.le_of_ble_eq_true rfl) fun X hX => ?_
  subst hX
  repeat' (first | ((with_reducible refine k_move ?_); refine m_move rfl ?_) | ((with_reducible refine k_assign ?_); refine m_assign rfl ?_) | ((with_reducible refine k_bin ?_); refine m_binS rfl rfl rfl ?_)  | refine e_nrm ?_ | refine x_none rfl ?_ | with_reducible refine q_then ?_ | with_reducible refine awp_seq ?_ | with_reducible refine awp_ret ?_ | ((with_reducible refine w_region ?_ ?_); kernel_rfl) | refine x_split rfl rfl (fun _ => ?_) (fun _ => ?_) | refine w_cond rfl (fun _ => ?_) (fun _ => ?_))
  refine ret_v (by first | exact .inr rfl | exact .inl rfl) rfl rfl ?_
  first | rfl | simp [strEq_iff.2 rfl]
theorem compare_A (a b : ByteArray) : ACalls Tryd.prog G 26 [.v (.string a), .v (.string b)] [] (.v (.int .i64 (cmpT a b))) [] := by
  refine acalls_of tbOk (enter_of Tryd.func26 (by kernel_rfl) rfl) Tryd.func26 rfl _ Tryd.ntmps26 (Nat.le_of_ble_eq_true rfl) fun X hX => ?_
  subst hX
  repeat (first | ((with_reducible refine k_move ?_); refine m_move rfl ?_) | ((with_reducible refine k_assign ?_); refine m_assign rfl ?_)  | refine e_nrm ?_ | refine x_none rfl ?_ | with_reducible refine q_then ?_ | with_reducible refine awp_seq ?_ | ((with_reducible refine w_region ?_ ?_); kernel_rfl))
  refine x_call0 (isNaN_A a) (by repeat' (first | exact trivial | exact Ren.v _ | exact Ren.sl _ _ | exact Ren.ep _ | exact Ren.ptr _ _ _ _ rfl | exact Ren.bs _ _ _ _ _ rfl | exact Ren.nil _ | exact Ren.own _ _ _ _ ⟨_, rfl⟩ | refine ren_ag ?_ | refine ren_tu ?_ | refine ren_fn ?_ | refine ⟨?_, ?_⟩)) (by repeat' (first | exact trivial | exact RenB.v _ | exact RenB.sl _ _ | exact RenB.ep _ | exact RenB.ptr _ _ _ _ rfl | refine renb_ag ?_ | refine renb_tu ?_ | refine ⟨?_, ?_⟩)) ?_
  repeat (first | ((with_reducible refine k_move ?_); refine m_move rfl ?_) | ((with_reducible refine k_assign ?_); refine m_assign rfl ?_)  | refine e_nrm ?_ | refine x_none rfl ?_ | with_reducible refine q_then ?_ | with_reducible refine awp_seq ?_ | ((with_reducible refine w_region ?_ ?_); kernel_rfl))
  refine x_call0 (isNaN_A b) (by repeat' (first | exact trivial | exact Ren.v _ | exact Ren.sl _ _ | exact Ren.ep _ | exact Ren.ptr _ _ _ _ rfl | exact Ren.bs _ _ _ _ _ rfl | exact Ren.nil _ | exact Ren.own _ _ _ _ ⟨_, rfl⟩ | refine ren_ag ?_ | refine ren_tu ?_ | refine ren_fn ?_ | refine ⟨?_, ?_⟩)) (by repeat' (first | exact trivial | exact RenB.v _ | exact RenB.sl _ _ | exact RenB.ep _ | exact RenB.ptr _ _ _ _ rfl | refine renb_ag ?_ | refine renb_tu ?_ | refine ⟨?_, ?_⟩)) ?_
  repeat' (first | ((with_reducible refine k_move ?_); refine m_move rfl ?_) | ((with_reducible refine k_assign ?_); refine m_assign rfl ?_) | ((with_reducible refine k_bin ?_); refine m_binS rfl rfl rfl ?_)  | refine e_nrm ?_ | refine x_none rfl ?_ | with_reducible refine q_then ?_ | with_reducible refine q_then_ret ?_ | with_reducible refine awp_seq ?_ | with_reducible refine awp_skip ?_ | with_reducible refine awp_ret ?_ | ((with_reducible refine w_region ?_ ?_); kernel_rfl) | refine w_cond_f rfl (by first | rfl | assumption) ?_ | refine x_split rfl rfl (fun _ => ?_) (fun _ => ?_) | refine w_cond rfl (fun _ => ?_) (fun _ => ?_))
  all_goals refine ret_v (by first | exact .inr rfl | exact .inl rfl) rfl rfl ?_
  all_goals (unfold cmpT; simp_all)
  · rename_i h1 h2
    have h3 := lt_eq a b
    have h4 : strEq b a = false := by
      rw [Bool.eq_false_iff]
      intro h
      have := strEq_iff.1 h
      rw [this, strEq_iff.2 rfl] at h2
      cases h2
    rw [h1, h4] at h3
    simpa using h3.symm
  · rename_i h1 h2
    have := strEq_iff.1 h2
    subst this
    exact h1
theorem pcmp_A (x y : Per) : ACalls Tryd.prog G 25 [x.av, y.av] [] (.v (.int .i64 (cmpP x y))) [] := by
  refine acalls_of tbOk (enter_of Tryd.func25 (by kernel_rfl) rfl) Tryd.func25 rfl _ Tryd.ntmps25 (Nat.le_of_ble_eq_true rfl) fun X hX => ?_
  subst hX
  repeat (first | ((with_reducible refine k_assign ?_); refine m_assign rfl ?_) | ((with_reducible refine k_fieldAddr ?_); refine x_fieldAddr_ptr tbOk rfl rfl rfl rfl ?_) | ((with_reducible refine k_load ?_); refine x_load_one tbOk rfl rfl rfl rfl rfl ?_) | ((with_reducible refine k_box ?_); refine m_box rfl rfl rfl ?_)  | refine e_nrm ?_ | refine x_none rfl ?_ | with_reducible refine q_then ?_ | with_reducible refine awp_seq ?_ | ((with_reducible refine w_region ?_ ?_); kernel_rfl))
  refine x_call0 (compare_A x.n y.n) (by repeat' (first | exact trivial | exact Ren.v _ | exact Ren.sl _ _ | exact Ren.ep _ | exact Ren.ptr _ _ _ _ rfl | exact Ren.bs _ _ _ _ _ rfl | exact Ren.nil _ | exact Ren.own _ _ _ _ ⟨_, rfl⟩ | refine ren_ag ?_ | refine ren_tu ?_ | refine ren_fn ?_ | refine ⟨?_, ?_⟩)) (by repeat' (first | exact trivial | exact RenB.v _ | exact RenB.sl _ _ | exact RenB.ep _ | exact RenB.ptr _ _ _ _ rfl | refine renb_ag ?_ | refine renb_tu ?_ | refine ⟨?_, ?_⟩)) ?_
  repeat (first | ((with_reducible refine k_assign ?_); refine m_assign rfl ?_)  | refine e_nrm ?_ | refine x_none rfl ?_ | with_reducible refine q_then ?_ | with_reducible refine awp_ret ?_ )
  refine ret_v (by first | exact .inr rfl | exact .inl rfl) rfl rfl ?_
  rfl
theorem bitsLen_A (n : Int) (h0 : 0 ≤ n) (h1 : n ≤ 18446744073709551615) : ACalls Tryd.prog G 36 [.v (.int .u64 n)] [] (.v (.int .i64 (Lib.bitLen n.toNat))) [] :=
  acalls_lib (vs := [.int .u64 n]) (enter_of Tryd.func36 (by kernel_rfl) rfl) (fun _ _ => .v _ _) (fun w hw => by
    refine (Tryd.bits_Len n w h0 h1).mono ?_
    rintro e w' ⟨rfl, rfl⟩
    exact ⟨rfl, Below.refl _ _⟩)
theorem pcmpD (x y : Per) : decide (cmpP x y < 0) = ltP x y := rfl
set_option maxHeartbeats 4000000 in
theorem pins_A (L : List Per) (J : List AV) (hJ : ∀ x ∈ J, x = AV.junk) (hm : L.length ≤ 100000) : ACalls Tryd.prog G 41 [.bs (refB + 0) 0 5 L.length, .v (.int .i64 0), .v (.int .i64 L.length), .fn 25 []] [bsC (L.map Per.av) J] (.tu []) [bsC ((isort ltP L).map Per.av) J] := by
  have hsz : ∀ (R : List Per), ∀ x ∈ R.map Per.av, x.cells.length = 5 := fun R x hx => by
    obtain ⟨y, -, rfl⟩ := List.mem_map.1 hx
    rfl
  have hpu : ∀ (R : List Per), ∀ x ∈ R.map Per.av, pureL x.cells = true := fun R x hx => by
    obtain ⟨y, -, rfl⟩ := List.mem_map.1 hx
    rfl
  have hgt : ∀ (R : List Per) (j : Nat) (x : Per), R[j]? = some x → (R.map Per.av)[j]? = some (Per.av x) := fun R j x hx => by rw [List.getElem?_map, hx]; rfl
  refine acalls_of tbOk (enter_of Tryd.func41 (by kernel_rfl) rfl) Tryd.func41 rfl _ Tryd.ntmps41 (Nat.le_of_ble_eq_true rfl) fun X hX => ?_
  subst hX
  repeat (first | ((with_reducible refine k_move ?_); refine m_move rfl ?_) | ((with_reducible refine k_assign ?_); refine m_assign rfl ?_) | ((with_reducible refine k_bin ?_); refine x_add_in rfl rfl (by omega) ?_)  | refine e_nrm ?_ | refine x_none rfl ?_ | with_reducible refine q_then ?_ | with_reducible refine awp_seq ?_ | with_reducible refine awp_block ?_ | ((with_reducible refine w_region ?_ ?_); kernel_rfl))
  refine awp_loopv (ι := Nat) (fun v i => v (refB + 0) = 0 ∧ 1 ≤ i ∧ (i ≤ L.length ∨ i = 1)) (fun i => L.length + 1 - i) (fun v i => [(0, .bs (refB + 0) (v (refB + 0)) 5 L.length), (1, .v (.int .i64 0)), (2, .v (.int .i64 L.length)), (3, .fn 25 []), (8, .v (.int .i64 i))]) (fun v i => [(refB + 0, .box (bsC ((outr ltP i L).map Per.av) J))]) ?_ ?_
  · refine ⟨1, ⟨rfl, Nat.le_refl _, .inr rfl⟩, trivial, ⟨rfl, rfl, rfl, rfl, rfl, trivial⟩, ⟨rfl, trivial⟩⟩
  rintro v i ⟨hv0, hi1, hi2⟩
  repeat (first | ((with_reducible refine k_move ?_); refine m_move rfl ?_) | ((with_reducible refine k_bin ?_); refine m_binI rfl rfl rfl ?_)  | refine e_nrm ?_ | refine x_none rfl ?_ | with_reducible refine q_then ?_ | with_reducible refine awp_seq ?_ | ((with_reducible refine w_region ?_ ?_); kernel_rfl))
  refine w_cond rfl (fun h => ?_) (fun h => ?_)
  · have hlt : i < L.length := by simp at h; omega
    repeat (first | ((with_reducible refine k_move ?_); refine m_move rfl ?_) | ((with_reducible refine k_assign ?_); refine m_assign rfl ?_)  | refine e_nrm ?_ | refine x_none rfl ?_ | with_reducible refine q_then ?_ | with_reducible refine awp_seq ?_ | with_reducible refine awp_block ?_ | with_reducible refine awp_skip ?_ | ((with_reducible refine w_region ?_ ?_); kernel_rfl))
    refine awp_loopv (ι := Nat × List Per) (fun v q => v (refB + 0) = 0 ∧ q.1 ≤ i ∧ q.2.length = L.length ∧ inn ltP q.1 q.2 = outr ltP (i + 1) L) (fun q => q.1) (fun v q => [(0, .bs (refB + 0) (v (refB + 0)) 5 L.length), (1, .v (.int .i64 0)), (2, .v (.int .i64 L.length)), (3, .fn 25 []), (8, .v (.int .i64 i)), (9, .v (.int .i64 (q.1 : Nat)))]) (fun v q => [(refB + 0, .box (bsC (q.2.map Per.av) J))]) ?_ ?_
    · refine ⟨(i, outr ltP i L), ⟨hv0, Nat.le_refl _, outr_len _ _, rfl⟩, trivial, ⟨rfl, rfl, rfl, rfl, rfl, rfl, trivial⟩, ⟨rfl, trivial⟩⟩
    rintro v ⟨j, R⟩ ⟨hv0, hj, hR, hf⟩
    simp only at hj hR hf
    dsimp only
    repeat (first | ((with_reducible refine k_move ?_); refine m_move rfl ?_) | ((with_reducible refine k_bin ?_); refine m_binI rfl rfl rfl ?_)  | refine x_none rfl ?_ | with_reducible refine awp_seq ?_ | ((with_reducible refine w_draw mixd ?_ ?_); kernel_rfl))
    by_cases hj0 : j = 0
    · subst hj0
      have p1 : decide (((0 : Nat) : Int) > 0) = false := rfl
      repeat (first | ((with_reducible refine k_move ?_); refine m_move rfl ?_) | ((with_reducible refine k_assign ?_); refine m_assign rfl ?_) | ((with_reducible refine k_pick ?_); refine m_pickf rfl (by first | rfl | assumption) rfl ?_) | ((with_reducible refine k_bin ?_); refine x_add_in rfl rfl (by omega) ?_)  | refine e_nrm ?_ | refine e_drw (by kernel_rfl) ?_ | refine x_none rfl ?_ | refine x_skip_t rfl rfl (by first | rfl | assumption) ?_ | with_reducible refine q_then ?_ | with_reducible refine q_then_exit ?_ | with_reducible refine q_block ?_ | with_reducible refine awp_exit ?_ | ((with_reducible refine q_block_exit ?_ ?_); rfl) | ((with_reducible refine w_region ?_ ?_); kernel_rfl) | refine w_cond_f rfl (by first | rfl | assumption) ?_)
      refine ⟨i + 1, ⟨hv0, by omega, .inl (by omega)⟩, by omega, ⟨rfl, rfl, rfl, rfl, rfl, trivial⟩, ⟨?_, trivial⟩⟩
      rw [← hf]; rfl
    obtain ⟨k, rfl⟩ : ∃ k, j = k + 1 := ⟨j - 1, by omega⟩
    have p1 : decide (((k + 1 : Nat) : Int) > 0) = true := by simp
    obtain ⟨x, hx⟩ := some_at (L := R) (k := k + 1) (by omega)
    obtain ⟨y, hy⟩ := some_at (L := R) (k := k) (by omega)
    have hlx : lessAt ltP R (k + 1) k = ltP x y := by unfold lessAt; rw [hx, hy]
    rw [inn, hlx] at hf
    have hxy := hgt R (k + 1) x hx
    have hyy := hgt R k y hy
    repeat (first | ((with_reducible refine k_move ?_); refine m_move rfl ?_)  | refine x_run_t rfl rfl (by first | rfl | assumption) ?_  )
    with_reducible refine k_indexAddr ?_
    refine x_indexAddr_bs tbOk rfl rfl rfl rfl ⟨by omega, by omega⟩ ?_
    repeat (first   | refine x_run_t rfl rfl (by first | rfl | assumption) ?_  )
    with_reducible refine k_load ?_
    refine x_load_bs (j := k + 1) tbOk rfl rfl rfl rfl (by rw [Int.toNat_natCast]) (hsz R) hxy ?_
    repeat (first | ((with_reducible refine k_move ?_); refine m_move rfl ?_) | ((with_reducible refine k_bin ?_); refine x_sub_in rfl rfl (by omega) ?_)  | refine x_run_t rfl rfl (by first | rfl | assumption) ?_  )
    with_reducible refine k_indexAddr ?_
    refine x_indexAddr_bs tbOk rfl rfl rfl rfl ⟨by omega, by omega⟩ ?_
    repeat (first   | refine x_run_t rfl rfl (by first | rfl | assumption) ?_  )
    with_reducible refine k_load ?_
    refine x_load_bs (j := k) tbOk rfl rfl rfl rfl (by congr 1; omega) (hsz R) hyy ?_
    repeat (first   | refine x_run_t rfl rfl (by first | rfl | assumption) ?_  )
    with_reducible refine k_call ?_
    refine x_callV (ss := []) (cs' := []) (pcmp_A x y) rfl (by repeat' (first | exact trivial | exact Ren.v _ | exact Ren.sl _ _ | exact Ren.ep _ | exact Ren.ptr _ _ _ _ rfl | exact Ren.bs _ _ _ _ _ rfl | exact Ren.nil _ | exact Ren.own _ _ _ _ ⟨_, rfl⟩ | refine ren_ag ?_ | refine ren_tu ?_ | refine ren_fn ?_ | refine ⟨?_, ?_⟩)) (by simp) trivial rfl trivial (by repeat' (first | exact trivial | exact RenB.v _ | exact RenB.sl _ _ | exact RenB.ep _ | exact RenB.ptr _ _ _ _ rfl | refine renb_ag ?_ | refine renb_tu ?_ | refine ⟨?_, ?_⟩)) ?_
    repeat (first | ((with_reducible refine k_pick ?_); refine m_pickt rfl (by first | rfl | assumption) rfl ?_) | ((with_reducible refine k_bin ?_); refine m_binI rfl rfl rfl ?_)  | refine e_drw (by kernel_rfl) ?_ | refine x_none rfl ?_ | refine x_run_t rfl rfl (by first | rfl | assumption) ?_ | with_reducible refine q_then ?_ )
    cases hc : ltP x y with
    | false =>
      rw [hc, if_neg (by decide)] at hf
      have p2 : decide (cmpP x y < 0) = false := hc
      repeat (first | ((with_reducible refine k_move ?_); refine m_move rfl ?_) | ((with_reducible refine k_assign ?_); refine m_assign rfl ?_) | ((with_reducible refine k_bin ?_); refine x_add_in rfl rfl (by omega) ?_)  | refine e_nrm ?_ | refine x_none rfl ?_ | with_reducible refine q_then ?_ | with_reducible refine q_then_exit ?_ | with_reducible refine q_block ?_ | with_reducible refine awp_exit ?_ | ((with_reducible refine q_block_exit ?_ ?_); rfl) | ((with_reducible refine w_region ?_ ?_); kernel_rfl) | refine w_cond_f rfl (by first | rfl | assumption) ?_)
      refine ⟨i + 1, ⟨hv0, by omega, .inl (by omega)⟩, by omega, ⟨rfl, rfl, rfl, rfl, rfl, trivial⟩, ⟨?_, trivial⟩⟩
      rw [← hf]; rfl
    | true =>
      rw [hc, if_pos rfl, swp_at hx hy] at hf
      have p2 : decide (cmpP x y < 0) = true := hc
      have hset1 : ((R.map Per.av).set (k + 1) (Per.av y)) = (R.set (k + 1) y).map Per.av := by rw [List.map_set]
      have hset2 : (((R.set (k + 1) y).map Per.av).set k (Per.av x)) = ((R.set (k + 1) y).set k x).map Per.av := by rw [List.map_set, List.map_set, List.map_set]
      have hzz := hgt (R.set (k + 1) y) k y (by rw [List.getElem?_set_ne (by omega)]; exact hy)
      repeat (first | ((with_reducible refine k_move ?_); refine m_move rfl ?_) | ((with_reducible refine k_bin ?_); refine x_sub_in rfl rfl (by omega) ?_)  | refine x_none rfl ?_ | with_reducible refine q_then ?_ | with_reducible refine awp_seq ?_ | with_reducible refine awp_block ?_ | with_reducible refine awp_skip ?_ | ((with_reducible refine w_draw mixd ?_ ?_); kernel_rfl) | refine w_cond_t rfl (by first | rfl | assumption) ?_)
      with_reducible refine k_indexAddr ?_
      refine x_indexAddr_bs tbOk rfl rfl rfl rfl ⟨by omega, by omega⟩ ?_
      repeat (first   | refine x_none rfl ?_  )
      with_reducible refine k_load ?_
      refine x_load_bs (j := k) tbOk rfl rfl rfl rfl (by congr 1; omega) (hsz R) hyy ?_
      repeat (first | ((with_reducible refine k_move ?_); refine m_move rfl ?_)  | refine x_none rfl ?_  )
      with_reducible refine k_indexAddr ?_
      refine x_indexAddr_bs tbOk rfl rfl rfl rfl ⟨by omega, by omega⟩ ?_
      repeat (first   | refine x_none rfl ?_  )
      with_reducible refine k_load ?_
      refine x_load_bs (j := k + 1) tbOk rfl rfl rfl rfl (by rw [Int.toNat_natCast]) (hsz R) hxy ?_
      repeat (first   | refine x_none rfl ?_  )
      with_reducible refine k_indexAddr ?_
      refine x_indexAddr_bs tbOk rfl rfl rfl rfl ⟨by omega, by omega⟩ ?_
      repeat (first   | refine x_none rfl ?_  )
      with_reducible refine k_store ?_
      refine x_store_bs (j := k + 1) (z := Per.av y) tbOk rfl rfl rfl rfl (by rw [Int.toNat_natCast]) (hsz R) hxy rfl rfl rfl ?_
      rw [hset1]
      repeat (first   | refine x_none rfl ?_  )
      with_reducible refine k_indexAddr ?_
      refine x_indexAddr_bs tbOk rfl rfl rfl rfl ⟨by omega, by omega⟩ ?_
      repeat (first   | refine x_none rfl ?_  )
      with_reducible refine k_store ?_
      refine x_store_bs (j := k) (z := Per.av x) tbOk rfl rfl rfl rfl (by congr 1; omega) (hsz _) hzz rfl rfl rfl ?_
      rw [hset2]
      repeat (first | ((with_reducible refine k_move ?_); refine m_move rfl ?_) | ((with_reducible refine k_assign ?_); refine m_assign rfl ?_) | ((with_reducible refine k_bin ?_); refine x_sub_in rfl rfl (by omega) ?_)  | refine e_nrm ?_ | refine e_drw (by kernel_rfl) ?_ | refine x_none rfl ?_ | with_reducible refine q_then ?_ | with_reducible refine q_block ?_ | ((with_reducible refine w_region ?_ ?_); kernel_rfl))
      refine ⟨(k, (R.set (k + 1) y).set k x), ⟨hv0, by show k ≤ i; omega, by show ((R.set (k + 1) y).set k x).length = L.length; rw [List.length_set, List.length_set]; exact hR, hf⟩, by show k < k + 1; omega, ⟨rfl, rfl, rfl, rfl, rfl, ?_, trivial⟩, ⟨rfl, trivial⟩⟩
      show AV.v (.int .i64 _) = AV.v (.int .i64 _)
      congr 2
      omega
  · have he : outr ltP i L = isort ltP L := by
      unfold isort
      rcases hi2 with h1 | h1
      · have : i = L.length := by simp at h; omega
        rw [this]
      · subst h1
        have : L.length = 0 ∨ L.length = 1 := by simp at h; omega
        rcases this with h2 | h2
        · rw [h2]; rfl
        · rw [h2]
    rw [he, hv0]
    repeat (first    | with_reducible refine q_then_exit ?_ | with_reducible refine awp_exit ?_ | ((with_reducible refine q_block_exit ?_ ?_); rfl) )
    refine ret1 (by first | exact .inr rfl | exact .inl rfl) (xs := []) ?_ (by repeat' (first | exact trivial | exact Ren.v _ | exact Ren.sl _ _ | exact Ren.ep _ | exact Ren.ptr _ _ _ _ rfl | exact Ren.bs _ _ _ _ _ rfl | exact Ren.nil _ | exact Ren.own _ _ _ _ ⟨_, rfl⟩ | refine ren_ag ?_ | refine ren_tu ?_ | refine ren_fn ?_ | refine ⟨?_, ?_⟩)) rfl hv0 (renl_pj (bsC_pj (hpu _) hJ))
    trivial
theorem ppdq_A (L : List Per) (J : List AV) (lim : Int) (hJ : ∀ x ∈ J, x = AV.junk) (hm : L.length ≤ 12) : ACalls Tryd.prog G 35 [.bs (refB + 0) 0 5 L.length, .v (.int .i64 0), .v (.int .i64 L.length), .v (.int .i64 lim), .fn 25 []] [bsC (L.map Per.av) J] (.tu []) [bsC ((isort ltP L).map Per.av) J] := by
  have hpu : ∀ (R : List Per), ∀ x ∈ R.map Per.av, pureL x.cells = true := fun R x hx => by
    obtain ⟨y, -, rfl⟩ := List.mem_map.1 hx
    rfl
  have q1 : decide ((L.length : Int) ≤ 12) = true := by simp; omega
  have q0 : (L.length : Int) - 0 = L.length := by omega
  refine acalls_of tbOk (enter_of Tryd.func35 (by kernel_rfl) rfl) Tryd.func35 rfl _ Tryd.ntmps35 (Nat.le_of_ble_eq_true rfl) fun X hX => ?_
  subst hX
  repeat (first | ((with_reducible refine k_assign ?_); refine m_assign rfl ?_)  | refine e_nrm ?_ | refine x_none rfl ?_ | with_reducible refine q_then ?_ | with_reducible refine awp_seq ?_ | with_reducible refine awp_block ?_ | ((with_reducible refine w_region ?_ ?_); kernel_rfl))
  refine awp_loopv (ι := Unit) (fun v i => v (refB + 0) = 0) (fun i => 0) (fun v i => [(0, .bs (refB + 0) (v (refB + 0)) 5 L.length), (1, .v (.int .i64 0)), (2, .v (.int .i64 L.length)), (3, .v (.int .i64 lim)), (4, .fn 25 [])]) (fun v i => [(refB + 0, .box (bsC (L.map Per.av) J))]) ?_ ?_
  · exact ⟨(), rfl, trivial, ⟨rfl, rfl, rfl, rfl, rfl, trivial⟩, ⟨rfl, trivial⟩⟩
  rintro v ⟨⟩ hv0
  repeat (first | ((with_reducible refine k_move ?_); refine m_move rfl ?_) | ((with_reducible refine k_assign ?_); refine m_assign rfl ?_) | ((with_reducible refine k_bin ?_); refine x_sub_in rfl rfl (by omega) ?_) | ((with_reducible refine k_bin ?_); refine m_binI rfl rfl rfl ?_)  | refine e_nrm ?_ | refine x_none rfl ?_ | with_reducible refine q_then ?_ | with_reducible refine awp_seq ?_ | with_reducible refine awp_block ?_ | ((with_reducible refine w_region ?_ ?_); kernel_rfl) | refine w_cond_t rfl (by first | rfl | assumption) ?_)
  rw [q0]
  repeat (first | fail    )
  with_reducible refine k_call ?_
  refine x_call (y := .tu []) (ss := [(refB + 0, v (refB + 0))]) (pins_A L J hJ (by omega)) (by repeat' (first | exact trivial | exact Ren.v _ | exact Ren.sl _ _ | exact Ren.ep _ | exact Ren.ptr _ _ _ _ rfl | exact Ren.bs _ _ _ _ _ rfl | exact Ren.nil _ | exact Ren.own _ _ _ _ ⟨_, rfl⟩ | refine ren_ag ?_ | refine ren_tu ?_ | refine ren_fn ?_ | refine ⟨?_, ?_⟩)) (by simp) (in1_pj rfl (bsC_pj (hpu _) hJ)) rfl (back1_pj (bsC_pj (hpu _) hJ)) (by repeat' (first | exact trivial | exact RenB.v _ | exact RenB.sl _ _ | exact RenB.ep _ | exact RenB.ptr _ _ _ _ rfl | refine renb_ag ?_ | refine renb_tu ?_ | refine ⟨?_, ?_⟩)) ?_
  repeat (first   | refine e_nrm ?_ | with_reducible refine q_then ?_ | with_reducible refine q_then_ret ?_ | with_reducible refine q_block_ret ?_ | with_reducible refine awp_ret ?_ )
  refine ret1 (by first | exact .inr rfl | exact .inl rfl) (xs := []) ?_ (by repeat' (first | exact trivial | exact Ren.v _ | exact Ren.sl _ _ | exact Ren.ep _ | exact Ren.ptr _ _ _ _ rfl | exact Ren.bs _ _ _ _ _ rfl | exact Ren.nil _ | exact Ren.own _ _ _ _ ⟨_, rfl⟩ | refine ren_ag ?_ | refine ren_tu ?_ | refine ren_fn ?_ | refine ⟨?_, ?_⟩)) rfl hv0 (renl_pj (bsC_pj (hpu _) hJ))
  trivial
theorem psortf_A (L : List Per) (J : List AV) (hJ : ∀ x ∈ J, x = AV.junk) (hm : L.length ≤ 12) : ACalls Tryd.prog G 24 [.bs (refB + 0) 0 5 L.length, .fn 25 []] [bsC (L.map Per.av) J] (.tu []) [bsC ((isort ltP L).map Per.av) J] := by
  have hpu : ∀ (R : List Per), ∀ x ∈ R.map Per.av, pureL x.cells = true := fun R x hx => by
    obtain ⟨y, -, rfl⟩ := List.mem_map.1 hx
    rfl
  refine acalls_of tbOk (enter_of Tryd.func24 (by kernel_rfl) rfl) Tryd.func24 rfl _ Tryd.ntmps24 (Nat.le_of_ble_eq_true rfl) fun X hX => ?_
  subst hX
  repeat (first | ((with_reducible refine k_move ?_); refine m_move rfl ?_)  | refine x_none rfl ?_ | with_reducible refine awp_seq ?_ | ((with_reducible refine w_region ?_ ?_); kernel_rfl))
  with_reducible refine k_call ?_
  refine x_len_bs tbOk rfl rfl ?_
  repeat (first | ((with_reducible refine k_move ?_); refine m_move rfl ?_) | ((with_reducible refine k_assign ?_); refine m_assign rfl ?_) | ((with_reducible refine k_convert ?_); refine x_conv_in tbOk rfl rfl rfl (by first | assumption | exact wrap_u64_in (by omega) | exact wrap_i64_in (by omega) | exact wrap_u8_in (by omega)) ?_)  | refine e_nrm ?_ | refine x_none rfl ?_ | with_reducible refine q_then ?_ | ((with_reducible refine w_region ?_ ?_); kernel_rfl))
  refine x_call0 (bitsLen_A (L.length : Int) (by omega) (by omega)) (by repeat' (first | exact trivial | exact Ren.v _ | exact Ren.sl _ _ | exact Ren.ep _ | exact Ren.ptr _ _ _ _ rfl | exact Ren.bs _ _ _ _ _ rfl | exact Ren.nil _ | exact Ren.own _ _ _ _ ⟨_, rfl⟩ | refine ren_ag ?_ | refine ren_tu ?_ | refine ren_fn ?_ | refine ⟨?_, ?_⟩)) (by repeat' (first | exact trivial | exact RenB.v _ | exact RenB.sl _ _ | exact RenB.ep _ | exact RenB.ptr _ _ _ _ rfl | refine renb_ag ?_ | refine renb_tu ?_ | refine ⟨?_, ?_⟩)) ?_
  repeat (first | ((with_reducible refine k_move ?_); refine m_move rfl ?_)  | refine x_none rfl ?_  )
  with_reducible refine k_call ?_
  refine x_call (y := .tu []) (ss := [(refB + 0, 0)]) (ppdq_A L J _ hJ hm) (by repeat' (first | exact trivial | exact Ren.v _ | exact Ren.sl _ _ | exact Ren.ep _ | exact Ren.ptr _ _ _ _ rfl | exact Ren.bs _ _ _ _ _ rfl | exact Ren.nil _ | exact Ren.own _ _ _ _ ⟨_, rfl⟩ | refine ren_ag ?_ | refine ren_tu ?_ | refine ren_fn ?_ | refine ⟨?_, ?_⟩)) (by simp) (in1_pj rfl (bsC_pj (hpu _) hJ)) rfl (back1_pj (bsC_pj (hpu _) hJ)) (by repeat' (first | exact trivial | exact RenB.v _ | exact RenB.sl _ _ | exact RenB.ep _ | exact RenB.ptr _ _ _ _ rfl | refine renb_ag ?_ | refine renb_tu ?_ | refine ⟨?_, ?_⟩)) ?_
  repeat (first   | refine e_nrm ?_  )
  refine ret1 (by first | exact .inr rfl | exact .inl rfl) (xs := []) ?_ (by repeat' (first | exact trivial | exact Ren.v _ | exact Ren.sl _ _ | exact Ren.ep _ | exact Ren.ptr _ _ _ _ rfl | exact Ren.bs _ _ _ _ _ rfl | exact Ren.nil _ | exact Ren.own _ _ _ _ ⟨_, rfl⟩ | refine ren_ag ?_ | refine ren_tu ?_ | refine ren_fn ?_ | refine ⟨?_, ?_⟩)) rfl rfl (renl_pj (bsC_pj (hpu _) hJ))
  trivial
end Go.Proofs.YtnfjlinffjhkpaaDoor
