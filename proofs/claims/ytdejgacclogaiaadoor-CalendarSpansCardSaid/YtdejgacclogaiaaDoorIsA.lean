/- slices.SortFunc at spans of time, where there are few, by the abstract machine; conditions: none. -/
import Derived.Test.YtdejgacclogaiaaDoorAbsW
import Derived.Test.YtdejgacclogaiaaDoorTab
import Derived.Test.YtdejgacclogaiaaDoorIsP
set_option linter.unusedVariables false
set_option linter.unusedSimpArgs false
namespace Go.Proofs.YtdejgacclogaiaaDoor
open Go Go.RowKit
set_option maxRecDepth 10000
variable {G : Nat → Option (List Value)}
structure Spn where
  from_ : Int
  until_ : Int
deriving DecidableEq
def Spn.av (s : Spn) : AV := .ag [.v (.int .i64 s.from_), .v (.int .i64 s.until_)]
def cmpI (a b : Int) : Int := if a < b then -1 else if a > b then 1 else 0
def cmpS (a b : Spn) : Int := cmpI a.from_ b.from_
def ltS (a b : Spn) : Bool := decide (cmpS a b < 0)
theorem ltS_iff {a b : Spn} : ltS a b = true ↔ a.from_ < b.from_ := by
  unfold ltS cmpS cmpI
  split
  · simp [*]
  · split <;> simp <;> omega
theorem isNaN_A (n : Int) : ACalls Tryd.prog G 54 [.v (.int .i64 n)] [] (.v (.bool false)) [] := by
  refine acalls_of tbOk (enter_of Tryd.func54 (by kernel_rfl) rfl) Tryd.func54 rfl _ Tryd.ntmps54 (Nat.le_of_ble_eq_true rfl) fun X hX => ?_
  subst hX
  repeat' (first | ((with_reducible refine k_move ?_); refine m_move rfl ?_) | ((with_reducible refine k_assign ?_); refine m_assign rfl ?_) | ((with_reducible refine k_bin ?_); refine m_binI rfl rfl rfl ?_)  | refine e_nrm ?_ | refine x_none rfl ?_ | with_reducible refine q_then ?_ | with_reducible refine awp_seq ?_ | with_reducible refine awp_ret ?_ | ((with_reducible refine w_region ?_ ?_); kernel_rfl) | refine x_split rfl rfl (fun _ => ?_) (fun _ => ?_) | refine w_cond rfl (fun _ => ?_) (fun _ => ?_))
  refine ret_v (by first | exact .inr rfl | exact .inl rfl) rfl rfl ?_
  simp
theorem compare_A (a b : Int) : ACalls Tryd.prog G 48 [.v (.int .i64 a), .v (.int .i64 b)] [] (.v (.int .i64 (cmpI a b))) [] := by
  refine acalls_of tbOk (enter_of Tryd.func48 (by kernel_rfl) rfl) Tryd.func48 rfl _ Tryd.ntmps48 (Nat.le_of_ble_eq_true rfl) fun X hX => ?_
  subst hX
  repeat (first | ((with_reducible refine k_move ?_); refine m_move rfl ?_) | ((with_reducible refine k_assign ?_); refine m_assign rfl ?_)  | refine e_nrm ?_ | refine x_none rfl ?_ | with_reducible refine q_then ?_ | with_reducible refine awp_seq ?_ | ((with_reducible refine w_region ?_ ?_); kernel_rfl))
  refine x_call0 (isNaN_A a) (by repeat' (first | exact trivial | exact Ren.v _ | exact Ren.sl _ _ | exact Ren.ep _ | exact Ren.ptr _ _ _ _ rfl | exact Ren.bs _ _ _ _ _ rfl | exact Ren.nil _ | exact Ren.own _ _ _ _ ⟨_, rfl⟩ | refine ren_ag ?_ | refine ren_tu ?_ | refine ren_fn ?_ | refine ⟨?_, ?_⟩)) (by repeat' (first | exact trivial | exact RenB.v _ | exact RenB.sl _ _ | exact RenB.ep _ | exact RenB.ptr _ _ _ _ rfl | refine renb_ag ?_ | refine renb_tu ?_ | refine ⟨?_, ?_⟩)) ?_
  repeat (first | ((with_reducible refine k_move ?_); refine m_move rfl ?_) | ((with_reducible refine k_assign ?_); refine m_assign rfl ?_)  | refine e_nrm ?_ | refine x_none rfl ?_ | with_reducible refine q_then ?_ | with_reducible refine awp_seq ?_ | ((with_reducible refine w_region ?_ ?_); kernel_rfl))
  refine x_call0 (isNaN_A b) (by repeat' (first | exact trivial | exact Ren.v _ | exact Ren.sl _ _ | exact Ren.ep _ | exact Ren.ptr _ _ _ _ rfl | exact Ren.bs _ _ _ _ _ rfl | exact Ren.nil _ | exact Ren.own _ _ _ _ ⟨_, rfl⟩ | refine ren_ag ?_ | refine ren_tu ?_ | refine ren_fn ?_ | refine ⟨?_, ?_⟩)) (by repeat' (first | exact trivial | exact RenB.v _ | exact RenB.sl _ _ | exact RenB.ep _ | exact RenB.ptr _ _ _ _ rfl | refine renb_ag ?_ | refine renb_tu ?_ | refine ⟨?_, ?_⟩)) ?_
  repeat' (first | ((with_reducible refine k_move ?_); refine m_move rfl ?_) | ((with_reducible refine k_assign ?_); refine m_assign rfl ?_) | ((with_reducible refine k_bin ?_); refine m_binI rfl rfl rfl ?_)  | refine e_nrm ?_ | refine x_none rfl ?_ | with_reducible refine q_then ?_ | with_reducible refine q_then_ret ?_ | with_reducible refine awp_seq ?_ | with_reducible refine awp_skip ?_ | with_reducible refine awp_ret ?_ | ((with_reducible refine w_region ?_ ?_); kernel_rfl) | refine w_cond_f rfl (by first | rfl | assumption) ?_ | refine x_split rfl rfl (fun _ => ?_) (fun _ => ?_) | refine w_cond rfl (fun _ => ?_) (fun _ => ?_))
  all_goals refine ret_v (by first | exact .inr rfl | exact .inl rfl) rfl rfl ?_
  all_goals (unfold cmpI; simp_all)
  all_goals omega
theorem cmp_A (x y : Spn) : ACalls Tryd.prog G 47 [x.av, y.av] [] (.v (.int .i64 (cmpS x y))) [] := by
  refine acalls_of tbOk (enter_of Tryd.func47 (by kernel_rfl) rfl) Tryd.func47 rfl _ Tryd.ntmps47 (Nat.le_of_ble_eq_true rfl) fun X hX => ?_
  subst hX
  repeat (first | ((with_reducible refine k_assign ?_); refine m_assign rfl ?_) | ((with_reducible refine k_fieldAddr ?_); refine x_fieldAddr_ptr tbOk rfl rfl rfl rfl ?_) | ((with_reducible refine k_load ?_); refine x_load_one tbOk rfl rfl rfl rfl rfl ?_) | ((with_reducible refine k_box ?_); refine m_box rfl rfl rfl ?_)  | refine e_nrm ?_ | refine x_none rfl ?_ | with_reducible refine q_then ?_ | with_reducible refine awp_seq ?_ | ((with_reducible refine w_region ?_ ?_); kernel_rfl))
  refine x_call0 (compare_A x.from_ y.from_) (by repeat' (first | exact trivial | exact Ren.v _ | exact Ren.sl _ _ | exact Ren.ep _ | exact Ren.ptr _ _ _ _ rfl | exact Ren.bs _ _ _ _ _ rfl | exact Ren.nil _ | exact Ren.own _ _ _ _ ⟨_, rfl⟩ | refine ren_ag ?_ | refine ren_tu ?_ | refine ren_fn ?_ | refine ⟨?_, ?_⟩)) (by repeat' (first | exact trivial | exact RenB.v _ | exact RenB.sl _ _ | exact RenB.ep _ | exact RenB.ptr _ _ _ _ rfl | refine renb_ag ?_ | refine renb_tu ?_ | refine ⟨?_, ?_⟩)) ?_
  repeat (first | ((with_reducible refine k_assign ?_); refine m_assign rfl ?_)  | refine e_nrm ?_ | refine x_none rfl ?_ | with_reducible refine q_then ?_ | with_reducible refine awp_ret ?_ )
  refine ret_v (by first | exact .inr rfl | exact .inl rfl) rfl rfl ?_
  rfl
theorem cmpD (x y : Spn) : decide (cmpS x y < 0) = ltS x y := rfl
set_option maxHeartbeats 4000000 in
theorem ins_A (L : List Spn) (J : List AV) (hJ : ∀ x ∈ J, x = AV.junk) (hm : L.length ≤ 100000) : ACalls Tryd.prog G 57 [.bs (refB + 0) 0 2 L.length, .v (.int .i64 0), .v (.int .i64 L.length), .fn 47 []] [bsC (L.map Spn.av) J] (.tu []) [bsC ((isort ltS L).map Spn.av) J] := by
  have hsz : ∀ (R : List Spn), ∀ x ∈ R.map Spn.av, x.cells.length = 2 := fun R x hx => by
    obtain ⟨y, -, rfl⟩ := List.mem_map.1 hx
    rfl
  have hpu : ∀ (R : List Spn), ∀ x ∈ R.map Spn.av, pureL x.cells = true := fun R x hx => by
    obtain ⟨y, -, rfl⟩ := List.mem_map.1 hx
    rfl
  have hgt : ∀ (R : List Spn) (j : Nat) (x : Spn), R[j]? = some x → (R.map Spn.av)[j]? = some (Spn.av x) := fun R j x hx => by rw [List.getElem?_map, hx]; rfl
  refine acalls_of tbOk (enter_of Tryd.func57 (by kernel_rfl) rfl) Tryd.func57 rfl _ Tryd.ntmps57 (Nat.le_of_ble_eq_true rfl) fun X hX => ?_
  subst hX
  repeat (first | ((with_reducible refine k_move ?_); refine m_move rfl ?_) | ((with_reducible refine k_assign ?_); refine m_assign rfl ?_) | ((with_reducible refine k_bin ?_); refine x_add_in rfl rfl (by omega) ?_)  | refine e_nrm ?_ | refine x_none rfl ?_ | with_reducible refine q_then ?_ | with_reducible refine awp_seq ?_ | with_reducible refine awp_block ?_ | ((with_reducible refine w_region ?_ ?_); kernel_rfl))
  refine awp_loopv (ι := Nat) (fun v i => v (refB + 0) = 0 ∧ 1 ≤ i ∧ (i ≤ L.length ∨ i = 1)) (fun i => L.length + 1 - i) (fun v i => [(0, .bs (refB + 0) (v (refB + 0)) 2 L.length), (1, .v (.int .i64 0)), (2, .v (.int .i64 L.length)), (3, .fn 47 []), (8, .v (.int .i64 i))]) (fun v i => [(refB + 0, .box (bsC ((outr ltS i L).map Spn.av) J))]) ?_ ?_
  · refine ⟨1, ⟨rfl, Nat.le_refl _, .inr rfl⟩, trivial, ⟨rfl, rfl, rfl, rfl, rfl, trivial⟩, ⟨rfl, trivial⟩⟩
  rintro v i ⟨hv0, hi1, hi2⟩
  repeat (first | ((with_reducible refine k_move ?_); refine m_move rfl ?_) | ((with_reducible refine k_bin ?_); refine m_binI rfl rfl rfl ?_)  | refine e_nrm ?_ | refine x_none rfl ?_ | with_reducible refine q_then ?_ | with_reducible refine awp_seq ?_ | ((with_reducible refine w_region ?_ ?_); kernel_rfl))
  refine w_cond rfl (fun h => ?_) (fun h => ?_)
  · have hlt : i < L.length := by simp at h; omega
    repeat (first | ((with_reducible refine k_move ?_); refine m_move rfl ?_) | ((with_reducible refine k_assign ?_); refine m_assign rfl ?_)  | refine e_nrm ?_ | refine x_none rfl ?_ | with_reducible refine q_then ?_ | with_reducible refine awp_seq ?_ | with_reducible refine awp_block ?_ | with_reducible refine awp_skip ?_ | ((with_reducible refine w_region ?_ ?_); kernel_rfl))
    refine awp_loopv (ι := Nat × List Spn) (fun v q => v (refB + 0) = 0 ∧ q.1 ≤ i ∧ q.2.length = L.length ∧ inn ltS q.1 q.2 = outr ltS (i + 1) L) (fun q => q.1) (fun v q => [(0, .bs (refB + 0) (v (refB + 0)) 2 L.length), (1, .v (.int .i64 0)), (2, .v (.int .i64 L.length)), (3, .fn 47 []), (8, .v (.int .i64 i)), (9, .v (.int .i64 (q.1 : Nat)))]) (fun v q => [(refB + 0, .box (bsC (q.2.map Spn.av) J))]) ?_ ?_
    · refine ⟨(i, outr ltS i L), ⟨hv0, Nat.le_refl _, outr_len _ _, rfl⟩, trivial, ⟨rfl, rfl, rfl, rfl, rfl, rfl, trivial⟩, ⟨rfl, trivial⟩⟩
    rintro v ⟨j, R⟩ ⟨hv0, hj, hR, hf⟩
    simp only at hj hR hf
    dsimp only
    repeat (first | ((with_reducible refine k_move ?_); refine m_move rfl ?_) | ((with_reducible refine k_bin ?_); refine m_binI rfl rfl rfl ?_)  | refine x_none rfl ?_ | with_reducible refine awp_seq ?_ | ((with_reducible refine w_draw mixd ?_ ?_); kernel_rfl))
    by_cases hj0 : j = 0
    · subst hj0
      have p1 : decide (((0 : Nat) : Int) > 0) = false := rfl
      repeat (first | ((with_reducible refine k_move ?_); refine m_move rfl ?_) | ((with_reducible refine k_assign ?_); refine m_assign rfl ?_) | ((with_reducible refine k_pick ?_); refine m_pickf rfl (by first | rfl | assumption) rfl ?_) | ((with_reducible refine k_bin ?_); refine x_add_in rfl rfl (by omega) ?_)  | refine e_nrm ?_ | refine e_drw (by kernel_rfl) ?_ | refine x_none rfl ?_ | refine x_skip_t rfl rfl (by first | rfl | assumption) ?_ | with_reducible refine q_then ?_ | with_reducible refine q_then_exit ?_ | with_reducible refine q_block ?_ | with_reducible refine awp_exit ?_ | ((with_reducible refine q_block_exit ?_ ?_); rfl) | ((with_reducible refine w_region ?_ ?_); kernel_rfl) | refine w_cond_f rfl (by first | rfl | assumption) ?_)
      refine ⟨i + 1, ⟨hv0, by omega, .inl (by omega)⟩, by omega, ⟨rfl, rfl, rfl, rfl, rfl, trivial⟩, ⟨?_, trivial⟩⟩
      rw [← hf]; rfl
    obtain ⟨k, rfl⟩ : ∃ k, j = k + 1 := ⟨j - 1, by omega⟩
    have p1 : decide (((k + 1 : Nat) : Int) > 0) = true := by simp
    obtain ⟨x, hx⟩ := some_at (L := R) (k := k + 1) (by omega)
    obtain ⟨y, hy⟩ := some_at (L := R) (k := k) (by omega)
    have hlx : lessAt ltS R (k + 1) k = ltS x y := by unfold lessAt; rw [hx, hy]
    rw [inn, hlx] at hf
    have hxy := hgt R (k + 1) x hx
    have hyy := hgt R k y hy
    repeat (first | ((with_reducible refine k_move ?_); refine m_move rfl ?_)  | refine x_run_t rfl rfl (by first | rfl | assumption) ?_  )
    with_reducible refine k_indexAddr ?_
    refine x_indexAddr_bs tbOk rfl rfl rfl rfl ⟨by omega, by omega⟩ ?_
    repeat (first   | refine x_run_t rfl rfl (by first | rfl | assumption) ?_  )
    with_reducible refine k_load ?_
    refine x_load_bs (j := k + 1) tbOk rfl rfl rfl rfl (by rw [Int.toNat_natCast]) (hsz R) hxy ?_
    repeat (first | ((with_reducible refine k_move ?_); refine m_move rfl ?_) | ((with_reducible refine k_bin ?_); refine x_sub_in rfl rfl (by omega) ?_)  | refine x_run_t rfl rfl (by first | rfl | assumption) ?_  )
    with_reducible refine k_indexAddr ?_
    refine x_indexAddr_bs tbOk rfl rfl rfl rfl ⟨by omega, by omega⟩ ?_
    repeat (first   | refine x_run_t rfl rfl (by first | rfl | assumption) ?_  )
    with_reducible refine k_load ?_
    refine x_load_bs (j := k) tbOk rfl rfl rfl rfl (by congr 1; omega) (hsz R) hyy ?_
    repeat (first   | refine x_run_t rfl rfl (by first | rfl | assumption) ?_  )
    with_reducible refine k_call ?_
    refine x_callV (ss := []) (cs' := []) (cmp_A x y) rfl (by repeat' (first | exact trivial | exact Ren.v _ | exact Ren.sl _ _ | exact Ren.ep _ | exact Ren.ptr _ _ _ _ rfl | exact Ren.bs _ _ _ _ _ rfl | exact Ren.nil _ | exact Ren.own _ _ _ _ ⟨_, rfl⟩ | refine ren_ag ?_ | refine ren_tu ?_ | refine ren_fn ?_ | refine ⟨?_, ?_⟩)) (by simp) trivial rfl trivial (by repeat' (first | exact trivial | exact RenB.v _ | exact RenB.sl _ _ | exact RenB.ep _ | exact RenB.ptr _ _ _ _ rfl | refine renb_ag ?_ | refine renb_tu ?_ | refine ⟨?_, ?_⟩)) ?_
    repeat (first | ((with_reducible refine k_pick ?_); refine m_pickt rfl (by first | rfl | assumption) rfl ?_) | ((with_reducible refine k_bin ?_); refine m_binI rfl rfl rfl ?_)  | refine e_drw (by kernel_rfl) ?_ | refine x_none rfl ?_ | refine x_run_t rfl rfl (by first | rfl | assumption) ?_ | with_reducible refine q_then ?_ )
    cases hc : ltS x y with
    | false =>
      rw [hc, if_neg (by decide)] at hf
      have p2 : decide (cmpS x y < 0) = false := hc
      repeat (first | ((with_reducible refine k_move ?_); refine m_move rfl ?_) | ((with_reducible refine k_assign ?_); refine m_assign rfl ?_) | ((with_reducible refine k_bin ?_); refine x_add_in rfl rfl (by omega) ?_)  | refine e_nrm ?_ | refine x_none rfl ?_ | with_reducible refine q_then ?_ | with_reducible refine q_then_exit ?_ | with_reducible refine q_block ?_ | with_reducible refine awp_exit ?_ | ((with_reducible refine q_block_exit ?_ ?_); rfl) | ((with_reducible refine w_region ?_ ?_); kernel_rfl) | refine w_cond_f rfl (by first | rfl | assumption) ?_)
      refine ⟨i + 1, ⟨hv0, by omega, .inl (by omega)⟩, by omega, ⟨rfl, rfl, rfl, rfl, rfl, trivial⟩, ⟨?_, trivial⟩⟩
      rw [← hf]; rfl
    | true =>
      rw [hc, if_pos rfl, swp_at hx hy] at hf
      have p2 : decide (cmpS x y < 0) = true := hc
      have hset1 : ((R.map Spn.av).set (k + 1) (Spn.av y)) = (R.set (k + 1) y).map Spn.av := by rw [List.map_set]
      have hset2 : (((R.set (k + 1) y).map Spn.av).set k (Spn.av x)) = ((R.set (k + 1) y).set k x).map Spn.av := by rw [List.map_set, List.map_set, List.map_set]
      have hzz := hgt (R.set (k + 1) y) k y (by rw [List.getElem?_set_ne (by omega)]; exact hy)
      repeat (first | ((with_reducible refine k_move ?_); refine m_move rfl ?_) | ((with_reducible refine k_bin ?_); refine x_sub_in rfl rfl (by omega) ?_)  | refine x_none rfl ?_ | with_reducible refine q_then ?_ | with_reducible refine awp_seq ?_ | with_reducible refine awp_block ?_ | with_reducible refine awp_skip ?_ | ((with_reducible refine w_draw mixd ?_ ?_); kernel_rfl) | refine w_cond_t rfl (by first | rfl | assumption) ?_)
      with_reducible refine k_indexAddr ?_
      refine x_indexAddr_bs tbOk rfl rfl rfl rfl ⟨by omega, by omega⟩ ?_
      repeat (first   | refine x_none rfl ?_  )
      with_reducible refine k_load ?_
      refine x_load_bs (j := k) tbOk rfl rfl rfl rfl (by congr 1; omega) (hsz R) hyy ?_
      repeat (first | ((with_reducible refine k_move ?_); refine m_move rfl ?_)  | refine x_none rfl ?_  )
      with_reducible refine k_indexAddr ?_
      refine x_indexAddr_bs tbOk rfl rfl rfl rfl ⟨by omega, by omega⟩ ?_
      repeat (first   | refine x_none rfl ?_  )
      with_reducible refine k_load ?_
      refine x_load_bs (j := k + 1) tbOk rfl rfl rfl rfl (by rw [Int.toNat_natCast]) (hsz R) hxy ?_
      repeat (first   | refine x_none rfl ?_  )
      with_reducible refine k_indexAddr ?_
      refine x_indexAddr_bs tbOk rfl rfl rfl rfl ⟨by omega, by omega⟩ ?_
      repeat (first   | refine x_none rfl ?_  )
      with_reducible refine k_store ?_
      refine x_store_bs (j := k + 1) (z := Spn.av y) tbOk rfl rfl rfl rfl (by rw [Int.toNat_natCast]) (hsz R) hxy rfl rfl rfl ?_
      rw [hset1]
      repeat (first   | refine x_none rfl ?_  )
      with_reducible refine k_indexAddr ?_
      refine x_indexAddr_bs tbOk rfl rfl rfl rfl ⟨by omega, by omega⟩ ?_
      repeat (first   | refine x_none rfl ?_  )
      with_reducible refine k_store ?_
      refine x_store_bs (j := k) (z := Spn.av x) tbOk rfl rfl rfl rfl (by congr 1; omega) (hsz _) hzz rfl rfl rfl ?_
      rw [hset2]
      repeat (first | ((with_reducible refine k_move ?_); refine m_move rfl ?_) | ((with_reducible refine k_assign ?_); refine m_assign rfl ?_) | ((with_reducible refine k_bin ?_); refine x_sub_in rfl rfl (by omega) ?_)  | refine e_nrm ?_ | refine e_drw (by kernel_rfl) ?_ | refine x_none rfl ?_ | with_reducible refine q_then ?_ | with_reducible refine q_block ?_ | ((with_reducible refine w_region ?_ ?_); kernel_rfl))
      refine ⟨(k, (R.set (k + 1) y).set k x), ⟨hv0, by show k ≤ i; omega, by show ((R.set (k + 1) y).set k x).length = L.length; rw [List.length_set, List.length_set]; exact hR, hf⟩, by show k < k + 1; omega, ⟨rfl, rfl, rfl, rfl, rfl, ?_, trivial⟩, ⟨rfl, trivial⟩⟩
      show AV.v (.int .i64 _) = AV.v (.int .i64 _)
      congr 2
      omega
  · have he : outr ltS i L = isort ltS L := by
      unfold isort
      rcases hi2 with h1 | h1
      · have : i = L.length := by simp at h; omega
        rw [this]
      · subst h1
        have : L.length = 0 ∨ L.length = 1 := by simp at h; omega
        rcases this with h2 | h2
        · rw [h2]; rfl
        · rw [h2]
    rw [he, hv0]
    repeat (first    | with_reducible refine q_then_exit ?_ | with_reducible refine awp_exit ?_ | ((with_reducible refine q_block_exit ?_ ?_); rfl) )
    refine ret1 (by first | exact .inr rfl | exact .inl rfl) (xs := []) ?_ (by repeat' (first | exact trivial | exact Ren.v _ | exact Ren.sl _ _ | exact Ren.ep _ | exact Ren.ptr _ _ _ _ rfl | exact Ren.bs _ _ _ _ _ rfl | exact Ren.nil _ | exact Ren.own _ _ _ _ ⟨_, rfl⟩ | refine ren_ag ?_ | refine ren_tu ?_ | refine ren_fn ?_ | refine ⟨?_, ?_⟩)) rfl hv0 (renl_pj (bsC_pj (hpu _) hJ))
    trivial
end Go.Proofs.YtdejgacclogaiaaDoor
