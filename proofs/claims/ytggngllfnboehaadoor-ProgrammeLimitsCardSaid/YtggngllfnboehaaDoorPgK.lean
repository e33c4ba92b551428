/- permitofficelaw17.ProgrammeLimits, by the abstract machine: it answers true for all lists and numbers; conditions: the tables of classes, powers and places and a cell of the library stand. -/
import Derived.Test.YtggngllfnboehaaDoorPgJ
set_option linter.unusedVariables false
set_option linter.unusedSimpArgs false
namespace Go.Proofs.YtggngllfnboehaaDoor
open Go Go.RowKit
set_option maxRecDepth 10000
variable {G : Nat → Option (List Value)}
def lmS (m k : Nat) : St := ⟨4, ((k % m : Nat) : Int), 0, 0, k⟩
def lmL (m c : Nat) : List St := (List.range c).map (lmS m)
theorem lmL_succ (m k : Nat) : lmL m (k + 1) = lmL m k ++ [lmS m k] := by unfold lmL; rw [List.range_succ, List.map_append]; rfl
theorem lmL_len (m c : Nat) : (lmL m c).length = c := by simp [lmL]
def lmP (m c : Nat) (y : Int) : Pg := ⟨⟨#[80]⟩, (lmL m c).set 0 ⟨4, 0, 0, 0, y⟩⟩
theorem lmP_ok {N : List Nd} {V : List Dv} {c : Nat} {y : Int} (h0 : netE N V = 0) (hv : 1 ≤ V.length) (hc : 1 ≤ c ∧ c ≤ 65) (hy : 0 ≤ y) : progE N V (lmP V.length c y) = if 64 < c then 1 else if 65536 < y then 5 else 0 := by
  have hl : ((lmL V.length c).set 0 (⟨4, 0, 0, 0, y⟩ : St)).length = c := by rw [List.length_set, lmL_len]
  unfold progE
  rw [if_neg (by simpa using h0), if_neg (by show ¬ nameB (⟨#[80]⟩ : ByteArray).data.toList = false; decide +kernel)]
  show (if 64 < ((lmL V.length c).set 0 (⟨4, 0, 0, 0, y⟩ : St)).length then 1 else stepsE N.length V.length ((lmL V.length c).set 0 ⟨4, 0, 0, 0, y⟩)) = _
  rw [hl]
  split
  · rfl
  · have hok : ∀ s ∈ lmL V.length c, StOk N.length V.length s := by
      intro s hs
      obtain ⟨k, hk, rfl⟩ := List.mem_map.1 hs
      have hk' := List.mem_range.1 hk
      have h1 : k % V.length < V.length := Nat.mod_lt _ hv
      have n1 : ¬((4 : Int) = 3 ∨ (4 : Int) = 6) := by decide
      have n2 : ¬((4 : Int) = 5) := by decide
      exact ⟨⟨(by decide : (1 : Int) ≤ 4), (by decide : (4 : Int) ≤ 6)⟩, fun _ => ⟨show (0 : Int) ≤ ((k % V.length : Nat) : Int) by omega, show ((k % V.length : Nat) : Int) < (V.length : Int) by omega⟩, fun h => absurd h n2, fun h => absurd h n2, fun _ => rfl, fun h => absurd h n1, fun _ => rfl, fun _ => ⟨show (0 : Int) ≤ (k : Int) by omega, show (k : Int) ≤ 65536 by omega⟩, fun h => absurd (.inr rfl) h⟩
    obtain ⟨a, r, har⟩ : ∃ a r, lmL V.length c = a :: r := by
      cases hq : lmL V.length c with
      | nil => have := lmL_len V.length c; rw [hq] at this; simp at this; omega
      | cons a r => exact ⟨a, r, rfl⟩
    rw [har] at hok ⊢
    rw [List.set_cons_zero, stepsE]
    have hr := stepsE_iff.2 (fun s hs => hok s (by simp [hs]) : ∀ s ∈ r, StOk N.length V.length s)
    rw [hr]
    have he : stepE N.length V.length ⟨4, 0, 0, 0, y⟩ = if 65536 < y then 5 else 0 := by
      unfold stepE
      simp only
      grind
    rw [he]
    by_cases h : 65536 < y <;> simp [h]
theorem st_cells (L : List St) : ∀ x ∈ L.map St.av, x.cells.length = 5 := by
  intro x hx
  obtain ⟨r, _, rfl⟩ := List.mem_map.1 hx
  rfl
theorem st_flat_len (L : List St) : ((L.map St.av).flatMap AV.cells).length = L.length * 5 := by
  rw [flat_len' (st_cells L), List.length_map]
theorem set0_key (y : Int) : ∀ (L : List St), 0 < L.length → ∀ a, L[0]? = some a → ((L.set 0 ⟨a.k, a.d, a.n, a.p, y⟩).map St.av).flatMap AV.cells = putL ((L.map St.av).flatMap AV.cells) 4 [.v (.int .i64 y)]
  | [], h, a, ha => by simp at h
  | x :: l, h, a, ha => by
    simp at ha
    subst ha
    rfl
set_option maxHeartbeats 16000000 in
theorem limits_law (u u2 : Int) (l : List Int) (hu0 : 0 ≤ u) (hu1 : u ≤ 255) (hv0 : 0 ≤ u2) (hv1 : u2 ≤ 255) (hG : GCls G) (hP : GPow G) (hPl : GPlc G) (hM : GMax G) : ACalls Tryd.prog G 3 [.v (.int .u8 u), .v (.int .u8 u2), .sl 1 (l.map iv)] [] (.v (.bool true)) [] := by
  have m1 : u.tmod 3 = u % 3 := Int.tmod_eq_emod_of_nonneg hu0
  have m2 : u2.tmod 3 = u2 % 3 := Int.tmod_eq_emod_of_nonneg hv0
  have r1 : 0 ≤ u.tmod 3 ∧ u.tmod 3 ≤ 2 := by omega
  have r2 : 0 ≤ u2.tmod 3 ∧ u2.tmod 3 ≤ 2 := by omega
  obtain ⟨q1, hq1⟩ : ∃ q, q = u.tmod 3 := ⟨_, rfl⟩
  obtain ⟨q2, hq2⟩ : ∃ q, q = u2.tmod 3 := ⟨_, rfl⟩
  rw [← hq1] at r1
  rw [← hq2] at r2
  refine acalls_of tbOk (enter_of Tryd.func3 (by kernel_rfl) rfl) Tryd.func3 rfl _ Tryd.ntmps3 (Nat.le_of_ble_eq_true rfl) fun X hX => ?_
  subst hX
  repeat (first | ((with_reducible refine k_move ?_); refine m_move rfl ?_) | ((with_reducible refine k_assign ?_); refine m_assign rfl ?_)  | refine e_nrm ?_ | refine x_none rfl ?_ | with_reducible refine q_then ?_ | with_reducible refine awp_seq ?_ | ((with_reducible refine w_region ?_ ?_); kernel_rfl))
  refine x_call0 (few_A (l.map iv)) (by repeat' (first | exact trivial | exact Ren.v _ | exact Ren.sl _ _ | exact Ren.ep _ | exact Ren.ptr _ _ _ _ rfl | exact Ren.bs _ _ _ _ _ rfl | exact Ren.nil _ | exact Ren.own _ _ _ _ ⟨_, rfl⟩ | refine ren_ag ?_ | refine ren_tu ?_ | refine ren_fn ?_ | refine ⟨?_, ?_⟩)) (by repeat' (first | exact trivial | exact RenB.v _ | exact RenB.sl _ _ | exact RenB.ep _ | exact RenB.ptr _ _ _ _ rfl | refine renb_ag ?_ | refine renb_tu ?_ | refine ⟨?_, ?_⟩)) ?_
  repeat (first | ((with_reducible refine k_un ?_); refine x_not rfl ?_)  | refine e_nrm ?_ | refine x_none rfl ?_ | with_reducible refine q_then ?_ )
  refine w_cond rfl (fun h => ?_) (fun h => ?_)
  · repeat (first   | refine x_none rfl ?_ | with_reducible refine awp_seq ?_ | ((with_reducible refine w_region ?_ ?_); kernel_rfl))
    refine x_call0 (awake_A hG hP hPl hM) (by repeat' (first | exact trivial | exact Ren.v _ | exact Ren.sl _ _ | exact Ren.ep _ | exact Ren.ptr _ _ _ _ rfl | exact Ren.bs _ _ _ _ _ rfl | exact Ren.nil _ | exact Ren.own _ _ _ _ ⟨_, rfl⟩ | refine ren_ag ?_ | refine ren_tu ?_ | refine ren_fn ?_ | refine ⟨?_, ?_⟩)) (by repeat' (first | exact trivial | exact RenB.v _ | exact RenB.sl _ _ | exact RenB.ep _ | exact RenB.ptr _ _ _ _ rfl | refine renb_ag ?_ | refine renb_tu ?_ | refine ⟨?_, ?_⟩)) ?_
    repeat (first | ((with_reducible refine k_assign ?_); refine m_assign rfl ?_)  | refine e_nrm ?_ | refine x_none rfl ?_ | with_reducible refine q_then ?_ | with_reducible refine q_then_ret ?_ | with_reducible refine awp_ret ?_ )
    refine ret_v (by first | exact .inr rfl | exact .inl rfl) rfl rfl ?_
    rfl
  have hl : l.length ≤ 400 := by simp at h; omega
  have dk := DkOk.new hl
  have hv := net5_ok dk 6 (nodes := 4) (by decide) (by decide)
  have hvp := net5_pos (dk0 l) 4 (m := 6) (by decide)
  have ok : NwOk (net1 (dk0 l) 4).1 (net5 (dk0 l) 4 6).1 := nw_ok hl (nodes := 4) (m := 6) (by decide) (by decide) (by decide)
  have h0 : netE (net1 (dk0 l) 4).1 (net5 (dk0 l) 4 6).1 = 0 := nw_valid hl (nodes := 4) (m := 6) (by decide) (by decide) (by decide)
  have hnp : 1 ≤ (net1 (dk0 l) 4).1.length := nD_len (l := l) (nodes := 4) (by decide) (by decide)
  have hnet := network_A (G := X.G) (dk0 l) 4 6 dk (by decide) (by decide) (by decide)
  have hdk := hv.dk
  obtain ⟨N, hN⟩ : ∃ N, N = (net1 (dk0 l) 4).1 := ⟨_, rfl⟩
  obtain ⟨V, hV⟩ : ∃ V, V = (net5 (dk0 l) 4 6).1 := ⟨_, rfl⟩
  obtain ⟨E, hE⟩ : ∃ E, E = (net5 (dk0 l) 4 6).2 := ⟨_, rfl⟩
  rw [← hN, ← hV, ← hE] at hnet
  rw [← hN, ← hV] at ok h0
  rw [← hV] at hvp
  rw [← hN] at hnp
  rw [← hE] at hdk
  have hnl := net_len h0
  have hnl9 : N.length ≤ 9223372036854775807 ∧ V.length ≤ 9223372036854775807 := by omega
  have hml : (V.map Dv.av).length = V.length := by simp
  repeat (first | ((with_reducible refine k_move ?_); refine m_move rfl ?_)  | refine x_none rfl ?_ | with_reducible refine q_then ?_ | with_reducible refine awp_seq ?_ | with_reducible refine awp_skip ?_ | ((with_reducible refine w_region ?_ ?_); kernel_rfl))
  refine x_call_new (new_A l) (by repeat' (first | exact trivial | exact Ren.v _ | exact Ren.sl _ _ | exact Ren.ep _ | exact Ren.ptr _ _ _ _ rfl | exact Ren.bs _ _ _ _ _ rfl | exact Ren.nil _ | exact Ren.own _ _ _ _ ⟨_, rfl⟩ | refine ren_ag ?_ | refine ren_tu ?_ | refine ren_fn ?_ | refine ⟨?_, ?_⟩)) ⟨.sl _ _, .v _, .v _, trivial⟩ rfl ?_
  repeat (first   | refine x_none rfl ?_  )
  refine x_call (y := .ag [.sl 3 (N.map Nd.av), .sl 5 (V.map Dv.av)]) (ss := [(20, 1)]) (hnet) (by repeat' (first | exact trivial | exact Ren.v _ | exact Ren.sl _ _ | exact Ren.ep _ | exact Ren.ptr _ _ _ _ rfl | exact Ren.bs _ _ _ _ _ rfl | exact Ren.nil _ | exact Ren.own _ _ _ _ ⟨_, rfl⟩ | refine ren_ag ?_ | refine ren_tu ?_ | refine ren_fn ?_ | refine ⟨?_, ?_⟩)) (by simp) (in1 rfl rfl) rfl (back1 rfl) (by repeat' (first | exact trivial | exact RenB.v _ | exact RenB.sl _ _ | exact RenB.ep _ | exact RenB.ptr _ _ _ _ rfl | refine renb_ag ?_ | refine renb_tu ?_ | refine ⟨?_, ?_⟩)) ?_
  repeat (first | ((with_reducible refine k_move ?_); refine m_move rfl ?_) | ((with_reducible refine k_assign ?_); refine m_assign rfl ?_) | ((with_reducible refine k_store ?_); refine m_store tbOk rfl rfl rfl rfl rfl rfl rfl (Nat.le_of_ble_eq_true rfl) rfl ?_) | ((with_reducible refine k_alloc ?_); refine x_alloc tbOk rfl rfl ?_) | ((with_reducible refine k_build ?_); refine m_build tbOk rfl rfl rfl rfl rfl ?_) | ((with_reducible refine k_convert ?_); refine x_conv_in tbOk rfl rfl rfl (by first | assumption | exact wrap_u64_in (by omega) | exact wrap_i64_in (by omega) | exact wrap_u8_in (by omega)) ?_) | ((with_reducible refine k_bin ?_); refine x_add_in rfl rfl (by omega) ?_) | ((with_reducible refine k_bin ?_); refine x_rem rfl rfl (by first | decide | assumption | omega) ?_)  | refine e_nrm ?_ | refine x_none rfl ?_ | with_reducible refine q_then ?_ | with_reducible refine awp_seq ?_ | with_reducible refine awp_block ?_ | ((with_reducible refine w_region ?_ ?_); kernel_rfl))
  obtain ⟨c, hc⟩ : ∃ c : Nat, (c : Int) = 63 + q1 := ⟨(63 + q1).toNat, by omega⟩
  obtain ⟨y, hy⟩ : ∃ y : Int, y = 65535 + q2 := ⟨_, rfl⟩
  refine awp_own_at (s := 42) 36 5 [] [(8, [.v (.string ⟨#[80]⟩), .own 42 1])] rfl trivial ⟨⟨_, _, rfl, .same (.hit .nil)⟩, trivial⟩ ?_
  refine awp_loop (ι := Nat) (fun k => k ≤ c) (fun k => c - k) (fun v k => [(1, .v (.int .u8 u2)), (7, .ptr 7 (v 7) 0), (8, .ptr 8 (v 8) 0), (9, .v (.int .i64 (c : Nat))), (10, .v (.int .i64 (k : Nat)))]) (fun v k => [(7, .box [.sl 3 (N.map Nd.av), .sl 5 (V.map Dv.av)]), (8, .box [.v (.string ⟨#[80]⟩), .own 42 (v 42)]), (42, .buf 36 5 ((lmL V.length k).map St.av))]) ?_ ?_
  · exact ⟨0, Nat.zero_le _, trivial, ⟨rfl, rfl, rfl, congrArg (fun z : Int => AV.v (.int .i64 z)) (by omega), rfl, trivial⟩, ⟨rfl, rfl, rfl, trivial⟩⟩
  rintro v k hk
  have hlen := lmL_len V.length k
  have hml2 : ((lmL V.length k).map St.av).length = k := by rw [List.length_map, hlen]
  repeat (first | ((with_reducible refine k_move ?_); refine m_move rfl ?_) | ((with_reducible refine k_bin ?_); refine m_binI rfl rfl rfl ?_)  | refine e_nrm ?_ | refine x_none rfl ?_ | with_reducible refine q_then ?_ | with_reducible refine awp_seq ?_ | ((with_reducible refine w_region ?_ ?_); kernel_rfl))
  refine w_cond rfl (fun h => ?_) (fun h => ?_)
  · have hlt : k < c := by simp at h; omega
    have t1 : ((k : Int).tmod ((V.map Dv.av).length : Int)) = ((k % V.length : Nat) : Int) := by
      rw [hml, Int.tmod_eq_emod_of_nonneg (by omega)]; omega
    have hne : ((V.map Dv.av).length : Int) ≠ 0 := by rw [hml]; omega
    repeat (first | ((with_reducible refine k_move ?_); refine m_move rfl ?_) | ((with_reducible refine k_fieldAddr ?_); refine x_fieldAddr_ptr tbOk rfl rfl rfl rfl ?_) | ((with_reducible refine k_load ?_); refine x_load_one tbOk rfl rfl rfl rfl rfl ?_) | ((with_reducible refine k_build ?_); refine m_build tbOk rfl rfl rfl rfl rfl ?_) | ((with_reducible refine k_call ?_); refine x_len tbOk rfl rfl ?_) | ((with_reducible refine k_bin ?_); refine x_rem rfl rfl (by first | decide | assumption | omega) ?_) | ((with_reducible refine k_buildSlice ?_); refine m_buildSlice tbOk rfl rfl rfl rfl rfl (by omega) rfl rfl rfl ?_) | refine x_none rfl ?_ | with_reducible refine q_then ?_ | with_reducible refine awp_seq ?_ | with_reducible refine awp_block ?_ | with_reducible refine awp_skip ?_ | ((with_reducible refine w_draw mixd ?_ ?_); kernel_rfl))
    refine x_append_own tbOk rfl rfl rfl rfl rfl (by decide) rfl rfl rfl rfl rfl (fun x hx => by simp at hx; subst hx; rfl) (by rw [hml2]; simp only [List.length_map, List.length_cons, List.length_nil]; omega) (by rw [hml2]; simp only [List.length_map, List.length_cons, List.length_nil]; omega) ?_
    repeat (first | ((with_reducible refine k_move ?_); refine m_move rfl ?_) | ((with_reducible refine k_assign ?_); refine m_assign rfl ?_) | ((with_reducible refine k_fieldAddr ?_); refine x_fieldAddr_ptr tbOk rfl rfl rfl rfl ?_) | ((with_reducible refine k_store ?_); refine m_store tbOk rfl rfl rfl rfl rfl rfl rfl (Nat.le_of_ble_eq_true rfl) rfl ?_) | ((with_reducible refine k_bin ?_); refine x_add_in rfl rfl (by omega) ?_)  | refine e_nrm ?_ | refine e_drw (by kernel_rfl) ?_ | refine x_none rfl ?_ | with_reducible refine q_then ?_ | with_reducible refine q_block ?_ | ((with_reducible refine w_region ?_ ?_); kernel_rfl))
    exact ⟨k + 1, by omega, by omega, ⟨rfl, rfl, rfl, rfl, rfl, trivial⟩, ⟨rfl, rfl, hc_buf (by rw [lmL_succ, List.map_append, t1]; rfl), trivial⟩⟩
  obtain rfl : k = c := by simp at h; omega
  have hkb : 63 ≤ k ∧ k ≤ 65 := by omega
  have hz0 : (lmL V.length k)[0]? = some ⟨4, 0, 0, 0, 0⟩ := by
    unfold lmL
    rw [List.getElem?_map, List.getElem?_range (by omega)]
    simp [lmS]
  have hfl := st_flat_len (lmL V.length k)
  repeat (first | ((with_reducible refine k_move ?_); refine m_move rfl ?_) | ((with_reducible refine k_assign ?_); refine m_assign rfl ?_) | ((with_reducible refine k_fieldAddr ?_); refine x_fieldAddr_ptr tbOk rfl rfl rfl rfl ?_) | ((with_reducible refine k_load ?_); refine x_load_one tbOk rfl rfl rfl rfl rfl ?_) | ((with_reducible refine k_convert ?_); refine x_conv_in tbOk rfl rfl rfl (by first | assumption | exact wrap_u64_in (by omega) | exact wrap_i64_in (by omega) | exact wrap_u8_in (by omega)) ?_) | ((with_reducible refine k_bin ?_); refine x_add_in rfl rfl (by omega) ?_) | ((with_reducible refine k_bin ?_); refine x_rem rfl rfl (by first | decide | assumption | omega) ?_)  | refine e_nrm ?_ | refine x_none rfl ?_ | with_reducible refine q_then ?_ | with_reducible refine q_then_exit ?_ | with_reducible refine awp_seq ?_ | with_reducible refine awp_exit ?_ | ((with_reducible refine q_block_exit ?_ ?_); rfl) | ((with_reducible refine w_region ?_ ?_); kernel_rfl))
  with_reducible refine k_indexAddr ?_
  refine x_indexAddr_own tbOk rfl rfl rfl rfl rfl rfl ⟨by omega, by omega⟩ ?_
  repeat (first | ((with_reducible refine k_fieldAddr ?_); refine x_fieldAddr_po tbOk rfl rfl rfl rfl ?_)  | refine x_none rfl ?_  )
  with_reducible refine k_store ?_
  refine x_store_po (L' := ((lmL V.length k).set 0 ⟨4, 0, 0, 0, y⟩).map St.av) tbOk rfl rfl rfl rfl rfl rfl rfl rfl rfl (by rw [hfl, hlen]; simp; omega) (by simp) (st_cells _) (by rw [set0_key y (lmL V.length k) (by omega) _ hz0, hy, hq2]; rfl) ?_
  have hpe := lmP_ok (y := y) h0 hvp (c := k) (by omega) (by omega)
  have hps := print_A (G := X.G) N V (lmP V.length k y) hG hP hPl ok (by show (⟨#[80]⟩ : ByteArray).size ≤ maxLen; decide) (by show ((lmL V.length k).set 0 (⟨4, 0, 0, 0, y⟩ : St)).length ≤ _; rw [List.length_set, hlen]; unfold maxLen; omega)
  have hcs := pcheck_A (G := X.G) N V (lmP V.length k y) hG ok (by show (⟨#[80]⟩ : ByteArray).size ≤ maxLen; decide) (by show ((lmL V.length k).set 0 (⟨4, 0, 0, 0, y⟩ : St)).length ≤ _; rw [List.length_set, hlen]; unfold maxLen; omega)
  have hrn := rnet_A (G := X.G) N V ok.n ok.v ok.l1 ok.l2
  rw [h0] at hrn
  have hp2 : (printG N V (lmP V.length k y)).2 = progE N V (lmP V.length k y) := by
    unfold printG
    split
    · rfl
    · rename_i h; simp at h; rw [h]
  rw [hp2] at hps
  by_cases h64 : 64 < k
  · rw [if_pos h64] at hpe
    rw [hpe] at hps hcs
    have d1 : decide ((64 : Int) < (k : Nat)) = true := decide_eq_true (by omega)
    repeat (first  | refine e_nrm ?_ | with_reducible refine q_then ?_ | with_reducible refine awp_seq ?_)
    refine awp_freeze_at (s := 42) [] [(8, [.v (.string ⟨#[80]⟩), .sl 5 (((lmL V.length k).set 0 ⟨4, 0, 0, 0, y⟩).map St.av)])] rfl trivial ⟨⟨_, _, rfl, .same (.hit .nil)⟩, trivial⟩ ?_
    repeat (first | ((with_reducible refine k_move ?_); refine m_move rfl ?_) | ((with_reducible refine k_assign ?_); refine m_assign rfl ?_) | ((with_reducible refine k_load ?_); refine x_load_agg tbOk rfl rfl rfl rfl (Nat.le_of_ble_eq_true rfl) ?_) | ((with_reducible refine k_bin ?_); refine m_binI rfl rfl rfl ?_)  | refine e_nrm ?_ | refine x_none rfl ?_ | with_reducible refine q_then ?_ | with_reducible refine awp_seq ?_ | ((with_reducible refine w_region ?_ ?_); kernel_rfl) | refine w_cond_t rfl (by first | rfl | assumption) ?_)
    refine x_call0 (hps) (by repeat' (first | exact trivial | exact Ren.v _ | exact Ren.sl _ _ | exact Ren.ep _ | exact Ren.ptr _ _ _ _ rfl | exact Ren.bs _ _ _ _ _ rfl | exact Ren.nil _ | exact Ren.own _ _ _ _ ⟨_, rfl⟩ | refine ren_ag ?_ | refine ren_tu ?_ | refine ren_fn ?_ | refine ⟨?_, ?_⟩)) (by repeat' (first | exact trivial | exact RenB.v _ | exact RenB.sl _ _ | exact RenB.ep _ | exact RenB.ptr _ _ _ _ rfl | refine renb_ag ?_ | refine renb_tu ?_ | refine ⟨?_, ?_⟩)) ?_
    repeat (first | ((with_reducible refine k_move ?_); refine m_move rfl ?_) | ((with_reducible refine k_assign ?_); refine m_assign rfl ?_) | ((with_reducible refine k_load ?_); refine x_load_agg tbOk rfl rfl rfl rfl (Nat.le_of_ble_eq_true rfl) ?_) | ((with_reducible refine k_extract ?_); refine x_extract rfl rfl ?_)  | refine e_nrm ?_ | refine x_none rfl ?_ | with_reducible refine q_then ?_ | with_reducible refine awp_seq ?_ | ((with_reducible refine w_region ?_ ?_); kernel_rfl))
    refine x_call0 (hcs) (by repeat' (first | exact trivial | exact Ren.v _ | exact Ren.sl _ _ | exact Ren.ep _ | exact Ren.ptr _ _ _ _ rfl | exact Ren.bs _ _ _ _ _ rfl | exact Ren.nil _ | exact Ren.own _ _ _ _ ⟨_, rfl⟩ | refine ren_ag ?_ | refine ren_tu ?_ | refine ren_fn ?_ | refine ⟨?_, ?_⟩)) (by repeat' (first | exact trivial | exact RenB.v _ | exact RenB.sl _ _ | exact RenB.ep _ | exact RenB.ptr _ _ _ _ rfl | refine renb_ag ?_ | refine renb_tu ?_ | refine ⟨?_, ?_⟩)) ?_
    repeat (first | ((with_reducible refine k_move ?_); refine m_move rfl ?_) | ((with_reducible refine k_load ?_); refine x_load_agg tbOk rfl rfl rfl rfl (Nat.le_of_ble_eq_true rfl) ?_) | ((with_reducible refine k_pick ?_); refine m_pickt rfl (by first | rfl | assumption) rfl ?_) | ((with_reducible refine k_bin ?_); refine m_binI rfl rfl rfl ?_)  | refine x_none rfl ?_ | refine x_run_t rfl rfl (by first | rfl | assumption) ?_  )
    refine x_call0 (hrn) (by repeat' (first | exact trivial | exact Ren.v _ | exact Ren.sl _ _ | exact Ren.ep _ | exact Ren.ptr _ _ _ _ rfl | exact Ren.bs _ _ _ _ _ rfl | exact Ren.nil _ | exact Ren.own _ _ _ _ ⟨_, rfl⟩ | refine ren_ag ?_ | refine ren_tu ?_ | refine ren_fn ?_ | refine ⟨?_, ?_⟩)) (by repeat' (first | exact trivial | exact RenB.v _ | exact RenB.sl _ _ | exact RenB.ep _ | exact RenB.ptr _ _ _ _ rfl | refine renb_ag ?_ | refine renb_tu ?_ | refine ⟨?_, ?_⟩)) ?_
    repeat (first | ((with_reducible refine k_move ?_); refine m_move rfl ?_) | ((with_reducible refine k_pick ?_); refine m_pickt rfl (by first | rfl | assumption) rfl ?_) | ((with_reducible refine k_bin ?_); refine m_binI rfl rfl rfl ?_)  | refine x_none rfl ?_ | refine x_run_t rfl rfl (by first | rfl | assumption) ?_  )
    refine x_call0 (awake_A hG hP hPl hM) (by repeat' (first | exact trivial | exact Ren.v _ | exact Ren.sl _ _ | exact Ren.ep _ | exact Ren.ptr _ _ _ _ rfl | exact Ren.bs _ _ _ _ _ rfl | exact Ren.nil _ | exact Ren.own _ _ _ _ ⟨_, rfl⟩ | refine ren_ag ?_ | refine ren_tu ?_ | refine ren_fn ?_ | refine ⟨?_, ?_⟩)) (by repeat' (first | exact trivial | exact RenB.v _ | exact RenB.sl _ _ | exact RenB.ep _ | exact RenB.ptr _ _ _ _ rfl | refine renb_ag ?_ | refine renb_tu ?_ | refine ⟨?_, ?_⟩)) ?_
    repeat (first | ((with_reducible refine k_assign ?_); refine m_assign rfl ?_) | ((with_reducible refine k_pick ?_); refine m_pickt rfl (by first | rfl | assumption) rfl ?_)  | refine e_nrm ?_ | refine x_none rfl ?_ | with_reducible refine q_then ?_ | with_reducible refine awp_ret ?_ )
    refine ret_v (by first | exact .inr rfl | exact .inl rfl) rfl rfl ?_
    rfl
  · rw [if_neg h64] at hpe
    have d1 : decide ((64 : Int) < (k : Nat)) = false := decide_eq_false (by omega)
    by_cases hky : 65536 < y
    · rw [if_pos hky] at hpe
      rw [hpe] at hps hcs
      have d2 : decide ((65536 : Int) < 65535 + u2.tmod 3) = true := decide_eq_true (by omega)
      repeat (first  | refine e_nrm ?_ | with_reducible refine q_then ?_ | with_reducible refine awp_seq ?_)
      refine awp_freeze_at (s := 42) [] [(8, [.v (.string ⟨#[80]⟩), .sl 5 (((lmL V.length k).set 0 ⟨4, 0, 0, 0, y⟩).map St.av)])] rfl trivial ⟨⟨_, _, rfl, .same (.hit .nil)⟩, trivial⟩ ?_
      repeat (first | ((with_reducible refine k_move ?_); refine m_move rfl ?_) | ((with_reducible refine k_assign ?_); refine m_assign rfl ?_) | ((with_reducible refine k_load ?_); refine x_load_agg tbOk rfl rfl rfl rfl (Nat.le_of_ble_eq_true rfl) ?_) | ((with_reducible refine k_bin ?_); refine m_binI rfl rfl rfl ?_)  | refine e_nrm ?_ | refine x_none rfl ?_ | with_reducible refine q_then ?_ | with_reducible refine awp_seq ?_ | ((with_reducible refine w_region ?_ ?_); kernel_rfl) | refine w_cond_t rfl (by first | rfl | assumption) ?_ | refine w_cond_f rfl (by first | rfl | assumption) ?_)
      refine x_call0 (hps) (by repeat' (first | exact trivial | exact Ren.v _ | exact Ren.sl _ _ | exact Ren.ep _ | exact Ren.ptr _ _ _ _ rfl | exact Ren.bs _ _ _ _ _ rfl | exact Ren.nil _ | exact Ren.own _ _ _ _ ⟨_, rfl⟩ | refine ren_ag ?_ | refine ren_tu ?_ | refine ren_fn ?_ | refine ⟨?_, ?_⟩)) (by repeat' (first | exact trivial | exact RenB.v _ | exact RenB.sl _ _ | exact RenB.ep _ | exact RenB.ptr _ _ _ _ rfl | refine renb_ag ?_ | refine renb_tu ?_ | refine ⟨?_, ?_⟩)) ?_
      repeat (first | ((with_reducible refine k_move ?_); refine m_move rfl ?_) | ((with_reducible refine k_assign ?_); refine m_assign rfl ?_) | ((with_reducible refine k_load ?_); refine x_load_agg tbOk rfl rfl rfl rfl (Nat.le_of_ble_eq_true rfl) ?_) | ((with_reducible refine k_extract ?_); refine x_extract rfl rfl ?_)  | refine e_nrm ?_ | refine x_none rfl ?_ | with_reducible refine q_then ?_ | with_reducible refine awp_seq ?_ | ((with_reducible refine w_region ?_ ?_); kernel_rfl))
      refine x_call0 (hcs) (by repeat' (first | exact trivial | exact Ren.v _ | exact Ren.sl _ _ | exact Ren.ep _ | exact Ren.ptr _ _ _ _ rfl | exact Ren.bs _ _ _ _ _ rfl | exact Ren.nil _ | exact Ren.own _ _ _ _ ⟨_, rfl⟩ | refine ren_ag ?_ | refine ren_tu ?_ | refine ren_fn ?_ | refine ⟨?_, ?_⟩)) (by repeat' (first | exact trivial | exact RenB.v _ | exact RenB.sl _ _ | exact RenB.ep _ | exact RenB.ptr _ _ _ _ rfl | refine renb_ag ?_ | refine renb_tu ?_ | refine ⟨?_, ?_⟩)) ?_
      repeat (first | ((with_reducible refine k_move ?_); refine m_move rfl ?_) | ((with_reducible refine k_load ?_); refine x_load_agg tbOk rfl rfl rfl rfl (Nat.le_of_ble_eq_true rfl) ?_) | ((with_reducible refine k_pick ?_); refine m_pickt rfl (by first | rfl | assumption) rfl ?_) | ((with_reducible refine k_bin ?_); refine m_binI rfl rfl rfl ?_)  | refine x_none rfl ?_ | refine x_run_t rfl rfl (by first | rfl | assumption) ?_  )
      refine x_call0 (hrn) (by repeat' (first | exact trivial | exact Ren.v _ | exact Ren.sl _ _ | exact Ren.ep _ | exact Ren.ptr _ _ _ _ rfl | exact Ren.bs _ _ _ _ _ rfl | exact Ren.nil _ | exact Ren.own _ _ _ _ ⟨_, rfl⟩ | refine ren_ag ?_ | refine ren_tu ?_ | refine ren_fn ?_ | refine ⟨?_, ?_⟩)) (by repeat' (first | exact trivial | exact RenB.v _ | exact RenB.sl _ _ | exact RenB.ep _ | exact RenB.ptr _ _ _ _ rfl | refine renb_ag ?_ | refine renb_tu ?_ | refine ⟨?_, ?_⟩)) ?_
      repeat (first | ((with_reducible refine k_move ?_); refine m_move rfl ?_) | ((with_reducible refine k_pick ?_); refine m_pickt rfl (by first | rfl | assumption) rfl ?_) | ((with_reducible refine k_bin ?_); refine m_binI rfl rfl rfl ?_)  | refine x_none rfl ?_ | refine x_run_t rfl rfl (by first | rfl | assumption) ?_  )
      refine x_call0 (awake_A hG hP hPl hM) (by repeat' (first | exact trivial | exact Ren.v _ | exact Ren.sl _ _ | exact Ren.ep _ | exact Ren.ptr _ _ _ _ rfl | exact Ren.bs _ _ _ _ _ rfl | exact Ren.nil _ | exact Ren.own _ _ _ _ ⟨_, rfl⟩ | refine ren_ag ?_ | refine ren_tu ?_ | refine ren_fn ?_ | refine ⟨?_, ?_⟩)) (by repeat' (first | exact trivial | exact RenB.v _ | exact RenB.sl _ _ | exact RenB.ep _ | exact RenB.ptr _ _ _ _ rfl | refine renb_ag ?_ | refine renb_tu ?_ | refine ⟨?_, ?_⟩)) ?_
      repeat (first | ((with_reducible refine k_assign ?_); refine m_assign rfl ?_) | ((with_reducible refine k_pick ?_); refine m_pickt rfl (by first | rfl | assumption) rfl ?_)  | refine e_nrm ?_ | refine x_none rfl ?_ | with_reducible refine q_then ?_ | with_reducible refine awp_ret ?_ )
      refine ret_v (by first | exact .inr rfl | exact .inl rfl) rfl rfl ?_
      rfl
    · rw [if_neg hky] at hpe
      rw [hpe] at hps hcs
      have d2 : decide ((65536 : Int) < 65535 + u2.tmod 3) = false := decide_eq_false (by omega)
      repeat (first  | refine e_nrm ?_ | with_reducible refine q_then ?_ | with_reducible refine awp_seq ?_)
      refine awp_freeze_at (s := 42) [] [(8, [.v (.string ⟨#[80]⟩), .sl 5 (((lmL V.length k).set 0 ⟨4, 0, 0, 0, y⟩).map St.av)])] rfl trivial ⟨⟨_, _, rfl, .same (.hit .nil)⟩, trivial⟩ ?_
      repeat (first | ((with_reducible refine k_move ?_); refine m_move rfl ?_) | ((with_reducible refine k_assign ?_); refine m_assign rfl ?_) | ((with_reducible refine k_load ?_); refine x_load_agg tbOk rfl rfl rfl rfl (Nat.le_of_ble_eq_true rfl) ?_) | ((with_reducible refine k_bin ?_); refine m_binI rfl rfl rfl ?_)  | refine e_nrm ?_ | refine x_none rfl ?_ | with_reducible refine q_then ?_ | with_reducible refine awp_seq ?_ | with_reducible refine awp_skip ?_ | ((with_reducible refine w_region ?_ ?_); kernel_rfl) | refine w_cond_f rfl (by first | rfl | assumption) ?_)
      refine x_call0 (hps) (by repeat' (first | exact trivial | exact Ren.v _ | exact Ren.sl _ _ | exact Ren.ep _ | exact Ren.ptr _ _ _ _ rfl | exact Ren.bs _ _ _ _ _ rfl | exact Ren.nil _ | exact Ren.own _ _ _ _ ⟨_, rfl⟩ | refine ren_ag ?_ | refine ren_tu ?_ | refine ren_fn ?_ | refine ⟨?_, ?_⟩)) (by repeat' (first | exact trivial | exact RenB.v _ | exact RenB.sl _ _ | exact RenB.ep _ | exact RenB.ptr _ _ _ _ rfl | refine renb_ag ?_ | refine renb_tu ?_ | refine ⟨?_, ?_⟩)) ?_
      repeat (first | ((with_reducible refine k_move ?_); refine m_move rfl ?_) | ((with_reducible refine k_assign ?_); refine m_assign rfl ?_) | ((with_reducible refine k_load ?_); refine x_load_agg tbOk rfl rfl rfl rfl (Nat.le_of_ble_eq_true rfl) ?_) | ((with_reducible refine k_extract ?_); refine x_extract rfl rfl ?_)  | refine e_nrm ?_ | refine x_none rfl ?_ | with_reducible refine q_then ?_ | with_reducible refine awp_seq ?_ | ((with_reducible refine w_region ?_ ?_); kernel_rfl))
      refine x_call0 (hcs) (by repeat' (first | exact trivial | exact Ren.v _ | exact Ren.sl _ _ | exact Ren.ep _ | exact Ren.ptr _ _ _ _ rfl | exact Ren.bs _ _ _ _ _ rfl | exact Ren.nil _ | exact Ren.own _ _ _ _ ⟨_, rfl⟩ | refine ren_ag ?_ | refine ren_tu ?_ | refine ren_fn ?_ | refine ⟨?_, ?_⟩)) (by repeat' (first | exact trivial | exact RenB.v _ | exact RenB.sl _ _ | exact RenB.ep _ | exact RenB.ptr _ _ _ _ rfl | refine renb_ag ?_ | refine renb_tu ?_ | refine ⟨?_, ?_⟩)) ?_
      repeat (first | ((with_reducible refine k_move ?_); refine m_move rfl ?_) | ((with_reducible refine k_load ?_); refine x_load_agg tbOk rfl rfl rfl rfl (Nat.le_of_ble_eq_true rfl) ?_) | ((with_reducible refine k_pick ?_); refine m_pickt rfl (by first | rfl | assumption) rfl ?_) | ((with_reducible refine k_bin ?_); refine m_binI rfl rfl rfl ?_)  | refine x_none rfl ?_ | refine x_run_t rfl rfl (by first | rfl | assumption) ?_  )
      refine x_call0 (hrn) (by repeat' (first | exact trivial | exact Ren.v _ | exact Ren.sl _ _ | exact Ren.ep _ | exact Ren.ptr _ _ _ _ rfl | exact Ren.bs _ _ _ _ _ rfl | exact Ren.nil _ | exact Ren.own _ _ _ _ ⟨_, rfl⟩ | refine ren_ag ?_ | refine ren_tu ?_ | refine ren_fn ?_ | refine ⟨?_, ?_⟩)) (by repeat' (first | exact trivial | exact RenB.v _ | exact RenB.sl _ _ | exact RenB.ep _ | exact RenB.ptr _ _ _ _ rfl | refine renb_ag ?_ | refine renb_tu ?_ | refine ⟨?_, ?_⟩)) ?_
      repeat (first | ((with_reducible refine k_move ?_); refine m_move rfl ?_) | ((with_reducible refine k_pick ?_); refine m_pickt rfl (by first | rfl | assumption) rfl ?_) | ((with_reducible refine k_bin ?_); refine m_binI rfl rfl rfl ?_)  | refine x_none rfl ?_ | refine x_run_t rfl rfl (by first | rfl | assumption) ?_  )
      refine x_call0 (awake_A hG hP hPl hM) (by repeat' (first | exact trivial | exact Ren.v _ | exact Ren.sl _ _ | exact Ren.ep _ | exact Ren.ptr _ _ _ _ rfl | exact Ren.bs _ _ _ _ _ rfl | exact Ren.nil _ | exact Ren.own _ _ _ _ ⟨_, rfl⟩ | refine ren_ag ?_ | refine ren_tu ?_ | refine ren_fn ?_ | refine ⟨?_, ?_⟩)) (by repeat' (first | exact trivial | exact RenB.v _ | exact RenB.sl _ _ | exact RenB.ep _ | exact RenB.ptr _ _ _ _ rfl | refine renb_ag ?_ | refine renb_tu ?_ | refine ⟨?_, ?_⟩)) ?_
      repeat (first | ((with_reducible refine k_assign ?_); refine m_assign rfl ?_) | ((with_reducible refine k_pick ?_); refine m_pickt rfl (by first | rfl | assumption) rfl ?_)  | refine e_nrm ?_ | refine x_none rfl ?_ | with_reducible refine q_then ?_ | with_reducible refine awp_ret ?_ )
      refine ret_v (by first | exact .inr rfl | exact .inl rfl) rfl rfl ?_
      rfl
end Go.Proofs.YtggngllfnboehaaDoor
