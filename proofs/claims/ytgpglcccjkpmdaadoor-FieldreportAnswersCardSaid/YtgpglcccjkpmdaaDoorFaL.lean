/- permitofficelaw10.FieldreportAnswers, by the abstract machine: it answers true for all its arguments; conditions: the tables of classes and powers stand. -/
import Derived.Test.YtgpglcccjkpmdaaDoorFsB
import Derived.Test.YtgpglcccjkpmdaaDoorFlA
import Derived.Test.YtgpglcccjkpmdaaDoorAbsW
import Derived.Test.YtgpglcccjkpmdaaDoorAbsM
set_option linter.unusedVariables false
set_option linter.unusedSimpArgs false
namespace Go.Proofs.YtgpglcccjkpmdaaDoor
open Go Go.RowKit
set_option maxRecDepth 10000
variable {G : Nat → Option (List Value)}
theorem putD_len {V : List Dv} : ∀ {R : List Rp} {Ns : List (List UInt8)} {Q : List Rp}, putD V R Ns = some Q → Q.length = R.length
  | [], Ns, Q, h => by
    unfold putD at h
    injection h with h
    subst h; rfl
  | r :: R, [], Q, h => by
    unfold putD at h
    injection h with h
    subst h; rfl
  | r :: R, n :: Ns, Q, h => by
    rw [putD] at h
    split at h
    · cases h
    split at h
    · cases h
    rename_i Q' hq
    injection h with h
    subst h
    simp [putD_len hq]
theorem parse_len (N : List Nd) (V : List Dv) (s : List UInt8) : (parseM N V s).1.rs.length ≤ s.length + 1 := by
  unfold parseM
  split
  · simp [ms0]
  unfold parseW
  split
  · simp [ms0]
  rename_i q hq
  split
  · simp [ms0]
  rename_i R hR
  have h1 := putD_len hR
  have h2 := (readW_len (show readW (wordsL s) = some (q.1, q.2) from hq)).2.1
  have h3 := wordsL_len s
  show R.length ≤ _
  omega
/-- A message that was changed. -/
structure MsFew (M : Ms) : Prop where
  c : M.cr.size ≤ maxLen
  l : M.rs.length ≤ 40
def z0 : ByteArray := ⟨#[67, 49, 32, 97, 116, 32, 48, 47, 48, 54, 58, 49, 48, 58, 32, 88, 57, 57, 32, 111, 112, 101, 110, 32, 115, 101, 101, 110, 59]⟩
theorem rp_one (L : List Rp) : ∀ x ∈ L.map Rp.av, allOne x.cells = true := by
  intro x hx
  obtain ⟨r, _, rfl⟩ := List.mem_map.1 hx
  rfl
set_option maxHeartbeats 16000000 in
theorem answers_law (l : List Int) (No : List Nd) (Vo : List Dv) (m : Ms) (s : ByteArray) (oko : NwOk No Vo) (hmc : m.cr.size ≤ maxLen) (hml : m.rs.length ≤ maxLen) (hG : GCls G) (hP : GPow G) :
    ACalls Tryd.prog G 4 [.sl 1 (l.map iv), nwAV No Vo, m.av, .v (.string s)] [] (.v (.bool true)) [] := by
  refine acalls_of tbOk (enter_of Tryd.func4 (by kernel_rfl) rfl) Tryd.func4 rfl _ Tryd.ntmps4 (Nat.le_of_ble_eq_true rfl) fun X hX => ?_
  subst hX
  repeat (first | ((with_reducible refine k_move ?_); refine m_move rfl ?_) | ((with_reducible refine k_assign ?_); refine m_assign rfl ?_) | ((with_reducible refine k_box ?_); refine m_box rfl rfl rfl ?_)  | refine e_nrm ?_ | refine x_none rfl ?_ | with_reducible refine q_then ?_ | with_reducible refine awp_seq ?_ | ((with_reducible refine w_region ?_ ?_); kernel_rfl))
  refine x_call0 (few_A (l.map iv)) (by repeat' (first | exact trivial | exact Ren.v _ | exact Ren.sl _ _ | exact Ren.ep _ | exact Ren.ptr _ _ _ _ rfl | exact Ren.bs _ _ _ _ _ rfl | exact Ren.nil _ | exact Ren.own _ _ _ _ ⟨_, rfl⟩ | refine ren_ag ?_ | refine ren_tu ?_ | refine ren_fn ?_ | refine ⟨?_, ?_⟩)) (by repeat' (first | exact trivial | exact RenB.v _ | exact RenB.sl _ _ | exact RenB.ep _ | exact RenB.ptr _ _ _ _ rfl | refine renb_ag ?_ | refine renb_tu ?_ | refine ⟨?_, ?_⟩)) ?_
  repeat (first | ((with_reducible refine k_move ?_); refine m_move rfl ?_) | ((with_reducible refine k_un ?_); refine x_not rfl ?_)  | refine x_none rfl ?_  )
  refine x_split rfl rfl (fun c1 => ?_) (fun c1 => ?_)
  · repeat (first | ((with_reducible refine k_move ?_); refine m_move rfl ?_) | ((with_reducible refine k_pick ?_); refine m_pickt rfl (by first | rfl | assumption) rfl ?_)  | refine e_nrm ?_ | refine x_none rfl ?_ | refine x_skip_f rfl rfl (by first | rfl | assumption) ?_ | with_reducible refine q_then ?_ | with_reducible refine awp_seq ?_ | ((with_reducible refine w_region ?_ ?_); kernel_rfl) | refine w_cond_t rfl (by first | rfl | assumption) ?_)
    refine x_call0 (awake_A hG hP) (by repeat' (first | exact trivial | exact Ren.v _ | exact Ren.sl _ _ | exact Ren.ep _ | exact Ren.ptr _ _ _ _ rfl | exact Ren.bs _ _ _ _ _ rfl | exact Ren.nil _ | exact Ren.own _ _ _ _ ⟨_, rfl⟩ | refine ren_ag ?_ | refine ren_tu ?_ | refine ren_fn ?_ | refine ⟨?_, ?_⟩)) (by repeat' (first | exact trivial | exact RenB.v _ | exact RenB.sl _ _ | exact RenB.ep _ | exact RenB.ptr _ _ _ _ rfl | refine renb_ag ?_ | refine renb_tu ?_ | refine ⟨?_, ?_⟩)) ?_
    repeat (first | ((with_reducible refine k_assign ?_); refine m_assign rfl ?_)  | refine e_nrm ?_ | refine x_none rfl ?_ | with_reducible refine q_then ?_ | with_reducible refine q_then_ret ?_ | with_reducible refine awp_ret ?_ )
    refine ret_v (by first | exact .inr rfl | exact .inl rfl) rfl rfl ?_
    rfl
  have hl : l.length ≤ 400 := by simp at c1; omega
  repeat (first | ((with_reducible refine k_load ?_); refine x_load_agg tbOk rfl rfl rfl rfl (Nat.le_of_ble_eq_true rfl) ?_)  | refine x_run_f rfl rfl (by first | rfl | assumption) ?_  )
  refine x_call0 (light_A No Vo oko) (by repeat' (first | exact trivial | exact Ren.v _ | exact Ren.sl _ _ | exact Ren.ep _ | exact Ren.ptr _ _ _ _ rfl | exact Ren.bs _ _ _ _ _ rfl | exact Ren.nil _ | exact Ren.own _ _ _ _ ⟨_, rfl⟩ | refine ren_ag ?_ | refine ren_tu ?_ | refine ren_fn ?_ | refine ⟨?_, ?_⟩)) (by repeat' (first | exact trivial | exact RenB.v _ | exact RenB.sl _ _ | exact RenB.ep _ | exact RenB.ptr _ _ _ _ rfl | refine renb_ag ?_ | refine renb_tu ?_ | refine ⟨?_, ?_⟩)) ?_
  repeat (first | ((with_reducible refine k_move ?_); refine m_move rfl ?_) | ((with_reducible refine k_un ?_); refine x_not rfl ?_) | ((with_reducible refine k_pick ?_); refine m_pickf rfl (by first | rfl | assumption) rfl ?_)  | refine x_none rfl ?_ | refine x_run_f rfl rfl (by first | rfl | assumption) ?_  )
  refine x_split rfl rfl (fun c2 => ?_) (fun c2 => ?_)
  · repeat (first | ((with_reducible refine k_move ?_); refine m_move rfl ?_) | ((with_reducible refine k_pick ?_); refine m_pickt rfl (by first | rfl | assumption) rfl ?_)  | refine e_nrm ?_ | refine x_none rfl ?_ | refine x_skip_f rfl rfl (by first | rfl | assumption) ?_ | with_reducible refine q_then ?_ | with_reducible refine awp_seq ?_ | ((with_reducible refine w_region ?_ ?_); kernel_rfl) | refine w_cond_t rfl (by first | rfl | assumption) ?_)
    refine x_call0 (awake_A hG hP) (by repeat' (first | exact trivial | exact Ren.v _ | exact Ren.sl _ _ | exact Ren.ep _ | exact Ren.ptr _ _ _ _ rfl | exact Ren.bs _ _ _ _ _ rfl | exact Ren.nil _ | exact Ren.own _ _ _ _ ⟨_, rfl⟩ | refine ren_ag ?_ | refine ren_tu ?_ | refine ren_fn ?_ | refine ⟨?_, ?_⟩)) (by repeat' (first | exact trivial | exact RenB.v _ | exact RenB.sl _ _ | exact RenB.ep _ | exact RenB.ptr _ _ _ _ rfl | refine renb_ag ?_ | refine renb_tu ?_ | refine ⟨?_, ?_⟩)) ?_
    repeat (first | ((with_reducible refine k_assign ?_); refine m_assign rfl ?_)  | refine e_nrm ?_ | refine x_none rfl ?_ | with_reducible refine q_then ?_ | with_reducible refine q_then_ret ?_ | with_reducible refine awp_ret ?_ )
    refine ret_v (by first | exact .inr rfl | exact .inl rfl) rfl rfl ?_
    rfl
  repeat (first | ((with_reducible refine k_move ?_); refine m_move rfl ?_) | ((with_reducible refine k_fieldAddr ?_); refine x_fieldAddr_ptr tbOk rfl rfl rfl rfl ?_) | ((with_reducible refine k_load ?_); refine x_load_one tbOk rfl rfl rfl rfl rfl ?_) | ((with_reducible refine k_pick ?_); refine m_pickf rfl (by first | rfl | assumption) rfl ?_) | ((with_reducible refine k_call ?_); refine x_len tbOk rfl rfl ?_) | ((with_reducible refine k_bin ?_); refine m_binI rfl rfl rfl ?_)  | refine x_none rfl ?_ | refine x_run_f rfl rfl (by first | rfl | assumption) ?_  )
  refine x_split rfl rfl (fun c3 => ?_) (fun c3 => ?_)
  · repeat (first | ((with_reducible refine k_pick ?_); refine m_pickt rfl (by first | rfl | assumption) rfl ?_)  | refine e_nrm ?_ | refine x_none rfl ?_ | refine x_skip_f rfl rfl (by first | rfl | assumption) ?_ | with_reducible refine q_then ?_ | with_reducible refine awp_seq ?_ | ((with_reducible refine w_region ?_ ?_); kernel_rfl) | refine w_cond_t rfl (by first | rfl | assumption) ?_)
    refine x_call0 (awake_A hG hP) (by repeat' (first | exact trivial | exact Ren.v _ | exact Ren.sl _ _ | exact Ren.ep _ | exact Ren.ptr _ _ _ _ rfl | exact Ren.bs _ _ _ _ _ rfl | exact Ren.nil _ | exact Ren.own _ _ _ _ ⟨_, rfl⟩ | refine ren_ag ?_ | refine ren_tu ?_ | refine ren_fn ?_ | refine ⟨?_, ?_⟩)) (by repeat' (first | exact trivial | exact RenB.v _ | exact RenB.sl _ _ | exact RenB.ep _ | exact RenB.ptr _ _ _ _ rfl | refine renb_ag ?_ | refine renb_tu ?_ | refine ⟨?_, ?_⟩)) ?_
    repeat (first | ((with_reducible refine k_assign ?_); refine m_assign rfl ?_)  | refine e_nrm ?_ | refine x_none rfl ?_ | with_reducible refine q_then ?_ | with_reducible refine q_then_ret ?_ | with_reducible refine awp_ret ?_ )
    refine ret_v (by first | exact .inr rfl | exact .inl rfl) rfl rfl ?_
    rfl
  repeat (first | ((with_reducible refine k_move ?_); refine m_move rfl ?_) | ((with_reducible refine k_pick ?_); refine m_pickf rfl (by first | rfl | assumption) rfl ?_) | ((with_reducible refine k_call ?_); refine x_len_str (by exact Tryd.underlying9) rfl ?_) | ((with_reducible refine k_bin ?_); refine m_binI rfl rfl rfl ?_)  | refine e_nrm ?_ | refine x_none rfl ?_ | refine x_run_f rfl rfl (by first | rfl | assumption) ?_ | with_reducible refine q_then ?_ )
  refine w_cond rfl (fun c4 => ?_) (fun c4 => ?_)
  · repeat (first   | refine x_none rfl ?_ | with_reducible refine awp_seq ?_ | ((with_reducible refine w_region ?_ ?_); kernel_rfl))
    refine x_call0 (awake_A hG hP) (by repeat' (first | exact trivial | exact Ren.v _ | exact Ren.sl _ _ | exact Ren.ep _ | exact Ren.ptr _ _ _ _ rfl | exact Ren.bs _ _ _ _ _ rfl | exact Ren.nil _ | exact Ren.own _ _ _ _ ⟨_, rfl⟩ | refine ren_ag ?_ | refine ren_tu ?_ | refine ren_fn ?_ | refine ⟨?_, ?_⟩)) (by repeat' (first | exact trivial | exact RenB.v _ | exact RenB.sl _ _ | exact RenB.ep _ | exact RenB.ptr _ _ _ _ rfl | refine renb_ag ?_ | refine renb_tu ?_ | refine ⟨?_, ?_⟩)) ?_
    repeat (first | ((with_reducible refine k_assign ?_); refine m_assign rfl ?_)  | refine e_nrm ?_ | refine x_none rfl ?_ | with_reducible refine q_then ?_ | with_reducible refine q_then_ret ?_ | with_reducible refine awp_ret ?_ )
    refine ret_v (by first | exact .inr rfl | exact .inl rfl) rfl rfl ?_
    rfl
  have hm40 : m.rs.length ≤ 40 := by simp at c3; omega
  have hs1000 : s.size ≤ 1000 := by simp at c4; omega
  clear c1 c2 c3 c4
  have dk := DkOk.new hl
  have hv := net5_ok dk 8 (nodes := 5) (by decide) (by decide)
  have hvp := net5_pos (dk0 l) 5 (m := 8) (by decide)
  have ok : NwOk (net1 (dk0 l) 5).1 (net5 (dk0 l) 5 8).1 := nw_ok hl (nodes := 5) (m := 8) (by decide) (by decide) (by decide)
  have h0 : netE (net1 (dk0 l) 5).1 (net5 (dk0 l) 5 8).1 = 0 := nw_valid hl (nodes := 5) (m := 8) (by decide) (by decide) (by decide)
  have hnet := network_A (G := X.G) (dk0 l) 5 8 dk (by decide) (by decide) (by decide)
  have hvl := hv.len
  have hdk := hv.dk
  clear hv
  obtain ⟨N, hN⟩ : ∃ N, N = (net1 (dk0 l) 5).1 := ⟨_, rfl⟩
  obtain ⟨V, hV⟩ : ∃ V, V = (net5 (dk0 l) 5 8).1 := ⟨_, rfl⟩
  obtain ⟨E, hE⟩ : ∃ E, E = (net5 (dk0 l) 5 8).2 := ⟨_, rfl⟩
  rw [← hN, ← hV, ← hE] at hnet
  rw [← hN, ← hV] at ok h0
  rw [← hV] at hvp hvl
  rw [← hE] at hdk
  have hmo := msgD_ok V E hvp (by omega)
  have hmd := msgD_dk (V := V) hdk
  have hmsg := message_A (G := X.G) N V E hdk hvp (by omega)
  obtain ⟨M, hM⟩ : ∃ M, M = (msgD V E).1 := ⟨_, rfl⟩
  obtain ⟨D, hD⟩ : ∃ D, D = (msgD V E).2 := ⟨_, rfl⟩
  rw [← hM, ← hD] at hmsg
  rw [← hM] at hmo
  rw [← hD] at hmd
  clear hN hV hE hM hD
  have hrl : (M.rs.map Rp.av).length = M.rs.length := by simp
  have hvml : (V.map Dv.av).length = V.length := by simp
  have hl1 := hmo.l1
  have hl2 := hmo.l2
  have ht := timeB_iff.1 hmo.t
  obtain ⟨s1, s2⟩ := ms_small hmo
  have hin := D.in_ (n := (M.rs.length : Int)) (by omega) (by omega)
  have hn1 := next_A (G := X.G) D ((M.rs.map Rp.av).length : Int) hmd (by omega) (by omega)
  obtain ⟨i, hi⟩ : ∃ i : Nat, D.val (M.rs.length : Int) = (i : Int) := ⟨(D.val (M.rs.length : Int)).toNat, by omega⟩
  rw [show D.val ((M.rs.map Rp.av).length : Int) = (i : Int) by rw [hrl]; exact hi] at hn1
  rw [hi] at hin
  obtain ⟨r, hr⟩ := some_at (L := M.rs) (k := i) (by omega)
  have hrt := (hmo.rs r (List.mem_of_getElem? hr)).2.2.2
  have hpf : ((M.rs.map Rp.av).flatMap AV.cells).length = M.rs.length * 5 := by rw [flat_len' (rp_cells _), hrl]
  have hts : ∀ (j : Nat) (r' : Rp) (u : Int), r'.av.cells = r.av.cells.set j (.v (.int .i64 u)) → j < 5 → ((M.rs.set i r').map Rp.av).flatMap AV.cells = putL ((M.rs.map Rp.av).flatMap AV.cells) ((i : Int).toNat * 5 + j) [.v (.int .i64 u)] := fun j r' u e hj => by
    rw [Int.toNat_natCast, List.map_set]
    exact flat_field (rp_cells _) (rp_at hr) e hj
  have hn2 := next_A (G := X.G) D.next 6 hmd.next (by omega) (by omega)
  have hin6 := D.next.in_ (n := 6) (by omega) (by omega)
  obtain ⟨q6, hq6⟩ : ∃ q, q = D.next.val 6 := ⟨_, rfl⟩
  rw [← hq6] at hn2 hin6
  have hdk2 := hmd.next.next
  obtain ⟨D2, hD2⟩ : ∃ D2, D2 = D.next.next := ⟨_, rfl⟩
  rw [← hD2] at hn2 hdk2
  have hp := frprint_A (G := X.G) N V M hG hP ok s1 s2
  rw [print_ok h0 hmo] at hp
  have hlen := msg_len h0 hmo
  obtain ⟨L, hL⟩ : ∃ L, L = strL (joinW (msgW V M)) := ⟨_, rfl⟩
  have hLs : L.size ≤ 20000 := by rw [hL, strL_size]; exact hlen
  rw [← hL] at hp
  simp only at hp
  clear hL hlen
  have hn3 := next_A (G := X.G) D2 ((L.size : Int) + 1) hdk2 (by omega) (by omega)
  have hin3 := D2.in_ (n := (L.size : Int) + 1) (by omega) (by omega)
  obtain ⟨at_, hat⟩ : ∃ q, q = D2.val ((L.size : Int) + 1) := ⟨_, rfl⟩
  rw [← hat] at hn3 hin3
  have hn4 := next_A (G := X.G) D2.next 6 hdk2.next (by omega) (by omega)
  have hin4 := D2.next.in_ (n := 6) (by omega) (by omega)
  obtain ⟨q4, hq4⟩ : ∃ q, q = D2.next.val 6 := ⟨_, rfl⟩
  rw [← hq4] at hn4 hin4
  have hn5 := next_A (G := X.G) D2.next.next 2 hdk2.next.next (by omega) (by omega)
  have hin5 := D2.next.next.in_ (n := 2) (by omega) (by omega)
  obtain ⟨q5, hq5⟩ : ∃ q, q = D2.next.next.val 2 := ⟨_, rfl⟩
  rw [← hq5] at hn5 hin5
  repeat (first | ((with_reducible refine k_move ?_); refine m_move rfl ?_)  | refine x_none rfl ?_ | with_reducible refine q_then ?_ | with_reducible refine awp_seq ?_ | with_reducible refine awp_skip ?_ | ((with_reducible refine w_region ?_ ?_); kernel_rfl))
  refine x_call_new (new_A l) (by repeat' (first | exact trivial | exact Ren.v _ | exact Ren.sl _ _ | exact Ren.ep _ | exact Ren.ptr _ _ _ _ rfl | exact Ren.bs _ _ _ _ _ rfl | exact Ren.nil _ | exact Ren.own _ _ _ _ ⟨_, rfl⟩ | refine ren_ag ?_ | refine ren_tu ?_ | refine ren_fn ?_ | refine ⟨?_, ?_⟩)) ⟨.sl _ _, .v _, .v _, trivial⟩ rfl ?_
  repeat (first | ((with_reducible refine k_move ?_); refine m_move rfl ?_) | ((with_reducible refine k_assign ?_); refine m_assign rfl ?_)  | refine e_nrm ?_ | refine x_none rfl ?_ | with_reducible refine q_then ?_ | with_reducible refine awp_seq ?_ | ((with_reducible refine w_region ?_ ?_); kernel_rfl))
  refine x_call (y := .ag [.sl 3 (N.map Nd.av), .sl 5 (V.map Dv.av)]) (ss := [(53, 1)]) (hnet) (by repeat' (first | exact trivial | exact Ren.v _ | exact Ren.sl _ _ | exact Ren.ep _ | exact Ren.ptr _ _ _ _ rfl | exact Ren.bs _ _ _ _ _ rfl | exact Ren.nil _ | exact Ren.own _ _ _ _ ⟨_, rfl⟩ | refine ren_ag ?_ | refine ren_tu ?_ | refine ren_fn ?_ | refine ⟨?_, ?_⟩)) (by simp) (in1 rfl rfl) rfl (back1 rfl) (by repeat' (first | exact trivial | exact RenB.v _ | exact RenB.sl _ _ | exact RenB.ep _ | exact RenB.ptr _ _ _ _ rfl | refine renb_ag ?_ | refine renb_tu ?_ | refine ⟨?_, ?_⟩)) ?_
  repeat (first | ((with_reducible refine k_move ?_); refine m_move rfl ?_) | ((with_reducible refine k_load ?_); refine x_load_agg tbOk rfl rfl rfl rfl (Nat.le_of_ble_eq_true rfl) ?_) | ((with_reducible refine k_store ?_); refine m_store tbOk rfl rfl rfl rfl rfl rfl rfl (Nat.le_of_ble_eq_true rfl) rfl ?_) | ((with_reducible refine k_alloc ?_); refine x_alloc tbOk rfl rfl ?_)  | refine e_nrm ?_ | refine x_none rfl ?_ | with_reducible refine q_then ?_ | with_reducible refine awp_seq ?_ | ((with_reducible refine w_region ?_ ?_); kernel_rfl))
  refine x_call (y := .ag [.v (.string M.cr), .v (.int .i64 M.t), .sl 5 (M.rs.map Rp.av)]) (ss := [(53, 1)]) (hmsg) (by repeat' (first | exact trivial | exact Ren.v _ | exact Ren.sl _ _ | exact Ren.ep _ | exact Ren.ptr _ _ _ _ rfl | exact Ren.bs _ _ _ _ _ rfl | exact Ren.nil _ | exact Ren.own _ _ _ _ ⟨_, rfl⟩ | refine ren_ag ?_ | refine ren_tu ?_ | refine ren_fn ?_ | refine ⟨?_, ?_⟩)) (by simp) (in1 rfl rfl) rfl (back1 rfl) (by repeat' (first | exact trivial | exact RenB.v _ | exact RenB.sl _ _ | exact RenB.ep _ | exact RenB.ptr _ _ _ _ rfl | refine renb_ag ?_ | refine renb_tu ?_ | refine ⟨?_, ?_⟩)) ?_
  repeat (first | ((with_reducible refine k_fieldAddr ?_); refine x_fieldAddr_ptr tbOk rfl rfl rfl rfl ?_) | ((with_reducible refine k_load ?_); refine x_load_one tbOk rfl rfl rfl rfl rfl ?_) | ((with_reducible refine k_load ?_); refine x_load_agg tbOk rfl rfl rfl rfl (Nat.le_of_ble_eq_true rfl) ?_) | ((with_reducible refine k_store ?_); refine m_store tbOk rfl rfl rfl rfl rfl rfl rfl (Nat.le_of_ble_eq_true rfl) rfl ?_) | ((with_reducible refine k_alloc ?_); refine x_alloc tbOk rfl rfl ?_)  | refine e_nrm ?_ | refine x_none rfl ?_ | with_reducible refine q_then ?_ | with_reducible refine awp_seq ?_ | ((with_reducible refine w_region ?_ ?_); kernel_rfl))
  refine x_append_nil tbOk rfl rfl rfl rfl rfl (by decide) rfl rfl rfl (rp_one _) (by simp only [List.length_map]; omega) ?_
  repeat (first | ((with_reducible refine k_move ?_); refine m_move rfl ?_) | ((with_reducible refine k_fieldAddr ?_); refine x_fieldAddr_ptr tbOk rfl rfl rfl rfl ?_) | ((with_reducible refine k_load ?_); refine x_load_one tbOk rfl rfl rfl rfl rfl ?_) | ((with_reducible refine k_store ?_); refine m_store tbOk rfl rfl rfl rfl rfl rfl rfl (Nat.le_of_ble_eq_true rfl) rfl ?_) | ((with_reducible refine k_call ?_); refine x_len_own tbOk rfl rfl rfl rfl ?_)  | refine e_nrm ?_ | refine x_none rfl ?_ | with_reducible refine q_then ?_ | with_reducible refine awp_seq ?_ | ((with_reducible refine w_region ?_ ?_); kernel_rfl))
  refine x_call (ss := [(53, 1)]) (hn1) (by repeat' (first | exact trivial | exact Ren.v _ | exact Ren.sl _ _ | exact Ren.ep _ | exact Ren.ptr _ _ _ _ rfl | exact Ren.bs _ _ _ _ _ rfl | exact Ren.nil _ | exact Ren.own _ _ _ _ ⟨_, rfl⟩ | refine ren_ag ?_ | refine ren_tu ?_ | refine ren_fn ?_ | refine ⟨?_, ?_⟩)) (by simp) (in1 rfl rfl) rfl (back1 rfl) (by repeat' (first | exact trivial | exact RenB.v _ | exact RenB.sl _ _ | exact RenB.ep _ | exact RenB.ptr _ _ _ _ rfl | refine renb_ag ?_ | refine renb_tu ?_ | refine ⟨?_, ?_⟩)) ?_
  repeat (first | ((with_reducible refine k_move ?_); refine m_move rfl ?_) | ((with_reducible refine k_assign ?_); refine m_assign rfl ?_)  | refine e_nrm ?_ | refine x_none rfl ?_ | with_reducible refine q_then ?_ | with_reducible refine awp_seq ?_ | ((with_reducible refine w_region ?_ ?_); kernel_rfl))
  refine x_call (ss := [(53, 1)]) (hn2) (by repeat' (first | exact trivial | exact Ren.v _ | exact Ren.sl _ _ | exact Ren.ep _ | exact Ren.ptr _ _ _ _ rfl | exact Ren.bs _ _ _ _ _ rfl | exact Ren.nil _ | exact Ren.own _ _ _ _ ⟨_, rfl⟩ | refine ren_ag ?_ | refine ren_tu ?_ | refine ren_fn ?_ | refine ⟨?_, ?_⟩)) (by simp) (in1 rfl rfl) rfl (back1 rfl) (by repeat' (first | exact trivial | exact RenB.v _ | exact RenB.sl _ _ | exact RenB.ep _ | exact RenB.ptr _ _ _ _ rfl | refine renb_ag ?_ | refine renb_tu ?_ | refine ⟨?_, ?_⟩)) ?_
  repeat (first | ((with_reducible refine k_assign ?_); refine m_assign rfl ?_) | ((with_reducible refine k_bin ?_); refine m_binI rfl rfl rfl ?_)  | refine e_nrm ?_ | refine x_none rfl ?_ | with_reducible refine q_then ?_ | with_reducible refine awp_seq ?_ | with_reducible refine awp_block ?_ | ((with_reducible refine w_region ?_ ?_); kernel_rfl))
  refine awp_viaB (ι := Ms) (fun _ O => MsFew O) (fun v O => [(3, .v (.string s)), (5, .ptr 5 (v 5) 0), (6, .ptr 6 (v 6) 0), (9, .ptr 53 (v 53) 0), (10, .ptr 10 (v 10) 0), (11, .ptr 11 (v 11) 0), (12, .ptr 12 (v 12) 0)]) (fun v O => [(53, .box D2.cells), (5, .box [.sl 3 (No.map Nd.av), .sl 5 (Vo.map Dv.av)]), (6, .box [.v (.string m.cr), .v (.int .i64 m.t), .sl 5 (m.rs.map Rp.av)]), (10, .box [.sl 3 (N.map Nd.av), .sl 5 (V.map Dv.av)]), (11, .box [.v (.string M.cr), .v (.int .i64 M.t), .sl 5 (M.rs.map Rp.av)]), (12, .box [.v (.string O.cr), .v (.int .i64 O.t), .own 62 (v 62)]), (62, .buf 36 5 (O.rs.map Rp.av))]) ?_ ?_
  · have fin0 : ∀ r', (M.rs.set i r').length ≤ 40 := fun r' => by rw [List.length_set]; omega
    refine w_cond rfl (fun h => ?_) (fun h => ?_)
    · repeat (first | ((with_reducible refine k_fieldAddr ?_); refine x_fieldAddr_ptr tbOk rfl rfl rfl rfl ?_) | ((with_reducible refine k_store ?_); refine m_store tbOk rfl rfl rfl rfl rfl rfl rfl (Nat.le_of_ble_eq_true rfl) rfl ?_)  | refine e_nrm ?_ | refine x_none rfl ?_ | with_reducible refine q_then ?_ | with_reducible refine q_block ?_ | ((with_reducible refine w_region ?_ ?_); kernel_rfl))
      exact ⟨⟨⟨#[49]⟩, M.t, M.rs⟩, ⟨by show (⟨#[49]⟩ : ByteArray).size ≤ maxLen; decide, by show M.rs.length ≤ 40; omega⟩, trivial, ⟨rfl, rfl, rfl, rfl, rfl, rfl, rfl, trivial⟩, ⟨hc_box (by rw [hD2]), rfl, rfl, rfl, rfl, rfl, rfl, trivial⟩⟩
    repeat (first | ((with_reducible refine k_assign ?_); refine m_assign rfl ?_) | ((with_reducible refine k_bin ?_); refine m_binI rfl rfl rfl ?_)  | refine e_nrm ?_ | refine x_none rfl ?_ | with_reducible refine q_then ?_ | with_reducible refine awp_seq ?_ | ((with_reducible refine w_region ?_ ?_); kernel_rfl))
    refine w_cond rfl (fun h => ?_) (fun h => ?_)
    · repeat (first | ((with_reducible refine k_fieldAddr ?_); refine x_fieldAddr_ptr tbOk rfl rfl rfl rfl ?_) | ((with_reducible refine k_store ?_); refine m_store tbOk rfl rfl rfl rfl rfl rfl rfl (Nat.le_of_ble_eq_true rfl) rfl ?_)  | refine e_nrm ?_ | refine x_none rfl ?_ | with_reducible refine q_then ?_ | with_reducible refine q_block ?_ | ((with_reducible refine w_region ?_ ?_); kernel_rfl))
      exact ⟨⟨M.cr, 16777217, M.rs⟩, ⟨s1, by show M.rs.length ≤ 40; omega⟩, trivial, ⟨rfl, rfl, rfl, rfl, rfl, rfl, rfl, trivial⟩, ⟨hc_box (by rw [hD2]), rfl, rfl, rfl, rfl, rfl, rfl, trivial⟩⟩
    repeat (first | ((with_reducible refine k_assign ?_); refine m_assign rfl ?_) | ((with_reducible refine k_bin ?_); refine m_binI rfl rfl rfl ?_)  | refine e_nrm ?_ | refine x_none rfl ?_ | with_reducible refine q_then ?_ | with_reducible refine awp_seq ?_ | ((with_reducible refine w_region ?_ ?_); kernel_rfl))
    refine w_cond rfl (fun h => ?_) (fun h => ?_)
    · repeat (first | ((with_reducible refine k_move ?_); refine m_move rfl ?_) | ((with_reducible refine k_fieldAddr ?_); refine x_fieldAddr_ptr tbOk rfl rfl rfl rfl ?_) | ((with_reducible refine k_load ?_); refine x_load_one tbOk rfl rfl rfl rfl rfl ?_) | ((with_reducible refine k_call ?_); refine x_len tbOk rfl rfl ?_)  | refine x_none rfl ?_  | ((with_reducible refine w_region ?_ ?_); kernel_rfl))
      with_reducible refine k_indexAddr ?_
      refine x_indexAddr_own tbOk rfl rfl rfl rfl rfl rfl ⟨by omega, by omega⟩ ?_
      repeat (first | ((with_reducible refine k_fieldAddr ?_); refine x_fieldAddr_po tbOk rfl rfl rfl rfl ?_)  | refine x_none rfl ?_  )
      with_reducible refine k_store ?_
      refine x_store_po (L' := (M.rs.set i ⟨((V.map Dv.av).length : Int), r.p, r.s, r.t, r.b⟩).map Rp.av) tbOk rfl rfl rfl rfl rfl rfl rfl rfl rfl (by rw [hpf, Int.toNat_natCast]; omega) (by simp) (rp_cells _) (hts 0 ⟨((V.map Dv.av).length : Int), r.p, r.s, r.t, r.b⟩ _ rfl (by decide)) ?_
      repeat (first   | refine e_nrm ?_ | with_reducible refine q_then ?_ | with_reducible refine q_block ?_ )
      exact ⟨⟨M.cr, M.t, M.rs.set i ⟨((V.map Dv.av).length : Int), r.p, r.s, r.t, r.b⟩⟩, ⟨s1, fin0 _⟩, trivial, ⟨rfl, rfl, rfl, rfl, rfl, rfl, rfl, trivial⟩, ⟨hc_box (by rw [hD2]), rfl, rfl, rfl, rfl, rfl, rfl, trivial⟩⟩
    repeat (first | ((with_reducible refine k_assign ?_); refine m_assign rfl ?_) | ((with_reducible refine k_bin ?_); refine m_binI rfl rfl rfl ?_)  | refine e_nrm ?_ | refine x_none rfl ?_ | with_reducible refine q_then ?_ | with_reducible refine awp_seq ?_ | ((with_reducible refine w_region ?_ ?_); kernel_rfl))
    refine w_cond rfl (fun h => ?_) (fun h => ?_)
    · repeat (first | ((with_reducible refine k_move ?_); refine m_move rfl ?_) | ((with_reducible refine k_fieldAddr ?_); refine x_fieldAddr_ptr tbOk rfl rfl rfl rfl ?_) | ((with_reducible refine k_load ?_); refine x_load_one tbOk rfl rfl rfl rfl rfl ?_)  | refine x_none rfl ?_  | ((with_reducible refine w_region ?_ ?_); kernel_rfl))
      with_reducible refine k_indexAddr ?_
      refine x_indexAddr_own tbOk rfl rfl rfl rfl rfl rfl ⟨by omega, by omega⟩ ?_
      repeat (first | ((with_reducible refine k_fieldAddr ?_); refine x_fieldAddr_po tbOk rfl rfl rfl rfl ?_)  | refine x_none rfl ?_  )
      with_reducible refine k_store ?_
      refine x_store_po (L' := (M.rs.set i ⟨r.d, 3, r.s, r.t, r.b⟩).map Rp.av) tbOk rfl rfl rfl rfl rfl rfl rfl rfl rfl (by rw [hpf, Int.toNat_natCast]; omega) (by simp) (rp_cells _) (hts 1 ⟨r.d, 3, r.s, r.t, r.b⟩ _ rfl (by decide)) ?_
      repeat (first   | refine e_nrm ?_ | with_reducible refine q_then ?_ | with_reducible refine q_block ?_ )
      exact ⟨⟨M.cr, M.t, M.rs.set i ⟨r.d, 3, r.s, r.t, r.b⟩⟩, ⟨s1, fin0 _⟩, trivial, ⟨rfl, rfl, rfl, rfl, rfl, rfl, rfl, trivial⟩, ⟨hc_box (by rw [hD2]), rfl, rfl, rfl, rfl, rfl, rfl, trivial⟩⟩
    repeat (first | ((with_reducible refine k_assign ?_); refine m_assign rfl ?_) | ((with_reducible refine k_bin ?_); refine m_binI rfl rfl rfl ?_)  | refine e_nrm ?_ | refine x_none rfl ?_ | with_reducible refine q_then ?_ | with_reducible refine awp_seq ?_ | ((with_reducible refine w_region ?_ ?_); kernel_rfl))
    refine w_cond rfl (fun h => ?_) (fun h => ?_)
    · repeat (first | ((with_reducible refine k_move ?_); refine m_move rfl ?_) | ((with_reducible refine k_fieldAddr ?_); refine x_fieldAddr_ptr tbOk rfl rfl rfl rfl ?_) | ((with_reducible refine k_load ?_); refine x_load_one tbOk rfl rfl rfl rfl rfl ?_)  | refine x_none rfl ?_  | ((with_reducible refine w_region ?_ ?_); kernel_rfl))
      with_reducible refine k_indexAddr ?_
      refine x_indexAddr_own tbOk rfl rfl rfl rfl rfl rfl ⟨by omega, by omega⟩ ?_
      repeat (first | ((with_reducible refine k_fieldAddr ?_); refine x_fieldAddr_po tbOk rfl rfl rfl rfl ?_)  | refine x_none rfl ?_  )
      with_reducible refine k_store ?_
      refine x_store_po (L' := (M.rs.set i ⟨r.d, r.p, 3, r.t, r.b⟩).map Rp.av) tbOk rfl rfl rfl rfl rfl rfl rfl rfl rfl (by rw [hpf, Int.toNat_natCast]; omega) (by simp) (rp_cells _) (hts 2 ⟨r.d, r.p, 3, r.t, r.b⟩ _ rfl (by decide)) ?_
      repeat (first   | refine e_nrm ?_ | with_reducible refine q_then ?_ | with_reducible refine q_block ?_ )
      exact ⟨⟨M.cr, M.t, M.rs.set i ⟨r.d, r.p, 3, r.t, r.b⟩⟩, ⟨s1, fin0 _⟩, trivial, ⟨rfl, rfl, rfl, rfl, rfl, rfl, rfl, trivial⟩, ⟨hc_box (by rw [hD2]), rfl, rfl, rfl, rfl, rfl, rfl, trivial⟩⟩
    · repeat (first | ((with_reducible refine k_move ?_); refine m_move rfl ?_) | ((with_reducible refine k_fieldAddr ?_); refine x_fieldAddr_ptr tbOk rfl rfl rfl rfl ?_) | ((with_reducible refine k_load ?_); refine x_load_one tbOk rfl rfl rfl rfl rfl ?_)  | refine x_none rfl ?_  | ((with_reducible refine w_region ?_ ?_); kernel_rfl))
      with_reducible refine k_indexAddr ?_
      refine x_indexAddr_own tbOk rfl rfl rfl rfl rfl rfl ⟨by omega, by omega⟩ ?_
      repeat (first | ((with_reducible refine k_fieldAddr ?_); refine x_fieldAddr_po tbOk rfl rfl rfl rfl ?_)  | refine x_none rfl ?_  )
      with_reducible refine k_load ?_
      refine x_load_po_one (y := .v (.int .i64 r.t)) tbOk rfl rfl rfl rfl ?_ (by omega) ?_
      · rw [Int.toNat_natCast]
        have hg := flat_get (rp_cells _) (rp_at hr)
        have h2 : (((M.rs.map Rp.av).flatMap AV.cells).drop (i * 5))[3]? = some (.v (.int .i64 r.t)) := by
          have h3 : ((((M.rs.map Rp.av).flatMap AV.cells).drop (i * 5)).take 5)[3]? = some (.v (.int .i64 r.t)) := by rw [hg]; rfl
          rwa [List.getElem?_take_of_lt (by decide)] at h3
        rwa [List.getElem?_drop] at h2
      repeat (first | ((with_reducible refine k_bin ?_); refine x_add_in rfl rfl (by omega) ?_)  | refine x_none rfl ?_  )
      with_reducible refine k_indexAddr ?_
      refine x_indexAddr_own tbOk rfl rfl rfl rfl rfl rfl ⟨by omega, by omega⟩ ?_
      repeat (first | ((with_reducible refine k_fieldAddr ?_); refine x_fieldAddr_po tbOk rfl rfl rfl rfl ?_)  | refine x_none rfl ?_  )
      with_reducible refine k_store ?_
      refine x_store_po (L' := (M.rs.set i ⟨r.d, r.p, r.s, r.t + 1, r.b⟩).map Rp.av) tbOk rfl rfl rfl rfl rfl rfl rfl rfl rfl (by rw [hpf, Int.toNat_natCast]; omega) (by simp) (rp_cells _) (hts 3 ⟨r.d, r.p, r.s, r.t + 1, r.b⟩ _ rfl (by decide)) ?_
      repeat (first   | refine e_nrm ?_ | with_reducible refine q_then ?_ | with_reducible refine q_block ?_ )
      exact ⟨⟨M.cr, M.t, M.rs.set i ⟨r.d, r.p, r.s, r.t + 1, r.b⟩⟩, ⟨s1, fin0 _⟩, trivial, ⟨rfl, rfl, rfl, rfl, rfl, rfl, rfl, trivial⟩, ⟨hc_box (by rw [hD2]), rfl, rfl, rfl, rfl, rfl, rfl, trivial⟩⟩
  clear hts hpf hr hrt hi hin hn1 hn2 hin6
  rintro v O hO
  have hO1 := hO.c
  have hO2 := hO.l
  refine awp_freeze_at (s := 62) [] [(12, [.v (.string O.cr), .v (.int .i64 O.t), .sl 5 (O.rs.map Rp.av)])] rfl trivial ⟨⟨_, _, rfl, .same (.same (.hit .nil))⟩, trivial⟩ ?_
  obtain ⟨w4, hw4, hw4s⟩ : ∃ w : ByteArray, ([.v (.string ⟨#[]⟩), .v (.string ⟨#[32]⟩), .v (.string ⟨#[59]⟩), .v (.string ⟨#[120]⟩), .v (.string ⟨#[48]⟩), .v (.string ⟨#[58]⟩)] : List AV)[q4.toNat]? = some (.v (.string w)) ∧ w.size ≤ 1 := by
    rcases (by omega : q4 = 0 ∨ q4 = 1 ∨ q4 = 2 ∨ q4 = 3 ∨ q4 = 4 ∨ q4 = 5) with e | e | e | e | e | e <;> rw [e] <;> exact ⟨_, rfl, by decide⟩
  have hx1 : ∀ a b : Nat, (L.extract a b).size ≤ L.size := fun a b => by rw [ByteArray.size_extract]; omega
  repeat (first | ((with_reducible refine k_load ?_); refine x_load_agg tbOk rfl rfl rfl rfl (Nat.le_of_ble_eq_true rfl) ?_)  | refine x_none rfl ?_ | with_reducible refine awp_seq ?_ | ((with_reducible refine w_region ?_ ?_); kernel_rfl))
  refine x_call0 (hp) (by repeat' (first | exact trivial | exact Ren.v _ | exact Ren.sl _ _ | exact Ren.ep _ | exact Ren.ptr _ _ _ _ rfl | exact Ren.bs _ _ _ _ _ rfl | exact Ren.nil _ | exact Ren.own _ _ _ _ ⟨_, rfl⟩ | refine ren_ag ?_ | refine ren_tu ?_ | refine ren_fn ?_ | refine ⟨?_, ?_⟩)) (by repeat' (first | exact trivial | exact RenB.v _ | exact RenB.sl _ _ | exact RenB.ep _ | exact RenB.ptr _ _ _ _ rfl | refine renb_ag ?_ | refine renb_tu ?_ | refine ⟨?_, ?_⟩)) ?_
  repeat (first | ((with_reducible refine k_move ?_); refine m_move rfl ?_) | ((with_reducible refine k_assign ?_); refine m_assign rfl ?_) | ((with_reducible refine k_extract ?_); refine x_extract rfl rfl ?_) | ((with_reducible refine k_call ?_); refine x_len_str (by exact Tryd.underlying9) rfl ?_) | ((with_reducible refine k_bin ?_); refine x_add_in rfl rfl (by omega) ?_)  | refine e_nrm ?_ | refine x_none rfl ?_ | with_reducible refine q_then ?_ | with_reducible refine awp_seq ?_ | ((with_reducible refine w_region ?_ ?_); kernel_rfl))
  refine x_call (ss := [(53, v 53)]) (hn3) (by repeat' (first | exact trivial | exact Ren.v _ | exact Ren.sl _ _ | exact Ren.ep _ | exact Ren.ptr _ _ _ _ rfl | exact Ren.bs _ _ _ _ _ rfl | exact Ren.nil _ | exact Ren.own _ _ _ _ ⟨_, rfl⟩ | refine ren_ag ?_ | refine ren_tu ?_ | refine ren_fn ?_ | refine ⟨?_, ?_⟩)) (by simp) (in1 rfl rfl) rfl (back1 rfl) (by repeat' (first | exact trivial | exact RenB.v _ | exact RenB.sl _ _ | exact RenB.ep _ | exact RenB.ptr _ _ _ _ rfl | refine renb_ag ?_ | refine renb_tu ?_ | refine ⟨?_, ?_⟩)) ?_
  repeat (first | ((with_reducible refine k_move ?_); refine m_move rfl ?_) | ((with_reducible refine k_assign ?_); refine m_assign rfl ?_) | ((with_reducible refine k_slice ?_); refine x_sliceS (by exact Tryd.underlying9) rfl rfl rfl (by refine ⟨?_, ?_, ?_⟩ <;> omega) ?_) | ((with_reducible refine k_buildSlice ?_); refine m_buildSlice tbOk rfl rfl rfl rfl rfl (by omega) rfl rfl rfl ?_) | refine e_nrm ?_ | refine x_none rfl ?_ | with_reducible refine q_then ?_ | with_reducible refine awp_seq ?_ | ((with_reducible refine w_draw mixd ?_ ?_); kernel_rfl))
  refine x_call (ss := [(53, v 53)]) (hn4) (by repeat' (first | exact trivial | exact Ren.v _ | exact Ren.sl _ _ | exact Ren.ep _ | exact Ren.ptr _ _ _ _ rfl | exact Ren.bs _ _ _ _ _ rfl | exact Ren.nil _ | exact Ren.own _ _ _ _ ⟨_, rfl⟩ | refine ren_ag ?_ | refine ren_tu ?_ | refine ren_fn ?_ | refine ⟨?_, ?_⟩)) (by simp) (in1 rfl rfl) rfl (back1 rfl) (by repeat' (first | exact trivial | exact RenB.v _ | exact RenB.sl _ _ | exact RenB.ep _ | exact RenB.ptr _ _ _ _ rfl | refine renb_ag ?_ | refine renb_tu ?_ | refine ⟨?_, ?_⟩)) ?_
  repeat (first | ((with_reducible refine k_load ?_); refine x_load_ep_one tbOk rfl rfl rfl ?_) | ((with_reducible refine k_indexAddr ?_); refine x_indexAddr tbOk rfl rfl rfl rfl (by omega) (by assumption) ?_)  | refine x_none rfl ?_  )
  with_reducible refine k_bin ?_
  refine x_add_s rfl rfl (by have := hx1 (0 : Int).toNat at_.toNat; omega) ?_
  repeat (first | ((with_reducible refine k_move ?_); refine m_move rfl ?_) | ((with_reducible refine k_call ?_); refine x_len_str (by exact Tryd.underlying9) rfl ?_)  | refine x_none rfl ?_  )
  refine x_call (ss := [(53, v 53)]) (hn5) (by repeat' (first | exact trivial | exact Ren.v _ | exact Ren.sl _ _ | exact Ren.ep _ | exact Ren.ptr _ _ _ _ rfl | exact Ren.bs _ _ _ _ _ rfl | exact Ren.nil _ | exact Ren.own _ _ _ _ ⟨_, rfl⟩ | refine ren_ag ?_ | refine ren_tu ?_ | refine ren_fn ?_ | refine ⟨?_, ?_⟩)) (by simp) (in1 rfl rfl) rfl (back1 rfl) (by repeat' (first | exact trivial | exact RenB.v _ | exact RenB.sl _ _ | exact RenB.ep _ | exact RenB.ptr _ _ _ _ rfl | refine renb_ag ?_ | refine renb_tu ?_ | refine ⟨?_, ?_⟩)) ?_
  repeat (first | ((with_reducible refine k_bin ?_); refine x_add_in rfl rfl (by omega) ?_)  | refine x_none rfl ?_  )
  (with_reducible refine k_call ?_); refine x_min rfl rfl ?_
  repeat (first | ((with_reducible refine k_slice ?_); refine x_sliceS (by exact Tryd.underlying9) rfl rfl rfl (by refine ⟨?_, ?_, ?_⟩ <;> omega) ?_)  | refine x_none rfl ?_  )
  with_reducible refine k_bin ?_
  refine x_add_s rfl rfl (by rw [ByteArray.size_append]; have h1 := hx1 (0 : Int).toNat at_.toNat; have h2 := fun a => hx1 a (L.size : Int).toNat; have h3 := h2 (min (L.size : Int) (at_ + q5)).toNat; omega) ?_
  obtain ⟨C, hC⟩ : ∃ C, C = L.extract (0 : Int).toNat at_.toNat ++ w4 ++ L.extract (min (L.size : Int) (at_ + q5)).toNat (L.size : Int).toNat := ⟨_, rfl⟩
  have hCs : C.size ≤ 40001 := by
    rw [hC, ByteArray.size_append, ByteArray.size_append]
    have h1 := hx1 (0 : Int).toNat at_.toNat
    have h3 := hx1 (min (L.size : Int) (at_ + q5)).toNat (L.size : Int).toNat
    omega
  rw [← hC]
  clear hC hn3 hn4 hn5 hin3 hin4 hin5 hw4 hx1
  repeat (first | ((with_reducible refine k_move ?_); refine m_move rfl ?_) | ((with_reducible refine k_assign ?_); refine m_assign rfl ?_) | ((with_reducible refine k_load ?_); refine x_load_agg tbOk rfl rfl rfl rfl (Nat.le_of_ble_eq_true rfl) ?_) | ((with_reducible refine k_call ?_); refine x_len tbOk rfl rfl ?_) | ((with_reducible refine k_buildSlice ?_); refine m_buildSlice tbOk rfl rfl rfl rfl rfl (by omega) rfl rfl rfl ?_) | refine e_nrm ?_ | refine e_drw (by kernel_rfl) ?_ | refine x_none rfl ?_ | with_reducible refine q_then ?_ | with_reducible refine awp_seq ?_ | with_reducible refine awp_block ?_ | ((with_reducible refine w_region ?_ ?_); kernel_rfl))
  refine awp_loop (ι := Nat) (fun a => a ≤ 2) (fun a => 2 - a) (fun v a => [(3, .v (.string s)), (6, .ptr 6 (v 6) 0), (11, .ptr 11 (v 11) 0), (12, .ptr 12 (v 12) 0), (14, .v (.string L)), (17, .v (.string C)), (142, .sl 2 [.ag [.sl 3 (N.map Nd.av), .sl 5 (V.map Dv.av)], .ag [.sl 3 (No.map Nd.av), .sl 5 (Vo.map Dv.av)]]), (143, .v (.int .i64 2)), (144, .v (.int .i64 (a : Nat)))]) (fun v a => [(6, .box [.v (.string m.cr), .v (.int .i64 m.t), .sl 5 (m.rs.map Rp.av)]), (11, .box [.v (.string M.cr), .v (.int .i64 M.t), .sl 5 (M.rs.map Rp.av)]), (12, .box [.v (.string O.cr), .v (.int .i64 O.t), .sl 5 (O.rs.map Rp.av)])]) ?_ ?_
  · exact ⟨0, Nat.zero_le _, trivial, ⟨rfl, rfl, rfl, rfl, rfl, rfl, rfl, rfl, rfl, trivial⟩, ⟨rfl, rfl, rfl, trivial⟩⟩
  clear v
  rintro v a ha
  repeat (first | ((with_reducible refine k_bin ?_); refine m_binI rfl rfl rfl ?_)  | refine e_nrm ?_ | refine x_none rfl ?_ | with_reducible refine q_then ?_ | with_reducible refine awp_seq ?_ | ((with_reducible refine w_region ?_ ?_); kernel_rfl))
  refine w_cond rfl (fun h => ?_) (fun h => ?_)
  · have hlt : a < 2 := by simp at h; omega
    obtain ⟨N1, V1, hy, ok1⟩ : ∃ (N1 : List Nd) (V1 : List Dv), ([.ag [.sl 3 (N.map Nd.av), .sl 5 (V.map Dv.av)], .ag [.sl 3 (No.map Nd.av), .sl 5 (Vo.map Dv.av)]] : List AV)[a]? = some (.ag [.sl 3 (N1.map Nd.av), .sl 5 (V1.map Dv.av)]) ∧ NwOk N1 V1 := by
      obtain rfl | rfl : a = 0 ∨ a = 1 := by omega
      · exact ⟨N, V, rfl, ok⟩
      · exact ⟨No, Vo, rfl, oko⟩
    repeat (first | ((with_reducible refine k_move ?_); refine m_move rfl ?_) | ((with_reducible refine k_load ?_); refine x_load_agg tbOk rfl rfl rfl rfl (Nat.le_of_ble_eq_true rfl) ?_) | ((with_reducible refine k_load ?_); refine x_load_ep_agg tbOk rfl rfl (Nat.le_of_ble_eq_true rfl) ?_) | ((with_reducible refine k_store ?_); refine m_store tbOk rfl rfl rfl rfl rfl rfl rfl (Nat.le_of_ble_eq_true rfl) rfl ?_) | ((with_reducible refine k_alloc ?_); refine x_alloc tbOk rfl rfl ?_) | ((with_reducible refine k_indexAddr ?_); refine x_indexAddr_n tbOk rfl rfl rfl rfl (by assumption) ?_) | ((with_reducible refine k_call ?_); refine x_len tbOk rfl rfl ?_) | ((with_reducible refine k_buildSlice ?_); refine m_buildSlice tbOk rfl rfl rfl rfl rfl (by omega) rfl rfl rfl ?_) | refine e_nrm ?_ | refine x_none rfl ?_ | with_reducible refine q_then ?_ | with_reducible refine awp_seq ?_ | with_reducible refine awp_block ?_ | with_reducible refine awp_skip ?_ | ((with_reducible refine w_region ?_ ?_); kernel_rfl))
    refine awp_loop (ι := Nat) (fun b => b ≤ 3) (fun b => 3 - b) (fun v b => [(3, .v (.string s)), (6, .ptr 6 (v 6) 0), (11, .ptr 11 (v 11) 0), (12, .ptr 12 (v 12) 0), (14, .v (.string L)), (17, .v (.string C)), (142, .sl 2 [.ag [.sl 3 (N.map Nd.av), .sl 5 (V.map Dv.av)], .ag [.sl 3 (No.map Nd.av), .sl 5 (Vo.map Dv.av)]]), (143, .v (.int .i64 2)), (144, .v (.int .i64 (a : Nat))), (19, .ptr 19 (v 19) 0), (151, .sl 3 [.ag [.v (.string M.cr), .v (.int .i64 M.t), .sl 5 (M.rs.map Rp.av)], .ag [.v (.string O.cr), .v (.int .i64 O.t), .sl 5 (O.rs.map Rp.av)], .ag [.v (.string m.cr), .v (.int .i64 m.t), .sl 5 (m.rs.map Rp.av)]]), (152, .v (.int .i64 3)), (153, .v (.int .i64 (b : Nat)))]) (fun v b => [(6, .box [.v (.string m.cr), .v (.int .i64 m.t), .sl 5 (m.rs.map Rp.av)]), (11, .box [.v (.string M.cr), .v (.int .i64 M.t), .sl 5 (M.rs.map Rp.av)]), (12, .box [.v (.string O.cr), .v (.int .i64 O.t), .sl 5 (O.rs.map Rp.av)]), (19, .box [.sl 3 (N1.map Nd.av), .sl 5 (V1.map Dv.av)])]) ?_ ?_
    · exact ⟨0, Nat.zero_le _, trivial, ⟨rfl, rfl, rfl, rfl, rfl, rfl, rfl, rfl, rfl, rfl, rfl, rfl, rfl, trivial⟩, ⟨rfl, rfl, rfl, rfl, trivial⟩⟩
    clear v
    rintro v b hb
    repeat (first | ((with_reducible refine k_bin ?_); refine m_binI rfl rfl rfl ?_)  | refine e_nrm ?_ | refine x_none rfl ?_ | with_reducible refine q_then ?_ | with_reducible refine awp_seq ?_ | ((with_reducible refine w_region ?_ ?_); kernel_rfl))
    refine w_cond rfl (fun h => ?_) (fun h => ?_)
    · have hlt2 : b < 3 := by simp at h; omega
      obtain ⟨Y, hyY, yc, yl⟩ : ∃ Y : Ms, ([.ag [.v (.string M.cr), .v (.int .i64 M.t), .sl 5 (M.rs.map Rp.av)], .ag [.v (.string O.cr), .v (.int .i64 O.t), .sl 5 (O.rs.map Rp.av)], .ag [.v (.string m.cr), .v (.int .i64 m.t), .sl 5 (m.rs.map Rp.av)]] : List AV)[b]? = some (.ag [.v (.string Y.cr), .v (.int .i64 Y.t), .sl 5 (Y.rs.map Rp.av)]) ∧ Y.cr.size ≤ maxLen ∧ Y.rs.length ≤ maxLen := by
        obtain rfl | rfl | rfl : b = 0 ∨ b = 1 ∨ b = 2 := by omega
        · exact ⟨M, rfl, s1, s2⟩
        · exact ⟨O, rfl, hO1, by unfold maxLen; omega⟩
        · exact ⟨m, rfl, hmc, hml⟩
      have f1 := fprint_A (G := X.G) N1 V1 Y hG hP ok1 yc yl
      have f2 := frprint_A (G := X.G) N1 V1 Y hG hP ok1 yc yl
      obtain ⟨⟨pt, pe⟩, hpm⟩ : ∃ q, q = printM N1 V1 Y := ⟨_, rfl⟩
      rw [← hpm] at f1 f2
      simp only at f1 f2
      have p1 : (!strEq pt pt) = false := by rw [strEq_iff.2 rfl]; rfl
      have p2 : (pe != pe) = false := by simp
      have p3 : (msgE N1 V1 Y != msgE N1 V1 Y) = false := by simp
      have p4 : (sameB Y M != sameB Y M) = false := by simp
      repeat (first | ((with_reducible refine k_load ?_); refine x_load_agg tbOk rfl rfl rfl rfl (Nat.le_of_ble_eq_true rfl) ?_) | ((with_reducible refine k_load ?_); refine x_load_ep_agg tbOk rfl rfl (Nat.le_of_ble_eq_true rfl) ?_) | ((with_reducible refine k_store ?_); refine m_store tbOk rfl rfl rfl rfl rfl rfl rfl (Nat.le_of_ble_eq_true rfl) rfl ?_) | ((with_reducible refine k_alloc ?_); refine x_alloc tbOk rfl rfl ?_) | ((with_reducible refine k_indexAddr ?_); refine x_indexAddr_n tbOk rfl rfl rfl rfl (by assumption) ?_)  | refine e_nrm ?_ | refine x_none rfl ?_ | with_reducible refine q_then ?_ | with_reducible refine awp_seq ?_ | with_reducible refine awp_block ?_ | with_reducible refine awp_skip ?_ | ((with_reducible refine w_region ?_ ?_); kernel_rfl))
      refine x_call0 (f1) (by repeat' (first | exact trivial | exact Ren.v _ | exact Ren.sl _ _ | exact Ren.ep _ | exact Ren.ptr _ _ _ _ rfl | exact Ren.bs _ _ _ _ _ rfl | exact Ren.nil _ | exact Ren.own _ _ _ _ ⟨_, rfl⟩ | refine ren_ag ?_ | refine ren_tu ?_ | refine ren_fn ?_ | refine ⟨?_, ?_⟩)) (by repeat' (first | exact trivial | exact RenB.v _ | exact RenB.sl _ _ | exact RenB.ep _ | exact RenB.ptr _ _ _ _ rfl | refine renb_ag ?_ | refine renb_tu ?_ | refine ⟨?_, ?_⟩)) ?_
      repeat (first | ((with_reducible refine k_move ?_); refine m_move rfl ?_) | ((with_reducible refine k_assign ?_); refine m_assign rfl ?_) | ((with_reducible refine k_load ?_); refine x_load_agg tbOk rfl rfl rfl rfl (Nat.le_of_ble_eq_true rfl) ?_) | ((with_reducible refine k_extract ?_); refine x_extract rfl rfl ?_)  | refine e_nrm ?_ | refine x_none rfl ?_ | with_reducible refine q_then ?_ | with_reducible refine awp_seq ?_ | ((with_reducible refine w_region ?_ ?_); kernel_rfl))
      refine x_call0 (f2) (by repeat' (first | exact trivial | exact Ren.v _ | exact Ren.sl _ _ | exact Ren.ep _ | exact Ren.ptr _ _ _ _ rfl | exact Ren.bs _ _ _ _ _ rfl | exact Ren.nil _ | exact Ren.own _ _ _ _ ⟨_, rfl⟩ | refine ren_ag ?_ | refine ren_tu ?_ | refine ren_fn ?_ | refine ⟨?_, ?_⟩)) (by repeat' (first | exact trivial | exact RenB.v _ | exact RenB.sl _ _ | exact RenB.ep _ | exact RenB.ptr _ _ _ _ rfl | refine renb_ag ?_ | refine renb_tu ?_ | refine ⟨?_, ?_⟩)) ?_
      repeat (first | ((with_reducible refine k_move ?_); refine m_move rfl ?_) | ((with_reducible refine k_assign ?_); refine m_assign rfl ?_) | ((with_reducible refine k_load ?_); refine x_load_agg tbOk rfl rfl rfl rfl (Nat.le_of_ble_eq_true rfl) ?_) | ((with_reducible refine k_extract ?_); refine x_extract rfl rfl ?_) | ((with_reducible refine k_pick ?_); refine m_pickf rfl (by first | rfl | assumption) rfl ?_) | ((with_reducible refine k_bin ?_); refine m_binI rfl rfl rfl ?_) | ((with_reducible refine k_bin ?_); refine m_binS rfl rfl rfl ?_)  | refine e_nrm ?_ | refine x_none rfl ?_ | refine x_run_f rfl rfl (by first | rfl | assumption) ?_ | with_reducible refine q_then ?_ | with_reducible refine awp_seq ?_ | ((with_reducible refine w_draw mixd ?_ ?_); kernel_rfl))
      refine x_call0 (fcheck_A N1 V1 Y hG ok1 yc yl) (by repeat' (first | exact trivial | exact Ren.v _ | exact Ren.sl _ _ | exact Ren.ep _ | exact Ren.ptr _ _ _ _ rfl | exact Ren.bs _ _ _ _ _ rfl | exact Ren.nil _ | exact Ren.own _ _ _ _ ⟨_, rfl⟩ | refine ren_ag ?_ | refine ren_tu ?_ | refine ren_fn ?_ | refine ⟨?_, ?_⟩)) (by repeat' (first | exact trivial | exact RenB.v _ | exact RenB.sl _ _ | exact RenB.ep _ | exact RenB.ptr _ _ _ _ rfl | refine renb_ag ?_ | refine renb_tu ?_ | refine ⟨?_, ?_⟩)) ?_
      repeat (first | ((with_reducible refine k_load ?_); refine x_load_agg tbOk rfl rfl rfl rfl (Nat.le_of_ble_eq_true rfl) ?_)  | refine x_run_f rfl rfl (by first | rfl | assumption) ?_  )
      refine x_call0 (frcheck_A N1 V1 Y hG ok1 yc yl) (by repeat' (first | exact trivial | exact Ren.v _ | exact Ren.sl _ _ | exact Ren.ep _ | exact Ren.ptr _ _ _ _ rfl | exact Ren.bs _ _ _ _ _ rfl | exact Ren.nil _ | exact Ren.own _ _ _ _ ⟨_, rfl⟩ | refine ren_ag ?_ | refine ren_tu ?_ | refine ren_fn ?_ | refine ⟨?_, ?_⟩)) (by repeat' (first | exact trivial | exact RenB.v _ | exact RenB.sl _ _ | exact RenB.ep _ | exact RenB.ptr _ _ _ _ rfl | refine renb_ag ?_ | refine renb_tu ?_ | refine ⟨?_, ?_⟩)) ?_
      repeat (first | ((with_reducible refine k_move ?_); refine m_move rfl ?_) | ((with_reducible refine k_load ?_); refine x_load_agg tbOk rfl rfl rfl rfl (Nat.le_of_ble_eq_true rfl) ?_) | ((with_reducible refine k_pick ?_); refine m_pickf rfl (by first | rfl | assumption) rfl ?_) | ((with_reducible refine k_bin ?_); refine m_binI rfl rfl rfl ?_)  | refine x_none rfl ?_ | refine x_run_f rfl rfl (by first | rfl | assumption) ?_  )
      refine x_call0 (fsame_A Y M yl) (by repeat' (first | exact trivial | exact Ren.v _ | exact Ren.sl _ _ | exact Ren.ep _ | exact Ren.ptr _ _ _ _ rfl | exact Ren.bs _ _ _ _ _ rfl | exact Ren.nil _ | exact Ren.own _ _ _ _ ⟨_, rfl⟩ | refine ren_ag ?_ | refine ren_tu ?_ | refine ren_fn ?_ | refine ⟨?_, ?_⟩)) (by repeat' (first | exact trivial | exact RenB.v _ | exact RenB.sl _ _ | exact RenB.ep _ | exact RenB.ptr _ _ _ _ rfl | refine renb_ag ?_ | refine renb_tu ?_ | refine ⟨?_, ?_⟩)) ?_
      repeat (first | ((with_reducible refine k_load ?_); refine x_load_agg tbOk rfl rfl rfl rfl (Nat.le_of_ble_eq_true rfl) ?_)  | refine x_run_f rfl rfl (by first | rfl | assumption) ?_  )
      refine x_call0 (frsame_A Y M yl s2) (by repeat' (first | exact trivial | exact Ren.v _ | exact Ren.sl _ _ | exact Ren.ep _ | exact Ren.ptr _ _ _ _ rfl | exact Ren.bs _ _ _ _ _ rfl | exact Ren.nil _ | exact Ren.own _ _ _ _ ⟨_, rfl⟩ | refine ren_ag ?_ | refine ren_tu ?_ | refine ren_fn ?_ | refine ⟨?_, ?_⟩)) (by repeat' (first | exact trivial | exact RenB.v _ | exact RenB.sl _ _ | exact RenB.ep _ | exact RenB.ptr _ _ _ _ rfl | refine renb_ag ?_ | refine renb_tu ?_ | refine ⟨?_, ?_⟩)) ?_
      repeat (first | ((with_reducible refine k_move ?_); refine m_move rfl ?_) | ((with_reducible refine k_pick ?_); refine m_pickf rfl (by first | rfl | assumption) rfl ?_) | ((with_reducible refine k_bin ?_); refine x_add_in rfl rfl (by omega) ?_) | ((with_reducible refine k_bin ?_); refine x_neq_b (by exact Tryd.underlying4) rfl rfl ?_)  | refine e_nrm ?_ | refine e_drw (by kernel_rfl) ?_ | refine x_none rfl ?_ | refine x_run_f rfl rfl (by first | rfl | assumption) ?_ | with_reducible refine q_then ?_ | with_reducible refine q_block ?_ | with_reducible refine awp_skip ?_ | ((with_reducible refine w_region ?_ ?_); kernel_rfl) | refine w_cond_f rfl (by first | rfl | assumption) ?_)
      exact ⟨b + 1, by omega, by omega, ⟨rfl, rfl, rfl, rfl, rfl, rfl, rfl, rfl, rfl, rfl, rfl, rfl, rfl, trivial⟩, ⟨rfl, rfl, rfl, rfl, trivial⟩⟩
    repeat (first | ((with_reducible refine k_move ?_); refine m_move rfl ?_)  | refine x_none rfl ?_ | with_reducible refine q_then ?_ | with_reducible refine q_then_exit ?_ | with_reducible refine awp_seq ?_ | with_reducible refine awp_exit ?_ | ((with_reducible refine q_block_exit ?_ ?_); rfl) | ((with_reducible refine w_region ?_ ?_); kernel_rfl))
    with_reducible refine k_bin ?_
    refine x_add_s rfl rfl (by show L.size + 1 ≤ _; omega) ?_
    repeat (first | ((with_reducible refine k_move ?_); refine m_move rfl ?_)  | refine x_none rfl ?_  )
    with_reducible refine k_bin ?_
    refine x_add_s rfl rfl (by rw [ByteArray.size_append]; show L.size + 1 + L.size ≤ _; omega) ?_
    repeat (first | ((with_reducible refine k_move ?_); refine m_move rfl ?_) | ((with_reducible refine k_call ?_); refine x_len tbOk rfl rfl ?_) | ((with_reducible refine k_buildSlice ?_); refine m_buildSlice tbOk rfl rfl rfl rfl rfl (by omega) rfl rfl rfl ?_) | refine e_nrm ?_ | refine x_none rfl ?_ | with_reducible refine q_then ?_ | with_reducible refine awp_block ?_ )
    have hLL : (L ++ (⟨#[32]⟩ : ByteArray) ++ L).size ≤ 90000 := by rw [ByteArray.size_append, ByteArray.size_append]; show L.size + 1 + L.size ≤ _; omega
    refine awp_loop (ι := Nat) (fun b => b ≤ 5) (fun b => 5 - b) (fun v b => [(3, .v (.string s)), (6, .ptr 6 (v 6) 0), (11, .ptr 11 (v 11) 0), (12, .ptr 12 (v 12) 0), (14, .v (.string L)), (17, .v (.string C)), (142, .sl 2 [.ag [.sl 3 (N.map Nd.av), .sl 5 (V.map Dv.av)], .ag [.sl 3 (No.map Nd.av), .sl 5 (Vo.map Dv.av)]]), (143, .v (.int .i64 2)), (144, .v (.int .i64 (a : Nat))), (19, .ptr 19 (v 19) 0), (203, .sl 1 [.v (.string s), .v (.string L), .v (.string C), .v (.string (L ++ (⟨#[32]⟩ : ByteArray) ++ L)), .v (.string z0)]), (204, .v (.int .i64 5)), (205, .v (.int .i64 (b : Nat)))]) (fun v b => [(6, .box [.v (.string m.cr), .v (.int .i64 m.t), .sl 5 (m.rs.map Rp.av)]), (11, .box [.v (.string M.cr), .v (.int .i64 M.t), .sl 5 (M.rs.map Rp.av)]), (12, .box [.v (.string O.cr), .v (.int .i64 O.t), .sl 5 (O.rs.map Rp.av)]), (19, .box [.sl 3 (N1.map Nd.av), .sl 5 (V1.map Dv.av)])]) ?_ ?_
    · exact ⟨0, Nat.zero_le _, trivial, ⟨rfl, rfl, rfl, rfl, rfl, rfl, rfl, rfl, rfl, rfl, rfl, rfl, rfl, trivial⟩, ⟨rfl, rfl, rfl, rfl, trivial⟩⟩
    clear v
    rintro v c hc
    repeat (first | ((with_reducible refine k_bin ?_); refine m_binI rfl rfl rfl ?_)  | refine e_nrm ?_ | refine x_none rfl ?_ | with_reducible refine q_then ?_ | with_reducible refine awp_seq ?_ | ((with_reducible refine w_region ?_ ?_); kernel_rfl))
    refine w_cond rfl (fun h => ?_) (fun h => ?_)
    · have hlt5 : c < 5 := by simp at h; omega
      obtain ⟨y, hyy, ys⟩ : ∃ y : ByteArray, ([.v (.string s), .v (.string L), .v (.string C), .v (.string (L ++ (⟨#[32]⟩ : ByteArray) ++ L)), .v (.string z0)] : List AV)[c]? = some (.v (.string y)) ∧ y.size ≤ 90000 := by
        obtain rfl | rfl | rfl | rfl | rfl : c = 0 ∨ c = 1 ∨ c = 2 ∨ c = 3 ∨ c = 4 := by omega
        · exact ⟨s, rfl, by omega⟩
        · exact ⟨L, rfl, by omega⟩
        · exact ⟨C, rfl, by omega⟩
        · exact ⟨_, rfl, hLL⟩
        · exact ⟨z0, rfl, by decide⟩
      have f1 := fparse_A (G := X.G) N1 V1 y hG ok1 ys
      have f2 := frparse_A (G := X.G) N1 V1 y ok1 ys
      have hpl := parse_len N1 V1 y.data.toList
      obtain ⟨⟨pm, pe⟩, hpm⟩ : ∃ q, q = parseM N1 V1 y.data.toList := ⟨_, rfl⟩
      rw [← hpm] at f1 f2 hpl
      simp only at f1 f2 hpl
      have hyl : y.data.toList.length = y.size := (nsizeS y).symm
      have f3 := frsame_A (G := X.G) pm pm (by unfold maxLen; omega) (by unfold maxLen; omega)
      rw [sameB_refl] at f3
      have p2 : (pe != pe) = false := by simp
      repeat (first | ((with_reducible refine k_move ?_); refine m_move rfl ?_) | ((with_reducible refine k_assign ?_); refine m_assign rfl ?_) | ((with_reducible refine k_load ?_); refine x_load_agg tbOk rfl rfl rfl rfl (Nat.le_of_ble_eq_true rfl) ?_) | ((with_reducible refine k_load ?_); refine x_load_ep_one tbOk rfl rfl rfl ?_) | ((with_reducible refine k_indexAddr ?_); refine x_indexAddr_n tbOk rfl rfl rfl rfl (by assumption) ?_)  | refine e_nrm ?_ | refine x_none rfl ?_ | with_reducible refine q_then ?_ | with_reducible refine awp_seq ?_ | with_reducible refine awp_block ?_ | with_reducible refine awp_skip ?_ | ((with_reducible refine w_region ?_ ?_); kernel_rfl))
      refine x_call0 (f1) (by repeat' (first | exact trivial | exact Ren.v _ | exact Ren.sl _ _ | exact Ren.ep _ | exact Ren.ptr _ _ _ _ rfl | exact Ren.bs _ _ _ _ _ rfl | exact Ren.nil _ | exact Ren.own _ _ _ _ ⟨_, rfl⟩ | refine ren_ag ?_ | refine ren_tu ?_ | refine ren_fn ?_ | refine ⟨?_, ?_⟩)) (by repeat' (first | exact trivial | exact RenB.v _ | exact RenB.sl _ _ | exact RenB.ep _ | exact RenB.ptr _ _ _ _ rfl | refine renb_ag ?_ | refine renb_tu ?_ | refine ⟨?_, ?_⟩)) ?_
      repeat (first | ((with_reducible refine k_move ?_); refine m_move rfl ?_) | ((with_reducible refine k_assign ?_); refine m_assign rfl ?_) | ((with_reducible refine k_load ?_); refine x_load_agg tbOk rfl rfl rfl rfl (Nat.le_of_ble_eq_true rfl) ?_) | ((with_reducible refine k_store ?_); refine m_store tbOk rfl rfl rfl rfl rfl rfl rfl (Nat.le_of_ble_eq_true rfl) rfl ?_) | ((with_reducible refine k_alloc ?_); refine x_alloc tbOk rfl rfl ?_) | ((with_reducible refine k_extract ?_); refine x_extract rfl rfl ?_)  | refine e_nrm ?_ | refine x_none rfl ?_ | with_reducible refine q_then ?_ | with_reducible refine awp_seq ?_ | ((with_reducible refine w_region ?_ ?_); kernel_rfl))
      refine x_call0 (f2) (by repeat' (first | exact trivial | exact Ren.v _ | exact Ren.sl _ _ | exact Ren.ep _ | exact Ren.ptr _ _ _ _ rfl | exact Ren.bs _ _ _ _ _ rfl | exact Ren.nil _ | exact Ren.own _ _ _ _ ⟨_, rfl⟩ | refine ren_ag ?_ | refine ren_tu ?_ | refine ren_fn ?_ | refine ⟨?_, ?_⟩)) (by repeat' (first | exact trivial | exact RenB.v _ | exact RenB.sl _ _ | exact RenB.ep _ | exact RenB.ptr _ _ _ _ rfl | refine renb_ag ?_ | refine renb_tu ?_ | refine ⟨?_, ?_⟩)) ?_
      repeat (first | ((with_reducible refine k_move ?_); refine m_move rfl ?_) | ((with_reducible refine k_assign ?_); refine m_assign rfl ?_) | ((with_reducible refine k_load ?_); refine x_load_agg tbOk rfl rfl rfl rfl (Nat.le_of_ble_eq_true rfl) ?_) | ((with_reducible refine k_store ?_); refine m_store tbOk rfl rfl rfl rfl rfl rfl rfl (Nat.le_of_ble_eq_true rfl) rfl ?_) | ((with_reducible refine k_alloc ?_); refine x_alloc tbOk rfl rfl ?_) | ((with_reducible refine k_extract ?_); refine x_extract rfl rfl ?_) | ((with_reducible refine k_bin ?_); refine m_binI rfl rfl rfl ?_)  | refine e_nrm ?_ | refine x_none rfl ?_ | refine x_run_f rfl rfl (by first | rfl | assumption) ?_ | with_reducible refine q_then ?_ | with_reducible refine awp_seq ?_ | ((with_reducible refine w_region ?_ ?_); kernel_rfl))
      refine x_call0 (f3) (by repeat' (first | exact trivial | exact Ren.v _ | exact Ren.sl _ _ | exact Ren.ep _ | exact Ren.ptr _ _ _ _ rfl | exact Ren.bs _ _ _ _ _ rfl | exact Ren.nil _ | exact Ren.own _ _ _ _ ⟨_, rfl⟩ | refine ren_ag ?_ | refine ren_tu ?_ | refine ren_fn ?_ | refine ⟨?_, ?_⟩)) (by repeat' (first | exact trivial | exact RenB.v _ | exact RenB.sl _ _ | exact RenB.ep _ | exact RenB.ptr _ _ _ _ rfl | refine renb_ag ?_ | refine renb_tu ?_ | refine ⟨?_, ?_⟩)) ?_
      repeat (first | ((with_reducible refine k_move ?_); refine m_move rfl ?_) | ((with_reducible refine k_un ?_); refine x_not rfl ?_) | ((with_reducible refine k_pick ?_); refine m_pickf rfl (by first | rfl | assumption) rfl ?_) | ((with_reducible refine k_bin ?_); refine x_add_in rfl rfl (by omega) ?_)  | refine e_nrm ?_ | refine x_none rfl ?_ | refine x_run_f rfl rfl (by first | rfl | assumption) ?_ | with_reducible refine q_then ?_ | with_reducible refine q_block ?_ | with_reducible refine awp_skip ?_ | ((with_reducible refine w_region ?_ ?_); kernel_rfl) | refine w_cond_f rfl (by first | rfl | assumption) ?_)
      exact ⟨c + 1, by omega, by omega, ⟨rfl, rfl, rfl, rfl, rfl, rfl, rfl, rfl, rfl, rfl, rfl, rfl, rfl, trivial⟩, ⟨rfl, rfl, rfl, rfl, trivial⟩⟩
    repeat (first | ((with_reducible refine k_move ?_); refine m_move rfl ?_) | ((with_reducible refine k_bin ?_); refine x_add_in rfl rfl (by omega) ?_)  | refine e_nrm ?_ | refine x_none rfl ?_ | with_reducible refine q_then ?_ | with_reducible refine q_then_exit ?_ | with_reducible refine q_block ?_ | with_reducible refine awp_exit ?_ | ((with_reducible refine q_block_exit ?_ ?_); rfl) | ((with_reducible refine w_region ?_ ?_); kernel_rfl))
    exact ⟨a + 1, by omega, by omega, ⟨rfl, rfl, rfl, rfl, rfl, rfl, rfl, rfl, rfl, trivial⟩, ⟨rfl, rfl, rfl, trivial⟩⟩
  repeat (first   | refine x_none rfl ?_ | with_reducible refine q_then ?_ | with_reducible refine q_then_exit ?_ | with_reducible refine awp_seq ?_ | with_reducible refine awp_exit ?_ | ((with_reducible refine q_block_exit ?_ ?_); rfl) | ((with_reducible refine w_region ?_ ?_); kernel_rfl))
  refine x_call0 (awake_A hG hP) (by repeat' (first | exact trivial | exact Ren.v _ | exact Ren.sl _ _ | exact Ren.ep _ | exact Ren.ptr _ _ _ _ rfl | exact Ren.bs _ _ _ _ _ rfl | exact Ren.nil _ | exact Ren.own _ _ _ _ ⟨_, rfl⟩ | refine ren_ag ?_ | refine ren_tu ?_ | refine ren_fn ?_ | refine ⟨?_, ?_⟩)) (by repeat' (first | exact trivial | exact RenB.v _ | exact RenB.sl _ _ | exact RenB.ep _ | exact RenB.ptr _ _ _ _ rfl | refine renb_ag ?_ | refine renb_tu ?_ | refine ⟨?_, ?_⟩)) ?_
  repeat (first | ((with_reducible refine k_assign ?_); refine m_assign rfl ?_)  | refine e_nrm ?_ | refine x_none rfl ?_ | with_reducible refine q_then ?_ | with_reducible refine awp_ret ?_ )
  refine ret_v (by first | exact .inr rfl | exact .inl rfl) rfl rfl ?_
  rfl
end Go.Proofs.YtgpglcccjkpmdaaDoor
