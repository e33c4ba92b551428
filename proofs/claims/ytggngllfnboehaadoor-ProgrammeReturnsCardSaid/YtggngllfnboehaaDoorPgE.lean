/- programme.line, Print and their references, by the abstract machine: the text of the plain functions; conditions: the tables of classes, powers and places stand. -/
import Derived.Test.YtggngllfnboehaaDoorPgC
import Derived.Test.YtggngllfnboehaaDoorAbsG
import Derived.Test.YtggngllfnboehaaDoorAbsW
import Derived.Test.YtggngllfnboehaaDoorBdA
import Derived.Test.YtggngllfnboehaaDoorTxB
import Derived.Test.YtggngllfnboehaaDoorAbsZ
set_option linter.unusedVariables false
set_option linter.unusedSimpArgs false
namespace Go.Proofs.YtggngllfnboehaaDoor
open Go Go.RowKit
set_option maxRecDepth 10000
variable {G : Nat → Option (List Value)}
def plcL : List Value := [.string ⟨#[]⟩, .string ⟨#[111, 112, 101, 110]⟩, .string ⟨#[99, 108, 111, 115, 101, 100]⟩]
def GPlc (G : Nat → Option (List Value)) : Prop := G 0 = some plcL
/-- The words of a step, item by item. -/
def wordOf (N : List Nd) (V : List Dv) (s : St) : It → List UInt8
  | .wd t => t.data.toList
  | .dv => devN V s.d
  | .nd => nodN N s.n
  | .ps => posW s.p
  | .ky => Lib.itoa s.y
def itOk (nN nV : Int) (s : St) : It → Prop
  | .wd _ => True
  | .dv => 0 ≤ s.d ∧ s.d < nV
  | .nd => 0 ≤ s.n ∧ s.n < nN
  | .ps => s.p = 1 ∨ s.p = 2
  | .ky => 0 ≤ s.y ∧ s.y ≤ 65536
theorem items_ok {nN nV : Int} {s : St} (h : StOk nN nV s) : ∀ i ∈ formL s.k, itOk nN nV s i := by
  obtain ⟨hk, hd, -, hn, -, hp, -, hy, -⟩ := h
  obtain ⟨k, d, n, p, y⟩ := s
  simp only at hk hd hn hp hy
  rcases (by omega : k = 1 ∨ k = 2 ∨ k = 3 ∨ k = 4 ∨ k = 5 ∨ k = 6) with e | e | e | e | e | e <;> subst e
  all_goals
    simp only [fl1, fl2, fl3, fl4, fl5, fl6, wS, List.mem_cons, List.not_mem_nil, or_false]
    rintro i hi
    rcases hi with rfl | hi
    · trivial
  all_goals
    simp only [itOk] at *
    try (rcases hi with rfl | rfl | rfl | rfl)
    try (rcases hi with rfl | rfl | rfl)
    try (rcases hi with rfl | rfl)
    try (rcases hi with rfl)
  all_goals simp_all
theorem words_eq (N : List Nd) (V : List Dv) {s : St} (hk : 1 ≤ s.k ∧ s.k ≤ 6) : (formL s.k).map (wordOf N V s) = stepW N V s := by
  obtain ⟨k, d, n, p, y⟩ := s
  simp only at hk
  rcases (by omega : k = 1 ∨ k = 2 ∨ k = 3 ∨ k = 4 ∨ k = 5 ∨ k = 6) with e | e | e | e | e | e <;> subst e <;> rfl
theorem words_take {N : List Nd} {V : List Dv} {s : St} {F : List It} {k : Nat} {x : It} (h : F[k]? = some x) : ((F.take (k + 1)).map (wordOf N V s)).map svL = ((F.take k).map (wordOf N V s)).map svL ++ [svL (wordOf N V s x)] := by
  rw [take_at h, List.map_append, List.map_append]; rfl
set_option maxHeartbeats 4000000 in
theorem line_A (N : List Nd) (V : List Dv) (s : St) (ok : StOk N.length V.length s) (hP : GPow G) (hPl : GPlc G) : ACalls Tryd.prog G 25 [nwAV N V, s.av] [] (.sl 1 ((stepW N V s).map svL)) [] := by
  have hk := ok.k
  have hit := items_ok ok
  have hfl := form_len s.k
  rw [← words_eq N V hk]
  obtain ⟨F, hF⟩ : ∃ F, F = formL s.k := ⟨_, rfl⟩
  have hfa := form_A (G := G) s.k hk
  rw [← hF] at hit hfa hfl ⊢
  refine acalls_of tbOk (enter_of Tryd.func25 (by kernel_rfl) rfl) Tryd.func25 rfl _ Tryd.ntmps25 (Nat.le_of_ble_eq_true rfl) fun X hX => ?_
  subst hX
  repeat (first | ((with_reducible refine k_assign ?_); refine m_assign rfl ?_) | ((with_reducible refine k_fieldAddr ?_); refine x_fieldAddr_ptr tbOk rfl rfl rfl rfl ?_) | ((with_reducible refine k_load ?_); refine x_load_one tbOk rfl rfl rfl rfl rfl ?_) | ((with_reducible refine k_box ?_); refine m_box rfl rfl rfl ?_)  | refine e_nrm ?_ | refine x_none rfl ?_ | with_reducible refine q_then ?_ | with_reducible refine awp_seq ?_ | ((with_reducible refine w_region ?_ ?_); kernel_rfl))
  refine x_call0 (hfa) (by repeat' (first | exact trivial | exact Ren.v _ | exact Ren.sl _ _ | exact Ren.ep _ | exact Ren.ptr _ _ _ _ rfl | exact Ren.bs _ _ _ _ _ rfl | exact Ren.nil _ | exact Ren.own _ _ _ _ ⟨_, rfl⟩ | refine ren_ag ?_ | refine ren_tu ?_ | refine ren_fn ?_ | refine ⟨?_, ?_⟩)) (by repeat' (first | exact trivial | exact RenB.v _ | exact RenB.sl _ _ | exact RenB.ep _ | exact RenB.ptr _ _ _ _ rfl | refine renb_ag ?_ | refine renb_tu ?_ | refine ⟨?_, ?_⟩)) ?_
  repeat (first | ((with_reducible refine k_move ?_); refine m_move rfl ?_) | ((with_reducible refine k_call ?_); refine x_len tbOk rfl rfl ?_)  | refine e_nrm ?_ | refine x_none rfl ?_ | with_reducible refine q_then ?_ | with_reducible refine awp_block ?_ )
  refine awp_own (t := 5) (s := 28) 9 1 rfl rfl ?_
  refine awp_loop (ι := Nat) (fun k => k ≤ F.length) (fun k => F.length - k) (fun v k => [(2, .ptr 2 (v 2) 0), (3, .ptr 3 (v 3) 0), (5, .own 28 (v 28)), (15, .sl 1 (F.map It.av)), (16, .v (.int .i64 (F.map It.av).length)), (17, .v (.int .i64 (k : Nat)))]) (fun v k => [(2, .box [.sl 3 (N.map Nd.av), .sl 5 (V.map Dv.av)]), (3, .box [.v (.int .i64 s.k), .v (.int .i64 s.d), .v (.int .i64 s.n), .v (.int .i64 s.p), .v (.int .i64 s.y)]), (28, .buf 9 1 (((F.take k).map (wordOf N V s)).map svL))]) ?_ ?_
  · exact ⟨0, Nat.zero_le _, trivial, ⟨rfl, rfl, rfl, rfl, rfl, rfl, trivial⟩, ⟨rfl, rfl, rfl, trivial⟩⟩
  rintro v k hk
  repeat (first | ((with_reducible refine k_bin ?_); refine m_binI rfl rfl rfl ?_)  | refine e_nrm ?_ | refine x_none rfl ?_ | with_reducible refine q_then ?_ | with_reducible refine awp_seq ?_ | ((with_reducible refine w_region ?_ ?_); kernel_rfl))
  refine w_cond rfl (fun h => ?_) (fun h => ?_)
  · have hlt : k < F.length := by simpa using h
    obtain ⟨x, hx⟩ := some_at hlt
    have hy := itv_at hx
    have hi := hit x (List.mem_of_getElem? hx)
    cases x with
    | wd t =>
      repeat (first | ((with_reducible refine k_move ?_); refine m_move rfl ?_) | ((with_reducible refine k_assign ?_); refine m_assign rfl ?_) | ((with_reducible refine k_load ?_); refine x_load_ep_one tbOk rfl rfl rfl ?_) | ((with_reducible refine k_extract ?_); refine x_extract rfl rfl ?_) | ((with_reducible refine k_indexAddr ?_); refine x_indexAddr_n tbOk rfl rfl rfl rfl (by assumption) ?_) | ((with_reducible refine k_buildSlice ?_); refine m_buildSlice tbOk rfl rfl rfl rfl rfl (by omega) rfl rfl rfl ?_) | refine e_nrm ?_ | refine x_none rfl ?_ | with_reducible refine q_then ?_ | with_reducible refine awp_seq ?_ | with_reducible refine awp_block ?_ | with_reducible refine awp_skip ?_ | ((with_reducible refine w_region ?_ ?_); kernel_rfl) | refine w_cond_t rfl (by first | rfl | assumption) ?_ | ((with_reducible refine k_makeInterface ?_); first | refine x_mkif (by first | exact askW | exact askD | exact askN | exact askP | exact askK) rfl ?_ | refine x_mkif_ag (by first | exact askW | exact askD | exact askN | exact askP | exact askK) rfl rfl ?_) | ((with_reducible refine k_typeAssert ?_); first | refine x_tya_miss (by first | exact askW | exact askD | exact askN | exact askP | exact askK) rfl rfl ?_ | refine x_tya_hit_ag (by first | exact askW | exact askD | exact askN | exact askP | exact askK) rfl ?_ | refine x_tya_hit (by first | exact askW | exact askD | exact askN | exact askP | exact askK) rfl ?_))
      refine x_append_own tbOk rfl rfl rfl rfl rfl (by decide) rfl rfl rfl rfl rfl (fun x hx => by simp at hx; subst hx; rfl) (by simp only [List.length_map, List.length_take, List.length_cons, List.length_nil]; omega) (by simp only [List.length_map, List.length_take, List.length_cons, List.length_nil]; omega) ?_
      repeat (first | ((with_reducible refine k_move ?_); refine m_move rfl ?_) | ((with_reducible refine k_assign ?_); refine m_assign rfl ?_) | ((with_reducible refine k_bin ?_); refine x_add_in rfl rfl (by omega) ?_)  | refine e_nrm ?_ | refine x_none rfl ?_ | with_reducible refine q_then ?_ | with_reducible refine q_block ?_ | ((with_reducible refine w_region ?_ ?_); kernel_rfl))
      exact ⟨k + 1, by omega, by omega, ⟨rfl, rfl, rfl, rfl, rfl, rfl, trivial⟩, ⟨rfl, rfl, hc_buf (by rw [words_take hx]; exact congrArg (fun z => _ ++ [z]) (rfl)), trivial⟩⟩
    | dv =>
      obtain ⟨d, hd, e⟩ := devN_at hi
      have hz := dv_at' hd
      have hi1 : 0 ≤ s.d ∧ s.d < V.length := hi
      repeat (first | ((with_reducible refine k_move ?_); refine m_move rfl ?_) | ((with_reducible refine k_assign ?_); refine m_assign rfl ?_) | ((with_reducible refine k_fieldAddr ?_); refine x_fieldAddr_ptr tbOk rfl rfl rfl rfl ?_) | ((with_reducible refine k_fieldAddr ?_); refine x_fieldAddr_ep tbOk rfl rfl rfl rfl ?_) | ((with_reducible refine k_load ?_); refine x_load_one tbOk rfl rfl rfl rfl rfl ?_) | ((with_reducible refine k_load ?_); refine x_load_ep_one tbOk rfl rfl rfl ?_) | ((with_reducible refine k_store ?_); refine m_store tbOk rfl rfl rfl rfl rfl rfl rfl (Nat.le_of_ble_eq_true rfl) rfl ?_) | ((with_reducible refine k_alloc ?_); refine x_alloc tbOk rfl rfl ?_) | ((with_reducible refine k_extract ?_); refine x_extract rfl rfl ?_) | ((with_reducible refine k_indexAddr ?_); refine x_indexAddr_n tbOk rfl rfl rfl rfl (by assumption) ?_) | ((with_reducible refine k_indexAddr ?_); refine x_indexAddr tbOk rfl rfl rfl rfl (by omega) (by assumption) ?_) | ((with_reducible refine k_buildSlice ?_); refine m_buildSlice tbOk rfl rfl rfl rfl rfl (by omega) rfl rfl rfl ?_) | refine e_nrm ?_ | refine x_none rfl ?_ | with_reducible refine q_then ?_ | with_reducible refine awp_seq ?_ | with_reducible refine awp_block ?_ | with_reducible refine awp_skip ?_ | ((with_reducible refine w_region ?_ ?_); kernel_rfl) | refine w_cond_t rfl (by first | rfl | assumption) ?_ | refine w_cond_f rfl (by first | rfl | assumption) ?_ | ((with_reducible refine k_makeInterface ?_); first | refine x_mkif (by first | exact askW | exact askD | exact askN | exact askP | exact askK) rfl ?_ | refine x_mkif_ag (by first | exact askW | exact askD | exact askN | exact askP | exact askK) rfl rfl ?_) | ((with_reducible refine k_typeAssert ?_); first | refine x_tya_miss (by first | exact askW | exact askD | exact askN | exact askP | exact askK) rfl rfl ?_ | refine x_tya_hit_ag (by first | exact askW | exact askD | exact askN | exact askP | exact askK) rfl ?_ | refine x_tya_hit (by first | exact askW | exact askD | exact askN | exact askP | exact askK) rfl ?_))
      refine x_append_own tbOk rfl rfl rfl rfl rfl (by decide) rfl rfl rfl rfl rfl (fun x hx => by simp at hx; subst hx; rfl) (by simp only [List.length_map, List.length_take, List.length_cons, List.length_nil]; omega) (by simp only [List.length_map, List.length_take, List.length_cons, List.length_nil]; omega) ?_
      repeat (first | ((with_reducible refine k_assign ?_); refine m_assign rfl ?_) | refine e_nrm ?_ | refine x_none rfl ?_ | with_reducible refine q_then ?_ | with_reducible refine q_block ?_)
      refine awp_reown (t := 5) (s := 41) (d := 28) rfl rfl rfl (by decide) ?_
      repeat (first | ((with_reducible refine k_move ?_); refine m_move rfl ?_) | ((with_reducible refine k_bin ?_); refine x_add_in rfl rfl (by omega) ?_)  | refine e_nrm ?_ | refine x_none rfl ?_ | with_reducible refine q_then ?_ | ((with_reducible refine w_region ?_ ?_); kernel_rfl))
      exact ⟨k + 1, by omega, by omega, ⟨rfl, rfl, rfl, rfl, rfl, rfl, trivial⟩, ⟨rfl, rfl, hc_buf (by rw [words_take hx]; exact congrArg (fun z => _ ++ [z]) (by show AV.v (Value.string d.n) = svL (devN V s.d); rw [e]; rfl)), trivial⟩⟩
    | nd =>
      obtain ⟨d, hd, e⟩ := nodN_at hi
      have hz := nd_at' hd
      have hi1 : 0 ≤ s.n ∧ s.n < N.length := hi
      repeat (first | ((with_reducible refine k_move ?_); refine m_move rfl ?_) | ((with_reducible refine k_assign ?_); refine m_assign rfl ?_) | ((with_reducible refine k_fieldAddr ?_); refine x_fieldAddr_ptr tbOk rfl rfl rfl rfl ?_) | ((with_reducible refine k_fieldAddr ?_); refine x_fieldAddr_ep tbOk rfl rfl rfl rfl ?_) | ((with_reducible refine k_load ?_); refine x_load_one tbOk rfl rfl rfl rfl rfl ?_) | ((with_reducible refine k_load ?_); refine x_load_ep_one tbOk rfl rfl rfl ?_) | ((with_reducible refine k_store ?_); refine m_store tbOk rfl rfl rfl rfl rfl rfl rfl (Nat.le_of_ble_eq_true rfl) rfl ?_) | ((with_reducible refine k_alloc ?_); refine x_alloc tbOk rfl rfl ?_) | ((with_reducible refine k_extract ?_); refine x_extract rfl rfl ?_) | ((with_reducible refine k_indexAddr ?_); refine x_indexAddr_n tbOk rfl rfl rfl rfl (by assumption) ?_) | ((with_reducible refine k_indexAddr ?_); refine x_indexAddr tbOk rfl rfl rfl rfl (by omega) (by assumption) ?_) | ((with_reducible refine k_buildSlice ?_); refine m_buildSlice tbOk rfl rfl rfl rfl rfl (by omega) rfl rfl rfl ?_) | refine e_nrm ?_ | refine x_none rfl ?_ | with_reducible refine q_then ?_ | with_reducible refine awp_seq ?_ | with_reducible refine awp_block ?_ | with_reducible refine awp_skip ?_ | ((with_reducible refine w_region ?_ ?_); kernel_rfl) | refine w_cond_t rfl (by first | rfl | assumption) ?_ | refine w_cond_f rfl (by first | rfl | assumption) ?_ | ((with_reducible refine k_makeInterface ?_); first | refine x_mkif (by first | exact askW | exact askD | exact askN | exact askP | exact askK) rfl ?_ | refine x_mkif_ag (by first | exact askW | exact askD | exact askN | exact askP | exact askK) rfl rfl ?_) | ((with_reducible refine k_typeAssert ?_); first | refine x_tya_miss (by first | exact askW | exact askD | exact askN | exact askP | exact askK) rfl rfl ?_ | refine x_tya_hit_ag (by first | exact askW | exact askD | exact askN | exact askP | exact askK) rfl ?_ | refine x_tya_hit (by first | exact askW | exact askD | exact askN | exact askP | exact askK) rfl ?_))
      refine x_append_own tbOk rfl rfl rfl rfl rfl (by decide) rfl rfl rfl rfl rfl (fun x hx => by simp at hx; subst hx; rfl) (by simp only [List.length_map, List.length_take, List.length_cons, List.length_nil]; omega) (by simp only [List.length_map, List.length_take, List.length_cons, List.length_nil]; omega) ?_
      repeat (first | ((with_reducible refine k_assign ?_); refine m_assign rfl ?_) | refine e_nrm ?_ | refine x_none rfl ?_ | with_reducible refine q_then ?_ | with_reducible refine q_block ?_)
      refine awp_reown (t := 5) (s := 54) (d := 28) rfl rfl rfl (by decide) ?_
      repeat (first | ((with_reducible refine k_move ?_); refine m_move rfl ?_) | ((with_reducible refine k_bin ?_); refine x_add_in rfl rfl (by omega) ?_)  | refine e_nrm ?_ | refine x_none rfl ?_ | with_reducible refine q_then ?_ | ((with_reducible refine w_region ?_ ?_); kernel_rfl))
      exact ⟨k + 1, by omega, by omega, ⟨rfl, rfl, rfl, rfl, rfl, rfl, trivial⟩, ⟨rfl, rfl, hc_buf (by rw [words_take hx]; exact congrArg (fun z => _ ++ [z]) (by show AV.v (Value.string d.n) = svL (nodN N s.n); rw [e]; rfl)), trivial⟩⟩
    | ps =>
      have hi1 : s.p = 1 ∨ s.p = 2 := hi
      repeat (first | ((with_reducible refine k_move ?_); refine m_move rfl ?_) | ((with_reducible refine k_assign ?_); refine m_assign rfl ?_) | ((with_reducible refine k_fieldAddr ?_); refine x_fieldAddr_ptr tbOk rfl rfl rfl rfl ?_) | ((with_reducible refine k_load ?_); refine x_load_one tbOk rfl rfl rfl rfl rfl ?_) | ((with_reducible refine k_load ?_); refine x_load_ep_one tbOk rfl rfl rfl ?_) | ((with_reducible refine k_store ?_); refine m_store tbOk rfl rfl rfl rfl rfl rfl rfl (Nat.le_of_ble_eq_true rfl) rfl ?_) | ((with_reducible refine k_alloc ?_); refine x_alloc tbOk rfl rfl ?_) | ((with_reducible refine k_extract ?_); refine x_extract rfl rfl ?_) | ((with_reducible refine k_indexAddr ?_); refine x_indexAddr_n tbOk rfl rfl rfl rfl (by assumption) ?_)  | refine e_nrm ?_ | refine x_none rfl ?_ | with_reducible refine q_then ?_ | with_reducible refine awp_seq ?_ | with_reducible refine awp_block ?_ | with_reducible refine awp_skip ?_ | ((with_reducible refine w_region ?_ ?_); kernel_rfl) | refine w_cond_t rfl (by first | rfl | assumption) ?_ | refine w_cond_f rfl (by first | rfl | assumption) ?_ | ((with_reducible refine k_makeInterface ?_); first | refine x_mkif (by first | exact askW | exact askD | exact askN | exact askP | exact askK) rfl ?_ | refine x_mkif_ag (by first | exact askW | exact askD | exact askN | exact askP | exact askK) rfl rfl ?_) | ((with_reducible refine k_typeAssert ?_); first | refine x_tya_miss (by first | exact askW | exact askD | exact askN | exact askP | exact askK) rfl rfl ?_ | refine x_tya_hit_ag (by first | exact askW | exact askD | exact askN | exact askP | exact askK) rfl ?_ | refine x_tya_hit (by first | exact askW | exact askD | exact askN | exact askP | exact askK) rfl ?_))
      (with_reducible refine k_indexAddr ?_)
      refine x_indexAddr_gl tbOk Tryd.underlying94 rfl rfl rfl (by omega) ?_
      repeat (first   | refine x_none rfl ?_   | ((with_reducible refine k_makeInterface ?_); first | refine x_mkif (by first | exact askW | exact askD | exact askN | exact askP | exact askK) rfl ?_ | refine x_mkif_ag (by first | exact askW | exact askD | exact askN | exact askP | exact askK) rfl rfl ?_) | ((with_reducible refine k_typeAssert ?_); first | refine x_tya_miss (by first | exact askW | exact askD | exact askN | exact askP | exact askK) rfl rfl ?_ | refine x_tya_hit_ag (by first | exact askW | exact askD | exact askN | exact askP | exact askK) rfl ?_ | refine x_tya_hit (by first | exact askW | exact askD | exact askN | exact askP | exact askK) rfl ?_))
      (with_reducible refine k_load ?_)
      refine x_load_gl tbOk rfl rfl hPl (u := .string (strL (posW s.p))) (by rcases hi1 with e | e <;> rw [e] <;> rfl) ?_
      repeat (first  | ((with_reducible refine k_buildSlice ?_); refine m_buildSlice tbOk rfl rfl rfl rfl rfl (by omega) rfl rfl rfl ?_) | refine x_none rfl ?_   | ((with_reducible refine k_makeInterface ?_); first | refine x_mkif (by first | exact askW | exact askD | exact askN | exact askP | exact askK) rfl ?_ | refine x_mkif_ag (by first | exact askW | exact askD | exact askN | exact askP | exact askK) rfl rfl ?_) | ((with_reducible refine k_typeAssert ?_); first | refine x_tya_miss (by first | exact askW | exact askD | exact askN | exact askP | exact askK) rfl rfl ?_ | refine x_tya_hit_ag (by first | exact askW | exact askD | exact askN | exact askP | exact askK) rfl ?_ | refine x_tya_hit (by first | exact askW | exact askD | exact askN | exact askP | exact askK) rfl ?_))
      refine x_append_own tbOk rfl rfl rfl rfl rfl (by decide) rfl rfl rfl rfl rfl (fun x hx => by simp at hx; subst hx; rfl) (by simp only [List.length_map, List.length_take, List.length_cons, List.length_nil]; omega) (by simp only [List.length_map, List.length_take, List.length_cons, List.length_nil]; omega) ?_
      repeat (first | ((with_reducible refine k_assign ?_); refine m_assign rfl ?_) | refine e_nrm ?_ | refine x_none rfl ?_ | with_reducible refine q_then ?_ | with_reducible refine q_block ?_)
      refine awp_reown (t := 5) (s := 64) (d := 28) rfl rfl rfl (by decide) ?_
      repeat (first | ((with_reducible refine k_move ?_); refine m_move rfl ?_) | ((with_reducible refine k_bin ?_); refine x_add_in rfl rfl (by omega) ?_)  | refine e_nrm ?_ | refine x_none rfl ?_ | with_reducible refine q_then ?_ | ((with_reducible refine w_region ?_ ?_); kernel_rfl))
      exact ⟨k + 1, by omega, by omega, ⟨rfl, rfl, rfl, rfl, rfl, rfl, trivial⟩, ⟨rfl, rfl, hc_buf (by rw [words_take hx]; exact congrArg (fun z => _ ++ [z]) (rfl)), trivial⟩⟩
    | ky =>
      have hi1 : 0 ≤ s.y ∧ s.y ≤ 65536 := hi
      repeat (first | ((with_reducible refine k_move ?_); refine m_move rfl ?_) | ((with_reducible refine k_assign ?_); refine m_assign rfl ?_) | ((with_reducible refine k_fieldAddr ?_); refine x_fieldAddr_ptr tbOk rfl rfl rfl rfl ?_) | ((with_reducible refine k_load ?_); refine x_load_one tbOk rfl rfl rfl rfl rfl ?_) | ((with_reducible refine k_load ?_); refine x_load_ep_one tbOk rfl rfl rfl ?_) | ((with_reducible refine k_store ?_); refine m_store tbOk rfl rfl rfl rfl rfl rfl rfl (Nat.le_of_ble_eq_true rfl) rfl ?_) | ((with_reducible refine k_alloc ?_); refine x_alloc tbOk rfl rfl ?_) | ((with_reducible refine k_extract ?_); refine x_extract rfl rfl ?_) | ((with_reducible refine k_indexAddr ?_); refine x_indexAddr_n tbOk rfl rfl rfl rfl (by assumption) ?_)  | refine e_nrm ?_ | refine x_none rfl ?_ | with_reducible refine q_then ?_ | with_reducible refine awp_seq ?_ | with_reducible refine awp_block ?_ | with_reducible refine awp_skip ?_ | ((with_reducible refine w_region ?_ ?_); kernel_rfl) | refine w_cond_t rfl (by first | rfl | assumption) ?_ | refine w_cond_f rfl (by first | rfl | assumption) ?_ | ((with_reducible refine k_makeInterface ?_); first | refine x_mkif (by first | exact askW | exact askD | exact askN | exact askP | exact askK) rfl ?_ | refine x_mkif_ag (by first | exact askW | exact askD | exact askN | exact askP | exact askK) rfl rfl ?_) | ((with_reducible refine k_typeAssert ?_); first | refine x_tya_miss (by first | exact askW | exact askD | exact askN | exact askP | exact askK) rfl rfl ?_ | refine x_tya_hit_ag (by first | exact askW | exact askD | exact askN | exact askP | exact askK) rfl ?_ | refine x_tya_hit (by first | exact askW | exact askD | exact askN | exact askP | exact askK) rfl ?_))
      refine x_call0 (text_A s.y hP (by omega) (by omega)) (by repeat' (first | exact trivial | exact Ren.v _ | exact Ren.sl _ _ | exact Ren.ep _ | exact Ren.ptr _ _ _ _ rfl | exact Ren.bs _ _ _ _ _ rfl | exact Ren.nil _ | exact Ren.own _ _ _ _ ⟨_, rfl⟩ | refine ren_ag ?_ | refine ren_tu ?_ | refine ren_fn ?_ | refine ⟨?_, ?_⟩)) (by repeat' (first | exact trivial | exact RenB.v _ | exact RenB.sl _ _ | exact RenB.ep _ | exact RenB.ptr _ _ _ _ rfl | refine renb_ag ?_ | refine renb_tu ?_ | refine ⟨?_, ?_⟩)) ?_
      repeat (first  | ((with_reducible refine k_buildSlice ?_); refine m_buildSlice tbOk rfl rfl rfl rfl rfl (by omega) rfl rfl rfl ?_) | refine x_none rfl ?_   | ((with_reducible refine k_makeInterface ?_); first | refine x_mkif (by first | exact askW | exact askD | exact askN | exact askP | exact askK) rfl ?_ | refine x_mkif_ag (by first | exact askW | exact askD | exact askN | exact askP | exact askK) rfl rfl ?_) | ((with_reducible refine k_typeAssert ?_); first | refine x_tya_miss (by first | exact askW | exact askD | exact askN | exact askP | exact askK) rfl rfl ?_ | refine x_tya_hit_ag (by first | exact askW | exact askD | exact askN | exact askP | exact askK) rfl ?_ | refine x_tya_hit (by first | exact askW | exact askD | exact askN | exact askP | exact askK) rfl ?_))
      refine x_append_own tbOk rfl rfl rfl rfl rfl (by decide) rfl rfl rfl rfl rfl (fun x hx => by simp at hx; subst hx; rfl) (by simp only [List.length_map, List.length_take, List.length_cons, List.length_nil]; omega) (by simp only [List.length_map, List.length_take, List.length_cons, List.length_nil]; omega) ?_
      repeat (first | ((with_reducible refine k_assign ?_); refine m_assign rfl ?_) | refine e_nrm ?_ | refine x_none rfl ?_ | with_reducible refine q_then ?_ | with_reducible refine q_block ?_)
      refine awp_reown (t := 5) (s := 73) (d := 28) rfl rfl rfl (by decide) ?_
      repeat (first | ((with_reducible refine k_move ?_); refine m_move rfl ?_) | ((with_reducible refine k_bin ?_); refine x_add_in rfl rfl (by omega) ?_)  | refine e_nrm ?_ | refine x_none rfl ?_ | with_reducible refine q_then ?_ | ((with_reducible refine w_region ?_ ?_); kernel_rfl))
      exact ⟨k + 1, by omega, by omega, ⟨rfl, rfl, rfl, rfl, rfl, rfl, trivial⟩, ⟨rfl, rfl, hc_buf (by rw [words_take hx]; exact congrArg (fun z => _ ++ [z]) (rfl)), trivial⟩⟩
  · have hge : F.length ≤ k := by simpa using h
    rw [List.take_of_length_le hge]
    refine awp_freeze (t := 5) (s := 28) rfl rfl ?_
    repeat (first | ((with_reducible refine k_move ?_); refine m_move rfl ?_) | ((with_reducible refine k_assign ?_); refine m_assign rfl ?_)  | refine e_nrm ?_ | refine x_none rfl ?_ | with_reducible refine q_then ?_ | with_reducible refine q_then_exit ?_ | with_reducible refine awp_seq ?_ | with_reducible refine awp_exit ?_ | with_reducible refine awp_ret ?_ | ((with_reducible refine q_block_exit ?_ ?_); rfl) | ((with_reducible refine w_region ?_ ?_); kernel_rfl))
    refine ret0_1 (by first | exact .inr rfl | exact .inl rfl) rfl rfl ?_
    repeat' (first | exact trivial | exact Ren.v _ | exact Ren.sl _ _ | exact Ren.ep _ | exact Ren.ptr _ _ _ _ rfl | exact Ren.bs _ _ _ _ _ rfl | exact Ren.nil _ | exact Ren.own _ _ _ _ ⟨_, rfl⟩ | refine ren_ag ?_ | refine ren_tu ?_ | refine ren_fn ?_ | refine ⟨?_, ?_⟩)
def lnP (N : List Nd) (V : List Dv) (s : St) : List UInt8 := joinW (stepW N V s)
def preP (N : List Nd) (V : List Dv) (P : Pg) (k : Nat) : List UInt8 := txtOf (joinW (headL P) :: (P.st.take k).map (lnP N V))
theorem txtOf_snoc (L : List (List UInt8)) (l : List UInt8) : txtOf (L ++ [l]) = txtOf L ++ (l ++ [10]) := by
  unfold txtOf
  rw [List.flatMap_append]; simp
theorem preP_next {N : List Nd} {V : List Dv} {P : Pg} {k : Nat} {s : St} (h : P.st[k]? = some s) : preP N V P (k + 1) = preP N V P k ++ (lnP N V s ++ [10]) := by
  unfold preP
  rw [take_at h, List.map_append, List.map_cons, List.map_nil, ← List.cons_append, txtOf_snoc]
theorem preP_all (N : List Nd) (V : List Dv) (P : Pg) : preP N V P P.st.length = txtOf (linesP N V P) := by
  unfold preP linesP
  rw [List.take_length]; rfl
theorem preP_len {N : List Nd} {V : List Dv} {P : Pg} (h : PgOk N V P) (k : Nat) : (preP N V P k).length ≤ 6890 := by
  have h1 := txt_len (L := joinW (headL P) :: (P.st.take k).map (lnP N V)) (b := 105) (fun l hl => (lines_okP h l (by
    unfold linesP
    rcases List.mem_cons.1 hl with rfl | hl
    · exact List.mem_cons_self
    · obtain ⟨s, hs, rfl⟩ := List.mem_map.1 hl
      exact List.mem_cons_of_mem _ (List.mem_map.2 ⟨s, List.mem_of_mem_take hs, rfl⟩))).2)
  have h2 := h.l
  have h3 : (joinW (headL P) :: (P.st.take k).map (lnP N V)).length ≤ P.st.length + 1 := by
    rw [List.length_cons, List.length_map, List.length_take]; omega
  unfold preP
  have := Nat.mul_le_mul_right 106 h3
  omega
theorem ln_len {N : List Nd} {V : List Dv} {P : Pg} (h : PgOk N V P) {s : St} (hs : s ∈ P.st) : (lnP N V s).length ≤ 105 := (lines_okP h _ (by unfold linesP; exact List.mem_cons_of_mem _ (List.mem_map.2 ⟨s, hs, rfl⟩))).2
theorem head_txt (P : Pg) : joinW (headL P) = progL ++ (32 :: P.n.data.toList) := by
  unfold headL
  rw [joinW_cons, joinW_one]
theorem sz_mk (a : Array UInt8) : (⟨a⟩ : ByteArray).size = a.size := rfl
theorem name_sz {s : ByteArray} (h : nameB s.data.toList = true) : s.size ≤ 12 := by
  have := (name_sp h).2.2
  simpa using this
theorem print_start (P : Pg) : ((((⟨#[112, 114, 111, 103, 114, 97, 109, 109, 101, 32]⟩ : ByteArray) ++ P.n) ++ (⟨#[10]⟩ : ByteArray)).data.toList) = txtOf [joinW (headL P)] := by
  unfold txtOf
  rw [head_txt]
  simp [progL]
set_option maxHeartbeats 4000000 in
theorem print_A (N : List Nd) (V : List Dv) (P : Pg) (hG : GCls G) (hP : GPow G) (hPl : GPlc G) (ok : NwOk N V) (hc : P.n.size ≤ maxLen) (hl : P.st.length ≤ maxLen) : ACalls Tryd.prog G 10 [nwAV N V, P.av] [] (.tu [.v (.string (printG N V P).1), .v (.int .i64 (printG N V P).2)]) [] := by
  unfold printG
  by_cases h0 : progE N V P = 0
  · rw [if_neg (by simpa using h0)]
    have hok := progE_iff.1 h0
    have hns := name_sz hok.n
    have hck := pcheck_A N V P hG ok hc hl
    rw [h0] at hck
    have h64 := hok.l
    refine acalls_of tbOk (enter_of Tryd.func10 (by kernel_rfl) rfl) Tryd.func10 rfl _ Tryd.ntmps10 (Nat.le_of_ble_eq_true rfl) fun X hX => ?_
    subst hX
    repeat (first | ((with_reducible refine k_assign ?_); refine m_assign rfl ?_) | ((with_reducible refine k_load ?_); refine x_load_agg tbOk rfl rfl rfl rfl (Nat.le_of_ble_eq_true rfl) ?_) | ((with_reducible refine k_box ?_); refine m_box rfl rfl rfl ?_)  | refine e_nrm ?_ | refine x_none rfl ?_ | with_reducible refine q_then ?_ | with_reducible refine awp_seq ?_ | ((with_reducible refine w_region ?_ ?_); kernel_rfl))
    refine x_call0 (hck) (by repeat' (first | exact trivial | exact Ren.v _ | exact Ren.sl _ _ | exact Ren.ep _ | exact Ren.ptr _ _ _ _ rfl | exact Ren.bs _ _ _ _ _ rfl | exact Ren.nil _ | exact Ren.own _ _ _ _ ⟨_, rfl⟩ | refine ren_ag ?_ | refine ren_tu ?_ | refine ren_fn ?_ | refine ⟨?_, ?_⟩)) (by repeat' (first | exact trivial | exact RenB.v _ | exact RenB.sl _ _ | exact RenB.ep _ | exact RenB.ptr _ _ _ _ rfl | refine renb_ag ?_ | refine renb_tu ?_ | refine ⟨?_, ?_⟩)) ?_
    repeat (first | ((with_reducible refine k_assign ?_); refine m_assign rfl ?_) | refine e_nrm ?_ | refine x_none rfl ?_ | with_reducible refine q_then ?_ | with_reducible refine awp_seq ?_)
    (with_reducible refine w_region ?_ ?_); kernel_rfl
    repeat (first | ((with_reducible refine k_move ?_); refine m_move rfl ?_) | ((with_reducible refine k_bin ?_); refine m_binI rfl rfl rfl ?_) | refine e_nrm ?_ | refine x_none rfl ?_ | with_reducible refine q_then ?_)
    refine w_cond_f rfl rfl ?_
    repeat (first  | refine x_none rfl ?_ | with_reducible refine q_then ?_ | with_reducible refine awp_seq ?_ | with_reducible refine awp_skip ?_)
    (with_reducible refine w_region ?_ ?_); kernel_rfl
    repeat (first | refine x_none rfl ?_)
    (with_reducible refine k_alloc ?_)
    refine x_alloc_bd tbOk (e := 5) 900 rfl (by decide) rfl rfl ?_
    repeat (first | ((with_reducible refine k_fieldAddr ?_); refine x_fieldAddr_ptr tbOk rfl rfl rfl rfl ?_) | ((with_reducible refine k_load ?_); refine x_load_one tbOk rfl rfl rfl rfl rfl ?_)  | refine e_nrm ?_ | refine x_none rfl ?_ | with_reducible refine q_then ?_ | with_reducible refine awp_seq ?_ | ((with_reducible refine w_region ?_ ?_); kernel_rfl))
    ((with_reducible refine k_bin ?_); refine x_add_s rfl rfl (by simp only [ByteArray.size_append, sz_mk, List.size_toArray, List.length_cons, List.length_nil]; omega) ?_)
    repeat (first   | refine x_none rfl ?_  )
    ((with_reducible refine k_bin ?_); refine x_add_s rfl rfl (by simp only [ByteArray.size_append, sz_mk, List.size_toArray, List.length_cons, List.length_nil]; omega) ?_)
    repeat (first   | refine x_none rfl ?_  )
    (with_reducible refine k_call ?_)
    refine x_bd (L := []) (bd_ws _) rfl rfl rfl rfl rfl rfl (by rw [← nsizeS]; simp only [ByteArray.size_append, sz_mk, List.size_toArray, List.length_cons, List.length_nil]; omega) ?_
    repeat (first | ((with_reducible refine k_move ?_); refine m_move rfl ?_) | ((with_reducible refine k_fieldAddr ?_); refine x_fieldAddr_ptr tbOk rfl rfl rfl rfl ?_) | ((with_reducible refine k_load ?_); refine x_load_one tbOk rfl rfl rfl rfl rfl ?_) | ((with_reducible refine k_call ?_); refine x_len tbOk rfl rfl ?_)  | refine e_nrm ?_ | refine x_none rfl ?_ | with_reducible refine q_then ?_ | with_reducible refine awp_seq ?_ | with_reducible refine awp_block ?_ | ((with_reducible refine w_region ?_ ?_); kernel_rfl))
    refine awp_loop (ι := Nat) (fun k => k ≤ P.st.length) (fun k => P.st.length - k) (fun v k => [(2, .ptr 2 (v 2) 0), (3, .ptr 3 (v 3) 0), (7, .ptr 7 (v 7) 0), (22, .sl 5 (P.st.map St.av)), (23, .v (.int .i64 (P.st.map St.av).length)), (24, .v (.int .i64 (k : Nat)))]) (fun v k => [(900, .buf 5 1 ((preP N V P k).map bv)), (2, .box [.sl 3 (N.map Nd.av), .sl 5 (V.map Dv.av)]), (3, .box [.v (.string P.n), .sl 5 (P.st.map St.av)]), (7, .ob (.bd 68 900 (v 900)))]) ?_ ?_
    · refine ⟨0, Nat.zero_le _, trivial, ⟨rfl, rfl, rfl, rfl, rfl, rfl, trivial⟩, ⟨hc_buf ?_, rfl, rfl, rfl, trivial⟩⟩
      rw [List.nil_append, print_start]; rfl
    rintro v k hk
    repeat (first | ((with_reducible refine k_bin ?_); refine m_binI rfl rfl rfl ?_)  | refine e_nrm ?_ | refine x_none rfl ?_ | with_reducible refine q_then ?_ | with_reducible refine awp_seq ?_ | ((with_reducible refine w_region ?_ ?_); kernel_rfl))
    refine w_cond rfl (fun h => ?_) (fun h => ?_)
    · have hlt : k < P.st.length := by simpa using h
      obtain ⟨s, hs⟩ := some_at hlt
      have hy := st_at hs
      have hsm := List.mem_of_getElem? hs
      have hso := hok.s s hsm
      have hll := ln_len hok hsm
      have hpl := preP_len hok k
      have hw5 := (step_words hok.net hso).2.1
      repeat (first | ((with_reducible refine k_load ?_); refine x_load_agg tbOk rfl rfl rfl rfl (Nat.le_of_ble_eq_true rfl) ?_) | ((with_reducible refine k_load ?_); refine x_load_ep_agg tbOk rfl rfl (Nat.le_of_ble_eq_true rfl) ?_) | ((with_reducible refine k_store ?_); refine m_store tbOk rfl rfl rfl rfl rfl rfl rfl (Nat.le_of_ble_eq_true rfl) rfl ?_) | ((with_reducible refine k_alloc ?_); refine x_alloc tbOk rfl rfl ?_) | ((with_reducible refine k_indexAddr ?_); refine x_indexAddr_n tbOk rfl rfl rfl rfl (by assumption) ?_)  | refine e_nrm ?_ | refine x_none rfl ?_ | with_reducible refine q_then ?_ | with_reducible refine awp_seq ?_ | with_reducible refine awp_block ?_ | with_reducible refine awp_skip ?_ | ((with_reducible refine w_region ?_ ?_); kernel_rfl))
      refine x_call0 (line_A N V s hso hP hPl) (by repeat' (first | exact trivial | exact Ren.v _ | exact Ren.sl _ _ | exact Ren.ep _ | exact Ren.ptr _ _ _ _ rfl | exact Ren.bs _ _ _ _ _ rfl | exact Ren.nil _ | exact Ren.own _ _ _ _ ⟨_, rfl⟩ | refine ren_ag ?_ | refine ren_tu ?_ | refine ren_fn ?_ | refine ⟨?_, ?_⟩)) (by repeat' (first | exact trivial | exact RenB.v _ | exact RenB.sl _ _ | exact RenB.ep _ | exact RenB.ptr _ _ _ _ rfl | refine renb_ag ?_ | refine renb_tu ?_ | refine ⟨?_, ?_⟩)) ?_
      repeat (first   | refine x_none rfl ?_  )
      refine x_call0 (jn_A (stepW N V s) (by omega) (by unfold lnP at hll; omega)) (by repeat' (first | exact trivial | exact Ren.v _ | exact Ren.sl _ _ | exact Ren.ep _ | exact Ren.ptr _ _ _ _ rfl | exact Ren.bs _ _ _ _ _ rfl | exact Ren.nil _ | exact Ren.own _ _ _ _ ⟨_, rfl⟩ | refine ren_ag ?_ | refine ren_tu ?_ | refine ren_fn ?_ | refine ⟨?_, ?_⟩)) (by repeat' (first | exact trivial | exact RenB.v _ | exact RenB.sl _ _ | exact RenB.ep _ | exact RenB.ptr _ _ _ _ rfl | refine renb_ag ?_ | refine renb_tu ?_ | refine ⟨?_, ?_⟩)) ?_
      repeat (first   | refine x_none rfl ?_  )
      (with_reducible refine k_bin ?_)
      refine x_add_s rfl rfl (by rw [strL_size]; show (lnP N V s).length + 1 ≤ _; omega) ?_
      repeat (first   | refine x_none rfl ?_  )
      (with_reducible refine k_call ?_)
      refine x_bd (bd_ws _) rfl rfl rfl rfl rfl rfl (by rw [show ((strL (joinW (stepW N V s)) ++ (⟨#[10]⟩ : ByteArray)).data.toList) = lnP N V s ++ [10] by simp [strL, lnP], List.length_append]; show _ + (_ + 1) ≤ _; omega) ?_
      repeat (first | ((with_reducible refine k_move ?_); refine m_move rfl ?_) | ((with_reducible refine k_bin ?_); refine x_add_in rfl rfl (by omega) ?_)  | refine e_nrm ?_ | refine x_none rfl ?_ | with_reducible refine q_then ?_ | with_reducible refine q_block ?_ | ((with_reducible refine w_region ?_ ?_); kernel_rfl))
      exact ⟨k + 1, by omega, by omega, ⟨rfl, rfl, rfl, rfl, rfl, rfl, trivial⟩, ⟨hc_buf (by rw [preP_next hs, show ((strL (joinW (stepW N V s)) ++ (⟨#[10]⟩ : ByteArray)).data.toList) = lnP N V s ++ [10] by simp [strL, lnP]]), rfl, rfl, rfl, trivial⟩⟩
    · have hge : k = P.st.length := by simp at h; omega
      rw [hge, preP_all]
      repeat (first   | refine x_none rfl ?_ | with_reducible refine q_then ?_ | with_reducible refine q_then_exit ?_ | with_reducible refine awp_seq ?_ | with_reducible refine awp_exit ?_ | ((with_reducible refine q_block_exit ?_ ?_); rfl) | ((with_reducible refine w_region ?_ ?_); kernel_rfl))
      (with_reducible refine k_call ?_)
      refine x_bd_str bd_str rfl rfl rfl rfl rfl ?_
      repeat (first | ((with_reducible refine k_assign ?_); refine m_assign rfl ?_)  | refine e_nrm ?_ | refine x_none rfl ?_ | with_reducible refine q_then ?_ | with_reducible refine awp_ret ?_ )
      refine ret0_2 (by first | exact .inr rfl | exact .inl rfl) rfl rfl rfl ?_
      repeat' (first | exact trivial | exact Ren.v _ | exact Ren.sl _ _ | exact Ren.ep _ | exact Ren.ptr _ _ _ _ rfl | exact Ren.bs _ _ _ _ _ rfl | exact Ren.nil _ | exact Ren.own _ _ _ _ ⟨_, rfl⟩ | refine ren_ag ?_ | refine ren_tu ?_ | refine ren_fn ?_ | refine ⟨?_, ?_⟩)
  · rw [if_pos h0]
    have hck := pcheck_A N V P hG ok hc hl
    have hb : (!decide (progE N V P = 0)) = true := by simpa using h0
    refine acalls_of tbOk (enter_of Tryd.func10 (by kernel_rfl) rfl) Tryd.func10 rfl _ Tryd.ntmps10 (Nat.le_of_ble_eq_true rfl) fun X hX => ?_
    subst hX
    repeat (first | ((with_reducible refine k_assign ?_); refine m_assign rfl ?_) | ((with_reducible refine k_load ?_); refine x_load_agg tbOk rfl rfl rfl rfl (Nat.le_of_ble_eq_true rfl) ?_) | ((with_reducible refine k_box ?_); refine m_box rfl rfl rfl ?_)  | refine e_nrm ?_ | refine x_none rfl ?_ | with_reducible refine q_then ?_ | with_reducible refine awp_seq ?_ | ((with_reducible refine w_region ?_ ?_); kernel_rfl))
    refine x_call0 (hck) (by repeat' (first | exact trivial | exact Ren.v _ | exact Ren.sl _ _ | exact Ren.ep _ | exact Ren.ptr _ _ _ _ rfl | exact Ren.bs _ _ _ _ _ rfl | exact Ren.nil _ | exact Ren.own _ _ _ _ ⟨_, rfl⟩ | refine ren_ag ?_ | refine ren_tu ?_ | refine ren_fn ?_ | refine ⟨?_, ?_⟩)) (by repeat' (first | exact trivial | exact RenB.v _ | exact RenB.sl _ _ | exact RenB.ep _ | exact RenB.ptr _ _ _ _ rfl | refine renb_ag ?_ | refine renb_tu ?_ | refine ⟨?_, ?_⟩)) ?_
    repeat (first | ((with_reducible refine k_assign ?_); refine m_assign rfl ?_) | refine e_nrm ?_ | refine x_none rfl ?_ | with_reducible refine q_then ?_ | with_reducible refine awp_seq ?_)
    (with_reducible refine w_region ?_ ?_); kernel_rfl
    repeat (first | ((with_reducible refine k_move ?_); refine m_move rfl ?_) | ((with_reducible refine k_bin ?_); refine m_binI rfl rfl rfl ?_) | refine e_nrm ?_ | refine x_none rfl ?_ | with_reducible refine q_then ?_)
    refine w_cond_t rfl (by simpa using h0) ?_
    repeat (first | ((with_reducible refine k_move ?_); refine m_move rfl ?_) | ((with_reducible refine k_assign ?_); refine m_assign rfl ?_)  | refine e_nrm ?_ | refine x_none rfl ?_ | with_reducible refine q_then ?_ | with_reducible refine q_then_ret ?_ | with_reducible refine awp_seq ?_ | with_reducible refine awp_ret ?_ | ((with_reducible refine w_region ?_ ?_); kernel_rfl))
    refine ret0_2 (by first | exact .inr rfl | exact .inl rfl) rfl rfl rfl ?_
    repeat' (first | exact trivial | exact Ren.v _ | exact Ren.sl _ _ | exact Ren.ep _ | exact Ren.ptr _ _ _ _ rfl | exact Ren.bs _ _ _ _ _ rfl | exact Ren.nil _ | exact Ren.own _ _ _ _ ⟨_, rfl⟩ | refine ren_ag ?_ | refine ren_tu ?_ | refine ren_fn ?_ | refine ⟨?_, ?_⟩)
theorem side_A (p : Int) (hp : p = 1 ∨ p = 2) : ACalls Tryd.prog G 34 [.v (.int .i64 p)] [] (.v (.string (strL (posW p)))) [] := by
  rcases hp with e | e <;> subst e
  all_goals
    refine acalls_of tbOk (enter_of Tryd.func34 (by kernel_rfl) rfl) Tryd.func34 rfl _ Tryd.ntmps34 (Nat.le_of_ble_eq_true rfl) fun X hX => ?_
    subst hX
    repeat (first | ((with_reducible refine k_move ?_); refine m_move rfl ?_) | ((with_reducible refine k_assign ?_); refine m_assign rfl ?_) | ((with_reducible refine k_bin ?_); refine m_binI rfl rfl rfl ?_)  | refine e_nrm ?_ | refine x_none rfl ?_ | with_reducible refine q_then ?_ | with_reducible refine q_then_ret ?_ | with_reducible refine awp_seq ?_ | with_reducible refine awp_skip ?_ | with_reducible refine awp_ret ?_ | ((with_reducible refine w_region ?_ ?_); kernel_rfl) | refine w_cond_t rfl (by first | rfl | assumption) ?_ | refine w_cond_f rfl (by first | rfl | assumption) ?_)
    refine ret_v (by first | exact .inr rfl | exact .inl rfl) rfl rfl ?_
    rfl
theorem pos_sz (p : Int) : (strL (posW p)).size ≤ 6 := by
  rw [strL_size]
  unfold posW
  split <;> decide
theorem txt_sz {y : Int} (h1 : 0 ≤ y) (h2 : y ≤ 65536) : (txtP y).size ≤ 20 := by
  show (strL (Lib.itoa y)).size ≤ 20
  rw [strL_size]
  exact itoa_len (by omega) (by omega)
set_option maxHeartbeats 8000000 in
theorem rprint_A (N : List Nd) (V : List Dv) (P : Pg) (hP : GPow G) (ok : NwOk N V) (hc : P.n.size ≤ maxLen) (hl : P.st.length ≤ maxLen) (hG : GCls G) : ACalls Tryd.prog G 14 [nwAV N V, P.av] [] (.tu [.v (.string (printG N V P).1), .v (.int .i64 (printG N V P).2)]) [] := by
  unfold printG
  by_cases h0 : progE N V P = 0
  · rw [if_neg (by simpa using h0)]
    have hok := progE_iff.1 h0
    have hns := name_sz hok.n
    have hck := prcheck_A N V P hG ok hc hl
    rw [h0] at hck
    have h64 := hok.l
    refine acalls_of tbOk (enter_of Tryd.func14 (by kernel_rfl) rfl) Tryd.func14 rfl _ Tryd.ntmps14 (Nat.le_of_ble_eq_true rfl) fun X hX => ?_
    subst hX
    repeat (first | ((with_reducible refine k_assign ?_); refine m_assign rfl ?_) | ((with_reducible refine k_load ?_); refine x_load_agg tbOk rfl rfl rfl rfl (Nat.le_of_ble_eq_true rfl) ?_) | ((with_reducible refine k_box ?_); refine m_box rfl rfl rfl ?_)  | refine e_nrm ?_ | refine x_none rfl ?_ | with_reducible refine q_then ?_ | with_reducible refine awp_seq ?_ | ((with_reducible refine w_region ?_ ?_); kernel_rfl))
    refine x_call0 (hck) (by repeat' (first | exact trivial | exact Ren.v _ | exact Ren.sl _ _ | exact Ren.ep _ | exact Ren.ptr _ _ _ _ rfl | exact Ren.bs _ _ _ _ _ rfl | exact Ren.nil _ | exact Ren.own _ _ _ _ ⟨_, rfl⟩ | refine ren_ag ?_ | refine ren_tu ?_ | refine ren_fn ?_ | refine ⟨?_, ?_⟩)) (by repeat' (first | exact trivial | exact RenB.v _ | exact RenB.sl _ _ | exact RenB.ep _ | exact RenB.ptr _ _ _ _ rfl | refine renb_ag ?_ | refine renb_tu ?_ | refine ⟨?_, ?_⟩)) ?_
    repeat (first | ((with_reducible refine k_move ?_); refine m_move rfl ?_) | ((with_reducible refine k_assign ?_); refine m_assign rfl ?_) | ((with_reducible refine k_fieldAddr ?_); refine x_fieldAddr_ptr tbOk rfl rfl rfl rfl ?_) | ((with_reducible refine k_load ?_); refine x_load_one tbOk rfl rfl rfl rfl rfl ?_) | ((with_reducible refine k_bin ?_); refine m_binI rfl rfl rfl ?_)  | refine e_nrm ?_ | refine x_none rfl ?_ | with_reducible refine q_then ?_ | with_reducible refine awp_seq ?_ | with_reducible refine awp_skip ?_ | ((with_reducible refine w_region ?_ ?_); kernel_rfl) | refine w_cond_f rfl (by first | rfl | assumption) ?_)
    ((with_reducible refine k_bin ?_); refine x_add_s rfl rfl (by simp only [ByteArray.size_append, sz_mk, List.size_toArray, List.length_cons, List.length_nil]; omega) ?_)
    repeat (first   | refine x_none rfl ?_  )
    ((with_reducible refine k_bin ?_); refine x_add_s rfl rfl (by simp only [ByteArray.size_append, sz_mk, List.size_toArray, List.length_cons, List.length_nil]; omega) ?_)
    repeat (first | ((with_reducible refine k_assign ?_); refine m_assign rfl ?_)  | refine e_nrm ?_ | refine x_none rfl ?_ | with_reducible refine q_then ?_ | with_reducible refine awp_seq ?_ | with_reducible refine awp_block ?_ | ((with_reducible refine w_region ?_ ?_); kernel_rfl))
    refine awp_loop (ι := Nat) (fun k => k ≤ P.st.length) (fun k => P.st.length - k) (fun v k => [(2, .ptr 2 (v 2) 0), (3, .ptr 3 (v 3) 0), (7, .v (.string (strL (preP N V P k)))), (8, .v (.int .i64 (k : Nat)))]) (fun v k => [(2, .box [.sl 3 (N.map Nd.av), .sl 5 (V.map Dv.av)]), (3, .box [.v (.string P.n), .sl 5 (P.st.map St.av)])]) ?_ ?_
    · refine ⟨0, Nat.zero_le _, trivial, ⟨rfl, rfl, congrArg (fun z => AV.v (.string z)) (ba_ext2 ?_), rfl, trivial⟩, ⟨rfl, rfl, trivial⟩⟩
      rw [print_start, strL_data]; rfl
    rintro v k hk
    repeat (first | ((with_reducible refine k_move ?_); refine m_move rfl ?_) | ((with_reducible refine k_fieldAddr ?_); refine x_fieldAddr_ptr tbOk rfl rfl rfl rfl ?_) | ((with_reducible refine k_load ?_); refine x_load_one tbOk rfl rfl rfl rfl rfl ?_) | ((with_reducible refine k_call ?_); refine x_len tbOk rfl rfl ?_) | ((with_reducible refine k_bin ?_); refine m_binI rfl rfl rfl ?_)  | refine e_nrm ?_ | refine x_none rfl ?_ | with_reducible refine q_then ?_ | with_reducible refine awp_seq ?_ | ((with_reducible refine w_region ?_ ?_); kernel_rfl))
    refine w_cond rfl (fun h => ?_) (fun h => ?_)
    · have hlt : k < P.st.length := by simpa using h
      obtain ⟨s, hs⟩ := some_at hlt
      have hy := st_at hs
      have hsm := List.mem_of_getElem? hs
      have hso := hok.s s hsm
      have hpl := preP_len hok k
      obtain ⟨S, hS⟩ : ∃ S, S = strL (preP N V P k) := ⟨_, rfl⟩
      have hSl : S.data.toList = preP N V P k := by rw [hS, strL_data]
      have hSz : S.size ≤ 6890 := by rw [hS, strL_size]; exact hpl
      rw [← hS]
      obtain ⟨q, d, n, p, y⟩ := s
      have hy' : (P.st.map St.av)[k]? = some (.ag [.v (.int .i64 q), .v (.int .i64 d), .v (.int .i64 n), .v (.int .i64 p), .v (.int .i64 y)]) := hy
      clear hy
      have hd := hso.d
      have hn := hso.n
      have hp := hso.p
      have hy1 := hso.y
      have hk6 := hso.k
      simp only at hd hn hp hy1 hk6
      rcases (by omega : q = 1 ∨ q = 2 ∨ q = 3 ∨ q = 4 ∨ q = 5 ∨ q = 6) with e | e | e | e | e | e <;> subst e
      · obtain ⟨x, hx, ex⟩ := devN_at (hd (by decide))
        have hz := dv_at' hx
        have hxs := name_sz ((net_names hok.net).1 x (List.mem_of_getElem? hx))
        have hd0 := hd (by decide)
        repeat (first | ((with_reducible refine k_move ?_); refine m_move rfl ?_) | ((with_reducible refine k_assign ?_); refine m_assign rfl ?_) | ((with_reducible refine k_fieldAddr ?_); refine x_fieldAddr_ptr tbOk rfl rfl rfl rfl ?_) | ((with_reducible refine k_fieldAddr ?_); refine x_fieldAddr_ep tbOk rfl rfl rfl rfl ?_) | ((with_reducible refine k_load ?_); refine x_load_one tbOk rfl rfl rfl rfl rfl ?_) | ((with_reducible refine k_load ?_); refine x_load_ep_one tbOk rfl rfl rfl ?_) | ((with_reducible refine k_load ?_); refine x_load_ep_agg tbOk rfl rfl (Nat.le_of_ble_eq_true rfl) ?_) | ((with_reducible refine k_store ?_); refine m_store tbOk rfl rfl rfl rfl rfl rfl rfl (Nat.le_of_ble_eq_true rfl) rfl ?_) | ((with_reducible refine k_alloc ?_); refine x_alloc tbOk rfl rfl ?_) | ((with_reducible refine k_indexAddr ?_); refine x_indexAddr_n tbOk rfl rfl rfl rfl (by assumption) ?_) | ((with_reducible refine k_indexAddr ?_); refine x_indexAddr tbOk rfl rfl rfl rfl (by omega) (by assumption) ?_) | ((with_reducible refine k_bin ?_); refine m_binI rfl rfl rfl ?_)  | refine e_nrm ?_ | refine x_none rfl ?_ | with_reducible refine q_then ?_ | with_reducible refine awp_seq ?_ | with_reducible refine awp_block ?_ | with_reducible refine awp_skip ?_ | ((with_reducible refine w_region ?_ ?_); kernel_rfl) | refine w_cond_t rfl (by first | rfl | assumption) ?_)
        ((with_reducible refine k_bin ?_); refine x_add_s rfl rfl (by simp only [ByteArray.size_append, sz_mk, List.size_toArray, List.length_cons, List.length_nil]; omega) ?_)
        repeat (first   | refine x_none rfl ?_  )
        ((with_reducible refine k_bin ?_); refine x_add_s rfl rfl (by simp only [ByteArray.size_append, sz_mk, List.size_toArray, List.length_cons, List.length_nil]; omega) ?_)
        repeat (first | ((with_reducible refine k_move ?_); refine m_move rfl ?_) | ((with_reducible refine k_assign ?_); refine m_assign rfl ?_)  | refine e_nrm ?_ | refine x_none rfl ?_ | with_reducible refine q_then ?_ | with_reducible refine q_block ?_ | ((with_reducible refine w_region ?_ ?_); kernel_rfl))
        ((with_reducible refine k_bin ?_); refine x_add_s rfl rfl (by simp only [ByteArray.size_append, sz_mk, List.size_toArray, List.length_cons, List.length_nil]; omega) ?_)
        repeat (first | ((with_reducible refine k_move ?_); refine m_move rfl ?_) | ((with_reducible refine k_assign ?_); refine m_assign rfl ?_) | ((with_reducible refine k_bin ?_); refine x_add_in rfl rfl (by omega) ?_)  | refine e_nrm ?_ | refine x_none rfl ?_ | with_reducible refine q_then ?_ | with_reducible refine q_block ?_ | ((with_reducible refine w_region ?_ ?_); kernel_rfl))
        exact ⟨k + 1, by omega, by omega, ⟨rfl, rfl, congrArg (fun z => AV.v (.string z)) (ba_ext2 (by rw [strL_data, preP_next hs]; unfold lnP; rw [show stepW N V ⟨1, d, n, p, y⟩ = [openL, devN V d] from rfl, ex, ← hSl]; simp [joinW_cons, joinW_one, strL, txtP, openL])), rfl, trivial⟩, ⟨rfl, rfl, trivial⟩⟩
      · obtain ⟨x, hx, ex⟩ := devN_at (hd (by decide))
        have hz := dv_at' hx
        have hxs := name_sz ((net_names hok.net).1 x (List.mem_of_getElem? hx))
        have hd0 := hd (by decide)
        repeat (first | ((with_reducible refine k_move ?_); refine m_move rfl ?_) | ((with_reducible refine k_assign ?_); refine m_assign rfl ?_) | ((with_reducible refine k_fieldAddr ?_); refine x_fieldAddr_ptr tbOk rfl rfl rfl rfl ?_) | ((with_reducible refine k_fieldAddr ?_); refine x_fieldAddr_ep tbOk rfl rfl rfl rfl ?_) | ((with_reducible refine k_load ?_); refine x_load_one tbOk rfl rfl rfl rfl rfl ?_) | ((with_reducible refine k_load ?_); refine x_load_ep_one tbOk rfl rfl rfl ?_) | ((with_reducible refine k_load ?_); refine x_load_ep_agg tbOk rfl rfl (Nat.le_of_ble_eq_true rfl) ?_) | ((with_reducible refine k_store ?_); refine m_store tbOk rfl rfl rfl rfl rfl rfl rfl (Nat.le_of_ble_eq_true rfl) rfl ?_) | ((with_reducible refine k_alloc ?_); refine x_alloc tbOk rfl rfl ?_) | ((with_reducible refine k_indexAddr ?_); refine x_indexAddr_n tbOk rfl rfl rfl rfl (by assumption) ?_) | ((with_reducible refine k_indexAddr ?_); refine x_indexAddr tbOk rfl rfl rfl rfl (by omega) (by assumption) ?_) | ((with_reducible refine k_bin ?_); refine m_binI rfl rfl rfl ?_)  | refine e_nrm ?_ | refine x_none rfl ?_ | with_reducible refine q_then ?_ | with_reducible refine awp_seq ?_ | with_reducible refine awp_block ?_ | with_reducible refine awp_skip ?_ | ((with_reducible refine w_region ?_ ?_); kernel_rfl) | refine w_cond_t rfl (by first | rfl | assumption) ?_ | refine w_cond_f rfl (by first | rfl | assumption) ?_)
        ((with_reducible refine k_bin ?_); refine x_add_s rfl rfl (by simp only [ByteArray.size_append, sz_mk, List.size_toArray, List.length_cons, List.length_nil]; omega) ?_)
        repeat (first   | refine x_none rfl ?_  )
        ((with_reducible refine k_bin ?_); refine x_add_s rfl rfl (by simp only [ByteArray.size_append, sz_mk, List.size_toArray, List.length_cons, List.length_nil]; omega) ?_)
        repeat (first | ((with_reducible refine k_move ?_); refine m_move rfl ?_) | ((with_reducible refine k_assign ?_); refine m_assign rfl ?_)  | refine e_nrm ?_ | refine x_none rfl ?_ | with_reducible refine q_then ?_ | with_reducible refine q_block ?_ | ((with_reducible refine w_region ?_ ?_); kernel_rfl))
        ((with_reducible refine k_bin ?_); refine x_add_s rfl rfl (by simp only [ByteArray.size_append, sz_mk, List.size_toArray, List.length_cons, List.length_nil]; omega) ?_)
        repeat (first | ((with_reducible refine k_move ?_); refine m_move rfl ?_) | ((with_reducible refine k_assign ?_); refine m_assign rfl ?_) | ((with_reducible refine k_bin ?_); refine x_add_in rfl rfl (by omega) ?_)  | refine e_nrm ?_ | refine x_none rfl ?_ | with_reducible refine q_then ?_ | with_reducible refine q_block ?_ | ((with_reducible refine w_region ?_ ?_); kernel_rfl))
        exact ⟨k + 1, by omega, by omega, ⟨rfl, rfl, congrArg (fun z => AV.v (.string z)) (ba_ext2 (by rw [strL_data, preP_next hs]; unfold lnP; rw [show stepW N V ⟨2, d, n, p, y⟩ = [closeL, devN V d] from rfl, ex, ← hSl]; simp [joinW_cons, joinW_one, strL, txtP, closeL])), rfl, trivial⟩, ⟨rfl, rfl, trivial⟩⟩
      · obtain ⟨x, hx, ex⟩ := devN_at (hd (by decide))
        have hz := dv_at' hx
        have hxs := name_sz ((net_names hok.net).1 x (List.mem_of_getElem? hx))
        have hd0 := hd (by decide)
        have hps := pos_sz p
        have hty := txt_sz (hy1 (.inl rfl)).1 (hy1 (.inl rfl)).2
        have hy0 := hy1 (.inl rfl)
        repeat (first | ((with_reducible refine k_move ?_); refine m_move rfl ?_) | ((with_reducible refine k_assign ?_); refine m_assign rfl ?_) | ((with_reducible refine k_fieldAddr ?_); refine x_fieldAddr_ptr tbOk rfl rfl rfl rfl ?_) | ((with_reducible refine k_fieldAddr ?_); refine x_fieldAddr_ep tbOk rfl rfl rfl rfl ?_) | ((with_reducible refine k_load ?_); refine x_load_one tbOk rfl rfl rfl rfl rfl ?_) | ((with_reducible refine k_load ?_); refine x_load_ep_one tbOk rfl rfl rfl ?_) | ((with_reducible refine k_load ?_); refine x_load_ep_agg tbOk rfl rfl (Nat.le_of_ble_eq_true rfl) ?_) | ((with_reducible refine k_store ?_); refine m_store tbOk rfl rfl rfl rfl rfl rfl rfl (Nat.le_of_ble_eq_true rfl) rfl ?_) | ((with_reducible refine k_alloc ?_); refine x_alloc tbOk rfl rfl ?_) | ((with_reducible refine k_indexAddr ?_); refine x_indexAddr_n tbOk rfl rfl rfl rfl (by assumption) ?_) | ((with_reducible refine k_indexAddr ?_); refine x_indexAddr tbOk rfl rfl rfl rfl (by omega) (by assumption) ?_) | ((with_reducible refine k_bin ?_); refine m_binI rfl rfl rfl ?_)  | refine e_nrm ?_ | refine x_none rfl ?_ | with_reducible refine q_then ?_ | with_reducible refine awp_seq ?_ | with_reducible refine awp_block ?_ | with_reducible refine awp_skip ?_ | ((with_reducible refine w_region ?_ ?_); kernel_rfl) | ((with_reducible refine w_draw mixd ?_ ?_); kernel_rfl) | refine w_cond_t rfl (by first | rfl | assumption) ?_ | refine w_cond_f rfl (by first | rfl | assumption) ?_)
        ((with_reducible refine k_bin ?_); refine x_add_s rfl rfl (by simp only [ByteArray.size_append, sz_mk, List.size_toArray, List.length_cons, List.length_nil]; omega) ?_)
        repeat (first   | refine x_none rfl ?_  )
        ((with_reducible refine k_bin ?_); refine x_add_s rfl rfl (by simp only [ByteArray.size_append, sz_mk, List.size_toArray, List.length_cons, List.length_nil]; omega) ?_)
        repeat (first | ((with_reducible refine k_fieldAddr ?_); refine x_fieldAddr_ptr tbOk rfl rfl rfl rfl ?_) | ((with_reducible refine k_load ?_); refine x_load_one tbOk rfl rfl rfl rfl rfl ?_)  | refine x_none rfl ?_  )
        refine x_call0 (side_A p (hp (.inl rfl))) (by repeat' (first | exact trivial | exact Ren.v _ | exact Ren.sl _ _ | exact Ren.ep _ | exact Ren.ptr _ _ _ _ rfl | exact Ren.bs _ _ _ _ _ rfl | exact Ren.nil _ | exact Ren.own _ _ _ _ ⟨_, rfl⟩ | refine ren_ag ?_ | refine ren_tu ?_ | refine ren_fn ?_ | refine ⟨?_, ?_⟩)) (by repeat' (first | exact trivial | exact RenB.v _ | exact RenB.sl _ _ | exact RenB.ep _ | exact RenB.ptr _ _ _ _ rfl | refine renb_ag ?_ | refine renb_tu ?_ | refine ⟨?_, ?_⟩)) ?_
        repeat (first   | refine x_none rfl ?_  )
        ((with_reducible refine k_bin ?_); refine x_add_s rfl rfl (by simp only [ByteArray.size_append, sz_mk, List.size_toArray, List.length_cons, List.length_nil]; omega) ?_)
        repeat (first   | refine x_none rfl ?_  )
        ((with_reducible refine k_bin ?_); refine x_add_s rfl rfl (by simp only [ByteArray.size_append, sz_mk, List.size_toArray, List.length_cons, List.length_nil]; omega) ?_)
        repeat (first | ((with_reducible refine k_fieldAddr ?_); refine x_fieldAddr_ptr tbOk rfl rfl rfl rfl ?_) | ((with_reducible refine k_load ?_); refine x_load_one tbOk rfl rfl rfl rfl rfl ?_)  | refine x_none rfl ?_  )
        refine x_call0 (rtext_A y (by omega) (by omega)) (by repeat' (first | exact trivial | exact Ren.v _ | exact Ren.sl _ _ | exact Ren.ep _ | exact Ren.ptr _ _ _ _ rfl | exact Ren.bs _ _ _ _ _ rfl | exact Ren.nil _ | exact Ren.own _ _ _ _ ⟨_, rfl⟩ | refine ren_ag ?_ | refine ren_tu ?_ | refine ren_fn ?_ | refine ⟨?_, ?_⟩)) (by repeat' (first | exact trivial | exact RenB.v _ | exact RenB.sl _ _ | exact RenB.ep _ | exact RenB.ptr _ _ _ _ rfl | refine renb_ag ?_ | refine renb_tu ?_ | refine ⟨?_, ?_⟩)) ?_
        repeat (first   | refine x_none rfl ?_  )
        ((with_reducible refine k_bin ?_); refine x_add_s rfl rfl (by simp only [ByteArray.size_append, sz_mk, List.size_toArray, List.length_cons, List.length_nil]; omega) ?_)
        repeat (first   | refine x_none rfl ?_  )
        ((with_reducible refine k_bin ?_); refine x_add_s rfl rfl (by simp only [ByteArray.size_append, sz_mk, List.size_toArray, List.length_cons, List.length_nil]; omega) ?_)
        repeat (first | ((with_reducible refine k_move ?_); refine m_move rfl ?_) | ((with_reducible refine k_assign ?_); refine m_assign rfl ?_)  | refine e_drw (by kernel_rfl) ?_ | refine x_none rfl ?_ | with_reducible refine q_then ?_ | with_reducible refine q_block ?_ | ((with_reducible refine w_region ?_ ?_); kernel_rfl))
        ((with_reducible refine k_bin ?_); refine x_add_s rfl rfl (by simp only [ByteArray.size_append, sz_mk, List.size_toArray, List.length_cons, List.length_nil]; omega) ?_)
        repeat (first | ((with_reducible refine k_move ?_); refine m_move rfl ?_) | ((with_reducible refine k_assign ?_); refine m_assign rfl ?_) | ((with_reducible refine k_bin ?_); refine x_add_in rfl rfl (by omega) ?_)  | refine e_nrm ?_ | refine x_none rfl ?_ | with_reducible refine q_then ?_ | with_reducible refine q_block ?_ | ((with_reducible refine w_region ?_ ?_); kernel_rfl))
        exact ⟨k + 1, by omega, by omega, ⟨rfl, rfl, congrArg (fun z => AV.v (.string z)) (ba_ext2 (by rw [strL_data, preP_next hs]; unfold lnP; rw [show stepW N V ⟨3, d, n, p, y⟩ = [lockL, devN V d, posW p, keyL, Lib.itoa y] from rfl, ex, ← hSl]; simp [joinW_cons, joinW_one, strL, txtP, lockL, keyL])), rfl, trivial⟩, ⟨rfl, rfl, trivial⟩⟩
      · obtain ⟨x, hx, ex⟩ := devN_at (hd (by decide))
        have hz := dv_at' hx
        have hxs := name_sz ((net_names hok.net).1 x (List.mem_of_getElem? hx))
        have hd0 := hd (by decide)
        have hty := txt_sz (hy1 (.inr rfl)).1 (hy1 (.inr rfl)).2
        have hy0 := hy1 (.inr rfl)
        repeat (first | ((with_reducible refine k_move ?_); refine m_move rfl ?_) | ((with_reducible refine k_assign ?_); refine m_assign rfl ?_) | ((with_reducible refine k_fieldAddr ?_); refine x_fieldAddr_ptr tbOk rfl rfl rfl rfl ?_) | ((with_reducible refine k_fieldAddr ?_); refine x_fieldAddr_ep tbOk rfl rfl rfl rfl ?_) | ((with_reducible refine k_load ?_); refine x_load_one tbOk rfl rfl rfl rfl rfl ?_) | ((with_reducible refine k_load ?_); refine x_load_ep_one tbOk rfl rfl rfl ?_) | ((with_reducible refine k_load ?_); refine x_load_ep_agg tbOk rfl rfl (Nat.le_of_ble_eq_true rfl) ?_) | ((with_reducible refine k_store ?_); refine m_store tbOk rfl rfl rfl rfl rfl rfl rfl (Nat.le_of_ble_eq_true rfl) rfl ?_) | ((with_reducible refine k_alloc ?_); refine x_alloc tbOk rfl rfl ?_) | ((with_reducible refine k_indexAddr ?_); refine x_indexAddr_n tbOk rfl rfl rfl rfl (by assumption) ?_) | ((with_reducible refine k_indexAddr ?_); refine x_indexAddr tbOk rfl rfl rfl rfl (by omega) (by assumption) ?_) | ((with_reducible refine k_bin ?_); refine m_binI rfl rfl rfl ?_)  | refine e_nrm ?_ | refine x_none rfl ?_ | with_reducible refine q_then ?_ | with_reducible refine awp_seq ?_ | with_reducible refine awp_block ?_ | with_reducible refine awp_skip ?_ | ((with_reducible refine w_region ?_ ?_); kernel_rfl) | ((with_reducible refine w_draw mixd ?_ ?_); kernel_rfl) | refine w_cond_t rfl (by first | rfl | assumption) ?_ | refine w_cond_f rfl (by first | rfl | assumption) ?_)
        ((with_reducible refine k_bin ?_); refine x_add_s rfl rfl (by simp only [ByteArray.size_append, sz_mk, List.size_toArray, List.length_cons, List.length_nil]; omega) ?_)
        repeat (first   | refine x_none rfl ?_  )
        ((with_reducible refine k_bin ?_); refine x_add_s rfl rfl (by simp only [ByteArray.size_append, sz_mk, List.size_toArray, List.length_cons, List.length_nil]; omega) ?_)
        repeat (first | ((with_reducible refine k_fieldAddr ?_); refine x_fieldAddr_ptr tbOk rfl rfl rfl rfl ?_) | ((with_reducible refine k_load ?_); refine x_load_one tbOk rfl rfl rfl rfl rfl ?_)  | refine x_none rfl ?_  )
        refine x_call0 (rtext_A y (by omega) (by omega)) (by repeat' (first | exact trivial | exact Ren.v _ | exact Ren.sl _ _ | exact Ren.ep _ | exact Ren.ptr _ _ _ _ rfl | exact Ren.bs _ _ _ _ _ rfl | exact Ren.nil _ | exact Ren.own _ _ _ _ ⟨_, rfl⟩ | refine ren_ag ?_ | refine ren_tu ?_ | refine ren_fn ?_ | refine ⟨?_, ?_⟩)) (by repeat' (first | exact trivial | exact RenB.v _ | exact RenB.sl _ _ | exact RenB.ep _ | exact RenB.ptr _ _ _ _ rfl | refine renb_ag ?_ | refine renb_tu ?_ | refine ⟨?_, ?_⟩)) ?_
        repeat (first   | refine x_none rfl ?_  )
        ((with_reducible refine k_bin ?_); refine x_add_s rfl rfl (by simp only [ByteArray.size_append, sz_mk, List.size_toArray, List.length_cons, List.length_nil]; omega) ?_)
        repeat (first   | refine x_none rfl ?_  )
        ((with_reducible refine k_bin ?_); refine x_add_s rfl rfl (by simp only [ByteArray.size_append, sz_mk, List.size_toArray, List.length_cons, List.length_nil]; omega) ?_)
        repeat (first | ((with_reducible refine k_move ?_); refine m_move rfl ?_) | ((with_reducible refine k_assign ?_); refine m_assign rfl ?_)  | refine e_drw (by kernel_rfl) ?_ | refine x_none rfl ?_ | with_reducible refine q_then ?_ | with_reducible refine q_block ?_ | ((with_reducible refine w_region ?_ ?_); kernel_rfl))
        ((with_reducible refine k_bin ?_); refine x_add_s rfl rfl (by simp only [ByteArray.size_append, sz_mk, List.size_toArray, List.length_cons, List.length_nil]; omega) ?_)
        repeat (first | ((with_reducible refine k_move ?_); refine m_move rfl ?_) | ((with_reducible refine k_assign ?_); refine m_assign rfl ?_) | ((with_reducible refine k_bin ?_); refine x_add_in rfl rfl (by omega) ?_)  | refine e_nrm ?_ | refine x_none rfl ?_ | with_reducible refine q_then ?_ | with_reducible refine q_block ?_ | ((with_reducible refine w_region ?_ ?_); kernel_rfl))
        exact ⟨k + 1, by omega, by omega, ⟨rfl, rfl, congrArg (fun z => AV.v (.string z)) (ba_ext2 (by rw [strL_data, preP_next hs]; unfold lnP; rw [show stepW N V ⟨4, d, n, p, y⟩ = [unlockL, devN V d, keyL, Lib.itoa y] from rfl, ex, ← hSl]; simp [joinW_cons, joinW_one, strL, txtP, unlockL, keyL])), rfl, trivial⟩, ⟨rfl, rfl, trivial⟩⟩
      · obtain ⟨x, hx, ex⟩ := nodN_at (hn rfl)
        have hz := nd_at' hx
        have hxs := name_sz ((net_nodes hok.net).1 x (List.mem_of_getElem? hx))
        have hd0 := hn rfl
        repeat (first | ((with_reducible refine k_move ?_); refine m_move rfl ?_) | ((with_reducible refine k_assign ?_); refine m_assign rfl ?_) | ((with_reducible refine k_fieldAddr ?_); refine x_fieldAddr_ptr tbOk rfl rfl rfl rfl ?_) | ((with_reducible refine k_fieldAddr ?_); refine x_fieldAddr_ep tbOk rfl rfl rfl rfl ?_) | ((with_reducible refine k_load ?_); refine x_load_one tbOk rfl rfl rfl rfl rfl ?_) | ((with_reducible refine k_load ?_); refine x_load_ep_one tbOk rfl rfl rfl ?_) | ((with_reducible refine k_load ?_); refine x_load_ep_agg tbOk rfl rfl (Nat.le_of_ble_eq_true rfl) ?_) | ((with_reducible refine k_store ?_); refine m_store tbOk rfl rfl rfl rfl rfl rfl rfl (Nat.le_of_ble_eq_true rfl) rfl ?_) | ((with_reducible refine k_alloc ?_); refine x_alloc tbOk rfl rfl ?_) | ((with_reducible refine k_indexAddr ?_); refine x_indexAddr_n tbOk rfl rfl rfl rfl (by assumption) ?_) | ((with_reducible refine k_indexAddr ?_); refine x_indexAddr tbOk rfl rfl rfl rfl (by omega) (by assumption) ?_) | ((with_reducible refine k_bin ?_); refine m_binI rfl rfl rfl ?_)  | refine e_nrm ?_ | refine x_none rfl ?_ | with_reducible refine q_then ?_ | with_reducible refine awp_seq ?_ | with_reducible refine awp_block ?_ | with_reducible refine awp_skip ?_ | ((with_reducible refine w_region ?_ ?_); kernel_rfl) | refine w_cond_t rfl (by first | rfl | assumption) ?_ | refine w_cond_f rfl (by first | rfl | assumption) ?_)
        ((with_reducible refine k_bin ?_); refine x_add_s rfl rfl (by simp only [ByteArray.size_append, sz_mk, List.size_toArray, List.length_cons, List.length_nil]; omega) ?_)
        repeat (first   | refine x_none rfl ?_  )
        ((with_reducible refine k_bin ?_); refine x_add_s rfl rfl (by simp only [ByteArray.size_append, sz_mk, List.size_toArray, List.length_cons, List.length_nil]; omega) ?_)
        repeat (first | ((with_reducible refine k_move ?_); refine m_move rfl ?_) | ((with_reducible refine k_assign ?_); refine m_assign rfl ?_)  | refine e_nrm ?_ | refine x_none rfl ?_ | with_reducible refine q_then ?_ | with_reducible refine q_block ?_ | ((with_reducible refine w_region ?_ ?_); kernel_rfl))
        ((with_reducible refine k_bin ?_); refine x_add_s rfl rfl (by simp only [ByteArray.size_append, sz_mk, List.size_toArray, List.length_cons, List.length_nil]; omega) ?_)
        repeat (first | ((with_reducible refine k_move ?_); refine m_move rfl ?_) | ((with_reducible refine k_assign ?_); refine m_assign rfl ?_) | ((with_reducible refine k_bin ?_); refine x_add_in rfl rfl (by omega) ?_)  | refine e_nrm ?_ | refine x_none rfl ?_ | with_reducible refine q_then ?_ | with_reducible refine q_block ?_ | ((with_reducible refine w_region ?_ ?_); kernel_rfl))
        exact ⟨k + 1, by omega, by omega, ⟨rfl, rfl, congrArg (fun z => AV.v (.string z)) (ba_ext2 (by rw [strL_data, preP_next hs]; unfold lnP; rw [show stepW N V ⟨5, d, n, p, y⟩ = [proveL, nodN N n] from rfl, ex, ← hSl]; simp [joinW_cons, joinW_one, strL, txtP, proveL])), rfl, trivial⟩, ⟨rfl, rfl, trivial⟩⟩
      · obtain ⟨x, hx, ex⟩ := devN_at (hd (by decide))
        have hz := dv_at' hx
        have hxs := name_sz ((net_names hok.net).1 x (List.mem_of_getElem? hx))
        have hd0 := hd (by decide)
        have hps := pos_sz p
        repeat (first | ((with_reducible refine k_move ?_); refine m_move rfl ?_) | ((with_reducible refine k_assign ?_); refine m_assign rfl ?_) | ((with_reducible refine k_fieldAddr ?_); refine x_fieldAddr_ptr tbOk rfl rfl rfl rfl ?_) | ((with_reducible refine k_fieldAddr ?_); refine x_fieldAddr_ep tbOk rfl rfl rfl rfl ?_) | ((with_reducible refine k_load ?_); refine x_load_one tbOk rfl rfl rfl rfl rfl ?_) | ((with_reducible refine k_load ?_); refine x_load_ep_one tbOk rfl rfl rfl ?_) | ((with_reducible refine k_load ?_); refine x_load_ep_agg tbOk rfl rfl (Nat.le_of_ble_eq_true rfl) ?_) | ((with_reducible refine k_store ?_); refine m_store tbOk rfl rfl rfl rfl rfl rfl rfl (Nat.le_of_ble_eq_true rfl) rfl ?_) | ((with_reducible refine k_alloc ?_); refine x_alloc tbOk rfl rfl ?_) | ((with_reducible refine k_indexAddr ?_); refine x_indexAddr_n tbOk rfl rfl rfl rfl (by assumption) ?_) | ((with_reducible refine k_indexAddr ?_); refine x_indexAddr tbOk rfl rfl rfl rfl (by omega) (by assumption) ?_) | ((with_reducible refine k_bin ?_); refine m_binI rfl rfl rfl ?_)  | refine e_nrm ?_ | refine x_none rfl ?_ | with_reducible refine q_then ?_ | with_reducible refine awp_seq ?_ | with_reducible refine awp_block ?_ | with_reducible refine awp_skip ?_ | ((with_reducible refine w_region ?_ ?_); kernel_rfl) | ((with_reducible refine w_draw mixd ?_ ?_); kernel_rfl) | refine w_cond_f rfl (by first | rfl | assumption) ?_)
        ((with_reducible refine k_bin ?_); refine x_add_s rfl rfl (by simp only [ByteArray.size_append, sz_mk, List.size_toArray, List.length_cons, List.length_nil]; omega) ?_)
        repeat (first   | refine x_none rfl ?_  )
        ((with_reducible refine k_bin ?_); refine x_add_s rfl rfl (by simp only [ByteArray.size_append, sz_mk, List.size_toArray, List.length_cons, List.length_nil]; omega) ?_)
        repeat (first | ((with_reducible refine k_fieldAddr ?_); refine x_fieldAddr_ptr tbOk rfl rfl rfl rfl ?_) | ((with_reducible refine k_load ?_); refine x_load_one tbOk rfl rfl rfl rfl rfl ?_)  | refine x_none rfl ?_  )
        refine x_call0 (side_A p (hp (.inr rfl))) (by repeat' (first | exact trivial | exact Ren.v _ | exact Ren.sl _ _ | exact Ren.ep _ | exact Ren.ptr _ _ _ _ rfl | exact Ren.bs _ _ _ _ _ rfl | exact Ren.nil _ | exact Ren.own _ _ _ _ ⟨_, rfl⟩ | refine ren_ag ?_ | refine ren_tu ?_ | refine ren_fn ?_ | refine ⟨?_, ?_⟩)) (by repeat' (first | exact trivial | exact RenB.v _ | exact RenB.sl _ _ | exact RenB.ep _ | exact RenB.ptr _ _ _ _ rfl | refine renb_ag ?_ | refine renb_tu ?_ | refine ⟨?_, ?_⟩)) ?_
        repeat (first   | refine x_none rfl ?_  )
        ((with_reducible refine k_bin ?_); refine x_add_s rfl rfl (by simp only [ByteArray.size_append, sz_mk, List.size_toArray, List.length_cons, List.length_nil]; omega) ?_)
        repeat (first   | refine x_none rfl ?_  )
        ((with_reducible refine k_bin ?_); refine x_add_s rfl rfl (by simp only [ByteArray.size_append, sz_mk, List.size_toArray, List.length_cons, List.length_nil]; omega) ?_)
        repeat (first | ((with_reducible refine k_move ?_); refine m_move rfl ?_) | ((with_reducible refine k_assign ?_); refine m_assign rfl ?_)  | refine e_drw (by kernel_rfl) ?_ | refine x_none rfl ?_ | with_reducible refine q_then ?_ | with_reducible refine q_block ?_ | ((with_reducible refine w_region ?_ ?_); kernel_rfl))
        ((with_reducible refine k_bin ?_); refine x_add_s rfl rfl (by simp only [ByteArray.size_append, sz_mk, List.size_toArray, List.length_cons, List.length_nil]; omega) ?_)
        repeat (first | ((with_reducible refine k_move ?_); refine m_move rfl ?_) | ((with_reducible refine k_assign ?_); refine m_assign rfl ?_) | ((with_reducible refine k_bin ?_); refine x_add_in rfl rfl (by omega) ?_)  | refine e_nrm ?_ | refine x_none rfl ?_ | with_reducible refine q_then ?_ | with_reducible refine q_block ?_ | ((with_reducible refine w_region ?_ ?_); kernel_rfl))
        exact ⟨k + 1, by omega, by omega, ⟨rfl, rfl, congrArg (fun z => AV.v (.string z)) (ba_ext2 (by rw [strL_data, preP_next hs]; unfold lnP; rw [show stepW N V ⟨6, d, n, p, y⟩ = [checkL, devN V d, posW p] from rfl, ex, ← hSl]; simp [joinW_cons, joinW_one, strL, txtP, checkL])), rfl, trivial⟩, ⟨rfl, rfl, trivial⟩⟩
    · have hge : k = P.st.length := by simp at h; omega
      rw [hge, preP_all]
      repeat (first | ((with_reducible refine k_move ?_); refine m_move rfl ?_) | ((with_reducible refine k_assign ?_); refine m_assign rfl ?_)  | refine e_nrm ?_ | refine x_none rfl ?_ | with_reducible refine q_then ?_ | with_reducible refine q_then_exit ?_ | with_reducible refine awp_seq ?_ | with_reducible refine awp_exit ?_ | with_reducible refine awp_ret ?_ | ((with_reducible refine q_block_exit ?_ ?_); rfl) | ((with_reducible refine w_region ?_ ?_); kernel_rfl))
      refine ret0_2 (by first | exact .inr rfl | exact .inl rfl) rfl rfl rfl ?_
      repeat' (first | exact trivial | exact Ren.v _ | exact Ren.sl _ _ | exact Ren.ep _ | exact Ren.ptr _ _ _ _ rfl | exact Ren.bs _ _ _ _ _ rfl | exact Ren.nil _ | exact Ren.own _ _ _ _ ⟨_, rfl⟩ | refine ren_ag ?_ | refine ren_tu ?_ | refine ren_fn ?_ | refine ⟨?_, ?_⟩)
  · rw [if_pos h0]
    have hck := prcheck_A N V P hG ok hc hl
    refine acalls_of tbOk (enter_of Tryd.func14 (by kernel_rfl) rfl) Tryd.func14 rfl _ Tryd.ntmps14 (Nat.le_of_ble_eq_true rfl) fun X hX => ?_
    subst hX
    repeat (first | ((with_reducible refine k_assign ?_); refine m_assign rfl ?_) | ((with_reducible refine k_load ?_); refine x_load_agg tbOk rfl rfl rfl rfl (Nat.le_of_ble_eq_true rfl) ?_) | ((with_reducible refine k_box ?_); refine m_box rfl rfl rfl ?_)  | refine e_nrm ?_ | refine x_none rfl ?_ | with_reducible refine q_then ?_ | with_reducible refine awp_seq ?_ | ((with_reducible refine w_region ?_ ?_); kernel_rfl))
    refine x_call0 (hck) (by repeat' (first | exact trivial | exact Ren.v _ | exact Ren.sl _ _ | exact Ren.ep _ | exact Ren.ptr _ _ _ _ rfl | exact Ren.bs _ _ _ _ _ rfl | exact Ren.nil _ | exact Ren.own _ _ _ _ ⟨_, rfl⟩ | refine ren_ag ?_ | refine ren_tu ?_ | refine ren_fn ?_ | refine ⟨?_, ?_⟩)) (by repeat' (first | exact trivial | exact RenB.v _ | exact RenB.sl _ _ | exact RenB.ep _ | exact RenB.ptr _ _ _ _ rfl | refine renb_ag ?_ | refine renb_tu ?_ | refine ⟨?_, ?_⟩)) ?_
    repeat (first | ((with_reducible refine k_assign ?_); refine m_assign rfl ?_) | refine e_nrm ?_ | refine x_none rfl ?_ | with_reducible refine q_then ?_ | with_reducible refine awp_seq ?_)
    (with_reducible refine w_region ?_ ?_); kernel_rfl
    repeat (first | ((with_reducible refine k_move ?_); refine m_move rfl ?_) | ((with_reducible refine k_bin ?_); refine m_binI rfl rfl rfl ?_) | refine e_nrm ?_ | refine x_none rfl ?_ | with_reducible refine q_then ?_)
    refine w_cond_t rfl (by simpa using h0) ?_
    repeat (first | ((with_reducible refine k_move ?_); refine m_move rfl ?_) | ((with_reducible refine k_assign ?_); refine m_assign rfl ?_)  | refine e_nrm ?_ | refine x_none rfl ?_ | with_reducible refine q_then ?_ | with_reducible refine q_then_ret ?_ | with_reducible refine awp_seq ?_ | with_reducible refine awp_ret ?_ | ((with_reducible refine w_region ?_ ?_); kernel_rfl))
    refine ret0_2 (by first | exact .inr rfl | exact .inl rfl) rfl rfl rfl ?_
    repeat' (first | exact trivial | exact Ren.v _ | exact Ren.sl _ _ | exact Ren.ep _ | exact Ren.ptr _ _ _ _ rfl | exact Ren.bs _ _ _ _ _ rfl | exact Ren.nil _ | exact Ren.own _ _ _ _ ⟨_, rfl⟩ | refine ren_ag ?_ | refine ren_tu ?_ | refine ren_fn ?_ | refine ⟨?_, ?_⟩)
end Go.Proofs.YtggngllfnboehaaDoor
