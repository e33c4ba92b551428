/- permitofficelaw34.CertificateSides, by the abstract machine: it answers true for all its arguments; conditions: the tables of classes and powers stand. -/
import Derived.Test.YtamihjgfncjdoaaDoorCeS
import Derived.Test.YtamihjgfncjdoaaDoorDkB
import Derived.Test.YtamihjgfncjdoaaDoorCeE
import Derived.Test.YtamihjgfncjdoaaDoorTiQ
import Derived.Test.YtamihjgfncjdoaaDoorTieA
import Derived.Test.YtamihjgfncjdoaaDoorAbsC
import Derived.Test.YtamihjgfncjdoaaDoorAbsM
import Derived.Test.YtamihjgfncjdoaaDoorAbsY
set_option linter.unusedVariables false
set_option linter.unusedSimpArgs false
namespace Go.Proofs.YtamihjgfncjdoaaDoor
open Go Go.RowKit
set_option maxRecDepth 10000
variable {G : Nat → Option (List Value)}
def wv (m : Int) : AV := .v (.int .u16 m)
theorem wv_at {L : List Int} {k : Nat} {z : Int} (h : L[k]? = some z) : (L.map wv)[k]? = some (.v (.int .u16 z)) := by rw [List.getElem?_map, h]; rfl
/-- A line of messages, nil at first. -/
def ql (q : Option (List Ce)) : List Ce := q.getD []
def qAV (q : Option (List Ce)) : Option (List AV) := q.map fun Q => Q.map Ce.av
theorem qAV_len (q : Option (List Ce)) : (qL (qAV q)).length = (ql q).length := by cases q <;> simp [qAV, qL, ql]
theorem qAV_list (q : Option (List Ce)) : qL (qAV q) = (ql q).map Ce.av := by cases q <;> rfl
theorem cfits_A (N : List Nd) (V : List Dv) (L : List Lk) (hN : ∀ x ∈ N, x.n.size ≤ maxLen) (hV : ∀ x ∈ V, x.n.size ≤ maxLen) (h1 : N.length ≤ maxLen) (h2 : V.length ≤ maxLen) (hl : L.length ≤ 1000) : ACalls Tryd.prog G 14 [netAV N V, .sl 3 (L.map Lk.av)] [] (.v (.bool (lksE N V L == 0))) [] := by
  refine acalls_of tbOk (enter_of Tryd.func14 (by kernel_rfl) rfl) Tryd.func14 rfl _ Tryd.ntmps14 (Nat.le_of_ble_eq_true rfl) fun X hX => ?_
  subst hX
  repeat (first | ((with_reducible refine k_move ?_); refine m_move rfl ?_) | ((with_reducible refine k_assign ?_); refine m_assign rfl ?_) | ((with_reducible refine k_load ?_); refine x_load_agg tbOk rfl rfl rfl rfl (Nat.le_of_ble_eq_true rfl) ?_) | ((with_reducible refine k_box ?_); refine m_box rfl rfl rfl ?_)  | refine e_nrm ?_ | refine x_none rfl ?_ | with_reducible (first | refine q_then ?_ | refine awp_seq ?_) | ((with_reducible refine w_region ?_ ?_); kernel_rfl))
  refine x_call0 (rlocks_A N V L hN hV h1 h2) (by repeat' (first | exact trivial | exact Ren.sl _ _ | refine ren_ag ?_ | refine ⟨?_, ?_⟩)) (by repeat' exact RenB.v _) ?_
  repeat (first | ((with_reducible refine k_assign ?_); refine m_assign rfl ?_) | ((with_reducible refine k_bin ?_); refine m_binI rfl rfl rfl ?_)  | refine e_nrm ?_ | refine x_none rfl ?_ | with_reducible (first | refine q_then ?_ | refine awp_ret ?_) )
  refine ret_v (by first | exact .inr rfl | exact .inl rfl) rfl rfl ?_
  rfl
theorem Sd.max {N : List Nd} {V : List Dv} {u v : Int} {X Y O I : List Ce} {nx : Int} (h : Sd N V u v X Y O I nx) : CeMax X := fun c hc => by have := (h.al c (.inl hc)).1; omega
theorem Sd.len {N : List Nd} {V : List Dv} {u v : Int} {X Y O I : List Ce} {nx : Int} (h : Sd N V u v X Y O I nx) : X.length ≤ 16 := h.vx.ls.2
def cz : Ce := ⟨0, 0, 0, 0, []⟩
theorem qC_snoc (e sz : Nat) (q : Option (List Ce)) (c : Ce) : Cont.ob (.qu e sz (qL (qAV q) ++ [c.av])) = qC e sz (qAV (some (ql q ++ [c]))) := by
  rw [qAV_list]
  simp [qC, qAV]
/-- What a company's move has made of its list, of what it says and of what comes. -/
structure Mv (N : List Nd) (V : List Dv) (u v : Int) (X Y O : List Ce) (k : Nat) (D : Dk) (X' : List Ce) (e : Int) (say : Ce) (I : List Ce) (nx : Int) : Prop where
  dk : DkOk D
  a : e = 0 → 0 < say.num → Sd N V u v X' Y (O ++ [say]) I nx
  b : e = 0 → ¬ 0 < say.num → Sd N V u v X' Y O I nx
  c : e ≠ 0 → Sd N V u v X Y O I nx
  l : I.length ≤ k
  n1 : 1 ≤ nx
  n2 : nx ≤ k + 2
set_option maxRecDepth 100000 in
set_option maxHeartbeats 32000000 in
theorem sides_law (l : List Int) (moves : List Int) (hmv : ∀ m ∈ moves, 0 ≤ m ∧ m ≤ 65535) (hG : GCls G) (hP : GPow G) : ACalls Tryd.prog G 3 [.sl 1 (l.map iv), .sl 1 (moves.map wv)] [] (.v (.bool true)) [] := by
  refine acalls_of0 tbOk (enter_of Tryd.func3 (by kernel_rfl) rfl) Tryd.func3 rfl _ Tryd.ntmps3 (Nat.le_of_ble_eq_true rfl) fun X hX hgs => ?_
  subst hX
  repeat (first | ((with_reducible refine k_assign ?_); refine m_assign rfl ?_)  | refine e_nrm ?_ | refine x_none rfl ?_ | with_reducible (first | refine q_then ?_ | refine awp_seq ?_) | ((with_reducible refine w_region ?_ ?_); kernel_rfl))
  refine x_call0 (awake_A hG hP) (by repeat' exact trivial) (by repeat' exact RenB.v _) ?_
  repeat (first | ((with_reducible refine k_move ?_); refine m_move rfl ?_) | ((with_reducible refine k_un ?_); refine x_not rfl ?_)  | refine x_none rfl ?_ | refine x_run_f rfl rfl (by first | rfl | assumption) ?_  )
  refine x_call0 (few_A (l.map iv)) (by repeat' (first | exact trivial | exact Ren.sl _ _ | refine ⟨?_, ?_⟩)) (by repeat' exact RenB.v _) ?_
  repeat (first | ((with_reducible refine k_move ?_); refine m_move rfl ?_) | ((with_reducible refine k_un ?_); refine x_not rfl ?_) | ((with_reducible refine k_pick ?_); refine m_pickf rfl (by first | rfl | assumption) rfl ?_)  | refine x_none rfl ?_ | refine x_run_f rfl rfl (by first | rfl | assumption) ?_  )
  refine x_split rfl rfl (fun h => ?_) (fun h => ?_)
  · repeat (first | ((with_reducible refine k_pick ?_); refine m_pickt rfl (by first | rfl | assumption) rfl ?_)  | refine e_nrm ?_ | refine x_none rfl ?_ | refine x_skip_f rfl rfl (by first | rfl | assumption) ?_ | with_reducible (first | refine q_then ?_ | refine awp_seq ?_) | ((with_reducible refine w_region ?_ ?_); kernel_rfl) | refine w_cond_t rfl (by first | rfl | assumption) ?_)
    refine x_call0 (awake_A hG hP) (by repeat' exact trivial) (by repeat' exact RenB.v _) ?_
    repeat (first | ((with_reducible refine k_assign ?_); refine m_assign rfl ?_)  | refine e_nrm ?_ | refine x_none rfl ?_ | with_reducible (first | refine q_then ?_ | refine q_then_ret ?_ | refine awp_ret ?_) )
    refine ret_v (by first | exact .inr rfl | exact .inl rfl) rfl rfl ?_
    rfl
  have h400 : l.length ≤ 400 := by simp at h; omega
  repeat (first | ((with_reducible refine k_move ?_); refine m_move rfl ?_) | ((with_reducible refine k_pick ?_); refine m_pickf rfl (by first | rfl | assumption) rfl ?_) | ((with_reducible refine k_call ?_); refine x_len tbOk rfl rfl ?_) | ((with_reducible refine k_bin ?_); refine m_binI rfl rfl rfl ?_)  | refine e_nrm ?_ | refine x_none rfl ?_ | refine x_run_f rfl rfl (by first | rfl | assumption) ?_ | with_reducible refine q_then ?_ )
  refine w_cond rfl (fun h => ?_) (fun h => ?_)
  · repeat (first   | refine x_none rfl ?_ | with_reducible refine awp_seq ?_ | ((with_reducible refine w_region ?_ ?_); kernel_rfl))
    refine x_call0 (awake_A hG hP) (by repeat' exact trivial) (by repeat' exact RenB.v _) ?_
    repeat (first | ((with_reducible refine k_assign ?_); refine m_assign rfl ?_)  | refine e_nrm ?_ | refine x_none rfl ?_ | with_reducible (first | refine q_then ?_ | refine q_then_ret ?_ | refine awp_ret ?_) )
    refine ret_v (by first | exact .inr rfl | exact .inl rfl) rfl rfl ?_
    rfl
  have h120 : moves.length ≤ 120 := by simp at h; omega
  have hml : (moves.map wv).length = moves.length := by simp
  have hD := DkOk.new h400
  obtain ⟨n1, n2, n3, n4⟩ := tie_names (dk0 l)
  obtain ⟨v0, v64⟩ := tie_vlen (dk0 l)
  have hT := tie_A (G := X.G) (dk0 l) hD
  have hD1 := tieD_ok hD
  generalize tieD (dk0 l) = D1 at *
  generalize tieNs (dk0 l) = N at *
  generalize tieVs (dk0 l) = V at *
  clear h
  repeat (first | ((with_reducible refine k_move ?_); refine m_move rfl ?_)  | refine x_none rfl ?_ | with_reducible (first | refine q_then ?_ | refine awp_seq ?_ | refine awp_skip ?_) | ((with_reducible refine w_region ?_ ?_); kernel_rfl))
  refine x_call_new (new_A l) (by repeat' (first | exact trivial | exact Ren.sl _ _ | refine ⟨?_, ?_⟩)) (by repeat' (first | exact trivial | exact RenB.v _ | exact RenB.sl _ _ | refine ⟨?_, ?_⟩)) rfl ?_
  repeat (first | ((with_reducible refine k_move ?_); refine m_move rfl ?_) | ((with_reducible refine k_assign ?_); refine m_assign rfl ?_)  | refine e_nrm ?_ | refine x_none rfl ?_ | with_reducible (first | refine q_then ?_ | refine awp_seq ?_) | ((with_reducible refine w_region ?_ ?_); kernel_rfl))
  refine x_call (y := .tu [netAV N V, .sl 1 ((tieSs (dk0 l)).map iv)]) (ss := [(39, 1)]) (hT) (by repeat' (first | exact trivial | exact Ren.ptr _ _ _ _ rfl | refine ⟨?_, ?_⟩)) (by simp) (in1 rfl rfl) rfl (back1 rfl) (by repeat' (first | exact trivial | exact RenB.sl _ _ | refine renb_ag ?_ | refine renb_tu ?_ | refine ⟨?_, ?_⟩)) ?_
  repeat (first | ((with_reducible refine k_move ?_); refine m_move rfl ?_) | ((with_reducible refine k_assign ?_); refine m_assign rfl ?_) | ((with_reducible refine k_store ?_); refine m_store tbOk rfl rfl rfl rfl rfl rfl rfl (Nat.le_of_ble_eq_true rfl) rfl ?_) | ((with_reducible refine k_alloc ?_); refine x_alloc tbOk rfl rfl ?_) | ((with_reducible refine k_extract ?_); refine x_extract rfl rfl ?_) | ((with_reducible refine k_call ?_); refine x_len tbOk rfl rfl ?_)  | refine e_nrm ?_ | refine x_none rfl ?_ | with_reducible (first | refine q_then ?_ | refine awp_seq ?_ | refine awp_block ?_) | ((with_reducible refine w_region ?_ ?_); kernel_rfl))
  refine awp_box [.sl 5 [], .sl 5 []] (s := 8) (k := 1) rfl ⟨.inr ⟨rfl, 5, rfl⟩, .inr ⟨rfl, 5, rfl⟩, trivial⟩ ?_
  refine awp_own_at (s := 900) 40 5 [] [(9, [.own 900 1, .v (.slice none 0 0)])] rfl trivial ⟨⟨_, _, rfl, .hit (.same .nil)⟩, trivial⟩ ?_
  refine awp_own_at (s := 901) 40 5 [] [(9, [.own 900 1, .own 901 1])] rfl trivial ⟨⟨_, _, rfl, .same (.hit .nil)⟩, trivial⟩ ?_
  refine awp_loop (ι := Nat × Dk × (List Ce × List Ce) × (Option (List Ce) × Option (List Ce)) × Int) (fun i => i.1 ≤ moves.length ∧ DkOk i.2.1 ∧ Sd N V 1 2 i.2.2.1.1 i.2.2.1.2 (ql i.2.2.2.1.1) (ql i.2.2.2.1.2) i.2.2.2.2 ∧ (ql i.2.2.2.1.1).length ≤ i.1 ∧ (ql i.2.2.2.1.2).length ≤ i.1 ∧ 1 ≤ i.2.2.2.2 ∧ i.2.2.2.2 ≤ i.1 + 1) (fun i => moves.length - i.1) (fun v i => [(5, .ptr 39 (v 39) 0), (6, .ptr 6 (v 6) 0), (8, .ptr 8 (v 8) 0), (9, .ptr 9 (v 9) 0), (10, .v (.int .i64 i.2.2.2.2)), (45, .sl 1 (moves.map wv)), (46, .v (.int .i64 (moves.map wv).length)), (47, .v (.int .i64 (i.1 : Nat)))]) (fun v i => [(39, .box i.2.1.cells), (6, .box [.sl 3 (N.map Nd.av), .sl 5 (V.map Dv.av)]), (8, .box [.sl 5 ((i.2.2.1.1).map Ce.av), .sl 5 ((i.2.2.1.2).map Ce.av)]), (9, .box [.own 900 (v 900), .own 901 (v 901)]), (900, qC 40 5 (qAV i.2.2.2.1.1)), (901, qC 40 5 (qAV i.2.2.2.1.2))]) ?_ ?_
  · exact ⟨(0, D1, ([], []), (none, none), 1), ⟨Nat.zero_le _, hD1, Sd.start (by decide), Nat.zero_le _, Nat.zero_le _, Int.le_refl 1, Int.le_refl 1⟩, trivial, ⟨rfl, rfl, rfl, rfl, rfl, rfl, rfl, rfl, trivial⟩, ⟨rfl, rfl, rfl, rfl, rfl, rfl, trivial⟩⟩
  rintro v ⟨k, D, ⟨L0, L1⟩, ⟨q0, q1⟩, nx⟩ ⟨hk, hDk, hS, hq0, hq1, hx1, hx2⟩
  dsimp only at hk hDk hS hq0 hq1 hx1 hx2 ⊢
  repeat (first | ((with_reducible refine k_bin ?_); refine m_binI rfl rfl rfl ?_)  | refine e_nrm ?_ | refine x_none rfl ?_ | with_reducible (first | refine q_then ?_ | refine awp_seq ?_) | ((with_reducible refine w_region ?_ ?_); kernel_rfl))
  refine w_cond rfl (fun h => ?_) (fun h => ?_)
  rotate_left
  · repeat (first | ((with_reducible refine k_assign ?_); refine m_assign rfl ?_)  | refine e_nrm ?_ | refine x_none rfl ?_ | with_reducible (first | refine q_then ?_ | refine q_then_exit ?_ | refine awp_seq ?_ | refine awp_exit ?_ | refine awp_ret ?_) | ((with_reducible refine q_block_exit ?_ ?_); rfl) | ((with_reducible refine w_region ?_ ?_); kernel_rfl))
    refine ret_v (by first | exact .inr rfl | exact .inl rfl) rfl rfl ?_
    rfl
  have hlt : k < moves.length := by simpa using h
  obtain ⟨z, hz⟩ := some_at hlt
  have hy := wv_at hz
  obtain ⟨hz0, hz1⟩ := hmv z (List.mem_of_getElem? hz)
  have hside2 : z.tmod 2 = 0 ∨ z.tmod 2 = 1 := by rw [Int.tmod_eq_emod_of_nonneg hz0]; omega
  repeat (first | ((with_reducible refine k_move ?_); refine m_move rfl ?_) | ((with_reducible refine k_assign ?_); refine m_assign rfl ?_) | ((with_reducible refine k_load ?_); refine x_load_ep_one tbOk rfl rfl rfl ?_) | ((with_reducible refine k_indexAddr ?_); refine x_indexAddr_n tbOk rfl rfl rfl rfl (by assumption) ?_) | ((with_reducible refine k_convert ?_); (first | refine x_conv_in tbOk rfl rfl rfl (by first | assumption | exact wrap_u64_in (by omega) | exact wrap_i64_in (by omega) | exact wrap_u8_in (by omega)) ?_ | refine x_conv_int tbOk rfl rfl rfl ?_)) | ((with_reducible refine k_bin ?_); (first | refine x_add_in rfl rfl (by omega) ?_ | refine x_rem rfl rfl (by first | decide | assumption | omega) ?_ | refine x_quo rfl rfl (by first | decide | assumption | omega) ?_))  | refine e_nrm ?_ | refine e_drw (by kernel_rfl) ?_ | refine x_none rfl ?_ | with_reducible (first | refine q_then ?_ | refine awp_seq ?_ | refine awp_block ?_ | refine awp_skip ?_) | ((with_reducible refine w_region ?_ ?_); kernel_rfl) | ((with_reducible refine w_draw mixd ?_ ?_); kernel_rfl))
  have hS0 := hS
  rcases hside2 with hside | hside
  · rw [hside]
    repeat (first | fail    )
    (with_reducible refine k_indexAddr ?_)
    refine x_indexAddr_arr tbOk Tryd.underlying35 rfl rfl rfl ⟨by decide, by decide⟩ ?_
    repeat (first | ((with_reducible refine k_move ?_); refine m_move rfl ?_) | ((with_reducible refine k_assign ?_); refine m_assign rfl ?_) | ((with_reducible refine k_load ?_); refine x_load_one tbOk rfl rfl rfl rfl rfl ?_) | ((with_reducible refine k_alloc ?_); refine x_alloc tbOk rfl rfl ?_) | ((with_reducible refine k_bin ?_); (first | refine m_binI rfl rfl rfl ?_ | refine x_rem rfl rfl (by first | decide | assumption | omega) ?_ | refine x_quo rfl rfl (by first | decide | assumption | omega) ?_))  | refine e_nrm ?_ | refine x_none rfl ?_ | with_reducible (first | refine q_then ?_ | refine awp_seq ?_ | refine awp_block ?_) | ((with_reducible refine w_region ?_ ?_); kernel_rfl))
    obtain ⟨kk, hkk⟩ : ∃ q, q = (IntKind.i64.wrap (IntKind.u16.wrap (z.tdiv 16))).tmod (nx + 1) := ⟨_, rfl⟩
    obtain ⟨mm, hmm⟩ : ∃ q, q = (IntKind.u16.wrap (z.tdiv 2)).tmod 6 := ⟨_, rfl⟩
    rw [← hkk, ← hmm]
    clear hkk hmm hside
    have hSl := hS.len
    have hSm := hS.max
    refine awp_box [.v (.int .i64 0), .v (.int .i64 0), .v (.int .i64 0), .v (.int .i64 0), .sl 3 []] (s := 17) (k := v 17 + 1) rfl ⟨.inl rfl, .inl rfl, .inl rfl, .inl rfl, .inr ⟨rfl, 3, rfl⟩, trivial⟩ ?_
    refine awp_viaB (ι := Dk × List Ce × Int × Ce × Option (List Ce) × Int) (fun _ i => Mv N V 1 2 L0 L1 (ql q0) k i.1 i.2.1 i.2.2.1 i.2.2.2.1 (ql i.2.2.2.2.1) i.2.2.2.2.2) (fun v i => [(5, .ptr 39 (v 39) 0), (6, .ptr 6 (v 6) 0), (8, .ptr 8 (v 8) 0), (9, .ptr 9 (v 9) 0), (10, .v (.int .i64 i.2.2.2.2.2)), (13, .v (.int .i64 0)), (15, .sl 5 (i.2.1.map Ce.av)), (16, .v (.int .i64 i.2.2.1)), (17, .ptr 17 (v 17) 0), (45, .sl 1 (moves.map wv)), (46, .v (.int .i64 (moves.map wv).length)), (47, .v (.int .i64 (k : Nat)))]) (fun v i => [(39, .box i.1.cells), (6, .box [.sl 3 (N.map Nd.av), .sl 5 (V.map Dv.av)]), (8, .box [.sl 5 ((L0).map Ce.av), .sl 5 ((L1).map Ce.av)]), (9, .box [.own 900 (v 900), .own 901 (v 901)]), (900, qC 40 5 (qAV q0)), (901, qC 40 5 (qAV i.2.2.2.2.1)), (17, .box i.2.2.2.1.av.cells)]) ?_ ?_
    · refine w_cond rfl (fun h0 => ?_) (fun h0 => ?_)
      · have hC := cert_A (G := X.G) D N V hDk n1 n2 n3 v0 v64
        obtain ⟨hE, hCl⟩ := certP_ok (N := N) (V := V) hDk
        obtain ⟨⟨E, c0⟩, hq⟩ : ∃ q, q = certP N V D := ⟨_, rfl⟩
        rw [← hq] at hC hE hCl
        dsimp only at hC hE hCl
        clear hq
        have hask := ask_A (G := X.G) N V L0 1 ⟨nx, c0.ask, c0.giv, 1, c0.lk⟩ hG n1 n2 n3 n4 hSm (by show c0.lk.length ≤ 900; omega) (by omega)
        obtain ⟨⟨X', e⟩, hres⟩ : ∃ q, q = askC N V L0 1 ⟨nx, c0.ask, c0.giv, 1, c0.lk⟩ := ⟨_, rfl⟩
        rw [← hres] at hask
        dsimp only at hask
        repeat (first | ((with_reducible refine k_move ?_); refine m_move rfl ?_) | ((with_reducible refine k_load ?_); refine x_load_agg tbOk rfl rfl rfl rfl (Nat.le_of_ble_eq_true rfl) ?_)  | refine x_none rfl ?_ | with_reducible refine awp_seq ?_ | ((with_reducible refine w_region ?_ ?_); kernel_rfl))
        refine x_call (y := c0.av) (ss := [(39, v 39)]) (hC) (by repeat' (first | exact trivial | exact Ren.sl _ _ | exact Ren.ptr _ _ _ _ rfl | refine ren_ag ?_ | refine ⟨?_, ?_⟩)) (by simp) (in1 rfl rfl) rfl (back1 rfl) (by repeat' (first | exact trivial | exact RenB.v _ | exact RenB.sl _ _ | refine renb_ag ?_ | refine ⟨?_, ?_⟩)) ?_
        repeat (first | ((with_reducible refine k_move ?_); refine m_move rfl ?_) | ((with_reducible refine k_fieldAddr ?_); refine x_fieldAddr_ptr tbOk rfl rfl rfl rfl ?_) | ((with_reducible refine k_load ?_); refine x_load_agg tbOk rfl rfl rfl rfl (Nat.le_of_ble_eq_true rfl) ?_) | ((with_reducible refine k_store ?_); refine m_store tbOk rfl rfl rfl rfl rfl rfl rfl (Nat.le_of_ble_eq_true rfl) rfl ?_) | ((with_reducible refine k_bin ?_); refine x_add_in rfl rfl (by omega) ?_)  | refine e_nrm ?_ | refine x_none rfl ?_ | with_reducible (first | refine q_then ?_ | refine awp_seq ?_) | ((with_reducible refine w_region ?_ ?_); kernel_rfl))
        refine x_call0 (hask) (by repeat' (first | exact trivial | exact Ren.v _ | exact Ren.sl _ _ | refine ren_ag ?_ | refine ⟨?_, ?_⟩)) (by repeat' (first | exact trivial | exact RenB.v _ | exact RenB.sl _ _ | refine renb_tu ?_ | refine ⟨?_, ?_⟩)) ?_
        repeat (first | ((with_reducible refine k_move ?_); refine m_move rfl ?_) | ((with_reducible refine k_assign ?_); refine m_assign rfl ?_) | ((with_reducible refine k_extract ?_); refine x_extract rfl rfl ?_) | ((with_reducible refine k_bin ?_); refine x_add_in rfl rfl (by omega) ?_)  | refine e_nrm ?_ | refine x_none rfl ?_ | with_reducible (first | refine q_then ?_ | refine q_block ?_) | ((with_reducible refine w_region ?_ ?_); kernel_rfl))
        have hok : Mv N V 1 2 L0 L1 (ql q0) k E X' e ⟨nx, c0.ask, c0.giv, 1, c0.lk⟩ (ql q1) (nx + 1) := ⟨hE, fun he _ => by
          subst he
          exact hS.ask hres.symm rfl hCl, fun _ hn => absurd (show 0 < nx by omega) hn, fun _ => hS.next, hq1, by omega, by omega⟩
        exact ⟨(E, X', e, ⟨nx, c0.ask, c0.giv, 1, c0.lk⟩, q1, nx + 1), hok, trivial, ⟨rfl, rfl, rfl, rfl, rfl, rfl, rfl, rfl, rfl, rfl, rfl, rfl, trivial⟩, ⟨rfl, rfl, rfl, rfl, rfl, rfl, rfl, trivial⟩⟩
      repeat (first | ((with_reducible refine k_assign ?_); refine m_assign rfl ?_) | ((with_reducible refine k_bin ?_); refine m_binI rfl rfl rfl ?_)  | refine e_nrm ?_ | refine x_none rfl ?_ | with_reducible (first | refine q_then ?_ | refine awp_seq ?_) | ((with_reducible refine w_region ?_ ?_); kernel_rfl))
      refine w_cond rfl (fun h1 => ?_) (fun h1 => ?_)
      · have hf := cfind_A (G := X.G) L0 2 kk (by omega)
        have hgv := give_A (G := X.G) N V L0 1 2 kk hG n1 n2 n3 n4 hSm (by omega)
        obtain ⟨⟨X', e⟩, hres⟩ : ∃ q, q = giveC N V L0 1 2 kk := ⟨_, rfl⟩
        rw [← hres] at hgv
        dsimp only at hgv
        repeat (first | ((with_reducible refine k_move ?_); refine m_move rfl ?_) | ((with_reducible refine k_bin ?_); refine x_sub_in rfl rfl (by omega) ?_)  | refine x_none rfl ?_ | with_reducible refine awp_seq ?_ | ((with_reducible refine w_region ?_ ?_); kernel_rfl))
        refine x_call0 (hf) (by repeat' (first | exact trivial | exact Ren.v _ | exact Ren.sl _ _ | refine ⟨?_, ?_⟩)) (by repeat' exact RenB.v _) ?_
        repeat (first | ((with_reducible refine k_move ?_); refine m_move rfl ?_) | ((with_reducible refine k_assign ?_); refine m_assign rfl ?_) | ((with_reducible refine k_load ?_); refine x_load_agg tbOk rfl rfl rfl rfl (Nat.le_of_ble_eq_true rfl) ?_) | ((with_reducible refine k_bin ?_); (first | refine x_add_in rfl rfl (by omega) ?_ | refine x_sub_in rfl rfl (by omega) ?_))  | refine e_nrm ?_ | refine x_none rfl ?_ | with_reducible (first | refine q_then ?_ | refine awp_seq ?_) | ((with_reducible refine w_region ?_ ?_); kernel_rfl))
        refine x_call0 (hgv) (by repeat' (first | exact trivial | exact Ren.v _ | exact Ren.sl _ _ | refine ren_ag ?_ | refine ⟨?_, ?_⟩)) (by repeat' (first | exact trivial | exact RenB.v _ | exact RenB.sl _ _ | refine renb_tu ?_ | refine ⟨?_, ?_⟩)) ?_
        by_cases hfi : 0 ≤ findC L0 2 kk
        · obtain ⟨j, y, e1, e2, e3, e4, e5⟩ := find_at' hfi
          have hyj := ce_at e2
          have hge : decide (findC L0 2 kk ≥ 0) = true := decide_eq_true hfi
          have hyn := (hS.vx.ok (List.mem_of_getElem? e2)).num
          have hyes : e = 0 → Sd N V 1 2 X' L1 (ql q0 ++ [stC y 2]) (ql q1) nx := fun he => by
            subst he
            obtain ⟨j2, y2, f1, f2, -, f4, f5, -, f6, f7⟩ := give_ok hres.symm; obtain rfl : j2 = j := (by omega); rw [e2] at f2; injection f2 with f2; subst f2; rw [f7]; exact hS.give e2 f4 f6
          have hok : Mv N V 1 2 L0 L1 (ql q0) k D X' e (stC y 2) (ql q1) nx := ⟨hDk, fun he _ => hyes he, fun he hn => absurd (show 0 < y.num by omega) hn, fun _ => hS, hq1, hx1, by omega⟩
          rw [e1] at hge ⊢
          repeat (first | ((with_reducible refine k_move ?_); refine m_move rfl ?_) | ((with_reducible refine k_assign ?_); refine m_assign rfl ?_) | ((with_reducible refine k_extract ?_); refine x_extract rfl rfl ?_) | ((with_reducible refine k_bin ?_); refine m_binI rfl rfl rfl ?_)  | refine e_nrm ?_ | refine x_none rfl ?_ | with_reducible (first | refine q_then ?_ | refine awp_seq ?_) | ((with_reducible refine w_region ?_ ?_); kernel_rfl) | refine w_cond_t rfl (by first | rfl | assumption) ?_)
          (with_reducible refine k_indexAddr ?_)
          refine x_indexAddr_arr tbOk Tryd.underlying35 rfl rfl rfl ⟨by decide, by decide⟩ ?_
          repeat (first | ((with_reducible refine k_move ?_); refine m_move rfl ?_) | ((with_reducible refine k_fieldAddr ?_); refine x_fieldAddr_ptr tbOk rfl rfl rfl rfl ?_) | ((with_reducible refine k_load ?_); (first | refine x_load_one tbOk rfl rfl rfl rfl rfl ?_ | refine x_load_ep_agg tbOk rfl rfl (Nat.le_of_ble_eq_true rfl) ?_)) | ((with_reducible refine k_store ?_); refine m_store tbOk rfl rfl rfl rfl rfl rfl rfl (Nat.le_of_ble_eq_true rfl) rfl ?_) | ((with_reducible refine k_indexAddr ?_); refine x_indexAddr_n tbOk rfl rfl rfl rfl (by assumption) ?_)  | refine e_nrm ?_ | refine x_none rfl ?_ | with_reducible (first | refine q_then ?_ | refine q_block ?_) | ((with_reducible refine w_region ?_ ?_); kernel_rfl))
          exact ⟨(D, X', e, stC y 2, q1, nx), hok, trivial, ⟨rfl, rfl, rfl, rfl, rfl, rfl, rfl, rfl, rfl, rfl, rfl, rfl, trivial⟩, ⟨rfl, rfl, rfl, rfl, rfl, rfl, rfl, trivial⟩⟩
        · have hge : decide (findC L0 2 kk ≥ 0) = false := decide_eq_false hfi
          have hz : e ≠ 0 := fun he => by
            subst he
            obtain ⟨j, y, e1, -⟩ := give_ok hres.symm
            omega
          have hok : Mv N V 1 2 L0 L1 (ql q0) k D X' e cz (ql q1) nx := ⟨hDk, fun he => absurd he hz, fun he => absurd he hz, fun _ => hS, hq1, hx1, by omega⟩
          repeat (first | ((with_reducible refine k_move ?_); refine m_move rfl ?_) | ((with_reducible refine k_assign ?_); refine m_assign rfl ?_) | ((with_reducible refine k_extract ?_); refine x_extract rfl rfl ?_) | ((with_reducible refine k_bin ?_); refine m_binI rfl rfl rfl ?_)  | refine e_nrm ?_ | refine x_none rfl ?_ | with_reducible (first | refine q_then ?_ | refine q_block ?_ | refine awp_seq ?_ | refine awp_skip ?_) | ((with_reducible refine w_region ?_ ?_); kernel_rfl) | refine w_cond_f rfl (by first | rfl | assumption) ?_)
          exact ⟨(D, X', e, cz, q1, nx), hok, trivial, ⟨rfl, rfl, rfl, rfl, rfl, rfl, rfl, rfl, rfl, rfl, rfl, rfl, trivial⟩, ⟨rfl, rfl, rfl, rfl, rfl, rfl, rfl, trivial⟩⟩
      repeat (first | ((with_reducible refine k_assign ?_); refine m_assign rfl ?_) | ((with_reducible refine k_bin ?_); refine m_binI rfl rfl rfl ?_)  | refine e_nrm ?_ | refine x_none rfl ?_ | with_reducible (first | refine q_then ?_ | refine awp_seq ?_) | ((with_reducible refine w_region ?_ ?_); kernel_rfl))
      refine w_cond rfl (fun h2 => ?_) (fun h2 => ?_)
      · have hf := cfind_A (G := X.G) L0 1 kk (by omega)
        have hgv := back_A (G := X.G) N V L0 1 kk hG n1 n2 n3 n4 hSm (by omega)
        obtain ⟨⟨X', e⟩, hres⟩ : ∃ q, q = backC N V L0 1 kk := ⟨_, rfl⟩
        rw [← hres] at hgv
        dsimp only at hgv
        repeat (first | ((with_reducible refine k_move ?_); refine m_move rfl ?_) | ((with_reducible refine k_bin ?_); refine x_add_in rfl rfl (by omega) ?_)  | refine x_none rfl ?_ | with_reducible refine awp_seq ?_ | ((with_reducible refine w_region ?_ ?_); kernel_rfl))
        refine x_call0 (hf) (by repeat' (first | exact trivial | exact Ren.v _ | exact Ren.sl _ _ | refine ⟨?_, ?_⟩)) (by repeat' exact RenB.v _) ?_
        repeat (first | ((with_reducible refine k_move ?_); refine m_move rfl ?_) | ((with_reducible refine k_assign ?_); refine m_assign rfl ?_) | ((with_reducible refine k_load ?_); refine x_load_agg tbOk rfl rfl rfl rfl (Nat.le_of_ble_eq_true rfl) ?_) | ((with_reducible refine k_bin ?_); refine x_add_in rfl rfl (by omega) ?_)  | refine e_nrm ?_ | refine x_none rfl ?_ | with_reducible (first | refine q_then ?_ | refine awp_seq ?_) | ((with_reducible refine w_region ?_ ?_); kernel_rfl))
        refine x_call0 (hgv) (by repeat' (first | exact trivial | exact Ren.v _ | exact Ren.sl _ _ | refine ren_ag ?_ | refine ⟨?_, ?_⟩)) (by repeat' (first | exact trivial | exact RenB.v _ | exact RenB.sl _ _ | refine renb_tu ?_ | refine ⟨?_, ?_⟩)) ?_
        by_cases hfi : 0 ≤ findC L0 1 kk
        · obtain ⟨j, y, e1, e2, e3, e4, e5⟩ := find_at' hfi
          have hyj := ce_at e2
          have hge : decide (findC L0 1 kk ≥ 0) = true := decide_eq_true hfi
          have hyn := (hS.vx.ok (List.mem_of_getElem? e2)).num
          have hyes : e = 0 → Sd N V 1 2 X' L1 (ql q0 ++ [stC y 4]) (ql q1) nx := fun he => by
            subst he
            obtain ⟨j2, y2, f1, f2, -, f4, f5, f6, f7⟩ := back_ok hres.symm; obtain rfl : j2 = j := (by omega); rw [e2] at f2; injection f2 with f2; subst f2; rw [f7]; exact hS.back e2 f4
          have hok : Mv N V 1 2 L0 L1 (ql q0) k D X' e (stC y 4) (ql q1) nx := ⟨hDk, fun he _ => hyes he, fun he hn => absurd (show 0 < y.num by omega) hn, fun _ => hS, hq1, hx1, by omega⟩
          rw [e1] at hge ⊢
          repeat (first | ((with_reducible refine k_move ?_); refine m_move rfl ?_) | ((with_reducible refine k_assign ?_); refine m_assign rfl ?_) | ((with_reducible refine k_extract ?_); refine x_extract rfl rfl ?_) | ((with_reducible refine k_bin ?_); refine m_binI rfl rfl rfl ?_)  | refine e_nrm ?_ | refine x_none rfl ?_ | with_reducible (first | refine q_then ?_ | refine awp_seq ?_) | ((with_reducible refine w_region ?_ ?_); kernel_rfl) | refine w_cond_t rfl (by first | rfl | assumption) ?_)
          (with_reducible refine k_indexAddr ?_)
          refine x_indexAddr_arr tbOk Tryd.underlying35 rfl rfl rfl ⟨by decide, by decide⟩ ?_
          repeat (first | ((with_reducible refine k_move ?_); refine m_move rfl ?_) | ((with_reducible refine k_fieldAddr ?_); refine x_fieldAddr_ptr tbOk rfl rfl rfl rfl ?_) | ((with_reducible refine k_load ?_); (first | refine x_load_one tbOk rfl rfl rfl rfl rfl ?_ | refine x_load_ep_agg tbOk rfl rfl (Nat.le_of_ble_eq_true rfl) ?_)) | ((with_reducible refine k_store ?_); refine m_store tbOk rfl rfl rfl rfl rfl rfl rfl (Nat.le_of_ble_eq_true rfl) rfl ?_) | ((with_reducible refine k_indexAddr ?_); refine x_indexAddr_n tbOk rfl rfl rfl rfl (by assumption) ?_)  | refine e_nrm ?_ | refine x_none rfl ?_ | with_reducible (first | refine q_then ?_ | refine q_block ?_) | ((with_reducible refine w_region ?_ ?_); kernel_rfl))
          exact ⟨(D, X', e, stC y 4, q1, nx), hok, trivial, ⟨rfl, rfl, rfl, rfl, rfl, rfl, rfl, rfl, rfl, rfl, rfl, rfl, trivial⟩, ⟨rfl, rfl, rfl, rfl, rfl, rfl, rfl, trivial⟩⟩
        · have hge : decide (findC L0 1 kk ≥ 0) = false := decide_eq_false hfi
          have hz : e ≠ 0 := fun he => by
            subst he
            obtain ⟨j, y, e1, -⟩ := back_ok hres.symm
            omega
          have hok : Mv N V 1 2 L0 L1 (ql q0) k D X' e cz (ql q1) nx := ⟨hDk, fun he => absurd he hz, fun he => absurd he hz, fun _ => hS, hq1, hx1, by omega⟩
          repeat (first | ((with_reducible refine k_move ?_); refine m_move rfl ?_) | ((with_reducible refine k_assign ?_); refine m_assign rfl ?_) | ((with_reducible refine k_extract ?_); refine x_extract rfl rfl ?_) | ((with_reducible refine k_bin ?_); refine m_binI rfl rfl rfl ?_)  | refine e_nrm ?_ | refine x_none rfl ?_ | with_reducible (first | refine q_then ?_ | refine q_block ?_ | refine awp_seq ?_ | refine awp_skip ?_) | ((with_reducible refine w_region ?_ ?_); kernel_rfl) | refine w_cond_f rfl (by first | rfl | assumption) ?_)
          exact ⟨(D, X', e, cz, q1, nx), hok, trivial, ⟨rfl, rfl, rfl, rfl, rfl, rfl, rfl, rfl, rfl, rfl, rfl, rfl, trivial⟩, ⟨rfl, rfl, rfl, rfl, rfl, rfl, rfl, trivial⟩⟩
      repeat (first | ((with_reducible refine k_move ?_); refine m_move rfl ?_) | ((with_reducible refine k_bin ?_); refine x_sub_in rfl rfl (by omega) ?_)  | refine x_none rfl ?_ | with_reducible refine awp_seq ?_ | ((with_reducible refine w_region ?_ ?_); kernel_rfl))
      (with_reducible refine k_indexAddr ?_)
      refine x_indexAddr_arr tbOk Tryd.underlying35 rfl rfl rfl ⟨by decide, by decide⟩ ?_
      repeat (first | ((with_reducible refine k_load ?_); refine x_load_one tbOk rfl rfl rfl rfl rfl ?_)  | refine x_none rfl ?_  )
      cases q1 with
      | none =>
        with_reducible refine k_call ?_
        refine x_len_qu (e := 40) (sz := 5) (q := qAV none) tbOk rfl rfl rfl rfl ?_
        repeat (first | ((with_reducible refine k_move ?_); refine m_move rfl ?_) | ((with_reducible refine k_bin ?_); (first | refine x_add_in rfl rfl (by omega) ?_ | refine m_binI rfl rfl rfl ?_))  | refine e_nrm ?_ | refine x_none rfl ?_ | with_reducible (first | refine q_then ?_ | refine q_then_exit ?_ | refine awp_exit ?_) | ((with_reducible refine q_block_exit ?_ ?_); rfl) | ((with_reducible refine q_block_out ?_ ?_); rfl) | ((with_reducible refine w_region ?_ ?_); kernel_rfl) | refine w_cond_t rfl (by first | rfl | assumption) ?_)
        exact ⟨(k + 1, D, (L0, L1), (q0, none), nx), ⟨hlt, hDk, hS0, Nat.le_succ_of_le hq0, Nat.le_succ_of_le hq1, hx1, by dsimp only; omega⟩, by dsimp only; omega, ⟨rfl, rfl, rfl, rfl, rfl, rfl, rfl, rfl, trivial⟩, ⟨rfl, rfl, rfl, rfl, rfl, rfl, trivial⟩⟩
      | some Q =>
        cases Q with
        | nil =>
          with_reducible refine k_call ?_
          refine x_len_qu (e := 40) (sz := 5) (q := qAV (some [])) tbOk rfl rfl rfl rfl ?_
          repeat (first | ((with_reducible refine k_move ?_); refine m_move rfl ?_) | ((with_reducible refine k_bin ?_); (first | refine x_add_in rfl rfl (by omega) ?_ | refine m_binI rfl rfl rfl ?_))  | refine e_nrm ?_ | refine x_none rfl ?_ | with_reducible (first | refine q_then ?_ | refine q_then_exit ?_ | refine awp_exit ?_) | ((with_reducible refine q_block_exit ?_ ?_); rfl) | ((with_reducible refine q_block_out ?_ ?_); rfl) | ((with_reducible refine w_region ?_ ?_); kernel_rfl) | refine w_cond_t rfl (by first | rfl | assumption) ?_)
          exact ⟨(k + 1, D, (L0, L1), (q0, some []), nx), ⟨hlt, hDk, hS0, Nat.le_succ_of_le hq0, Nat.le_succ_of_le hq1, hx1, by dsimp only; omega⟩, by dsimp only; omega, ⟨rfl, rfl, rfl, rfl, rfl, rfl, rfl, rfl, trivial⟩, ⟨rfl, rfl, rfl, rfl, rfl, rfl, trivial⟩⟩
        | cons c Q =>
          replace hS : Sd N V 1 2 L0 L1 (ql q0) (c :: Q) nx := hS
          have hql : (c :: Q).length ≤ k := hq1
          rw [List.length_cons] at hql
          have hcl := (hS.al c (by simp)).1
          have hpos : 0 < ((c :: Q).map Ce.av).length := by rw [List.length_map, List.length_cons]; omega
          have hne0 : ((((qL (qAV (some (c :: Q)))).length : Nat) : Int) == 0) = false := by rw [qAV_len]; simp [ql]; omega
          have hhe := hear_A (G := X.G) N V L0 1 c hG n1 n2 n3 n4 hSm (by omega) (by omega)
          have hgone := hS.gone (I' := Q) (fun m hm => by simp [hm])
          obtain ⟨⟨X', e⟩, hres⟩ : ∃ q, q = hearC N V L0 1 c := ⟨_, rfl⟩
          rw [← hres] at hhe
          dsimp only at hhe
          with_reducible refine k_call ?_
          refine x_len_qu (e := 40) (sz := 5) (q := qAV (some (c :: Q))) tbOk rfl rfl rfl rfl ?_
          repeat (first | ((with_reducible refine k_move ?_); refine m_move rfl ?_) | ((with_reducible refine k_bin ?_); (first | refine x_sub_in rfl rfl (by omega) ?_ | refine m_binI rfl rfl rfl ?_))  | refine e_nrm ?_ | refine x_none rfl ?_ | with_reducible (first | refine q_then ?_ | refine awp_seq ?_ | refine awp_skip ?_) | ((with_reducible refine w_region ?_ ?_); kernel_rfl) | refine w_cond_f rfl (by first | rfl | assumption) ?_)
          (with_reducible refine k_indexAddr ?_)
          refine x_indexAddr_arr tbOk Tryd.underlying35 rfl rfl rfl ⟨by decide, by decide⟩ ?_
          repeat (first | ((with_reducible refine k_load ?_); refine x_load_one tbOk rfl rfl rfl rfl rfl ?_)  | refine x_none rfl ?_  )
          with_reducible refine k_indexAddr ?_
          refine x_indexAddr_qu (Q := (c :: Q).map Ce.av) tbOk rfl rfl rfl rfl rfl rfl ⟨by decide, by omega⟩ ?_
          repeat (first   | refine x_none rfl ?_  )
          with_reducible refine k_load ?_
          refine x_load_qp (cs := [.v (.int .i64 c.num), .v (.int .i64 c.ask), .v (.int .i64 c.giv), .v (.int .i64 c.st), .sl 3 (c.lk.map Lk.av)]) tbOk rfl rfl rfl rfl rfl rfl ?_
          repeat (first | ((with_reducible refine k_move ?_); refine m_move rfl ?_) | ((with_reducible refine k_store ?_); refine m_store tbOk rfl rfl rfl rfl rfl rfl rfl (Nat.le_of_ble_eq_true rfl) rfl ?_) | ((with_reducible refine k_alloc ?_); refine x_alloc tbOk rfl rfl ?_) | ((with_reducible refine k_bin ?_); refine x_sub_in rfl rfl (by omega) ?_)  | refine e_nrm ?_ | refine x_none rfl ?_ | with_reducible (first | refine q_then ?_ | refine awp_seq ?_) | ((with_reducible refine w_region ?_ ?_); kernel_rfl))
          (with_reducible refine k_indexAddr ?_)
          refine x_indexAddr_arr tbOk Tryd.underlying35 rfl rfl rfl ⟨by decide, by decide⟩ ?_
          repeat (first | ((with_reducible refine k_load ?_); refine x_load_one tbOk rfl rfl rfl rfl rfl ?_)  | refine x_none rfl ?_  )
          with_reducible refine k_slice ?_
          refine x_slice_qu (Q := (c :: Q).map Ce.av) tbOk hgs rfl rfl rfl rfl rfl rfl ⟨by decide, by omega⟩ ?_
          repeat (first   | refine x_none rfl ?_  )
          (with_reducible refine k_indexAddr ?_)
          refine x_indexAddr_arr tbOk Tryd.underlying35 rfl rfl rfl ⟨by decide, by decide⟩ ?_
          repeat (first | ((with_reducible refine k_move ?_); refine m_move rfl ?_) | ((with_reducible refine k_load ?_); refine x_load_agg tbOk rfl rfl rfl rfl (Nat.le_of_ble_eq_true rfl) ?_) | ((with_reducible refine k_store ?_); refine m_store tbOk rfl rfl rfl rfl rfl rfl rfl (Nat.le_of_ble_eq_true rfl) rfl ?_) | ((with_reducible refine k_bin ?_); refine x_add_in rfl rfl (by omega) ?_)  | refine e_nrm ?_ | refine x_none rfl ?_ | with_reducible (first | refine q_then ?_ | refine awp_seq ?_) | ((with_reducible refine w_region ?_ ?_); kernel_rfl))
          refine x_call0 (hhe) (by repeat' (first | exact trivial | exact Ren.v _ | exact Ren.sl _ _ | refine ren_ag ?_ | refine ⟨?_, ?_⟩)) (by repeat' (first | exact trivial | exact RenB.v _ | exact RenB.sl _ _ | refine renb_tu ?_ | refine ⟨?_, ?_⟩)) ?_
          by_cases h4 : c.st = 4
          · have b4 : (c.st == 4) = true := by simpa using h4
            by_cases he : e = 0
            · subst he
              obtain ⟨hp, hsd⟩ := hS.ended hres.symm h4
              have hok : Mv N V 1 2 L0 L1 (ql q0) k D X' 0 (stC c 5) (ql (some Q)) nx := ⟨hDk, fun _ _ => hsd, fun _ hn => absurd (show 0 < c.num from hp) hn, fun h => absurd rfl h, by show Q.length ≤ k; omega, hx1, by omega⟩
              repeat (first | ((with_reducible refine k_move ?_); refine m_move rfl ?_) | ((with_reducible refine k_assign ?_); refine m_assign rfl ?_) | ((with_reducible refine k_fieldAddr ?_); refine x_fieldAddr_ptr tbOk rfl rfl rfl rfl ?_) | ((with_reducible refine k_load ?_); (first | refine x_load_one tbOk rfl rfl rfl rfl rfl ?_ | refine x_load_agg tbOk rfl rfl rfl rfl (Nat.le_of_ble_eq_true rfl) ?_)) | ((with_reducible refine k_store ?_); refine m_store tbOk rfl rfl rfl rfl rfl rfl rfl (Nat.le_of_ble_eq_true rfl) rfl ?_) | ((with_reducible refine k_extract ?_); refine x_extract rfl rfl ?_) | ((with_reducible refine k_pick ?_); refine m_pickt rfl (by first | rfl | assumption) rfl ?_) | ((with_reducible refine k_bin ?_); refine m_binI rfl rfl rfl ?_)  | refine e_nrm ?_ | refine x_none rfl ?_ | refine x_run_t rfl rfl (by first | rfl | assumption) ?_ | with_reducible (first | refine q_then ?_ | refine q_block ?_ | refine awp_seq ?_) | ((with_reducible refine w_region ?_ ?_); kernel_rfl) | refine w_cond_t rfl (by first | rfl | assumption) ?_)
              exact ⟨(D, X', 0, stC c 5, some Q, nx), hok, trivial, ⟨rfl, rfl, rfl, rfl, rfl, rfl, rfl, rfl, rfl, rfl, rfl, rfl, trivial⟩, ⟨rfl, rfl, rfl, rfl, rfl, rfl, rfl, trivial⟩⟩
            · have b5 : (e == 0) = false := by simpa using he
              have hok : Mv N V 1 2 L0 L1 (ql q0) k D X' e cz (ql (some Q)) nx := ⟨hDk, fun h => absurd h he, fun h => absurd h he, fun _ => hgone, by show Q.length ≤ k; omega, hx1, by omega⟩
              repeat (first | ((with_reducible refine k_move ?_); refine m_move rfl ?_) | ((with_reducible refine k_assign ?_); refine m_assign rfl ?_) | ((with_reducible refine k_fieldAddr ?_); refine x_fieldAddr_ptr tbOk rfl rfl rfl rfl ?_) | ((with_reducible refine k_load ?_); refine x_load_one tbOk rfl rfl rfl rfl rfl ?_) | ((with_reducible refine k_extract ?_); refine x_extract rfl rfl ?_) | ((with_reducible refine k_pick ?_); refine m_pickt rfl (by first | rfl | assumption) rfl ?_) | ((with_reducible refine k_bin ?_); refine m_binI rfl rfl rfl ?_)  | refine e_nrm ?_ | refine x_none rfl ?_ | refine x_run_t rfl rfl (by first | rfl | assumption) ?_ | with_reducible (first | refine q_then ?_ | refine q_block ?_ | refine awp_seq ?_ | refine awp_skip ?_) | ((with_reducible refine w_region ?_ ?_); kernel_rfl) | refine w_cond_f rfl (by first | rfl | assumption) ?_)
              exact ⟨(D, X', e, cz, some Q, nx), hok, trivial, ⟨rfl, rfl, rfl, rfl, rfl, rfl, rfl, rfl, rfl, rfl, rfl, rfl, trivial⟩, ⟨rfl, rfl, rfl, rfl, rfl, rfl, rfl, trivial⟩⟩
          · have b4 : (c.st == 4) = false := by simpa using h4
            have hok : Mv N V 1 2 L0 L1 (ql q0) k D X' e cz (ql (some Q)) nx := ⟨hDk, fun _ hn => absurd hn (by decide), fun he _ => by
              subst he
              exact hS.hear hres.symm h4, fun _ => hgone, by show Q.length ≤ k; omega, hx1, by omega⟩
            repeat (first | ((with_reducible refine k_move ?_); refine m_move rfl ?_) | ((with_reducible refine k_assign ?_); refine m_assign rfl ?_) | ((with_reducible refine k_fieldAddr ?_); refine x_fieldAddr_ptr tbOk rfl rfl rfl rfl ?_) | ((with_reducible refine k_load ?_); refine x_load_one tbOk rfl rfl rfl rfl rfl ?_) | ((with_reducible refine k_extract ?_); refine x_extract rfl rfl ?_) | ((with_reducible refine k_pick ?_); refine m_pickf rfl (by first | rfl | assumption) rfl ?_) | ((with_reducible refine k_bin ?_); refine m_binI rfl rfl rfl ?_)  | refine e_nrm ?_ | refine x_none rfl ?_ | refine x_skip_t rfl rfl (by first | rfl | assumption) ?_ | with_reducible (first | refine q_then ?_ | refine q_block ?_ | refine awp_seq ?_ | refine awp_skip ?_) | ((with_reducible refine w_region ?_ ?_); kernel_rfl) | refine w_cond_f rfl (by first | rfl | assumption) ?_)
            exact ⟨(D, X', e, cz, some Q, nx), hok, trivial, ⟨rfl, rfl, rfl, rfl, rfl, rfl, rfl, rfl, rfl, rfl, rfl, rfl, trivial⟩, ⟨rfl, rfl, rfl, rfl, rfl, rfl, rfl, trivial⟩⟩
    clear hS0 hSl hSm
    clear v
    rintro v ⟨D2, X', e, say, I2, nx2⟩ hM
    dsimp only at hM ⊢
    have hMl := hM.l
    have hMn := hM.n1
    have hMn2 := hM.n2
    repeat (first | ((with_reducible refine k_move ?_); refine m_move rfl ?_) | ((with_reducible refine k_bin ?_); refine m_binI rfl rfl rfl ?_)  | refine e_nrm ?_ | refine x_none rfl ?_ | with_reducible (first | refine q_then ?_ | refine awp_seq ?_) | ((with_reducible refine w_region ?_ ?_); kernel_rfl))
    refine awp_via (ι := List Ce × Option (List Ce)) (fun _ i => Sd N V 1 2 i.1 L1 (ql i.2) (ql I2) nx2 ∧ (ql i.2).length ≤ k + 1) (fun v i => [(5, .ptr 39 (v 39) 0), (6, .ptr 6 (v 6) 0), (8, .ptr 8 (v 8) 0), (9, .ptr 9 (v 9) 0), (10, .v (.int .i64 nx2)), (45, .sl 1 (moves.map wv)), (46, .v (.int .i64 (moves.map wv).length)), (47, .v (.int .i64 (k : Nat)))]) (fun v i => [(39, .box D2.cells), (6, .box [.sl 3 (N.map Nd.av), .sl 5 (V.map Dv.av)]), (8, .box [.sl 5 ((i.1).map Ce.av), .sl 5 ((L1).map Ce.av)]), (9, .box [.own 900 (v 900), .own 901 (v 901)]), (900, qC 40 5 (qAV i.2)), (901, qC 40 5 (qAV I2))]) ?_ ?_
    · refine w_cond rfl (fun he => ?_) (fun he => ?_)
      rotate_left
      · have he' : e ≠ 0 := by simpa using he
        repeat (first    | with_reducible (first | refine q_then ?_ | refine awp_skip ?_) )
        exact ⟨(L0, q0), ⟨hM.c he', by dsimp only; omega⟩, trivial, ⟨rfl, rfl, rfl, rfl, rfl, rfl, rfl, rfl, trivial⟩, ⟨rfl, rfl, rfl, rfl, rfl, rfl, trivial⟩⟩
      have he' : e = 0 := by simpa using he
      repeat (first | ((with_reducible refine k_move ?_); refine m_move rfl ?_)  | refine x_none rfl ?_ | with_reducible refine awp_seq ?_ | ((with_reducible refine w_region ?_ ?_); kernel_rfl))
      (with_reducible refine k_indexAddr ?_)
      refine x_indexAddr_arr tbOk Tryd.underlying35 rfl rfl rfl ⟨by decide, by decide⟩ ?_
      repeat (first | ((with_reducible refine k_fieldAddr ?_); refine x_fieldAddr_ptr tbOk rfl rfl rfl rfl ?_) | ((with_reducible refine k_load ?_); refine x_load_one tbOk rfl rfl rfl rfl rfl ?_) | ((with_reducible refine k_store ?_); refine m_store tbOk rfl rfl rfl rfl rfl rfl rfl (Nat.le_of_ble_eq_true rfl) rfl ?_) | ((with_reducible refine k_bin ?_); refine m_binI rfl rfl rfl ?_)  | refine e_nrm ?_ | refine x_none rfl ?_ | with_reducible (first | refine q_then ?_ | refine awp_seq ?_) | ((with_reducible refine w_region ?_ ?_); kernel_rfl))
      refine w_cond rfl (fun hn => ?_) (fun hn => ?_)
      rotate_left
      · have hn' : ¬ 0 < say.num := by simpa using hn
        repeat (first    | with_reducible (first | refine q_then ?_ | refine awp_skip ?_) )
        exact ⟨(X', q0), ⟨hM.b he' hn', by dsimp only; omega⟩, trivial, ⟨rfl, rfl, rfl, rfl, rfl, rfl, rfl, rfl, trivial⟩, ⟨rfl, rfl, rfl, rfl, rfl, rfl, trivial⟩⟩
      have hn' : 0 < say.num := by simpa using hn
      have hqa := qAV_len q0
      repeat (first | ((with_reducible refine k_move ?_); refine m_move rfl ?_)  | refine x_none rfl ?_  | ((with_reducible refine w_draw mixd ?_ ?_); kernel_rfl))
      (with_reducible refine k_indexAddr ?_)
      refine x_indexAddr_arr tbOk Tryd.underlying35 rfl rfl rfl ⟨by decide, by decide⟩ ?_
      repeat (first | ((with_reducible refine k_load ?_); (first | refine x_load_one tbOk rfl rfl rfl rfl rfl ?_ | refine x_load_agg tbOk rfl rfl rfl rfl (Nat.le_of_ble_eq_true rfl) ?_)) | ((with_reducible refine k_buildSlice ?_); refine m_buildSlice tbOk rfl rfl rfl rfl rfl (by omega) rfl rfl rfl ?_) | refine x_none rfl ?_  )
      refine x_append_qu tbOk hgs rfl rfl rfl rfl rfl (by decide) rfl rfl rfl rfl (Nat.succ_pos _) (fun x hx => by simp at hx; subst hx; rfl) (by simp only [List.length_map, List.length_cons, List.length_nil]; omega) (by simp only [List.length_map, List.length_cons, List.length_nil]; omega) ?_
      repeat (first   | refine x_none rfl ?_  )
      (with_reducible refine k_indexAddr ?_)
      refine x_indexAddr_arr tbOk Tryd.underlying35 rfl rfl rfl ⟨by decide, by decide⟩ ?_
      repeat (first | ((with_reducible refine k_store ?_); refine m_store tbOk rfl rfl rfl rfl rfl rfl rfl (Nat.le_of_ble_eq_true rfl) rfl ?_)  | refine e_drw (by kernel_rfl) ?_ | refine x_none rfl ?_ | with_reducible refine q_then ?_ )
      exact ⟨(X', some (ql q0 ++ [say])), ⟨hM.a he' hn', by show (ql q0 ++ [say]).length ≤ k + 1; rw [List.length_append]; simp only [List.length_cons, List.length_nil]; omega⟩, trivial, ⟨rfl, rfl, rfl, rfl, rfl, rfl, rfl, rfl, trivial⟩, ⟨rfl, rfl, rfl, rfl, qC_snoc _ _ _ _, rfl, trivial⟩⟩
    clear v
    rintro v ⟨X2, O2⟩ ⟨hS2, hO2⟩
    dsimp only at hS2 hO2 ⊢
    have hDk2 := hM.dk
    clear hM
    have hC := hS2
    repeat (first | ((with_reducible refine k_assign ?_); refine m_assign rfl ?_)  | refine e_nrm ?_ | refine x_none rfl ?_ | with_reducible (first | refine q_then ?_ | refine awp_seq ?_ | refine awp_block ?_) | ((with_reducible refine w_region ?_ ?_); kernel_rfl))
    refine awp_loop (ι := Nat) (fun s => s ≤ 2) (fun s => 2 - s) (fun v s => [(5, .ptr 39 (v 39) 0), (6, .ptr 6 (v 6) 0), (8, .ptr 8 (v 8) 0), (9, .ptr 9 (v 9) 0), (10, .v (.int .i64 nx2)), (45, .sl 1 (moves.map wv)), (46, .v (.int .i64 (moves.map wv).length)), (47, .v (.int .i64 (k : Nat))), (21, .v (.int .i64 (s : Nat)))]) (fun v s => [(39, .box D2.cells), (6, .box [.sl 3 (N.map Nd.av), .sl 5 (V.map Dv.av)]), (8, .box [.sl 5 ((X2).map Ce.av), .sl 5 ((L1).map Ce.av)]), (9, .box [.own 900 (v 900), .own 901 (v 901)]), (900, qC 40 5 (qAV O2)), (901, qC 40 5 (qAV I2))]) ?_ ?_
    · exact ⟨0, Nat.zero_le _, trivial, ⟨rfl, rfl, rfl, rfl, rfl, rfl, rfl, rfl, rfl, trivial⟩, ⟨rfl, rfl, rfl, rfl, rfl, rfl, trivial⟩⟩
    clear v
    rintro v s hs
    repeat (first | ((with_reducible refine k_move ?_); refine m_move rfl ?_) | ((with_reducible refine k_bin ?_); refine m_binI rfl rfl rfl ?_)  | refine e_nrm ?_ | refine x_none rfl ?_ | with_reducible (first | refine q_then ?_ | refine awp_seq ?_) | ((with_reducible refine w_region ?_ ?_); kernel_rfl))
    refine w_cond rfl (fun h3 => ?_) (fun h3 => ?_)
    rotate_left
    · repeat (first | ((with_reducible refine k_move ?_); refine m_move rfl ?_) | ((with_reducible refine k_bin ?_); refine x_add_in rfl rfl (by omega) ?_)  | refine e_nrm ?_ | refine x_none rfl ?_ | with_reducible (first | refine q_then ?_ | refine q_then_exit ?_ | refine q_block ?_ | refine awp_exit ?_) | ((with_reducible refine q_block_exit ?_ ?_); rfl) | ((with_reducible refine w_region ?_ ?_); kernel_rfl))
      exact ⟨(k + 1, D2, (X2, L1), (O2, I2), nx2), ⟨hlt, hDk2, hC, by dsimp only; omega, by dsimp only; omega, hMn, by dsimp only; omega⟩, by dsimp only; omega, ⟨rfl, rfl, rfl, rfl, rfl, rfl, rfl, rfl, trivial⟩, ⟨rfl, rfl, rfl, rfl, rfl, rfl, trivial⟩⟩
    have hs2 : s < 2 := by simp at h3; omega
    clear h3
    obtain rfl | rfl : s = 0 ∨ s = 1 := by omega
    · have hal := (hC).len
      repeat (first | ((with_reducible refine k_move ?_); refine m_move rfl ?_)  | refine x_none rfl ?_ | with_reducible (first | refine q_then ?_ | refine awp_seq ?_ | refine awp_block ?_ | refine awp_skip ?_) | ((with_reducible refine w_region ?_ ?_); kernel_rfl))
      (with_reducible refine k_indexAddr ?_)
      refine x_indexAddr_arr tbOk Tryd.underlying35 rfl rfl rfl ⟨by decide, by decide⟩ ?_
      repeat (first | ((with_reducible refine k_move ?_); refine m_move rfl ?_) | ((with_reducible refine k_load ?_); refine x_load_one tbOk rfl rfl rfl rfl rfl ?_) | ((with_reducible refine k_call ?_); refine x_len tbOk rfl rfl ?_)  | refine e_nrm ?_ | refine x_none rfl ?_ | with_reducible (first | refine q_then ?_ | refine awp_block ?_) )
      refine awp_loop (ι := Nat) (fun j => j ≤ (X2).length) (fun j => (X2).length - j) (fun v j => [(5, .ptr 39 (v 39) 0), (6, .ptr 6 (v 6) 0), (8, .ptr 8 (v 8) 0), (9, .ptr 9 (v 9) 0), (10, .v (.int .i64 nx2)), (45, .sl 1 (moves.map wv)), (46, .v (.int .i64 (moves.map wv).length)), (47, .v (.int .i64 (k : Nat))), (21, .v (.int .i64 ((0 : Nat) : Int))), (197, .sl 5 ((X2).map Ce.av)), (198, .v (.int .i64 ((X2).map Ce.av).length)), (199, .v (.int .i64 (j : Nat)))]) (fun v j => [(39, .box D2.cells), (6, .box [.sl 3 (N.map Nd.av), .sl 5 (V.map Dv.av)]), (8, .box [.sl 5 ((X2).map Ce.av), .sl 5 ((L1).map Ce.av)]), (9, .box [.own 900 (v 900), .own 901 (v 901)]), (900, qC 40 5 (qAV O2)), (901, qC 40 5 (qAV I2))]) ?_ ?_
      · exact ⟨0, Nat.zero_le _, trivial, ⟨rfl, rfl, rfl, rfl, rfl, rfl, rfl, rfl, rfl, rfl, rfl, rfl, trivial⟩, ⟨rfl, rfl, rfl, rfl, rfl, rfl, trivial⟩⟩
      clear v
      rintro v j hj
      repeat (first | ((with_reducible refine k_bin ?_); refine m_binI rfl rfl rfl ?_)  | refine e_nrm ?_ | refine x_none rfl ?_ | with_reducible (first | refine q_then ?_ | refine awp_seq ?_) | ((with_reducible refine w_region ?_ ?_); kernel_rfl))
      refine w_cond rfl (fun h4 => ?_) (fun h4 => ?_)
      rotate_left
      · repeat (first | ((with_reducible refine k_move ?_); refine m_move rfl ?_) | ((with_reducible refine k_assign ?_); refine m_assign rfl ?_) | ((with_reducible refine k_bin ?_); refine x_add_in rfl rfl (by omega) ?_)  | refine e_nrm ?_ | refine x_none rfl ?_ | with_reducible (first | refine q_then ?_ | refine q_then_exit ?_ | refine q_block ?_ | refine awp_exit ?_) | ((with_reducible refine q_block_exit ?_ ?_); rfl) | ((with_reducible refine w_region ?_ ?_); kernel_rfl))
        exact ⟨0 + 1, by show 0 + 1 ≤ 2; decide, by show 2 - (0 + 1) < 2 - 0; decide, ⟨rfl, rfl, rfl, rfl, rfl, rfl, rfl, rfl, rfl, trivial⟩, ⟨rfl, rfl, rfl, rfl, rfl, rfl, trivial⟩⟩
      have hjl : j < (X2).length := by simpa using h4
      obtain ⟨c, hc⟩ := some_at hjl
      have hy := ce_at hc
      repeat (first | ((with_reducible refine k_move ?_); refine m_move rfl ?_) | ((with_reducible refine k_fieldAddr ?_); refine x_fieldAddr_ptr tbOk rfl rfl rfl rfl ?_) | ((with_reducible refine k_load ?_); (first | refine x_load_one tbOk rfl rfl rfl rfl rfl ?_ | refine x_load_ep_agg tbOk rfl rfl (Nat.le_of_ble_eq_true rfl) ?_)) | ((with_reducible refine k_store ?_); refine m_store tbOk rfl rfl rfl rfl rfl rfl rfl (Nat.le_of_ble_eq_true rfl) rfl ?_) | ((with_reducible refine k_alloc ?_); refine x_alloc tbOk rfl rfl ?_) | ((with_reducible refine k_indexAddr ?_); refine x_indexAddr_n tbOk rfl rfl rfl rfl (by assumption) ?_) | ((with_reducible refine k_bin ?_); (first | refine x_add_in rfl rfl (by omega) ?_ | refine m_binI rfl rfl rfl ?_))  | refine e_nrm ?_ | refine x_none rfl ?_ | with_reducible (first | refine q_then ?_ | refine awp_seq ?_ | refine awp_block ?_ | refine awp_skip ?_) | ((with_reducible refine w_region ?_ ?_); kernel_rfl))
      refine x_split rfl rfl (fun h5 => ?_) (fun h5 => ?_)
      · repeat (first | ((with_reducible refine k_move ?_); refine m_move rfl ?_) | ((with_reducible refine k_pick ?_); refine m_pickt rfl (by first | rfl | assumption) rfl ?_) | ((with_reducible refine k_bin ?_); refine x_add_in rfl rfl (by omega) ?_)  | refine e_nrm ?_ | refine x_none rfl ?_ | refine x_skip_f rfl rfl (by first | rfl | assumption) ?_ | with_reducible (first | refine q_then ?_ | refine q_then_exit ?_ | refine awp_exit ?_) | ((with_reducible refine q_block_exit ?_ ?_); rfl) | ((with_reducible refine w_region ?_ ?_); kernel_rfl) | refine w_cond_t rfl (by first | rfl | assumption) ?_)
        exact ⟨j + 1, by omega, by omega, ⟨rfl, rfl, rfl, rfl, rfl, rfl, rfl, rfl, rfl, rfl, rfl, rfl, trivial⟩, ⟨rfl, rfl, rfl, rfl, rfl, rfl, trivial⟩⟩
      repeat (first | ((with_reducible refine k_fieldAddr ?_); refine x_fieldAddr_ptr tbOk rfl rfl rfl rfl ?_) | ((with_reducible refine k_load ?_); refine x_load_one tbOk rfl rfl rfl rfl rfl ?_) | ((with_reducible refine k_pick ?_); refine m_pickf rfl (by first | rfl | assumption) rfl ?_) | ((with_reducible refine k_bin ?_); refine m_binI rfl rfl rfl ?_)  | refine e_nrm ?_ | refine x_none rfl ?_ | refine x_run_f rfl rfl (by first | rfl | assumption) ?_ | with_reducible refine q_then ?_ )
      refine w_cond rfl (fun h6 => ?_) (fun h6 => ?_)
      · repeat (first | ((with_reducible refine k_move ?_); refine m_move rfl ?_) | ((with_reducible refine k_bin ?_); refine x_add_in rfl rfl (by omega) ?_)  | refine e_nrm ?_ | refine x_none rfl ?_ | with_reducible (first | refine q_then ?_ | refine q_then_exit ?_ | refine awp_exit ?_) | ((with_reducible refine q_block_exit ?_ ?_); rfl) | ((with_reducible refine w_region ?_ ?_); kernel_rfl))
        exact ⟨j + 1, by omega, by omega, ⟨rfl, rfl, rfl, rfl, rfl, rfl, rfl, rfl, rfl, rfl, rfl, rfl, trivial⟩, ⟨rfl, rfl, rfl, rfl, rfl, rfl, trivial⟩⟩
      have hca : c.ask = 1 := by simpa using h5
      have hcs : c.st = 3 := by simpa using h6
      obtain ⟨i, d, d1, d2, d3, d4, d5⟩ := (hC).safe (List.mem_of_getElem? hc) hca hcs
      have hyd := ce_at d2
      have hbl := (hC).swap.len
      have hff := cfind_A (G := X.G) L1 c.ask c.num (by omega)
      rw [d1] at hff
      have p1 : decide (((i : Nat) : Int) < 0) = false := decide_eq_false (by omega)
      have p2 : (d.st != 2) = false := by rw [d3]; rfl
      have hft := cfits_A (G := X.G) N V d.lk n1 n2 n3 n4 (by omega)
      rw [d4] at hft
      repeat (first | ((with_reducible refine k_move ?_); refine m_move rfl ?_) | ((with_reducible refine k_bin ?_); refine x_sub_in rfl rfl (by omega) ?_)  | refine x_none rfl ?_ | with_reducible (first | refine q_then ?_ | refine awp_seq ?_ | refine awp_skip ?_) | ((with_reducible refine w_draw mixd ?_ ?_); kernel_rfl))
      (with_reducible refine k_indexAddr ?_)
      refine x_indexAddr_arr tbOk Tryd.underlying35 rfl rfl rfl ⟨by decide, by decide⟩ ?_
      repeat (first | ((with_reducible refine k_fieldAddr ?_); refine x_fieldAddr_ptr tbOk rfl rfl rfl rfl ?_) | ((with_reducible refine k_load ?_); refine x_load_one tbOk rfl rfl rfl rfl rfl ?_)  | refine x_none rfl ?_  )
      refine x_call0 (hff) (by repeat' (first | exact trivial | exact Ren.v _ | exact Ren.sl _ _ | refine ⟨?_, ?_⟩)) (by repeat' exact RenB.v _) ?_
      repeat (first | ((with_reducible refine k_move ?_); refine m_move rfl ?_) | ((with_reducible refine k_assign ?_); refine m_assign rfl ?_) | ((with_reducible refine k_bin ?_); (first | refine x_sub_in rfl rfl (by omega) ?_ | refine m_binI rfl rfl rfl ?_))  | refine e_drw (by kernel_rfl) ?_ | refine x_none rfl ?_ | refine x_run_f rfl rfl (by first | rfl | assumption) ?_ | with_reducible (first | refine q_then ?_ | refine awp_seq ?_) | ((with_reducible refine w_draw mixd ?_ ?_); kernel_rfl))
      (with_reducible refine k_indexAddr ?_)
      refine x_indexAddr_arr tbOk Tryd.underlying35 rfl rfl rfl ⟨by decide, by decide⟩ ?_
      repeat (first | ((with_reducible refine k_move ?_); refine m_move rfl ?_) | ((with_reducible refine k_fieldAddr ?_); refine x_fieldAddr_ep tbOk rfl rfl rfl rfl ?_) | ((with_reducible refine k_load ?_); (first | refine x_load_one tbOk rfl rfl rfl rfl rfl ?_ | refine x_load_agg tbOk rfl rfl rfl rfl (Nat.le_of_ble_eq_true rfl) ?_ | refine x_load_ep_one tbOk rfl rfl rfl ?_)) | ((with_reducible refine k_pick ?_); refine m_pickf rfl (by first | rfl | assumption) rfl ?_) | ((with_reducible refine k_indexAddr ?_); refine x_indexAddr_n tbOk rfl rfl rfl rfl (by assumption) ?_) | ((with_reducible refine k_bin ?_); (first | refine x_sub_in rfl rfl (by omega) ?_ | refine m_binI rfl rfl rfl ?_))  | refine x_none rfl ?_ | refine x_run_f rfl rfl (by first | rfl | assumption) ?_  )
      (with_reducible refine k_indexAddr ?_)
      refine x_indexAddr_arr tbOk Tryd.underlying35 rfl rfl rfl ⟨by decide, by decide⟩ ?_
      repeat (first | ((with_reducible refine k_move ?_); refine m_move rfl ?_) | ((with_reducible refine k_fieldAddr ?_); refine x_fieldAddr_ep tbOk rfl rfl rfl rfl ?_) | ((with_reducible refine k_load ?_); (first | refine x_load_one tbOk rfl rfl rfl rfl rfl ?_ | refine x_load_ep_one tbOk rfl rfl rfl ?_)) | ((with_reducible refine k_indexAddr ?_); refine x_indexAddr_n tbOk rfl rfl rfl rfl (by assumption) ?_)  | refine x_run_f rfl rfl (by first | rfl | assumption) ?_  )
      refine x_call0 (hft) (by repeat' (first | exact trivial | exact Ren.sl _ _ | refine ren_ag ?_ | refine ⟨?_, ?_⟩)) (by repeat' exact RenB.v _) ?_
      repeat (first | ((with_reducible refine k_move ?_); refine m_move rfl ?_) | ((with_reducible refine k_un ?_); refine x_not rfl ?_) | ((with_reducible refine k_pick ?_); refine m_pickf rfl (by first | rfl | assumption) rfl ?_) | ((with_reducible refine k_bin ?_); refine x_add_in rfl rfl (by omega) ?_)  | refine e_nrm ?_ | refine e_drw (by kernel_rfl) ?_ | refine x_none rfl ?_ | refine x_run_f rfl rfl (by first | rfl | assumption) ?_ | with_reducible (first | refine q_then ?_ | refine q_block ?_ | refine awp_skip ?_) | ((with_reducible refine w_region ?_ ?_); kernel_rfl) | refine w_cond_f rfl (by first | rfl | assumption) ?_)
      exact ⟨j + 1, by omega, by omega, ⟨rfl, rfl, rfl, rfl, rfl, rfl, rfl, rfl, rfl, rfl, rfl, rfl, trivial⟩, ⟨rfl, rfl, rfl, rfl, rfl, rfl, trivial⟩⟩
    · have hal := (hC.swap).len
      repeat (first | ((with_reducible refine k_move ?_); refine m_move rfl ?_)  | refine x_none rfl ?_ | with_reducible (first | refine q_then ?_ | refine awp_seq ?_ | refine awp_block ?_ | refine awp_skip ?_) | ((with_reducible refine w_region ?_ ?_); kernel_rfl))
      (with_reducible refine k_indexAddr ?_)
      refine x_indexAddr_arr tbOk Tryd.underlying35 rfl rfl rfl ⟨by decide, by decide⟩ ?_
      repeat (first | ((with_reducible refine k_move ?_); refine m_move rfl ?_) | ((with_reducible refine k_load ?_); refine x_load_one tbOk rfl rfl rfl rfl rfl ?_) | ((with_reducible refine k_call ?_); refine x_len tbOk rfl rfl ?_)  | refine e_nrm ?_ | refine x_none rfl ?_ | with_reducible (first | refine q_then ?_ | refine awp_block ?_) )
      refine awp_loop (ι := Nat) (fun j => j ≤ (L1).length) (fun j => (L1).length - j) (fun v j => [(5, .ptr 39 (v 39) 0), (6, .ptr 6 (v 6) 0), (8, .ptr 8 (v 8) 0), (9, .ptr 9 (v 9) 0), (10, .v (.int .i64 nx2)), (45, .sl 1 (moves.map wv)), (46, .v (.int .i64 (moves.map wv).length)), (47, .v (.int .i64 (k : Nat))), (21, .v (.int .i64 ((1 : Nat) : Int))), (197, .sl 5 ((L1).map Ce.av)), (198, .v (.int .i64 ((L1).map Ce.av).length)), (199, .v (.int .i64 (j : Nat)))]) (fun v j => [(39, .box D2.cells), (6, .box [.sl 3 (N.map Nd.av), .sl 5 (V.map Dv.av)]), (8, .box [.sl 5 ((X2).map Ce.av), .sl 5 ((L1).map Ce.av)]), (9, .box [.own 900 (v 900), .own 901 (v 901)]), (900, qC 40 5 (qAV O2)), (901, qC 40 5 (qAV I2))]) ?_ ?_
      · exact ⟨0, Nat.zero_le _, trivial, ⟨rfl, rfl, rfl, rfl, rfl, rfl, rfl, rfl, rfl, rfl, rfl, rfl, trivial⟩, ⟨rfl, rfl, rfl, rfl, rfl, rfl, trivial⟩⟩
      clear v
      rintro v j hj
      repeat (first | ((with_reducible refine k_bin ?_); refine m_binI rfl rfl rfl ?_)  | refine e_nrm ?_ | refine x_none rfl ?_ | with_reducible (first | refine q_then ?_ | refine awp_seq ?_) | ((with_reducible refine w_region ?_ ?_); kernel_rfl))
      refine w_cond rfl (fun h4 => ?_) (fun h4 => ?_)
      rotate_left
      · repeat (first | ((with_reducible refine k_move ?_); refine m_move rfl ?_) | ((with_reducible refine k_assign ?_); refine m_assign rfl ?_) | ((with_reducible refine k_bin ?_); refine x_add_in rfl rfl (by omega) ?_)  | refine e_nrm ?_ | refine x_none rfl ?_ | with_reducible (first | refine q_then ?_ | refine q_then_exit ?_ | refine q_block ?_ | refine awp_exit ?_) | ((with_reducible refine q_block_exit ?_ ?_); rfl) | ((with_reducible refine w_region ?_ ?_); kernel_rfl))
        exact ⟨1 + 1, by show 1 + 1 ≤ 2; decide, by show 2 - (1 + 1) < 2 - 1; decide, ⟨rfl, rfl, rfl, rfl, rfl, rfl, rfl, rfl, rfl, trivial⟩, ⟨rfl, rfl, rfl, rfl, rfl, rfl, trivial⟩⟩
      have hjl : j < (L1).length := by simpa using h4
      obtain ⟨c, hc⟩ := some_at hjl
      have hy := ce_at hc
      repeat (first | ((with_reducible refine k_move ?_); refine m_move rfl ?_) | ((with_reducible refine k_fieldAddr ?_); refine x_fieldAddr_ptr tbOk rfl rfl rfl rfl ?_) | ((with_reducible refine k_load ?_); (first | refine x_load_one tbOk rfl rfl rfl rfl rfl ?_ | refine x_load_ep_agg tbOk rfl rfl (Nat.le_of_ble_eq_true rfl) ?_)) | ((with_reducible refine k_store ?_); refine m_store tbOk rfl rfl rfl rfl rfl rfl rfl (Nat.le_of_ble_eq_true rfl) rfl ?_) | ((with_reducible refine k_alloc ?_); refine x_alloc tbOk rfl rfl ?_) | ((with_reducible refine k_indexAddr ?_); refine x_indexAddr_n tbOk rfl rfl rfl rfl (by assumption) ?_) | ((with_reducible refine k_bin ?_); (first | refine x_add_in rfl rfl (by omega) ?_ | refine m_binI rfl rfl rfl ?_))  | refine e_nrm ?_ | refine x_none rfl ?_ | with_reducible (first | refine q_then ?_ | refine awp_seq ?_ | refine awp_block ?_ | refine awp_skip ?_) | ((with_reducible refine w_region ?_ ?_); kernel_rfl))
      refine x_split rfl rfl (fun h5 => ?_) (fun h5 => ?_)
      · repeat (first | ((with_reducible refine k_move ?_); refine m_move rfl ?_) | ((with_reducible refine k_pick ?_); refine m_pickt rfl (by first | rfl | assumption) rfl ?_) | ((with_reducible refine k_bin ?_); refine x_add_in rfl rfl (by omega) ?_)  | refine e_nrm ?_ | refine x_none rfl ?_ | refine x_skip_f rfl rfl (by first | rfl | assumption) ?_ | with_reducible (first | refine q_then ?_ | refine q_then_exit ?_ | refine awp_exit ?_) | ((with_reducible refine q_block_exit ?_ ?_); rfl) | ((with_reducible refine w_region ?_ ?_); kernel_rfl) | refine w_cond_t rfl (by first | rfl | assumption) ?_)
        exact ⟨j + 1, by omega, by omega, ⟨rfl, rfl, rfl, rfl, rfl, rfl, rfl, rfl, rfl, rfl, rfl, rfl, trivial⟩, ⟨rfl, rfl, rfl, rfl, rfl, rfl, trivial⟩⟩
      repeat (first | ((with_reducible refine k_fieldAddr ?_); refine x_fieldAddr_ptr tbOk rfl rfl rfl rfl ?_) | ((with_reducible refine k_load ?_); refine x_load_one tbOk rfl rfl rfl rfl rfl ?_) | ((with_reducible refine k_pick ?_); refine m_pickf rfl (by first | rfl | assumption) rfl ?_) | ((with_reducible refine k_bin ?_); refine m_binI rfl rfl rfl ?_)  | refine e_nrm ?_ | refine x_none rfl ?_ | refine x_run_f rfl rfl (by first | rfl | assumption) ?_ | with_reducible refine q_then ?_ )
      refine w_cond rfl (fun h6 => ?_) (fun h6 => ?_)
      · repeat (first | ((with_reducible refine k_move ?_); refine m_move rfl ?_) | ((with_reducible refine k_bin ?_); refine x_add_in rfl rfl (by omega) ?_)  | refine e_nrm ?_ | refine x_none rfl ?_ | with_reducible (first | refine q_then ?_ | refine q_then_exit ?_ | refine awp_exit ?_) | ((with_reducible refine q_block_exit ?_ ?_); rfl) | ((with_reducible refine w_region ?_ ?_); kernel_rfl))
        exact ⟨j + 1, by omega, by omega, ⟨rfl, rfl, rfl, rfl, rfl, rfl, rfl, rfl, rfl, rfl, rfl, rfl, trivial⟩, ⟨rfl, rfl, rfl, rfl, rfl, rfl, trivial⟩⟩
      have hca : c.ask = 2 := by simpa using h5
      have hcs : c.st = 3 := by simpa using h6
      obtain ⟨i, d, d1, d2, d3, d4, d5⟩ := (hC.swap).safe (List.mem_of_getElem? hc) hca hcs
      have hyd := ce_at d2
      have hbl := (hC.swap).swap.len
      have hff := cfind_A (G := X.G) X2 c.ask c.num (by omega)
      rw [d1] at hff
      have p1 : decide (((i : Nat) : Int) < 0) = false := decide_eq_false (by omega)
      have p2 : (d.st != 2) = false := by rw [d3]; rfl
      have hft := cfits_A (G := X.G) N V d.lk n1 n2 n3 n4 (by omega)
      rw [d4] at hft
      repeat (first | ((with_reducible refine k_move ?_); refine m_move rfl ?_) | ((with_reducible refine k_bin ?_); refine x_sub_in rfl rfl (by omega) ?_)  | refine x_none rfl ?_ | with_reducible (first | refine q_then ?_ | refine awp_seq ?_ | refine awp_skip ?_) | ((with_reducible refine w_draw mixd ?_ ?_); kernel_rfl))
      (with_reducible refine k_indexAddr ?_)
      refine x_indexAddr_arr tbOk Tryd.underlying35 rfl rfl rfl ⟨by decide, by decide⟩ ?_
      repeat (first | ((with_reducible refine k_fieldAddr ?_); refine x_fieldAddr_ptr tbOk rfl rfl rfl rfl ?_) | ((with_reducible refine k_load ?_); refine x_load_one tbOk rfl rfl rfl rfl rfl ?_)  | refine x_none rfl ?_  )
      refine x_call0 (hff) (by repeat' (first | exact trivial | exact Ren.v _ | exact Ren.sl _ _ | refine ⟨?_, ?_⟩)) (by repeat' exact RenB.v _) ?_
      repeat (first | ((with_reducible refine k_move ?_); refine m_move rfl ?_) | ((with_reducible refine k_assign ?_); refine m_assign rfl ?_) | ((with_reducible refine k_bin ?_); (first | refine x_sub_in rfl rfl (by omega) ?_ | refine m_binI rfl rfl rfl ?_))  | refine e_drw (by kernel_rfl) ?_ | refine x_none rfl ?_ | refine x_run_f rfl rfl (by first | rfl | assumption) ?_ | with_reducible (first | refine q_then ?_ | refine awp_seq ?_) | ((with_reducible refine w_draw mixd ?_ ?_); kernel_rfl))
      (with_reducible refine k_indexAddr ?_)
      refine x_indexAddr_arr tbOk Tryd.underlying35 rfl rfl rfl ⟨by decide, by decide⟩ ?_
      repeat (first | ((with_reducible refine k_move ?_); refine m_move rfl ?_) | ((with_reducible refine k_fieldAddr ?_); refine x_fieldAddr_ep tbOk rfl rfl rfl rfl ?_) | ((with_reducible refine k_load ?_); (first | refine x_load_one tbOk rfl rfl rfl rfl rfl ?_ | refine x_load_agg tbOk rfl rfl rfl rfl (Nat.le_of_ble_eq_true rfl) ?_ | refine x_load_ep_one tbOk rfl rfl rfl ?_)) | ((with_reducible refine k_pick ?_); refine m_pickf rfl (by first | rfl | assumption) rfl ?_) | ((with_reducible refine k_indexAddr ?_); refine x_indexAddr_n tbOk rfl rfl rfl rfl (by assumption) ?_) | ((with_reducible refine k_bin ?_); (first | refine x_sub_in rfl rfl (by omega) ?_ | refine m_binI rfl rfl rfl ?_))  | refine x_none rfl ?_ | refine x_run_f rfl rfl (by first | rfl | assumption) ?_  )
      (with_reducible refine k_indexAddr ?_)
      refine x_indexAddr_arr tbOk Tryd.underlying35 rfl rfl rfl ⟨by decide, by decide⟩ ?_
      repeat (first | ((with_reducible refine k_move ?_); refine m_move rfl ?_) | ((with_reducible refine k_fieldAddr ?_); refine x_fieldAddr_ep tbOk rfl rfl rfl rfl ?_) | ((with_reducible refine k_load ?_); (first | refine x_load_one tbOk rfl rfl rfl rfl rfl ?_ | refine x_load_ep_one tbOk rfl rfl rfl ?_)) | ((with_reducible refine k_indexAddr ?_); refine x_indexAddr_n tbOk rfl rfl rfl rfl (by assumption) ?_)  | refine x_run_f rfl rfl (by first | rfl | assumption) ?_  )
      refine x_call0 (hft) (by repeat' (first | exact trivial | exact Ren.sl _ _ | refine ren_ag ?_ | refine ⟨?_, ?_⟩)) (by repeat' exact RenB.v _) ?_
      repeat (first | ((with_reducible refine k_move ?_); refine m_move rfl ?_) | ((with_reducible refine k_un ?_); refine x_not rfl ?_) | ((with_reducible refine k_pick ?_); refine m_pickf rfl (by first | rfl | assumption) rfl ?_) | ((with_reducible refine k_bin ?_); refine x_add_in rfl rfl (by omega) ?_)  | refine e_nrm ?_ | refine e_drw (by kernel_rfl) ?_ | refine x_none rfl ?_ | refine x_run_f rfl rfl (by first | rfl | assumption) ?_ | with_reducible (first | refine q_then ?_ | refine q_block ?_ | refine awp_skip ?_) | ((with_reducible refine w_region ?_ ?_); kernel_rfl) | refine w_cond_f rfl (by first | rfl | assumption) ?_)
      exact ⟨j + 1, by omega, by omega, ⟨rfl, rfl, rfl, rfl, rfl, rfl, rfl, rfl, rfl, rfl, rfl, rfl, trivial⟩, ⟨rfl, rfl, rfl, rfl, rfl, rfl, trivial⟩⟩
  · replace hS := hS.swap
    rw [hside]
    repeat (first | fail    )
    (with_reducible refine k_indexAddr ?_)
    refine x_indexAddr_arr tbOk Tryd.underlying35 rfl rfl rfl ⟨by decide, by decide⟩ ?_
    repeat (first | ((with_reducible refine k_move ?_); refine m_move rfl ?_) | ((with_reducible refine k_assign ?_); refine m_assign rfl ?_) | ((with_reducible refine k_load ?_); refine x_load_one tbOk rfl rfl rfl rfl rfl ?_) | ((with_reducible refine k_alloc ?_); refine x_alloc tbOk rfl rfl ?_) | ((with_reducible refine k_bin ?_); (first | refine m_binI rfl rfl rfl ?_ | refine x_rem rfl rfl (by first | decide | assumption | omega) ?_ | refine x_quo rfl rfl (by first | decide | assumption | omega) ?_))  | refine e_nrm ?_ | refine x_none rfl ?_ | with_reducible (first | refine q_then ?_ | refine awp_seq ?_ | refine awp_block ?_) | ((with_reducible refine w_region ?_ ?_); kernel_rfl))
    obtain ⟨kk, hkk⟩ : ∃ q, q = (IntKind.i64.wrap (IntKind.u16.wrap (z.tdiv 16))).tmod (nx + 1) := ⟨_, rfl⟩
    obtain ⟨mm, hmm⟩ : ∃ q, q = (IntKind.u16.wrap (z.tdiv 2)).tmod 6 := ⟨_, rfl⟩
    rw [← hkk, ← hmm]
    clear hkk hmm hside
    have hSl := hS.len
    have hSm := hS.max
    refine awp_box [.v (.int .i64 0), .v (.int .i64 0), .v (.int .i64 0), .v (.int .i64 0), .sl 3 []] (s := 17) (k := v 17 + 1) rfl ⟨.inl rfl, .inl rfl, .inl rfl, .inl rfl, .inr ⟨rfl, 3, rfl⟩, trivial⟩ ?_
    refine awp_viaB (ι := Dk × List Ce × Int × Ce × Option (List Ce) × Int) (fun _ i => Mv N V 2 1 L1 L0 (ql q1) k i.1 i.2.1 i.2.2.1 i.2.2.2.1 (ql i.2.2.2.2.1) i.2.2.2.2.2) (fun v i => [(5, .ptr 39 (v 39) 0), (6, .ptr 6 (v 6) 0), (8, .ptr 8 (v 8) 0), (9, .ptr 9 (v 9) 0), (10, .v (.int .i64 i.2.2.2.2.2)), (13, .v (.int .i64 1)), (15, .sl 5 (i.2.1.map Ce.av)), (16, .v (.int .i64 i.2.2.1)), (17, .ptr 17 (v 17) 0), (45, .sl 1 (moves.map wv)), (46, .v (.int .i64 (moves.map wv).length)), (47, .v (.int .i64 (k : Nat)))]) (fun v i => [(39, .box i.1.cells), (6, .box [.sl 3 (N.map Nd.av), .sl 5 (V.map Dv.av)]), (8, .box [.sl 5 ((L0).map Ce.av), .sl 5 ((L1).map Ce.av)]), (9, .box [.own 900 (v 900), .own 901 (v 901)]), (901, qC 40 5 (qAV q1)), (900, qC 40 5 (qAV i.2.2.2.2.1)), (17, .box i.2.2.2.1.av.cells)]) ?_ ?_
    · refine w_cond rfl (fun h0 => ?_) (fun h0 => ?_)
      · have hC := cert_A (G := X.G) D N V hDk n1 n2 n3 v0 v64
        obtain ⟨hE, hCl⟩ := certP_ok (N := N) (V := V) hDk
        obtain ⟨⟨E, c0⟩, hq⟩ : ∃ q, q = certP N V D := ⟨_, rfl⟩
        rw [← hq] at hC hE hCl
        dsimp only at hC hE hCl
        clear hq
        have hask := ask_A (G := X.G) N V L1 2 ⟨nx, c0.ask, c0.giv, 1, c0.lk⟩ hG n1 n2 n3 n4 hSm (by show c0.lk.length ≤ 900; omega) (by omega)
        obtain ⟨⟨X', e⟩, hres⟩ : ∃ q, q = askC N V L1 2 ⟨nx, c0.ask, c0.giv, 1, c0.lk⟩ := ⟨_, rfl⟩
        rw [← hres] at hask
        dsimp only at hask
        repeat (first | ((with_reducible refine k_move ?_); refine m_move rfl ?_) | ((with_reducible refine k_load ?_); refine x_load_agg tbOk rfl rfl rfl rfl (Nat.le_of_ble_eq_true rfl) ?_)  | refine x_none rfl ?_ | with_reducible refine awp_seq ?_ | ((with_reducible refine w_region ?_ ?_); kernel_rfl))
        refine x_call (y := c0.av) (ss := [(39, v 39)]) (hC) (by repeat' (first | exact trivial | exact Ren.sl _ _ | exact Ren.ptr _ _ _ _ rfl | refine ren_ag ?_ | refine ⟨?_, ?_⟩)) (by simp) (in1 rfl rfl) rfl (back1 rfl) (by repeat' (first | exact trivial | exact RenB.v _ | exact RenB.sl _ _ | refine renb_ag ?_ | refine ⟨?_, ?_⟩)) ?_
        repeat (first | ((with_reducible refine k_move ?_); refine m_move rfl ?_) | ((with_reducible refine k_fieldAddr ?_); refine x_fieldAddr_ptr tbOk rfl rfl rfl rfl ?_) | ((with_reducible refine k_load ?_); refine x_load_agg tbOk rfl rfl rfl rfl (Nat.le_of_ble_eq_true rfl) ?_) | ((with_reducible refine k_store ?_); refine m_store tbOk rfl rfl rfl rfl rfl rfl rfl (Nat.le_of_ble_eq_true rfl) rfl ?_) | ((with_reducible refine k_bin ?_); refine x_add_in rfl rfl (by omega) ?_)  | refine e_nrm ?_ | refine x_none rfl ?_ | with_reducible (first | refine q_then ?_ | refine awp_seq ?_) | ((with_reducible refine w_region ?_ ?_); kernel_rfl))
        refine x_call0 (hask) (by repeat' (first | exact trivial | exact Ren.v _ | exact Ren.sl _ _ | refine ren_ag ?_ | refine ⟨?_, ?_⟩)) (by repeat' (first | exact trivial | exact RenB.v _ | exact RenB.sl _ _ | refine renb_tu ?_ | refine ⟨?_, ?_⟩)) ?_
        repeat (first | ((with_reducible refine k_move ?_); refine m_move rfl ?_) | ((with_reducible refine k_assign ?_); refine m_assign rfl ?_) | ((with_reducible refine k_extract ?_); refine x_extract rfl rfl ?_) | ((with_reducible refine k_bin ?_); refine x_add_in rfl rfl (by omega) ?_)  | refine e_nrm ?_ | refine x_none rfl ?_ | with_reducible (first | refine q_then ?_ | refine q_block ?_) | ((with_reducible refine w_region ?_ ?_); kernel_rfl))
        have hok : Mv N V 2 1 L1 L0 (ql q1) k E X' e ⟨nx, c0.ask, c0.giv, 1, c0.lk⟩ (ql q0) (nx + 1) := ⟨hE, fun he _ => by
          subst he
          exact hS.ask hres.symm rfl hCl, fun _ hn => absurd (show 0 < nx by omega) hn, fun _ => hS.next, hq0, by omega, by omega⟩
        exact ⟨(E, X', e, ⟨nx, c0.ask, c0.giv, 1, c0.lk⟩, q0, nx + 1), hok, trivial, ⟨rfl, rfl, rfl, rfl, rfl, rfl, rfl, rfl, rfl, rfl, rfl, rfl, trivial⟩, ⟨rfl, rfl, rfl, rfl, rfl, rfl, rfl, trivial⟩⟩
      repeat (first | ((with_reducible refine k_assign ?_); refine m_assign rfl ?_) | ((with_reducible refine k_bin ?_); refine m_binI rfl rfl rfl ?_)  | refine e_nrm ?_ | refine x_none rfl ?_ | with_reducible (first | refine q_then ?_ | refine awp_seq ?_) | ((with_reducible refine w_region ?_ ?_); kernel_rfl))
      refine w_cond rfl (fun h1 => ?_) (fun h1 => ?_)
      · have hf := cfind_A (G := X.G) L1 1 kk (by omega)
        have hgv := give_A (G := X.G) N V L1 2 1 kk hG n1 n2 n3 n4 hSm (by omega)
        obtain ⟨⟨X', e⟩, hres⟩ : ∃ q, q = giveC N V L1 2 1 kk := ⟨_, rfl⟩
        rw [← hres] at hgv
        dsimp only at hgv
        repeat (first | ((with_reducible refine k_move ?_); refine m_move rfl ?_) | ((with_reducible refine k_bin ?_); refine x_sub_in rfl rfl (by omega) ?_)  | refine x_none rfl ?_ | with_reducible refine awp_seq ?_ | ((with_reducible refine w_region ?_ ?_); kernel_rfl))
        refine x_call0 (hf) (by repeat' (first | exact trivial | exact Ren.v _ | exact Ren.sl _ _ | refine ⟨?_, ?_⟩)) (by repeat' exact RenB.v _) ?_
        repeat (first | ((with_reducible refine k_move ?_); refine m_move rfl ?_) | ((with_reducible refine k_assign ?_); refine m_assign rfl ?_) | ((with_reducible refine k_load ?_); refine x_load_agg tbOk rfl rfl rfl rfl (Nat.le_of_ble_eq_true rfl) ?_) | ((with_reducible refine k_bin ?_); (first | refine x_add_in rfl rfl (by omega) ?_ | refine x_sub_in rfl rfl (by omega) ?_))  | refine e_nrm ?_ | refine x_none rfl ?_ | with_reducible (first | refine q_then ?_ | refine awp_seq ?_) | ((with_reducible refine w_region ?_ ?_); kernel_rfl))
        refine x_call0 (hgv) (by repeat' (first | exact trivial | exact Ren.v _ | exact Ren.sl _ _ | refine ren_ag ?_ | refine ⟨?_, ?_⟩)) (by repeat' (first | exact trivial | exact RenB.v _ | exact RenB.sl _ _ | refine renb_tu ?_ | refine ⟨?_, ?_⟩)) ?_
        by_cases hfi : 0 ≤ findC L1 1 kk
        · obtain ⟨j, y, e1, e2, e3, e4, e5⟩ := find_at' hfi
          have hyj := ce_at e2
          have hge : decide (findC L1 1 kk ≥ 0) = true := decide_eq_true hfi
          have hyn := (hS.vx.ok (List.mem_of_getElem? e2)).num
          have hyes : e = 0 → Sd N V 2 1 X' L0 (ql q1 ++ [stC y 2]) (ql q0) nx := fun he => by
            subst he
            obtain ⟨j2, y2, f1, f2, -, f4, f5, -, f6, f7⟩ := give_ok hres.symm; obtain rfl : j2 = j := (by omega); rw [e2] at f2; injection f2 with f2; subst f2; rw [f7]; exact hS.give e2 f4 f6
          have hok : Mv N V 2 1 L1 L0 (ql q1) k D X' e (stC y 2) (ql q0) nx := ⟨hDk, fun he _ => hyes he, fun he hn => absurd (show 0 < y.num by omega) hn, fun _ => hS, hq0, hx1, by omega⟩
          rw [e1] at hge ⊢
          repeat (first | ((with_reducible refine k_move ?_); refine m_move rfl ?_) | ((with_reducible refine k_assign ?_); refine m_assign rfl ?_) | ((with_reducible refine k_extract ?_); refine x_extract rfl rfl ?_) | ((with_reducible refine k_bin ?_); refine m_binI rfl rfl rfl ?_)  | refine e_nrm ?_ | refine x_none rfl ?_ | with_reducible (first | refine q_then ?_ | refine awp_seq ?_) | ((with_reducible refine w_region ?_ ?_); kernel_rfl) | refine w_cond_t rfl (by first | rfl | assumption) ?_)
          (with_reducible refine k_indexAddr ?_)
          refine x_indexAddr_arr tbOk Tryd.underlying35 rfl rfl rfl ⟨by decide, by decide⟩ ?_
          repeat (first | ((with_reducible refine k_move ?_); refine m_move rfl ?_) | ((with_reducible refine k_fieldAddr ?_); refine x_fieldAddr_ptr tbOk rfl rfl rfl rfl ?_) | ((with_reducible refine k_load ?_); (first | refine x_load_one tbOk rfl rfl rfl rfl rfl ?_ | refine x_load_ep_agg tbOk rfl rfl (Nat.le_of_ble_eq_true rfl) ?_)) | ((with_reducible refine k_store ?_); refine m_store tbOk rfl rfl rfl rfl rfl rfl rfl (Nat.le_of_ble_eq_true rfl) rfl ?_) | ((with_reducible refine k_indexAddr ?_); refine x_indexAddr_n tbOk rfl rfl rfl rfl (by assumption) ?_)  | refine e_nrm ?_ | refine x_none rfl ?_ | with_reducible (first | refine q_then ?_ | refine q_block ?_) | ((with_reducible refine w_region ?_ ?_); kernel_rfl))
          exact ⟨(D, X', e, stC y 2, q0, nx), hok, trivial, ⟨rfl, rfl, rfl, rfl, rfl, rfl, rfl, rfl, rfl, rfl, rfl, rfl, trivial⟩, ⟨rfl, rfl, rfl, rfl, rfl, rfl, rfl, trivial⟩⟩
        · have hge : decide (findC L1 1 kk ≥ 0) = false := decide_eq_false hfi
          have hz : e ≠ 0 := fun he => by
            subst he
            obtain ⟨j, y, e1, -⟩ := give_ok hres.symm
            omega
          have hok : Mv N V 2 1 L1 L0 (ql q1) k D X' e cz (ql q0) nx := ⟨hDk, fun he => absurd he hz, fun he => absurd he hz, fun _ => hS, hq0, hx1, by omega⟩
          repeat (first | ((with_reducible refine k_move ?_); refine m_move rfl ?_) | ((with_reducible refine k_assign ?_); refine m_assign rfl ?_) | ((with_reducible refine k_extract ?_); refine x_extract rfl rfl ?_) | ((with_reducible refine k_bin ?_); refine m_binI rfl rfl rfl ?_)  | refine e_nrm ?_ | refine x_none rfl ?_ | with_reducible (first | refine q_then ?_ | refine q_block ?_ | refine awp_seq ?_ | refine awp_skip ?_) | ((with_reducible refine w_region ?_ ?_); kernel_rfl) | refine w_cond_f rfl (by first | rfl | assumption) ?_)
          exact ⟨(D, X', e, cz, q0, nx), hok, trivial, ⟨rfl, rfl, rfl, rfl, rfl, rfl, rfl, rfl, rfl, rfl, rfl, rfl, trivial⟩, ⟨rfl, rfl, rfl, rfl, rfl, rfl, rfl, trivial⟩⟩
      repeat (first | ((with_reducible refine k_assign ?_); refine m_assign rfl ?_) | ((with_reducible refine k_bin ?_); refine m_binI rfl rfl rfl ?_)  | refine e_nrm ?_ | refine x_none rfl ?_ | with_reducible (first | refine q_then ?_ | refine awp_seq ?_) | ((with_reducible refine w_region ?_ ?_); kernel_rfl))
      refine w_cond rfl (fun h2 => ?_) (fun h2 => ?_)
      · have hf := cfind_A (G := X.G) L1 2 kk (by omega)
        have hgv := back_A (G := X.G) N V L1 2 kk hG n1 n2 n3 n4 hSm (by omega)
        obtain ⟨⟨X', e⟩, hres⟩ : ∃ q, q = backC N V L1 2 kk := ⟨_, rfl⟩
        rw [← hres] at hgv
        dsimp only at hgv
        repeat (first | ((with_reducible refine k_move ?_); refine m_move rfl ?_) | ((with_reducible refine k_bin ?_); refine x_add_in rfl rfl (by omega) ?_)  | refine x_none rfl ?_ | with_reducible refine awp_seq ?_ | ((with_reducible refine w_region ?_ ?_); kernel_rfl))
        refine x_call0 (hf) (by repeat' (first | exact trivial | exact Ren.v _ | exact Ren.sl _ _ | refine ⟨?_, ?_⟩)) (by repeat' exact RenB.v _) ?_
        repeat (first | ((with_reducible refine k_move ?_); refine m_move rfl ?_) | ((with_reducible refine k_assign ?_); refine m_assign rfl ?_) | ((with_reducible refine k_load ?_); refine x_load_agg tbOk rfl rfl rfl rfl (Nat.le_of_ble_eq_true rfl) ?_) | ((with_reducible refine k_bin ?_); refine x_add_in rfl rfl (by omega) ?_)  | refine e_nrm ?_ | refine x_none rfl ?_ | with_reducible (first | refine q_then ?_ | refine awp_seq ?_) | ((with_reducible refine w_region ?_ ?_); kernel_rfl))
        refine x_call0 (hgv) (by repeat' (first | exact trivial | exact Ren.v _ | exact Ren.sl _ _ | refine ren_ag ?_ | refine ⟨?_, ?_⟩)) (by repeat' (first | exact trivial | exact RenB.v _ | exact RenB.sl _ _ | refine renb_tu ?_ | refine ⟨?_, ?_⟩)) ?_
        by_cases hfi : 0 ≤ findC L1 2 kk
        · obtain ⟨j, y, e1, e2, e3, e4, e5⟩ := find_at' hfi
          have hyj := ce_at e2
          have hge : decide (findC L1 2 kk ≥ 0) = true := decide_eq_true hfi
          have hyn := (hS.vx.ok (List.mem_of_getElem? e2)).num
          have hyes : e = 0 → Sd N V 2 1 X' L0 (ql q1 ++ [stC y 4]) (ql q0) nx := fun he => by
            subst he
            obtain ⟨j2, y2, f1, f2, -, f4, f5, f6, f7⟩ := back_ok hres.symm; obtain rfl : j2 = j := (by omega); rw [e2] at f2; injection f2 with f2; subst f2; rw [f7]; exact hS.back e2 f4
          have hok : Mv N V 2 1 L1 L0 (ql q1) k D X' e (stC y 4) (ql q0) nx := ⟨hDk, fun he _ => hyes he, fun he hn => absurd (show 0 < y.num by omega) hn, fun _ => hS, hq0, hx1, by omega⟩
          rw [e1] at hge ⊢
          repeat (first | ((with_reducible refine k_move ?_); refine m_move rfl ?_) | ((with_reducible refine k_assign ?_); refine m_assign rfl ?_) | ((with_reducible refine k_extract ?_); refine x_extract rfl rfl ?_) | ((with_reducible refine k_bin ?_); refine m_binI rfl rfl rfl ?_)  | refine e_nrm ?_ | refine x_none rfl ?_ | with_reducible (first | refine q_then ?_ | refine awp_seq ?_) | ((with_reducible refine w_region ?_ ?_); kernel_rfl) | refine w_cond_t rfl (by first | rfl | assumption) ?_)
          (with_reducible refine k_indexAddr ?_)
          refine x_indexAddr_arr tbOk Tryd.underlying35 rfl rfl rfl ⟨by decide, by decide⟩ ?_
          repeat (first | ((with_reducible refine k_move ?_); refine m_move rfl ?_) | ((with_reducible refine k_fieldAddr ?_); refine x_fieldAddr_ptr tbOk rfl rfl rfl rfl ?_) | ((with_reducible refine k_load ?_); (first | refine x_load_one tbOk rfl rfl rfl rfl rfl ?_ | refine x_load_ep_agg tbOk rfl rfl (Nat.le_of_ble_eq_true rfl) ?_)) | ((with_reducible refine k_store ?_); refine m_store tbOk rfl rfl rfl rfl rfl rfl rfl (Nat.le_of_ble_eq_true rfl) rfl ?_) | ((with_reducible refine k_indexAddr ?_); refine x_indexAddr_n tbOk rfl rfl rfl rfl (by assumption) ?_)  | refine e_nrm ?_ | refine x_none rfl ?_ | with_reducible (first | refine q_then ?_ | refine q_block ?_) | ((with_reducible refine w_region ?_ ?_); kernel_rfl))
          exact ⟨(D, X', e, stC y 4, q0, nx), hok, trivial, ⟨rfl, rfl, rfl, rfl, rfl, rfl, rfl, rfl, rfl, rfl, rfl, rfl, trivial⟩, ⟨rfl, rfl, rfl, rfl, rfl, rfl, rfl, trivial⟩⟩
        · have hge : decide (findC L1 2 kk ≥ 0) = false := decide_eq_false hfi
          have hz : e ≠ 0 := fun he => by
            subst he
            obtain ⟨j, y, e1, -⟩ := back_ok hres.symm
            omega
          have hok : Mv N V 2 1 L1 L0 (ql q1) k D X' e cz (ql q0) nx := ⟨hDk, fun he => absurd he hz, fun he => absurd he hz, fun _ => hS, hq0, hx1, by omega⟩
          repeat (first | ((with_reducible refine k_move ?_); refine m_move rfl ?_) | ((with_reducible refine k_assign ?_); refine m_assign rfl ?_) | ((with_reducible refine k_extract ?_); refine x_extract rfl rfl ?_) | ((with_reducible refine k_bin ?_); refine m_binI rfl rfl rfl ?_)  | refine e_nrm ?_ | refine x_none rfl ?_ | with_reducible (first | refine q_then ?_ | refine q_block ?_ | refine awp_seq ?_ | refine awp_skip ?_) | ((with_reducible refine w_region ?_ ?_); kernel_rfl) | refine w_cond_f rfl (by first | rfl | assumption) ?_)
          exact ⟨(D, X', e, cz, q0, nx), hok, trivial, ⟨rfl, rfl, rfl, rfl, rfl, rfl, rfl, rfl, rfl, rfl, rfl, rfl, trivial⟩, ⟨rfl, rfl, rfl, rfl, rfl, rfl, rfl, trivial⟩⟩
      repeat (first | ((with_reducible refine k_move ?_); refine m_move rfl ?_) | ((with_reducible refine k_bin ?_); refine x_sub_in rfl rfl (by omega) ?_)  | refine x_none rfl ?_ | with_reducible refine awp_seq ?_ | ((with_reducible refine w_region ?_ ?_); kernel_rfl))
      (with_reducible refine k_indexAddr ?_)
      refine x_indexAddr_arr tbOk Tryd.underlying35 rfl rfl rfl ⟨by decide, by decide⟩ ?_
      repeat (first | ((with_reducible refine k_load ?_); refine x_load_one tbOk rfl rfl rfl rfl rfl ?_)  | refine x_none rfl ?_  )
      cases q0 with
      | none =>
        with_reducible refine k_call ?_
        refine x_len_qu (e := 40) (sz := 5) (q := qAV none) tbOk rfl rfl rfl rfl ?_
        repeat (first | ((with_reducible refine k_move ?_); refine m_move rfl ?_) | ((with_reducible refine k_bin ?_); (first | refine x_add_in rfl rfl (by omega) ?_ | refine m_binI rfl rfl rfl ?_))  | refine e_nrm ?_ | refine x_none rfl ?_ | with_reducible (first | refine q_then ?_ | refine q_then_exit ?_ | refine awp_exit ?_) | ((with_reducible refine q_block_exit ?_ ?_); rfl) | ((with_reducible refine q_block_out ?_ ?_); rfl) | ((with_reducible refine w_region ?_ ?_); kernel_rfl) | refine w_cond_t rfl (by first | rfl | assumption) ?_)
        exact ⟨(k + 1, D, (L0, L1), (none, q1), nx), ⟨hlt, hDk, hS0, Nat.le_succ_of_le hq0, Nat.le_succ_of_le hq1, hx1, by dsimp only; omega⟩, by dsimp only; omega, ⟨rfl, rfl, rfl, rfl, rfl, rfl, rfl, rfl, trivial⟩, ⟨rfl, rfl, rfl, rfl, rfl, rfl, trivial⟩⟩
      | some Q =>
        cases Q with
        | nil =>
          with_reducible refine k_call ?_
          refine x_len_qu (e := 40) (sz := 5) (q := qAV (some [])) tbOk rfl rfl rfl rfl ?_
          repeat (first | ((with_reducible refine k_move ?_); refine m_move rfl ?_) | ((with_reducible refine k_bin ?_); (first | refine x_add_in rfl rfl (by omega) ?_ | refine m_binI rfl rfl rfl ?_))  | refine e_nrm ?_ | refine x_none rfl ?_ | with_reducible (first | refine q_then ?_ | refine q_then_exit ?_ | refine awp_exit ?_) | ((with_reducible refine q_block_exit ?_ ?_); rfl) | ((with_reducible refine q_block_out ?_ ?_); rfl) | ((with_reducible refine w_region ?_ ?_); kernel_rfl) | refine w_cond_t rfl (by first | rfl | assumption) ?_)
          exact ⟨(k + 1, D, (L0, L1), (some [], q1), nx), ⟨hlt, hDk, hS0, Nat.le_succ_of_le hq0, Nat.le_succ_of_le hq1, hx1, by dsimp only; omega⟩, by dsimp only; omega, ⟨rfl, rfl, rfl, rfl, rfl, rfl, rfl, rfl, trivial⟩, ⟨rfl, rfl, rfl, rfl, rfl, rfl, trivial⟩⟩
        | cons c Q =>
          replace hS : Sd N V 2 1 L1 L0 (ql q1) (c :: Q) nx := hS
          have hql : (c :: Q).length ≤ k := hq0
          rw [List.length_cons] at hql
          have hcl := (hS.al c (by simp)).1
          have hpos : 0 < ((c :: Q).map Ce.av).length := by rw [List.length_map, List.length_cons]; omega
          have hne0 : ((((qL (qAV (some (c :: Q)))).length : Nat) : Int) == 0) = false := by rw [qAV_len]; simp [ql]; omega
          have hhe := hear_A (G := X.G) N V L1 2 c hG n1 n2 n3 n4 hSm (by omega) (by omega)
          have hgone := hS.gone (I' := Q) (fun m hm => by simp [hm])
          obtain ⟨⟨X', e⟩, hres⟩ : ∃ q, q = hearC N V L1 2 c := ⟨_, rfl⟩
          rw [← hres] at hhe
          dsimp only at hhe
          with_reducible refine k_call ?_
          refine x_len_qu (e := 40) (sz := 5) (q := qAV (some (c :: Q))) tbOk rfl rfl rfl rfl ?_
          repeat (first | ((with_reducible refine k_move ?_); refine m_move rfl ?_) | ((with_reducible refine k_bin ?_); (first | refine x_sub_in rfl rfl (by omega) ?_ | refine m_binI rfl rfl rfl ?_))  | refine e_nrm ?_ | refine x_none rfl ?_ | with_reducible (first | refine q_then ?_ | refine awp_seq ?_ | refine awp_skip ?_) | ((with_reducible refine w_region ?_ ?_); kernel_rfl) | refine w_cond_f rfl (by first | rfl | assumption) ?_)
          (with_reducible refine k_indexAddr ?_)
          refine x_indexAddr_arr tbOk Tryd.underlying35 rfl rfl rfl ⟨by decide, by decide⟩ ?_
          repeat (first | ((with_reducible refine k_load ?_); refine x_load_one tbOk rfl rfl rfl rfl rfl ?_)  | refine x_none rfl ?_  )
          with_reducible refine k_indexAddr ?_
          refine x_indexAddr_qu (Q := (c :: Q).map Ce.av) tbOk rfl rfl rfl rfl rfl rfl ⟨by decide, by omega⟩ ?_
          repeat (first   | refine x_none rfl ?_  )
          with_reducible refine k_load ?_
          refine x_load_qp (cs := [.v (.int .i64 c.num), .v (.int .i64 c.ask), .v (.int .i64 c.giv), .v (.int .i64 c.st), .sl 3 (c.lk.map Lk.av)]) tbOk rfl rfl rfl rfl rfl rfl ?_
          repeat (first | ((with_reducible refine k_move ?_); refine m_move rfl ?_) | ((with_reducible refine k_store ?_); refine m_store tbOk rfl rfl rfl rfl rfl rfl rfl (Nat.le_of_ble_eq_true rfl) rfl ?_) | ((with_reducible refine k_alloc ?_); refine x_alloc tbOk rfl rfl ?_) | ((with_reducible refine k_bin ?_); refine x_sub_in rfl rfl (by omega) ?_)  | refine e_nrm ?_ | refine x_none rfl ?_ | with_reducible (first | refine q_then ?_ | refine awp_seq ?_) | ((with_reducible refine w_region ?_ ?_); kernel_rfl))
          (with_reducible refine k_indexAddr ?_)
          refine x_indexAddr_arr tbOk Tryd.underlying35 rfl rfl rfl ⟨by decide, by decide⟩ ?_
          repeat (first | ((with_reducible refine k_load ?_); refine x_load_one tbOk rfl rfl rfl rfl rfl ?_)  | refine x_none rfl ?_  )
          with_reducible refine k_slice ?_
          refine x_slice_qu (Q := (c :: Q).map Ce.av) tbOk hgs rfl rfl rfl rfl rfl rfl ⟨by decide, by omega⟩ ?_
          repeat (first   | refine x_none rfl ?_  )
          (with_reducible refine k_indexAddr ?_)
          refine x_indexAddr_arr tbOk Tryd.underlying35 rfl rfl rfl ⟨by decide, by decide⟩ ?_
          repeat (first | ((with_reducible refine k_move ?_); refine m_move rfl ?_) | ((with_reducible refine k_load ?_); refine x_load_agg tbOk rfl rfl rfl rfl (Nat.le_of_ble_eq_true rfl) ?_) | ((with_reducible refine k_store ?_); refine m_store tbOk rfl rfl rfl rfl rfl rfl rfl (Nat.le_of_ble_eq_true rfl) rfl ?_) | ((with_reducible refine k_bin ?_); refine x_add_in rfl rfl (by omega) ?_)  | refine e_nrm ?_ | refine x_none rfl ?_ | with_reducible (first | refine q_then ?_ | refine awp_seq ?_) | ((with_reducible refine w_region ?_ ?_); kernel_rfl))
          refine x_call0 (hhe) (by repeat' (first | exact trivial | exact Ren.v _ | exact Ren.sl _ _ | refine ren_ag ?_ | refine ⟨?_, ?_⟩)) (by repeat' (first | exact trivial | exact RenB.v _ | exact RenB.sl _ _ | refine renb_tu ?_ | refine ⟨?_, ?_⟩)) ?_
          by_cases h4 : c.st = 4
          · have b4 : (c.st == 4) = true := by simpa using h4
            by_cases he : e = 0
            · subst he
              obtain ⟨hp, hsd⟩ := hS.ended hres.symm h4
              have hok : Mv N V 2 1 L1 L0 (ql q1) k D X' 0 (stC c 5) (ql (some Q)) nx := ⟨hDk, fun _ _ => hsd, fun _ hn => absurd (show 0 < c.num from hp) hn, fun h => absurd rfl h, by show Q.length ≤ k; omega, hx1, by omega⟩
              repeat (first | ((with_reducible refine k_move ?_); refine m_move rfl ?_) | ((with_reducible refine k_assign ?_); refine m_assign rfl ?_) | ((with_reducible refine k_fieldAddr ?_); refine x_fieldAddr_ptr tbOk rfl rfl rfl rfl ?_) | ((with_reducible refine k_load ?_); (first | refine x_load_one tbOk rfl rfl rfl rfl rfl ?_ | refine x_load_agg tbOk rfl rfl rfl rfl (Nat.le_of_ble_eq_true rfl) ?_)) | ((with_reducible refine k_store ?_); refine m_store tbOk rfl rfl rfl rfl rfl rfl rfl (Nat.le_of_ble_eq_true rfl) rfl ?_) | ((with_reducible refine k_extract ?_); refine x_extract rfl rfl ?_) | ((with_reducible refine k_pick ?_); refine m_pickt rfl (by first | rfl | assumption) rfl ?_) | ((with_reducible refine k_bin ?_); refine m_binI rfl rfl rfl ?_)  | refine e_nrm ?_ | refine x_none rfl ?_ | refine x_run_t rfl rfl (by first | rfl | assumption) ?_ | with_reducible (first | refine q_then ?_ | refine q_block ?_ | refine awp_seq ?_) | ((with_reducible refine w_region ?_ ?_); kernel_rfl) | refine w_cond_t rfl (by first | rfl | assumption) ?_)
              exact ⟨(D, X', 0, stC c 5, some Q, nx), hok, trivial, ⟨rfl, rfl, rfl, rfl, rfl, rfl, rfl, rfl, rfl, rfl, rfl, rfl, trivial⟩, ⟨rfl, rfl, rfl, rfl, rfl, rfl, rfl, trivial⟩⟩
            · have b5 : (e == 0) = false := by simpa using he
              have hok : Mv N V 2 1 L1 L0 (ql q1) k D X' e cz (ql (some Q)) nx := ⟨hDk, fun h => absurd h he, fun h => absurd h he, fun _ => hgone, by show Q.length ≤ k; omega, hx1, by omega⟩
              repeat (first | ((with_reducible refine k_move ?_); refine m_move rfl ?_) | ((with_reducible refine k_assign ?_); refine m_assign rfl ?_) | ((with_reducible refine k_fieldAddr ?_); refine x_fieldAddr_ptr tbOk rfl rfl rfl rfl ?_) | ((with_reducible refine k_load ?_); refine x_load_one tbOk rfl rfl rfl rfl rfl ?_) | ((with_reducible refine k_extract ?_); refine x_extract rfl rfl ?_) | ((with_reducible refine k_pick ?_); refine m_pickt rfl (by first | rfl | assumption) rfl ?_) | ((with_reducible refine k_bin ?_); refine m_binI rfl rfl rfl ?_)  | refine e_nrm ?_ | refine x_none rfl ?_ | refine x_run_t rfl rfl (by first | rfl | assumption) ?_ | with_reducible (first | refine q_then ?_ | refine q_block ?_ | refine awp_seq ?_ | refine awp_skip ?_) | ((with_reducible refine w_region ?_ ?_); kernel_rfl) | refine w_cond_f rfl (by first | rfl | assumption) ?_)
              exact ⟨(D, X', e, cz, some Q, nx), hok, trivial, ⟨rfl, rfl, rfl, rfl, rfl, rfl, rfl, rfl, rfl, rfl, rfl, rfl, trivial⟩, ⟨rfl, rfl, rfl, rfl, rfl, rfl, rfl, trivial⟩⟩
          · have b4 : (c.st == 4) = false := by simpa using h4
            have hok : Mv N V 2 1 L1 L0 (ql q1) k D X' e cz (ql (some Q)) nx := ⟨hDk, fun _ hn => absurd hn (by decide), fun he _ => by
              subst he
              exact hS.hear hres.symm h4, fun _ => hgone, by show Q.length ≤ k; omega, hx1, by omega⟩
            repeat (first | ((with_reducible refine k_move ?_); refine m_move rfl ?_) | ((with_reducible refine k_assign ?_); refine m_assign rfl ?_) | ((with_reducible refine k_fieldAddr ?_); refine x_fieldAddr_ptr tbOk rfl rfl rfl rfl ?_) | ((with_reducible refine k_load ?_); refine x_load_one tbOk rfl rfl rfl rfl rfl ?_) | ((with_reducible refine k_extract ?_); refine x_extract rfl rfl ?_) | ((with_reducible refine k_pick ?_); refine m_pickf rfl (by first | rfl | assumption) rfl ?_) | ((with_reducible refine k_bin ?_); refine m_binI rfl rfl rfl ?_)  | refine e_nrm ?_ | refine x_none rfl ?_ | refine x_skip_t rfl rfl (by first | rfl | assumption) ?_ | with_reducible (first | refine q_then ?_ | refine q_block ?_ | refine awp_seq ?_ | refine awp_skip ?_) | ((with_reducible refine w_region ?_ ?_); kernel_rfl) | refine w_cond_f rfl (by first | rfl | assumption) ?_)
            exact ⟨(D, X', e, cz, some Q, nx), hok, trivial, ⟨rfl, rfl, rfl, rfl, rfl, rfl, rfl, rfl, rfl, rfl, rfl, rfl, trivial⟩, ⟨rfl, rfl, rfl, rfl, rfl, rfl, rfl, trivial⟩⟩
    clear hS0 hSl hSm
    clear v
    rintro v ⟨D2, X', e, say, I2, nx2⟩ hM
    dsimp only at hM ⊢
    have hMl := hM.l
    have hMn := hM.n1
    have hMn2 := hM.n2
    repeat (first | ((with_reducible refine k_move ?_); refine m_move rfl ?_) | ((with_reducible refine k_bin ?_); refine m_binI rfl rfl rfl ?_)  | refine e_nrm ?_ | refine x_none rfl ?_ | with_reducible (first | refine q_then ?_ | refine awp_seq ?_) | ((with_reducible refine w_region ?_ ?_); kernel_rfl))
    refine awp_via (ι := List Ce × Option (List Ce)) (fun _ i => Sd N V 2 1 i.1 L0 (ql i.2) (ql I2) nx2 ∧ (ql i.2).length ≤ k + 1) (fun v i => [(5, .ptr 39 (v 39) 0), (6, .ptr 6 (v 6) 0), (8, .ptr 8 (v 8) 0), (9, .ptr 9 (v 9) 0), (10, .v (.int .i64 nx2)), (45, .sl 1 (moves.map wv)), (46, .v (.int .i64 (moves.map wv).length)), (47, .v (.int .i64 (k : Nat)))]) (fun v i => [(39, .box D2.cells), (6, .box [.sl 3 (N.map Nd.av), .sl 5 (V.map Dv.av)]), (8, .box [.sl 5 ((L0).map Ce.av), .sl 5 ((i.1).map Ce.av)]), (9, .box [.own 900 (v 900), .own 901 (v 901)]), (901, qC 40 5 (qAV i.2)), (900, qC 40 5 (qAV I2))]) ?_ ?_
    · refine w_cond rfl (fun he => ?_) (fun he => ?_)
      rotate_left
      · have he' : e ≠ 0 := by simpa using he
        repeat (first    | with_reducible (first | refine q_then ?_ | refine awp_skip ?_) )
        exact ⟨(L1, q1), ⟨hM.c he', by dsimp only; omega⟩, trivial, ⟨rfl, rfl, rfl, rfl, rfl, rfl, rfl, rfl, trivial⟩, ⟨rfl, rfl, rfl, rfl, rfl, rfl, trivial⟩⟩
      have he' : e = 0 := by simpa using he
      repeat (first | ((with_reducible refine k_move ?_); refine m_move rfl ?_)  | refine x_none rfl ?_ | with_reducible refine awp_seq ?_ | ((with_reducible refine w_region ?_ ?_); kernel_rfl))
      (with_reducible refine k_indexAddr ?_)
      refine x_indexAddr_arr tbOk Tryd.underlying35 rfl rfl rfl ⟨by decide, by decide⟩ ?_
      repeat (first | ((with_reducible refine k_fieldAddr ?_); refine x_fieldAddr_ptr tbOk rfl rfl rfl rfl ?_) | ((with_reducible refine k_load ?_); refine x_load_one tbOk rfl rfl rfl rfl rfl ?_) | ((with_reducible refine k_store ?_); refine m_store tbOk rfl rfl rfl rfl rfl rfl rfl (Nat.le_of_ble_eq_true rfl) rfl ?_) | ((with_reducible refine k_bin ?_); refine m_binI rfl rfl rfl ?_)  | refine e_nrm ?_ | refine x_none rfl ?_ | with_reducible (first | refine q_then ?_ | refine awp_seq ?_) | ((with_reducible refine w_region ?_ ?_); kernel_rfl))
      refine w_cond rfl (fun hn => ?_) (fun hn => ?_)
      rotate_left
      · have hn' : ¬ 0 < say.num := by simpa using hn
        repeat (first    | with_reducible (first | refine q_then ?_ | refine awp_skip ?_) )
        exact ⟨(X', q1), ⟨hM.b he' hn', by dsimp only; omega⟩, trivial, ⟨rfl, rfl, rfl, rfl, rfl, rfl, rfl, rfl, trivial⟩, ⟨rfl, rfl, rfl, rfl, rfl, rfl, trivial⟩⟩
      have hn' : 0 < say.num := by simpa using hn
      have hqa := qAV_len q1
      repeat (first | ((with_reducible refine k_move ?_); refine m_move rfl ?_)  | refine x_none rfl ?_  | ((with_reducible refine w_draw mixd ?_ ?_); kernel_rfl))
      (with_reducible refine k_indexAddr ?_)
      refine x_indexAddr_arr tbOk Tryd.underlying35 rfl rfl rfl ⟨by decide, by decide⟩ ?_
      repeat (first | ((with_reducible refine k_load ?_); (first | refine x_load_one tbOk rfl rfl rfl rfl rfl ?_ | refine x_load_agg tbOk rfl rfl rfl rfl (Nat.le_of_ble_eq_true rfl) ?_)) | ((with_reducible refine k_buildSlice ?_); refine m_buildSlice tbOk rfl rfl rfl rfl rfl (by omega) rfl rfl rfl ?_) | refine x_none rfl ?_  )
      refine x_append_qu tbOk hgs rfl rfl rfl rfl rfl (by decide) rfl rfl rfl rfl (Nat.succ_pos _) (fun x hx => by simp at hx; subst hx; rfl) (by simp only [List.length_map, List.length_cons, List.length_nil]; omega) (by simp only [List.length_map, List.length_cons, List.length_nil]; omega) ?_
      repeat (first   | refine x_none rfl ?_  )
      (with_reducible refine k_indexAddr ?_)
      refine x_indexAddr_arr tbOk Tryd.underlying35 rfl rfl rfl ⟨by decide, by decide⟩ ?_
      repeat (first | ((with_reducible refine k_store ?_); refine m_store tbOk rfl rfl rfl rfl rfl rfl rfl (Nat.le_of_ble_eq_true rfl) rfl ?_)  | refine e_drw (by kernel_rfl) ?_ | refine x_none rfl ?_ | with_reducible refine q_then ?_ )
      exact ⟨(X', some (ql q1 ++ [say])), ⟨hM.a he' hn', by show (ql q1 ++ [say]).length ≤ k + 1; rw [List.length_append]; simp only [List.length_cons, List.length_nil]; omega⟩, trivial, ⟨rfl, rfl, rfl, rfl, rfl, rfl, rfl, rfl, trivial⟩, ⟨rfl, rfl, rfl, rfl, qC_snoc _ _ _ _, rfl, trivial⟩⟩
    clear v
    rintro v ⟨X2, O2⟩ ⟨hS2, hO2⟩
    dsimp only at hS2 hO2 ⊢
    have hDk2 := hM.dk
    clear hM
    have hC := hS2.swap
    repeat (first | ((with_reducible refine k_assign ?_); refine m_assign rfl ?_)  | refine e_nrm ?_ | refine x_none rfl ?_ | with_reducible (first | refine q_then ?_ | refine awp_seq ?_ | refine awp_block ?_) | ((with_reducible refine w_region ?_ ?_); kernel_rfl))
    refine awp_loop (ι := Nat) (fun s => s ≤ 2) (fun s => 2 - s) (fun v s => [(5, .ptr 39 (v 39) 0), (6, .ptr 6 (v 6) 0), (8, .ptr 8 (v 8) 0), (9, .ptr 9 (v 9) 0), (10, .v (.int .i64 nx2)), (45, .sl 1 (moves.map wv)), (46, .v (.int .i64 (moves.map wv).length)), (47, .v (.int .i64 (k : Nat))), (21, .v (.int .i64 (s : Nat)))]) (fun v s => [(39, .box D2.cells), (6, .box [.sl 3 (N.map Nd.av), .sl 5 (V.map Dv.av)]), (8, .box [.sl 5 ((L0).map Ce.av), .sl 5 ((X2).map Ce.av)]), (9, .box [.own 900 (v 900), .own 901 (v 901)]), (900, qC 40 5 (qAV I2)), (901, qC 40 5 (qAV O2))]) ?_ ?_
    · exact ⟨0, Nat.zero_le _, trivial, ⟨rfl, rfl, rfl, rfl, rfl, rfl, rfl, rfl, rfl, trivial⟩, ⟨rfl, rfl, rfl, rfl, rfl, rfl, trivial⟩⟩
    clear v
    rintro v s hs
    repeat (first | ((with_reducible refine k_move ?_); refine m_move rfl ?_) | ((with_reducible refine k_bin ?_); refine m_binI rfl rfl rfl ?_)  | refine e_nrm ?_ | refine x_none rfl ?_ | with_reducible (first | refine q_then ?_ | refine awp_seq ?_) | ((with_reducible refine w_region ?_ ?_); kernel_rfl))
    refine w_cond rfl (fun h3 => ?_) (fun h3 => ?_)
    rotate_left
    · repeat (first | ((with_reducible refine k_move ?_); refine m_move rfl ?_) | ((with_reducible refine k_bin ?_); refine x_add_in rfl rfl (by omega) ?_)  | refine e_nrm ?_ | refine x_none rfl ?_ | with_reducible (first | refine q_then ?_ | refine q_then_exit ?_ | refine q_block ?_ | refine awp_exit ?_) | ((with_reducible refine q_block_exit ?_ ?_); rfl) | ((with_reducible refine w_region ?_ ?_); kernel_rfl))
      exact ⟨(k + 1, D2, (L0, X2), (I2, O2), nx2), ⟨hlt, hDk2, hC, by dsimp only; omega, by dsimp only; omega, hMn, by dsimp only; omega⟩, by dsimp only; omega, ⟨rfl, rfl, rfl, rfl, rfl, rfl, rfl, rfl, trivial⟩, ⟨rfl, rfl, rfl, rfl, rfl, rfl, trivial⟩⟩
    have hs2 : s < 2 := by simp at h3; omega
    clear h3
    obtain rfl | rfl : s = 0 ∨ s = 1 := by omega
    · have hal := (hC).len
      repeat (first | ((with_reducible refine k_move ?_); refine m_move rfl ?_)  | refine x_none rfl ?_ | with_reducible (first | refine q_then ?_ | refine awp_seq ?_ | refine awp_block ?_ | refine awp_skip ?_) | ((with_reducible refine w_region ?_ ?_); kernel_rfl))
      (with_reducible refine k_indexAddr ?_)
      refine x_indexAddr_arr tbOk Tryd.underlying35 rfl rfl rfl ⟨by decide, by decide⟩ ?_
      repeat (first | ((with_reducible refine k_move ?_); refine m_move rfl ?_) | ((with_reducible refine k_load ?_); refine x_load_one tbOk rfl rfl rfl rfl rfl ?_) | ((with_reducible refine k_call ?_); refine x_len tbOk rfl rfl ?_)  | refine e_nrm ?_ | refine x_none rfl ?_ | with_reducible (first | refine q_then ?_ | refine awp_block ?_) )
      refine awp_loop (ι := Nat) (fun j => j ≤ (L0).length) (fun j => (L0).length - j) (fun v j => [(5, .ptr 39 (v 39) 0), (6, .ptr 6 (v 6) 0), (8, .ptr 8 (v 8) 0), (9, .ptr 9 (v 9) 0), (10, .v (.int .i64 nx2)), (45, .sl 1 (moves.map wv)), (46, .v (.int .i64 (moves.map wv).length)), (47, .v (.int .i64 (k : Nat))), (21, .v (.int .i64 ((0 : Nat) : Int))), (197, .sl 5 ((L0).map Ce.av)), (198, .v (.int .i64 ((L0).map Ce.av).length)), (199, .v (.int .i64 (j : Nat)))]) (fun v j => [(39, .box D2.cells), (6, .box [.sl 3 (N.map Nd.av), .sl 5 (V.map Dv.av)]), (8, .box [.sl 5 ((L0).map Ce.av), .sl 5 ((X2).map Ce.av)]), (9, .box [.own 900 (v 900), .own 901 (v 901)]), (900, qC 40 5 (qAV I2)), (901, qC 40 5 (qAV O2))]) ?_ ?_
      · exact ⟨0, Nat.zero_le _, trivial, ⟨rfl, rfl, rfl, rfl, rfl, rfl, rfl, rfl, rfl, rfl, rfl, rfl, trivial⟩, ⟨rfl, rfl, rfl, rfl, rfl, rfl, trivial⟩⟩
      clear v
      rintro v j hj
      repeat (first | ((with_reducible refine k_bin ?_); refine m_binI rfl rfl rfl ?_)  | refine e_nrm ?_ | refine x_none rfl ?_ | with_reducible (first | refine q_then ?_ | refine awp_seq ?_) | ((with_reducible refine w_region ?_ ?_); kernel_rfl))
      refine w_cond rfl (fun h4 => ?_) (fun h4 => ?_)
      rotate_left
      · repeat (first | ((with_reducible refine k_move ?_); refine m_move rfl ?_) | ((with_reducible refine k_assign ?_); refine m_assign rfl ?_) | ((with_reducible refine k_bin ?_); refine x_add_in rfl rfl (by omega) ?_)  | refine e_nrm ?_ | refine x_none rfl ?_ | with_reducible (first | refine q_then ?_ | refine q_then_exit ?_ | refine q_block ?_ | refine awp_exit ?_) | ((with_reducible refine q_block_exit ?_ ?_); rfl) | ((with_reducible refine w_region ?_ ?_); kernel_rfl))
        exact ⟨0 + 1, by show 0 + 1 ≤ 2; decide, by show 2 - (0 + 1) < 2 - 0; decide, ⟨rfl, rfl, rfl, rfl, rfl, rfl, rfl, rfl, rfl, trivial⟩, ⟨rfl, rfl, rfl, rfl, rfl, rfl, trivial⟩⟩
      have hjl : j < (L0).length := by simpa using h4
      obtain ⟨c, hc⟩ := some_at hjl
      have hy := ce_at hc
      repeat (first | ((with_reducible refine k_move ?_); refine m_move rfl ?_) | ((with_reducible refine k_fieldAddr ?_); refine x_fieldAddr_ptr tbOk rfl rfl rfl rfl ?_) | ((with_reducible refine k_load ?_); (first | refine x_load_one tbOk rfl rfl rfl rfl rfl ?_ | refine x_load_ep_agg tbOk rfl rfl (Nat.le_of_ble_eq_true rfl) ?_)) | ((with_reducible refine k_store ?_); refine m_store tbOk rfl rfl rfl rfl rfl rfl rfl (Nat.le_of_ble_eq_true rfl) rfl ?_) | ((with_reducible refine k_alloc ?_); refine x_alloc tbOk rfl rfl ?_) | ((with_reducible refine k_indexAddr ?_); refine x_indexAddr_n tbOk rfl rfl rfl rfl (by assumption) ?_) | ((with_reducible refine k_bin ?_); (first | refine x_add_in rfl rfl (by omega) ?_ | refine m_binI rfl rfl rfl ?_))  | refine e_nrm ?_ | refine x_none rfl ?_ | with_reducible (first | refine q_then ?_ | refine awp_seq ?_ | refine awp_block ?_ | refine awp_skip ?_) | ((with_reducible refine w_region ?_ ?_); kernel_rfl))
      refine x_split rfl rfl (fun h5 => ?_) (fun h5 => ?_)
      · repeat (first | ((with_reducible refine k_move ?_); refine m_move rfl ?_) | ((with_reducible refine k_pick ?_); refine m_pickt rfl (by first | rfl | assumption) rfl ?_) | ((with_reducible refine k_bin ?_); refine x_add_in rfl rfl (by omega) ?_)  | refine e_nrm ?_ | refine x_none rfl ?_ | refine x_skip_f rfl rfl (by first | rfl | assumption) ?_ | with_reducible (first | refine q_then ?_ | refine q_then_exit ?_ | refine awp_exit ?_) | ((with_reducible refine q_block_exit ?_ ?_); rfl) | ((with_reducible refine w_region ?_ ?_); kernel_rfl) | refine w_cond_t rfl (by first | rfl | assumption) ?_)
        exact ⟨j + 1, by omega, by omega, ⟨rfl, rfl, rfl, rfl, rfl, rfl, rfl, rfl, rfl, rfl, rfl, rfl, trivial⟩, ⟨rfl, rfl, rfl, rfl, rfl, rfl, trivial⟩⟩
      repeat (first | ((with_reducible refine k_fieldAddr ?_); refine x_fieldAddr_ptr tbOk rfl rfl rfl rfl ?_) | ((with_reducible refine k_load ?_); refine x_load_one tbOk rfl rfl rfl rfl rfl ?_) | ((with_reducible refine k_pick ?_); refine m_pickf rfl (by first | rfl | assumption) rfl ?_) | ((with_reducible refine k_bin ?_); refine m_binI rfl rfl rfl ?_)  | refine e_nrm ?_ | refine x_none rfl ?_ | refine x_run_f rfl rfl (by first | rfl | assumption) ?_ | with_reducible refine q_then ?_ )
      refine w_cond rfl (fun h6 => ?_) (fun h6 => ?_)
      · repeat (first | ((with_reducible refine k_move ?_); refine m_move rfl ?_) | ((with_reducible refine k_bin ?_); refine x_add_in rfl rfl (by omega) ?_)  | refine e_nrm ?_ | refine x_none rfl ?_ | with_reducible (first | refine q_then ?_ | refine q_then_exit ?_ | refine awp_exit ?_) | ((with_reducible refine q_block_exit ?_ ?_); rfl) | ((with_reducible refine w_region ?_ ?_); kernel_rfl))
        exact ⟨j + 1, by omega, by omega, ⟨rfl, rfl, rfl, rfl, rfl, rfl, rfl, rfl, rfl, rfl, rfl, rfl, trivial⟩, ⟨rfl, rfl, rfl, rfl, rfl, rfl, trivial⟩⟩
      have hca : c.ask = 1 := by simpa using h5
      have hcs : c.st = 3 := by simpa using h6
      obtain ⟨i, d, d1, d2, d3, d4, d5⟩ := (hC).safe (List.mem_of_getElem? hc) hca hcs
      have hyd := ce_at d2
      have hbl := (hC).swap.len
      have hff := cfind_A (G := X.G) X2 c.ask c.num (by omega)
      rw [d1] at hff
      have p1 : decide (((i : Nat) : Int) < 0) = false := decide_eq_false (by omega)
      have p2 : (d.st != 2) = false := by rw [d3]; rfl
      have hft := cfits_A (G := X.G) N V d.lk n1 n2 n3 n4 (by omega)
      rw [d4] at hft
      repeat (first | ((with_reducible refine k_move ?_); refine m_move rfl ?_) | ((with_reducible refine k_bin ?_); refine x_sub_in rfl rfl (by omega) ?_)  | refine x_none rfl ?_ | with_reducible (first | refine q_then ?_ | refine awp_seq ?_ | refine awp_skip ?_) | ((with_reducible refine w_draw mixd ?_ ?_); kernel_rfl))
      (with_reducible refine k_indexAddr ?_)
      refine x_indexAddr_arr tbOk Tryd.underlying35 rfl rfl rfl ⟨by decide, by decide⟩ ?_
      repeat (first | ((with_reducible refine k_fieldAddr ?_); refine x_fieldAddr_ptr tbOk rfl rfl rfl rfl ?_) | ((with_reducible refine k_load ?_); refine x_load_one tbOk rfl rfl rfl rfl rfl ?_)  | refine x_none rfl ?_  )
      refine x_call0 (hff) (by repeat' (first | exact trivial | exact Ren.v _ | exact Ren.sl _ _ | refine ⟨?_, ?_⟩)) (by repeat' exact RenB.v _) ?_
      repeat (first | ((with_reducible refine k_move ?_); refine m_move rfl ?_) | ((with_reducible refine k_assign ?_); refine m_assign rfl ?_) | ((with_reducible refine k_bin ?_); (first | refine x_sub_in rfl rfl (by omega) ?_ | refine m_binI rfl rfl rfl ?_))  | refine e_drw (by kernel_rfl) ?_ | refine x_none rfl ?_ | refine x_run_f rfl rfl (by first | rfl | assumption) ?_ | with_reducible (first | refine q_then ?_ | refine awp_seq ?_) | ((with_reducible refine w_draw mixd ?_ ?_); kernel_rfl))
      (with_reducible refine k_indexAddr ?_)
      refine x_indexAddr_arr tbOk Tryd.underlying35 rfl rfl rfl ⟨by decide, by decide⟩ ?_
      repeat (first | ((with_reducible refine k_move ?_); refine m_move rfl ?_) | ((with_reducible refine k_fieldAddr ?_); refine x_fieldAddr_ep tbOk rfl rfl rfl rfl ?_) | ((with_reducible refine k_load ?_); (first | refine x_load_one tbOk rfl rfl rfl rfl rfl ?_ | refine x_load_agg tbOk rfl rfl rfl rfl (Nat.le_of_ble_eq_true rfl) ?_ | refine x_load_ep_one tbOk rfl rfl rfl ?_)) | ((with_reducible refine k_pick ?_); refine m_pickf rfl (by first | rfl | assumption) rfl ?_) | ((with_reducible refine k_indexAddr ?_); refine x_indexAddr_n tbOk rfl rfl rfl rfl (by assumption) ?_) | ((with_reducible refine k_bin ?_); (first | refine x_sub_in rfl rfl (by omega) ?_ | refine m_binI rfl rfl rfl ?_))  | refine x_none rfl ?_ | refine x_run_f rfl rfl (by first | rfl | assumption) ?_  )
      (with_reducible refine k_indexAddr ?_)
      refine x_indexAddr_arr tbOk Tryd.underlying35 rfl rfl rfl ⟨by decide, by decide⟩ ?_
      repeat (first | ((with_reducible refine k_move ?_); refine m_move rfl ?_) | ((with_reducible refine k_fieldAddr ?_); refine x_fieldAddr_ep tbOk rfl rfl rfl rfl ?_) | ((with_reducible refine k_load ?_); (first | refine x_load_one tbOk rfl rfl rfl rfl rfl ?_ | refine x_load_ep_one tbOk rfl rfl rfl ?_)) | ((with_reducible refine k_indexAddr ?_); refine x_indexAddr_n tbOk rfl rfl rfl rfl (by assumption) ?_)  | refine x_run_f rfl rfl (by first | rfl | assumption) ?_  )
      refine x_call0 (hft) (by repeat' (first | exact trivial | exact Ren.sl _ _ | refine ren_ag ?_ | refine ⟨?_, ?_⟩)) (by repeat' exact RenB.v _) ?_
      repeat (first | ((with_reducible refine k_move ?_); refine m_move rfl ?_) | ((with_reducible refine k_un ?_); refine x_not rfl ?_) | ((with_reducible refine k_pick ?_); refine m_pickf rfl (by first | rfl | assumption) rfl ?_) | ((with_reducible refine k_bin ?_); refine x_add_in rfl rfl (by omega) ?_)  | refine e_nrm ?_ | refine e_drw (by kernel_rfl) ?_ | refine x_none rfl ?_ | refine x_run_f rfl rfl (by first | rfl | assumption) ?_ | with_reducible (first | refine q_then ?_ | refine q_block ?_ | refine awp_skip ?_) | ((with_reducible refine w_region ?_ ?_); kernel_rfl) | refine w_cond_f rfl (by first | rfl | assumption) ?_)
      exact ⟨j + 1, by omega, by omega, ⟨rfl, rfl, rfl, rfl, rfl, rfl, rfl, rfl, rfl, rfl, rfl, rfl, trivial⟩, ⟨rfl, rfl, rfl, rfl, rfl, rfl, trivial⟩⟩
    · have hal := (hC.swap).len
      repeat (first | ((with_reducible refine k_move ?_); refine m_move rfl ?_)  | refine x_none rfl ?_ | with_reducible (first | refine q_then ?_ | refine awp_seq ?_ | refine awp_block ?_ | refine awp_skip ?_) | ((with_reducible refine w_region ?_ ?_); kernel_rfl))
      (with_reducible refine k_indexAddr ?_)
      refine x_indexAddr_arr tbOk Tryd.underlying35 rfl rfl rfl ⟨by decide, by decide⟩ ?_
      repeat (first | ((with_reducible refine k_move ?_); refine m_move rfl ?_) | ((with_reducible refine k_load ?_); refine x_load_one tbOk rfl rfl rfl rfl rfl ?_) | ((with_reducible refine k_call ?_); refine x_len tbOk rfl rfl ?_)  | refine e_nrm ?_ | refine x_none rfl ?_ | with_reducible (first | refine q_then ?_ | refine awp_block ?_) )
      refine awp_loop (ι := Nat) (fun j => j ≤ (X2).length) (fun j => (X2).length - j) (fun v j => [(5, .ptr 39 (v 39) 0), (6, .ptr 6 (v 6) 0), (8, .ptr 8 (v 8) 0), (9, .ptr 9 (v 9) 0), (10, .v (.int .i64 nx2)), (45, .sl 1 (moves.map wv)), (46, .v (.int .i64 (moves.map wv).length)), (47, .v (.int .i64 (k : Nat))), (21, .v (.int .i64 ((1 : Nat) : Int))), (197, .sl 5 ((X2).map Ce.av)), (198, .v (.int .i64 ((X2).map Ce.av).length)), (199, .v (.int .i64 (j : Nat)))]) (fun v j => [(39, .box D2.cells), (6, .box [.sl 3 (N.map Nd.av), .sl 5 (V.map Dv.av)]), (8, .box [.sl 5 ((L0).map Ce.av), .sl 5 ((X2).map Ce.av)]), (9, .box [.own 900 (v 900), .own 901 (v 901)]), (900, qC 40 5 (qAV I2)), (901, qC 40 5 (qAV O2))]) ?_ ?_
      · exact ⟨0, Nat.zero_le _, trivial, ⟨rfl, rfl, rfl, rfl, rfl, rfl, rfl, rfl, rfl, rfl, rfl, rfl, trivial⟩, ⟨rfl, rfl, rfl, rfl, rfl, rfl, trivial⟩⟩
      clear v
      rintro v j hj
      repeat (first | ((with_reducible refine k_bin ?_); refine m_binI rfl rfl rfl ?_)  | refine e_nrm ?_ | refine x_none rfl ?_ | with_reducible (first | refine q_then ?_ | refine awp_seq ?_) | ((with_reducible refine w_region ?_ ?_); kernel_rfl))
      refine w_cond rfl (fun h4 => ?_) (fun h4 => ?_)
      rotate_left
      · repeat (first | ((with_reducible refine k_move ?_); refine m_move rfl ?_) | ((with_reducible refine k_assign ?_); refine m_assign rfl ?_) | ((with_reducible refine k_bin ?_); refine x_add_in rfl rfl (by omega) ?_)  | refine e_nrm ?_ | refine x_none rfl ?_ | with_reducible (first | refine q_then ?_ | refine q_then_exit ?_ | refine q_block ?_ | refine awp_exit ?_) | ((with_reducible refine q_block_exit ?_ ?_); rfl) | ((with_reducible refine w_region ?_ ?_); kernel_rfl))
        exact ⟨1 + 1, by show 1 + 1 ≤ 2; decide, by show 2 - (1 + 1) < 2 - 1; decide, ⟨rfl, rfl, rfl, rfl, rfl, rfl, rfl, rfl, rfl, trivial⟩, ⟨rfl, rfl, rfl, rfl, rfl, rfl, trivial⟩⟩
      have hjl : j < (X2).length := by simpa using h4
      obtain ⟨c, hc⟩ := some_at hjl
      have hy := ce_at hc
      repeat (first | ((with_reducible refine k_move ?_); refine m_move rfl ?_) | ((with_reducible refine k_fieldAddr ?_); refine x_fieldAddr_ptr tbOk rfl rfl rfl rfl ?_) | ((with_reducible refine k_load ?_); (first | refine x_load_one tbOk rfl rfl rfl rfl rfl ?_ | refine x_load_ep_agg tbOk rfl rfl (Nat.le_of_ble_eq_true rfl) ?_)) | ((with_reducible refine k_store ?_); refine m_store tbOk rfl rfl rfl rfl rfl rfl rfl (Nat.le_of_ble_eq_true rfl) rfl ?_) | ((with_reducible refine k_alloc ?_); refine x_alloc tbOk rfl rfl ?_) | ((with_reducible refine k_indexAddr ?_); refine x_indexAddr_n tbOk rfl rfl rfl rfl (by assumption) ?_) | ((with_reducible refine k_bin ?_); (first | refine x_add_in rfl rfl (by omega) ?_ | refine m_binI rfl rfl rfl ?_))  | refine e_nrm ?_ | refine x_none rfl ?_ | with_reducible (first | refine q_then ?_ | refine awp_seq ?_ | refine awp_block ?_ | refine awp_skip ?_) | ((with_reducible refine w_region ?_ ?_); kernel_rfl))
      refine x_split rfl rfl (fun h5 => ?_) (fun h5 => ?_)
      · repeat (first | ((with_reducible refine k_move ?_); refine m_move rfl ?_) | ((with_reducible refine k_pick ?_); refine m_pickt rfl (by first | rfl | assumption) rfl ?_) | ((with_reducible refine k_bin ?_); refine x_add_in rfl rfl (by omega) ?_)  | refine e_nrm ?_ | refine x_none rfl ?_ | refine x_skip_f rfl rfl (by first | rfl | assumption) ?_ | with_reducible (first | refine q_then ?_ | refine q_then_exit ?_ | refine awp_exit ?_) | ((with_reducible refine q_block_exit ?_ ?_); rfl) | ((with_reducible refine w_region ?_ ?_); kernel_rfl) | refine w_cond_t rfl (by first | rfl | assumption) ?_)
        exact ⟨j + 1, by omega, by omega, ⟨rfl, rfl, rfl, rfl, rfl, rfl, rfl, rfl, rfl, rfl, rfl, rfl, trivial⟩, ⟨rfl, rfl, rfl, rfl, rfl, rfl, trivial⟩⟩
      repeat (first | ((with_reducible refine k_fieldAddr ?_); refine x_fieldAddr_ptr tbOk rfl rfl rfl rfl ?_) | ((with_reducible refine k_load ?_); refine x_load_one tbOk rfl rfl rfl rfl rfl ?_) | ((with_reducible refine k_pick ?_); refine m_pickf rfl (by first | rfl | assumption) rfl ?_) | ((with_reducible refine k_bin ?_); refine m_binI rfl rfl rfl ?_)  | refine e_nrm ?_ | refine x_none rfl ?_ | refine x_run_f rfl rfl (by first | rfl | assumption) ?_ | with_reducible refine q_then ?_ )
      refine w_cond rfl (fun h6 => ?_) (fun h6 => ?_)
      · repeat (first | ((with_reducible refine k_move ?_); refine m_move rfl ?_) | ((with_reducible refine k_bin ?_); refine x_add_in rfl rfl (by omega) ?_)  | refine e_nrm ?_ | refine x_none rfl ?_ | with_reducible (first | refine q_then ?_ | refine q_then_exit ?_ | refine awp_exit ?_) | ((with_reducible refine q_block_exit ?_ ?_); rfl) | ((with_reducible refine w_region ?_ ?_); kernel_rfl))
        exact ⟨j + 1, by omega, by omega, ⟨rfl, rfl, rfl, rfl, rfl, rfl, rfl, rfl, rfl, rfl, rfl, rfl, trivial⟩, ⟨rfl, rfl, rfl, rfl, rfl, rfl, trivial⟩⟩
      have hca : c.ask = 2 := by simpa using h5
      have hcs : c.st = 3 := by simpa using h6
      obtain ⟨i, d, d1, d2, d3, d4, d5⟩ := (hC.swap).safe (List.mem_of_getElem? hc) hca hcs
      have hyd := ce_at d2
      have hbl := (hC.swap).swap.len
      have hff := cfind_A (G := X.G) L0 c.ask c.num (by omega)
      rw [d1] at hff
      have p1 : decide (((i : Nat) : Int) < 0) = false := decide_eq_false (by omega)
      have p2 : (d.st != 2) = false := by rw [d3]; rfl
      have hft := cfits_A (G := X.G) N V d.lk n1 n2 n3 n4 (by omega)
      rw [d4] at hft
      repeat (first | ((with_reducible refine k_move ?_); refine m_move rfl ?_) | ((with_reducible refine k_bin ?_); refine x_sub_in rfl rfl (by omega) ?_)  | refine x_none rfl ?_ | with_reducible (first | refine q_then ?_ | refine awp_seq ?_ | refine awp_skip ?_) | ((with_reducible refine w_draw mixd ?_ ?_); kernel_rfl))
      (with_reducible refine k_indexAddr ?_)
      refine x_indexAddr_arr tbOk Tryd.underlying35 rfl rfl rfl ⟨by decide, by decide⟩ ?_
      repeat (first | ((with_reducible refine k_fieldAddr ?_); refine x_fieldAddr_ptr tbOk rfl rfl rfl rfl ?_) | ((with_reducible refine k_load ?_); refine x_load_one tbOk rfl rfl rfl rfl rfl ?_)  | refine x_none rfl ?_  )
      refine x_call0 (hff) (by repeat' (first | exact trivial | exact Ren.v _ | exact Ren.sl _ _ | refine ⟨?_, ?_⟩)) (by repeat' exact RenB.v _) ?_
      repeat (first | ((with_reducible refine k_move ?_); refine m_move rfl ?_) | ((with_reducible refine k_assign ?_); refine m_assign rfl ?_) | ((with_reducible refine k_bin ?_); (first | refine x_sub_in rfl rfl (by omega) ?_ | refine m_binI rfl rfl rfl ?_))  | refine e_drw (by kernel_rfl) ?_ | refine x_none rfl ?_ | refine x_run_f rfl rfl (by first | rfl | assumption) ?_ | with_reducible (first | refine q_then ?_ | refine awp_seq ?_) | ((with_reducible refine w_draw mixd ?_ ?_); kernel_rfl))
      (with_reducible refine k_indexAddr ?_)
      refine x_indexAddr_arr tbOk Tryd.underlying35 rfl rfl rfl ⟨by decide, by decide⟩ ?_
      repeat (first | ((with_reducible refine k_move ?_); refine m_move rfl ?_) | ((with_reducible refine k_fieldAddr ?_); refine x_fieldAddr_ep tbOk rfl rfl rfl rfl ?_) | ((with_reducible refine k_load ?_); (first | refine x_load_one tbOk rfl rfl rfl rfl rfl ?_ | refine x_load_agg tbOk rfl rfl rfl rfl (Nat.le_of_ble_eq_true rfl) ?_ | refine x_load_ep_one tbOk rfl rfl rfl ?_)) | ((with_reducible refine k_pick ?_); refine m_pickf rfl (by first | rfl | assumption) rfl ?_) | ((with_reducible refine k_indexAddr ?_); refine x_indexAddr_n tbOk rfl rfl rfl rfl (by assumption) ?_) | ((with_reducible refine k_bin ?_); (first | refine x_sub_in rfl rfl (by omega) ?_ | refine m_binI rfl rfl rfl ?_))  | refine x_none rfl ?_ | refine x_run_f rfl rfl (by first | rfl | assumption) ?_  )
      (with_reducible refine k_indexAddr ?_)
      refine x_indexAddr_arr tbOk Tryd.underlying35 rfl rfl rfl ⟨by decide, by decide⟩ ?_
      repeat (first | ((with_reducible refine k_move ?_); refine m_move rfl ?_) | ((with_reducible refine k_fieldAddr ?_); refine x_fieldAddr_ep tbOk rfl rfl rfl rfl ?_) | ((with_reducible refine k_load ?_); (first | refine x_load_one tbOk rfl rfl rfl rfl rfl ?_ | refine x_load_ep_one tbOk rfl rfl rfl ?_)) | ((with_reducible refine k_indexAddr ?_); refine x_indexAddr_n tbOk rfl rfl rfl rfl (by assumption) ?_)  | refine x_run_f rfl rfl (by first | rfl | assumption) ?_  )
      refine x_call0 (hft) (by repeat' (first | exact trivial | exact Ren.sl _ _ | refine ren_ag ?_ | refine ⟨?_, ?_⟩)) (by repeat' exact RenB.v _) ?_
      repeat (first | ((with_reducible refine k_move ?_); refine m_move rfl ?_) | ((with_reducible refine k_un ?_); refine x_not rfl ?_) | ((with_reducible refine k_pick ?_); refine m_pickf rfl (by first | rfl | assumption) rfl ?_) | ((with_reducible refine k_bin ?_); refine x_add_in rfl rfl (by omega) ?_)  | refine e_nrm ?_ | refine e_drw (by kernel_rfl) ?_ | refine x_none rfl ?_ | refine x_run_f rfl rfl (by first | rfl | assumption) ?_ | with_reducible (first | refine q_then ?_ | refine q_block ?_ | refine awp_skip ?_) | ((with_reducible refine w_region ?_ ?_); kernel_rfl) | refine w_cond_f rfl (by first | rfl | assumption) ?_)
      exact ⟨j + 1, by omega, by omega, ⟨rfl, rfl, rfl, rfl, rfl, rfl, rfl, rfl, rfl, rfl, rfl, rfl, trivial⟩, ⟨rfl, rfl, rfl, rfl, rfl, rfl, trivial⟩⟩
end Go.Proofs.YtamihjgfncjdoaaDoor
