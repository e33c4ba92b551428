/- permitofficelaw17.ProgrammeReturns, by the abstract machine: it answers true for all lists; conditions: the tables of classes, powers and places and a cell of the library stand. -/
import Derived.Test.YtggngllfnboehaaDoorPgI
set_option linter.unusedVariables false
set_option linter.unusedSimpArgs false
namespace Go.Proofs.YtggngllfnboehaaDoor
open Go Go.RowKit
set_option maxRecDepth 10000
variable {G : Nat → Option (List Value)}
/-- The network of a list of numbers. -/
def nD (l : List Int) (nodes : Int) : List Nd := (net1 (dk0 l) nodes).1
def vD (l : List Int) (nodes : Int) (m : Nat) : List Dv := (net5 (dk0 l) nodes m).1
theorem nD_len {l : List Int} {nodes : Int} (h1 : 1 ≤ nodes) (h2 : nodes ≤ 30) : 1 ≤ (nD l nodes).length := by
  have hk := netK_in (dk0 l) h1 (by omega)
  have hN : (nD l nodes).length = netK (dk0 l) nodes := nodesD_len _ _
  omega
theorem nw_ok {l : List Int} (h : l.length ≤ 400) {nodes : Int} {m : Nat} (h1 : 1 ≤ nodes) (h2 : nodes ≤ 30) (hm : m ≤ 60) : NwOk (nD l nodes) (vD l nodes m) := by
  have hk := netK_in (dk0 l) h1 (by omega)
  have hN : (nD l nodes).length = netK (dk0 l) nodes := nodesD_len _ _
  have hv := net5_ok (DkOk.new h) m h1 (by omega)
  refine ⟨fun x hx => ?_, fun x hx => ?_, by rw [hN]; unfold maxLen; omega, by have := hv.len; unfold maxLen; show (vD l nodes m).length ≤ _; unfold vD; omega⟩
  · obtain ⟨j, hj⟩ := List.getElem?_of_mem hx
    rw [(nodesD_at _ _ j x hj).1, nmS_size]; decide
  · obtain ⟨j, hj⟩ := List.getElem?_of_mem hx
    rw [(hv.at_ j x hj).nm, nmS_size]; decide
theorem nw_valid {l : List Int} (h : l.length ≤ 400) {nodes : Int} {m : Nat} (h1 : 1 ≤ nodes) (h2 : nodes ≤ 30) (hm : m ≤ 60) : netE (nD l nodes) (vD l nodes m) = 0 := net_valid (DkOk.new h) h1 h2 hm
theorem print_ok {N : List Nd} {V : List Dv} {P : Pg} (h : PgOk N V P) : printG N V P = (strL (txtOf (linesP N V P)), 0) := by
  unfold printG
  rw [if_neg (by rw [progE_iff.2 h]; decide)]
  rfl
theorem cnt_txt : ∀ {L : List (List UInt8)}, (∀ l ∈ L, ∀ c ∈ l, c ≠ 10) → (txtOf L).count 10 = L.length
  | [], _ => rfl
  | l :: L, h => by
    have ih := cnt_txt (L := L) (fun x hx => h x (by simp [hx]))
    unfold txtOf at ih ⊢
    rw [List.flatMap_cons, List.count_append, List.count_append, ih, List.count_eq_zero.2 (fun hm => h l (by simp) 10 hm rfl)]
    simp; omega
theorem cnt_next {L : List UInt8} {k : Nat} {c : UInt8} (h : L[k]? = some c) : (L.take (k + 1)).count 10 = (L.take k).count 10 + if c = 10 then 1 else 0 := by
  rw [take_at h, List.count_append]
  by_cases e : c = 10
  · subst e; simp
  · rw [if_neg e, List.count_eq_zero.2 (fun hm => e (List.mem_singleton.1 hm).symm : ¬ (10 : UInt8) ∈ [c])]
theorem lines_no10 {N : List Nd} {V : List Dv} {P : Pg} (h : PgOk N V P) : ∀ l ∈ linesP N V P, ∀ c ∈ l, c ≠ 10 := fun l hl c hc e => by
  have := ((lines_okP h l hl).1 c hc).1
  rw [e] at this
  exact absurd this (by decide)
def isO (o : On) : Bool := decide (o.p = 1)
def isK (k : Int) (s : St) : Bool := decide (s.k = k)
theorem ops_open : ∀ L : List St, (opsP L).countP isO = L.countP (isK 1) ∧ (opsP L).countP (fun o => !isO o) = L.countP (isK 2)
  | [] => ⟨rfl, rfl⟩
  | s :: l => by
    obtain ⟨i1, i2⟩ := ops_open l
    unfold opsP at i1 i2 ⊢
    rw [List.flatMap_cons, List.countP_append, List.countP_append, i1, i2, List.countP_cons, List.countP_cons]
    unfold onOf isK
    by_cases h1 : s.k = 1
    · rw [if_pos h1, h1]; simp [isO]; omega
    · rw [if_neg h1]
      by_cases h2 : s.k = 2
      · rw [if_pos h2, h2]; simp [isO]; omega
      · rw [if_neg h2]; simp [h1, h2]
theorem cp_next {α : Type} (p : α → Bool) {L : List α} {k : Nat} {x : α} (h : L[k]? = some x) : (L.take (k + 1)).countP p = (L.take k).countP p + if p x = true then 1 else 0 := by
  rw [take_at h, List.countP_append, List.countP_singleton]
theorem cp_le {α : Type} (p : α → Bool) (L : List α) (k : Nat) : (L.take k).countP p ≤ L.length := by
  have := List.countP_le_length (p := p) (l := L.take k)
  rw [List.length_take] at this
  omega
theorem on_at {L : List On} {k : Nat} {x : On} (h : L[k]? = some x) : (L.map On.av)[k]? = some x.av := by rw [List.getElem?_map, h]; rfl
set_option maxHeartbeats 16000000 in
theorem returns_law (l : List Int) (hG : GCls G) (hP : GPow G) (hPl : GPlc G) (hM : GMax G) : ACalls Tryd.prog G 5 [.sl 1 (l.map iv)] [] (.v (.bool true)) [] := by
  refine acalls_of tbOk (enter_of Tryd.func5 (by kernel_rfl) rfl) Tryd.func5 rfl _ Tryd.ntmps5 (Nat.le_of_ble_eq_true rfl) fun X hX => ?_
  subst hX
  repeat (first | ((with_reducible refine k_move ?_); refine m_move rfl ?_) | ((with_reducible refine k_assign ?_); refine m_assign rfl ?_)  | refine e_nrm ?_ | refine x_none rfl ?_ | with_reducible refine q_then ?_ | with_reducible refine awp_seq ?_ | ((with_reducible refine w_region ?_ ?_); kernel_rfl))
  refine x_call0 (few_A (l.map iv)) (by repeat' (first | exact trivial | exact Ren.v _ | exact Ren.sl _ _ | exact Ren.ep _ | exact Ren.ptr _ _ _ _ rfl | exact Ren.bs _ _ _ _ _ rfl | exact Ren.nil _ | exact Ren.own _ _ _ _ ⟨_, rfl⟩ | refine ren_ag ?_ | refine ren_tu ?_ | refine ren_fn ?_ | refine ⟨?_, ?_⟩)) (by repeat' (first | exact trivial | exact RenB.v _ | exact RenB.sl _ _ | exact RenB.ep _ | exact RenB.ptr _ _ _ _ rfl | refine renb_ag ?_ | refine renb_tu ?_ | refine ⟨?_, ?_⟩)) ?_
  repeat (first | ((with_reducible refine k_un ?_); refine x_not rfl ?_)  | refine e_nrm ?_ | refine x_none rfl ?_ | with_reducible refine q_then ?_ )
  refine w_cond rfl (fun h => ?_) (fun h => ?_)
  · repeat (first   | refine x_none rfl ?_ | with_reducible refine awp_seq ?_ | ((with_reducible refine w_region ?_ ?_); kernel_rfl))
    refine x_call0 (awake_A hG hP hPl hM) (by repeat' (first | exact trivial | exact Ren.v _ | exact Ren.sl _ _ | exact Ren.ep _ | exact Ren.ptr _ _ _ _ rfl | exact Ren.bs _ _ _ _ _ rfl | exact Ren.nil _ | exact Ren.own _ _ _ _ ⟨_, rfl⟩ | refine ren_ag ?_ | refine ren_tu ?_ | refine ren_fn ?_ | refine ⟨?_, ?_⟩)) (by repeat' (first | exact trivial | exact RenB.v _ | exact RenB.sl _ _ | exact RenB.ep _ | exact RenB.ptr _ _ _ _ rfl | refine renb_ag ?_ | refine renb_tu ?_ | refine ⟨?_, ?_⟩)) ?_
    repeat (first | ((with_reducible refine k_assign ?_); refine m_assign rfl ?_)  | refine e_nrm ?_ | refine x_none rfl ?_ | with_reducible refine q_then ?_ | with_reducible refine q_then_ret ?_ | with_reducible refine awp_ret ?_ )
    refine ret_v (by first | exact .inr rfl | exact .inl rfl) rfl rfl ?_
    rfl
  have hl : l.length ≤ 400 := by simp at h; omega
  have dk := DkOk.new hl
  have hv := net5_ok dk 9 (nodes := 6) (by decide) (by decide)
  have hvp := net5_pos (dk0 l) 6 (m := 9) (by decide)
  have ok : NwOk (net1 (dk0 l) 6).1 (net5 (dk0 l) 6 9).1 := nw_ok hl (nodes := 6) (m := 9) (by decide) (by decide) (by decide)
  have h0 : netE (net1 (dk0 l) 6).1 (net5 (dk0 l) 6 9).1 = 0 := nw_valid hl (nodes := 6) (m := 9) (by decide) (by decide) (by decide)
  have hnp : 1 ≤ (net1 (dk0 l) 6).1.length := nD_len (l := l) (nodes := 6) (by decide) (by decide)
  have hnet := network_A (G := X.G) (dk0 l) 6 9 dk (by decide) (by decide) (by decide)
  have hdk := hv.dk
  obtain ⟨N, hN⟩ : ∃ N, N = (net1 (dk0 l) 6).1 := ⟨_, rfl⟩
  obtain ⟨V, hV⟩ : ∃ V, V = (net5 (dk0 l) 6 9).1 := ⟨_, rfl⟩
  obtain ⟨E, hE⟩ : ∃ E, E = (net5 (dk0 l) 6 9).2 := ⟨_, rfl⟩
  rw [← hN, ← hV, ← hE] at hnet
  rw [← hN, ← hV] at ok h0
  rw [← hV] at hvp
  rw [← hN] at hnp
  rw [← hE] at hdk
  have hnl := net_len h0
  have hnl9 : N.length ≤ 9223372036854775807 ∧ V.length ≤ 9223372036854775807 := by omega
  obtain ⟨hpo, hpm⟩ := progD_ok E (most := 30) h0 hnp hvp (by decide)
  have hpd := progD_dk (nN := N.length) (nV := V.length) (most := 30) hdk
  have hprog := mkprog_A (G := X.G) N V 30 E hdk (by omega) (by omega) (by decide)
  obtain ⟨P, hPg⟩ : ∃ P, P = (progD N.length V.length 30 E).1 := ⟨_, rfl⟩
  obtain ⟨D, hD⟩ : ∃ D, D = (progD N.length V.length 30 E).2 := ⟨_, rfl⟩
  rw [← hPg, ← hD] at hprog
  rw [← hPg] at hpo hpm
  rw [← hD] at hpd
  have hpl := hpo.l
  have hplm : P.st.length ≤ maxLen := by unfold maxLen; omega
  have hpn : P.n.size ≤ maxLen := by have := name_sz hpo.n; unfold maxLen; omega
  have hpr := print_A (G := X.G) N V P hG hP hPl ok hpn hplm
  rw [print_ok hpo] at hpr
  obtain ⟨T, hT⟩ : ∃ T, T = txtOf (linesP N V P) := ⟨_, rfl⟩
  have hTl := text_len hpo
  rw [← hT] at hpr hTl
  have hpa := pparse_A (G := X.G) N V (strL T) hG hP hPl hM ok (by rw [strL_size]; omega)
  rw [strL_data, hT, parse_text hpo, ← hT] at hpa
  have hsa := psame_A (G := X.G) P P hplm
  rw [psameB_refl] at hsa
  have hsr := prsame_A (G := X.G) P P hplm hplm
  rw [psameB_refl] at hsr
  have hcnt : T.count 10 = P.st.length + 1 := by
    rw [hT, cnt_txt (lines_no10 hpo)]
    unfold linesP
    simp
  have hol := opsP_len P.st
  obtain ⟨ho1, ho2⟩ := ops_open P.st
  obtain ⟨O, hO⟩ : ∃ O, O = opsP P.st := ⟨_, rfl⟩
  have hops := pops_A (G := X.G) P (by omega)
  rw [← hO] at hol ho1 ho2 hops
  obtain ⟨S, hS⟩ : ∃ S, S = strL T := ⟨_, rfl⟩
  have hSd : S.data.toList = T := by rw [hS, strL_data]
  have hSz : S.size = T.length := by rw [hS, strL_size]
  rw [← hS] at hpr hpa
  repeat (first | ((with_reducible refine k_move ?_); refine m_move rfl ?_)  | refine x_none rfl ?_ | with_reducible refine q_then ?_ | with_reducible refine awp_seq ?_ | with_reducible refine awp_skip ?_ | ((with_reducible refine w_region ?_ ?_); kernel_rfl))
  refine x_call_new (new_A l) (by repeat' (first | exact trivial | exact Ren.v _ | exact Ren.sl _ _ | exact Ren.ep _ | exact Ren.ptr _ _ _ _ rfl | exact Ren.bs _ _ _ _ _ rfl | exact Ren.nil _ | exact Ren.own _ _ _ _ ⟨_, rfl⟩ | refine ren_ag ?_ | refine ren_tu ?_ | refine ren_fn ?_ | refine ⟨?_, ?_⟩)) ⟨.sl _ _, .v _, .v _, trivial⟩ rfl ?_
  repeat (first | ((with_reducible refine k_move ?_); refine m_move rfl ?_) | ((with_reducible refine k_assign ?_); refine m_assign rfl ?_)  | refine e_nrm ?_ | refine x_none rfl ?_ | with_reducible refine q_then ?_ | with_reducible refine awp_seq ?_ | ((with_reducible refine w_region ?_ ?_); kernel_rfl))
  refine x_call (y := .ag [.sl 3 (N.map Nd.av), .sl 5 (V.map Dv.av)]) (ss := [(24, 1)]) (hnet) (by repeat' (first | exact trivial | exact Ren.v _ | exact Ren.sl _ _ | exact Ren.ep _ | exact Ren.ptr _ _ _ _ rfl | exact Ren.bs _ _ _ _ _ rfl | exact Ren.nil _ | exact Ren.own _ _ _ _ ⟨_, rfl⟩ | refine ren_ag ?_ | refine ren_tu ?_ | refine ren_fn ?_ | refine ⟨?_, ?_⟩)) (by simp) (in1 rfl rfl) rfl (back1 rfl) (by repeat' (first | exact trivial | exact RenB.v _ | exact RenB.sl _ _ | exact RenB.ep _ | exact RenB.ptr _ _ _ _ rfl | refine renb_ag ?_ | refine renb_tu ?_ | refine ⟨?_, ?_⟩)) ?_
  repeat (first | ((with_reducible refine k_move ?_); refine m_move rfl ?_) | ((with_reducible refine k_load ?_); refine x_load_agg tbOk rfl rfl rfl rfl (Nat.le_of_ble_eq_true rfl) ?_) | ((with_reducible refine k_store ?_); refine m_store tbOk rfl rfl rfl rfl rfl rfl rfl (Nat.le_of_ble_eq_true rfl) rfl ?_) | ((with_reducible refine k_alloc ?_); refine x_alloc tbOk rfl rfl ?_)  | refine e_nrm ?_ | refine x_none rfl ?_ | with_reducible refine q_then ?_ | with_reducible refine awp_seq ?_ | ((with_reducible refine w_region ?_ ?_); kernel_rfl))
  refine x_call (y := .ag [.v (.string P.n), .sl 5 (P.st.map St.av)]) (ss := [(24, 1)]) (hprog) (by repeat' (first | exact trivial | exact Ren.v _ | exact Ren.sl _ _ | exact Ren.ep _ | exact Ren.ptr _ _ _ _ rfl | exact Ren.bs _ _ _ _ _ rfl | exact Ren.nil _ | exact Ren.own _ _ _ _ ⟨_, rfl⟩ | refine ren_ag ?_ | refine ren_tu ?_ | refine ren_fn ?_ | refine ⟨?_, ?_⟩)) (by simp) (in1 rfl rfl) rfl (back1 rfl) (by repeat' (first | exact trivial | exact RenB.v _ | exact RenB.sl _ _ | exact RenB.ep _ | exact RenB.ptr _ _ _ _ rfl | refine renb_ag ?_ | refine renb_tu ?_ | refine ⟨?_, ?_⟩)) ?_
  repeat (first | ((with_reducible refine k_load ?_); refine x_load_agg tbOk rfl rfl rfl rfl (Nat.le_of_ble_eq_true rfl) ?_) | ((with_reducible refine k_store ?_); refine m_store tbOk rfl rfl rfl rfl rfl rfl rfl (Nat.le_of_ble_eq_true rfl) rfl ?_) | ((with_reducible refine k_alloc ?_); refine x_alloc tbOk rfl rfl ?_)  | refine e_nrm ?_ | refine x_none rfl ?_ | with_reducible refine q_then ?_ | with_reducible refine awp_seq ?_ | ((with_reducible refine w_region ?_ ?_); kernel_rfl))
  refine x_call0 (hpr) (by repeat' (first | exact trivial | exact Ren.v _ | exact Ren.sl _ _ | exact Ren.ep _ | exact Ren.ptr _ _ _ _ rfl | exact Ren.bs _ _ _ _ _ rfl | exact Ren.nil _ | exact Ren.own _ _ _ _ ⟨_, rfl⟩ | refine ren_ag ?_ | refine ren_tu ?_ | refine ren_fn ?_ | refine ⟨?_, ?_⟩)) (by repeat' (first | exact trivial | exact RenB.v _ | exact RenB.sl _ _ | exact RenB.ep _ | exact RenB.ptr _ _ _ _ rfl | refine renb_ag ?_ | refine renb_tu ?_ | refine ⟨?_, ?_⟩)) ?_
  repeat (first | ((with_reducible refine k_move ?_); refine m_move rfl ?_) | ((with_reducible refine k_assign ?_); refine m_assign rfl ?_) | ((with_reducible refine k_load ?_); refine x_load_agg tbOk rfl rfl rfl rfl (Nat.le_of_ble_eq_true rfl) ?_) | ((with_reducible refine k_extract ?_); refine x_extract rfl rfl ?_)  | refine e_nrm ?_ | refine x_none rfl ?_ | with_reducible refine q_then ?_ | with_reducible refine awp_seq ?_ | ((with_reducible refine w_region ?_ ?_); kernel_rfl))
  refine x_call0 (hpa) (by repeat' (first | exact trivial | exact Ren.v _ | exact Ren.sl _ _ | exact Ren.ep _ | exact Ren.ptr _ _ _ _ rfl | exact Ren.bs _ _ _ _ _ rfl | exact Ren.nil _ | exact Ren.own _ _ _ _ ⟨_, rfl⟩ | refine ren_ag ?_ | refine ren_tu ?_ | refine ren_fn ?_ | refine ⟨?_, ?_⟩)) (by repeat' (first | exact trivial | exact RenB.v _ | exact RenB.sl _ _ | exact RenB.ep _ | exact RenB.ptr _ _ _ _ rfl | refine renb_ag ?_ | refine renb_tu ?_ | refine ⟨?_, ?_⟩)) ?_
  repeat (first | ((with_reducible refine k_move ?_); refine m_move rfl ?_) | ((with_reducible refine k_assign ?_); refine m_assign rfl ?_) | ((with_reducible refine k_store ?_); refine m_store tbOk rfl rfl rfl rfl rfl rfl rfl (Nat.le_of_ble_eq_true rfl) rfl ?_) | ((with_reducible refine k_alloc ?_); refine x_alloc tbOk rfl rfl ?_) | ((with_reducible refine k_extract ?_); refine x_extract rfl rfl ?_)  | refine e_nrm ?_ | refine x_none rfl ?_ | with_reducible refine q_then ?_ | with_reducible refine awp_seq ?_ | with_reducible refine awp_block ?_ | ((with_reducible refine w_region ?_ ?_); kernel_rfl))
  refine awp_loop (ι := Nat) (fun k => k ≤ T.length) (fun k => T.length - k) (fun v k => [(5, .ptr 5 (v 5) 0), (6, .v (.string S)), (7, .v (.int .i64 0)), (8, .ptr 8 (v 8) 0), (9, .v (.int .i64 0)), (10, .v (.int .i64 0)), (11, .v (.int .i64 ((T.take k).count 10 : Nat))), (12, .v (.int .i64 0)), (13, .v (.int .i64 0)), (14, .v (.int .i64 (k : Nat)))]) (fun v k => [(5, .box [.v (.string P.n), .sl 5 (P.st.map St.av)]), (8, .box [.v (.string P.n), .sl 5 (P.st.map St.av)])]) ?_ ?_
  · exact ⟨0, Nat.zero_le _, trivial, ⟨rfl, rfl, rfl, rfl, rfl, rfl, rfl, rfl, rfl, rfl, trivial⟩, ⟨rfl, rfl, trivial⟩⟩
  rintro v k hk
  have hck : (T.take k).count 10 ≤ k := by
    have := List.count_le_length (a := (10 : UInt8)) (l := T.take k)
    rw [List.length_take] at this
    omega
  repeat (first | ((with_reducible refine k_move ?_); refine m_move rfl ?_) | ((with_reducible refine k_call ?_); refine x_len_str (by exact Tryd.underlying9) rfl ?_) | ((with_reducible refine k_bin ?_); refine m_binI rfl rfl rfl ?_)  | refine e_nrm ?_ | refine x_none rfl ?_ | with_reducible refine q_then ?_ | with_reducible refine awp_seq ?_ | ((with_reducible refine w_region ?_ ?_); kernel_rfl))
  refine w_cond rfl (fun h => ?_) (fun h => ?_)
  · have hlt : k < T.length := by rw [hSz] at h; simpa using h
    obtain ⟨c, hc⟩ := some_at hlt
    have ix := nidxS S k c (by rw [hSd]; exact hc)
    have hcn := cnt_next hc
    repeat (first | ((with_reducible refine k_move ?_); refine m_move rfl ?_) | ((with_reducible refine k_index ?_); refine x_index rfl rfl (by assumption) ?_) | ((with_reducible refine k_bin ?_); refine m_binI rfl rfl rfl ?_)  | refine e_nrm ?_ | refine x_none rfl ?_ | with_reducible refine q_then ?_ | with_reducible refine awp_seq ?_ | with_reducible refine awp_block ?_ | with_reducible refine awp_skip ?_ | ((with_reducible refine w_region ?_ ?_); kernel_rfl))
    refine w_cond rfl (fun q => ?_) (fun q => ?_)
    · have hc10 : c = 10 := by
        have h1 : (c.toNat : Int) = 10 := by simpa using q
        exact UInt8.toNat_inj.1 (by show c.toNat = 10; omega)
      rw [if_pos hc10] at hcn
      repeat (first | ((with_reducible refine k_move ?_); refine m_move rfl ?_) | ((with_reducible refine k_assign ?_); refine m_assign rfl ?_) | ((with_reducible refine k_bin ?_); refine x_add_in rfl rfl (by omega) ?_)  | refine e_nrm ?_ | refine x_none rfl ?_ | with_reducible refine q_then ?_ | with_reducible refine q_block ?_ | ((with_reducible refine w_region ?_ ?_); kernel_rfl))
      exact ⟨k + 1, by omega, by omega, ⟨rfl, rfl, rfl, rfl, rfl, rfl, congrArg (fun z : Int => AV.v (.int .i64 z)) (by rw [hcn]; omega), rfl, rfl, rfl, trivial⟩, ⟨rfl, rfl, trivial⟩⟩
    · have hc10 : ¬ c = 10 := fun e => by
        have h1 : ¬ (c.toNat : Int) = 10 := by simpa using q
        exact h1 (by rw [e]; rfl)
      rw [if_neg hc10] at hcn
      repeat (first | ((with_reducible refine k_move ?_); refine m_move rfl ?_) | ((with_reducible refine k_assign ?_); refine m_assign rfl ?_) | ((with_reducible refine k_bin ?_); refine x_add_in rfl rfl (by omega) ?_)  | refine e_nrm ?_ | refine x_none rfl ?_ | with_reducible refine q_then ?_ | with_reducible refine q_block ?_ | with_reducible refine awp_skip ?_ | ((with_reducible refine w_region ?_ ?_); kernel_rfl))
      exact ⟨k + 1, by omega, by omega, ⟨rfl, rfl, rfl, rfl, rfl, rfl, congrArg (fun z : Int => AV.v (.int .i64 z)) (by rw [hcn]; omega), rfl, rfl, rfl, trivial⟩, ⟨rfl, rfl, trivial⟩⟩
  have hkT : k = T.length := by rw [hSz] at h; simp at h; omega
  rw [hkT, List.take_length, hcnt]
  repeat (first | ((with_reducible refine k_load ?_); refine x_load_agg tbOk rfl rfl rfl rfl (Nat.le_of_ble_eq_true rfl) ?_)  | refine x_none rfl ?_ | with_reducible refine q_then ?_ | with_reducible refine q_then_exit ?_ | with_reducible refine awp_seq ?_ | with_reducible refine awp_exit ?_ | ((with_reducible refine q_block_exit ?_ ?_); rfl) | ((with_reducible refine w_region ?_ ?_); kernel_rfl))
  refine x_call0 (hops) (by repeat' (first | exact trivial | exact Ren.v _ | exact Ren.sl _ _ | exact Ren.ep _ | exact Ren.ptr _ _ _ _ rfl | exact Ren.bs _ _ _ _ _ rfl | exact Ren.nil _ | exact Ren.own _ _ _ _ ⟨_, rfl⟩ | refine ren_ag ?_ | refine ren_tu ?_ | refine ren_fn ?_ | refine ⟨?_, ?_⟩)) (by repeat' (first | exact trivial | exact RenB.v _ | exact RenB.sl _ _ | exact RenB.ep _ | exact RenB.ptr _ _ _ _ rfl | refine renb_ag ?_ | refine renb_tu ?_ | refine ⟨?_, ?_⟩)) ?_
  repeat (first | ((with_reducible refine k_move ?_); refine m_move rfl ?_) | ((with_reducible refine k_call ?_); refine x_len tbOk rfl rfl ?_)  | refine e_nrm ?_ | refine x_none rfl ?_ | with_reducible refine q_then ?_ | with_reducible refine awp_block ?_ )
  refine awp_loop (ι := Nat) (fun k => k ≤ O.length) (fun k => O.length - k) (fun v k => [(5, .ptr 5 (v 5) 0), (7, .v (.int .i64 0)), (8, .ptr 8 (v 8) 0), (9, .v (.int .i64 0)), (10, .v (.int .i64 0)), (11, .v (.int .i64 ((P.st.length + 1 : Nat) : Int))), (12, .v (.int .i64 ((O.take k).countP isO : Nat))), (13, .v (.int .i64 ((O.take k).countP (fun o => !isO o) : Nat))), (56, .sl 2 (O.map On.av)), (57, .v (.int .i64 (O.map On.av).length)), (58, .v (.int .i64 (k : Nat)))]) (fun v k => [(5, .box [.v (.string P.n), .sl 5 (P.st.map St.av)]), (8, .box [.v (.string P.n), .sl 5 (P.st.map St.av)])]) ?_ ?_
  · exact ⟨0, Nat.zero_le _, trivial, ⟨rfl, rfl, rfl, rfl, rfl, rfl, rfl, rfl, rfl, rfl, rfl, trivial⟩, ⟨rfl, rfl, trivial⟩⟩
  rintro v j hj
  have hc1 := cp_le isO O j
  have hc2 := cp_le (fun o => !isO o) O j
  repeat (first | ((with_reducible refine k_bin ?_); refine m_binI rfl rfl rfl ?_)  | refine e_nrm ?_ | refine x_none rfl ?_ | with_reducible refine q_then ?_ | with_reducible refine awp_seq ?_ | ((with_reducible refine w_region ?_ ?_); kernel_rfl))
  refine w_cond rfl (fun h => ?_) (fun h => ?_)
  · have hlt : j < O.length := by simpa using h
    obtain ⟨o, ho⟩ := some_at hlt
    have hy := on_at ho
    have n1 := cp_next isO ho
    have n2 := cp_next (fun o => !isO o) ho
    repeat (first | ((with_reducible refine k_fieldAddr ?_); refine x_fieldAddr_ptr tbOk rfl rfl rfl rfl ?_) | ((with_reducible refine k_load ?_); refine x_load_one tbOk rfl rfl rfl rfl rfl ?_) | ((with_reducible refine k_load ?_); refine x_load_ep_agg tbOk rfl rfl (Nat.le_of_ble_eq_true rfl) ?_) | ((with_reducible refine k_store ?_); refine m_store tbOk rfl rfl rfl rfl rfl rfl rfl (Nat.le_of_ble_eq_true rfl) rfl ?_) | ((with_reducible refine k_alloc ?_); refine x_alloc tbOk rfl rfl ?_) | ((with_reducible refine k_indexAddr ?_); refine x_indexAddr_n tbOk rfl rfl rfl rfl (by assumption) ?_) | ((with_reducible refine k_bin ?_); refine m_binI rfl rfl rfl ?_)  | refine e_nrm ?_ | refine x_none rfl ?_ | with_reducible refine q_then ?_ | with_reducible refine awp_seq ?_ | with_reducible refine awp_block ?_ | with_reducible refine awp_skip ?_ | ((with_reducible refine w_region ?_ ?_); kernel_rfl))
    refine w_cond rfl (fun q => ?_) (fun q => ?_)
    · have q' : isO o = true := by unfold isO; simpa using q
      rw [q'] at n1 n2
      repeat (first | ((with_reducible refine k_move ?_); refine m_move rfl ?_) | ((with_reducible refine k_assign ?_); refine m_assign rfl ?_) | ((with_reducible refine k_bin ?_); refine x_add_in rfl rfl (by omega) ?_)  | refine e_nrm ?_ | refine x_none rfl ?_ | with_reducible refine q_then ?_ | with_reducible refine q_block ?_ | ((with_reducible refine w_region ?_ ?_); kernel_rfl))
      exact ⟨j + 1, by omega, by omega, ⟨rfl, rfl, rfl, rfl, rfl, rfl, congrArg (fun z : Int => AV.v (.int .i64 z)) (by rw [n1]; simp), congrArg (fun z : Int => AV.v (.int .i64 z)) (by rw [n2]; simp), rfl, rfl, rfl, trivial⟩, ⟨rfl, rfl, trivial⟩⟩
    · have q' : isO o = false := by unfold isO; simpa using q
      rw [q'] at n1 n2
      repeat (first | ((with_reducible refine k_move ?_); refine m_move rfl ?_) | ((with_reducible refine k_assign ?_); refine m_assign rfl ?_) | ((with_reducible refine k_bin ?_); refine x_add_in rfl rfl (by omega) ?_)  | refine e_nrm ?_ | refine x_none rfl ?_ | with_reducible refine q_then ?_ | with_reducible refine q_block ?_ | ((with_reducible refine w_region ?_ ?_); kernel_rfl))
      exact ⟨j + 1, by omega, by omega, ⟨rfl, rfl, rfl, rfl, rfl, rfl, congrArg (fun z : Int => AV.v (.int .i64 z)) (by rw [n1]; simp), congrArg (fun z : Int => AV.v (.int .i64 z)) (by rw [n2]; simp), rfl, rfl, rfl, trivial⟩, ⟨rfl, rfl, trivial⟩⟩
  have hge : O.length ≤ j := by simpa using h
  rw [List.take_of_length_le hge, ho1, ho2]
  repeat (first | ((with_reducible refine k_move ?_); refine m_move rfl ?_) | ((with_reducible refine k_fieldAddr ?_); refine x_fieldAddr_ptr tbOk rfl rfl rfl rfl ?_) | ((with_reducible refine k_load ?_); refine x_load_one tbOk rfl rfl rfl rfl rfl ?_) | ((with_reducible refine k_call ?_); refine x_len tbOk rfl rfl ?_)  | refine e_nrm ?_ | refine x_none rfl ?_ | with_reducible refine q_then ?_ | with_reducible refine q_then_exit ?_ | with_reducible refine awp_seq ?_ | with_reducible refine awp_block ?_ | with_reducible refine awp_exit ?_ | ((with_reducible refine q_block_exit ?_ ?_); rfl) | ((with_reducible refine w_region ?_ ?_); kernel_rfl))
  refine awp_loop (ι := Nat) (fun k => k ≤ P.st.length) (fun k => P.st.length - k) (fun v k => [(5, .ptr 5 (v 5) 0), (7, .v (.int .i64 0)), (8, .ptr 8 (v 8) 0), (9, .v (.int .i64 0)), (10, .v (.int .i64 0)), (11, .v (.int .i64 ((P.st.length + 1 : Nat) : Int))), (12, .v (.int .i64 ((P.st.countP (isK 1) : Nat) - ((P.st.take k).countP (isK 1) : Nat) : Int))), (13, .v (.int .i64 ((P.st.countP (isK 2) : Nat) - ((P.st.take k).countP (isK 2) : Nat) : Int))), (71, .sl 5 (P.st.map St.av)), (72, .v (.int .i64 (P.st.map St.av).length)), (73, .v (.int .i64 (k : Nat)))]) (fun v k => [(5, .box [.v (.string P.n), .sl 5 (P.st.map St.av)]), (8, .box [.v (.string P.n), .sl 5 (P.st.map St.av)])]) ?_ ?_
  · exact ⟨0, Nat.zero_le _, trivial, ⟨rfl, rfl, rfl, rfl, rfl, rfl, congrArg (fun z : Int => AV.v (.int .i64 z)) (by simp), congrArg (fun z : Int => AV.v (.int .i64 z)) (by simp), rfl, rfl, rfl, trivial⟩, ⟨rfl, rfl, trivial⟩⟩
  rintro v j hj
  have hc1 := cp_le (isK 1) P.st j
  have hc2 := cp_le (isK 2) P.st j
  have hc3 := cp_le (isK 1) P.st P.st.length
  have hc4 := cp_le (isK 2) P.st P.st.length
  rw [List.take_length] at hc3 hc4
  repeat (first | ((with_reducible refine k_bin ?_); refine m_binI rfl rfl rfl ?_)  | refine e_nrm ?_ | refine x_none rfl ?_ | with_reducible refine q_then ?_ | with_reducible refine awp_seq ?_ | ((with_reducible refine w_region ?_ ?_); kernel_rfl))
  refine w_cond rfl (fun h => ?_) (fun h => ?_)
  · have hlt : j < P.st.length := by simpa using h
    obtain ⟨o, ho⟩ := some_at hlt
    have hy := st_at ho
    have n1 := cp_next (isK 1) ho
    have n2 := cp_next (isK 2) ho
    repeat (first | ((with_reducible refine k_fieldAddr ?_); refine x_fieldAddr_ptr tbOk rfl rfl rfl rfl ?_) | ((with_reducible refine k_load ?_); refine x_load_one tbOk rfl rfl rfl rfl rfl ?_) | ((with_reducible refine k_load ?_); refine x_load_ep_agg tbOk rfl rfl (Nat.le_of_ble_eq_true rfl) ?_) | ((with_reducible refine k_store ?_); refine m_store tbOk rfl rfl rfl rfl rfl rfl rfl (Nat.le_of_ble_eq_true rfl) rfl ?_) | ((with_reducible refine k_alloc ?_); refine x_alloc tbOk rfl rfl ?_) | ((with_reducible refine k_indexAddr ?_); refine x_indexAddr_n tbOk rfl rfl rfl rfl (by assumption) ?_) | ((with_reducible refine k_bin ?_); refine m_binI rfl rfl rfl ?_)  | refine e_nrm ?_ | refine x_none rfl ?_ | with_reducible refine q_then ?_ | with_reducible refine awp_seq ?_ | with_reducible refine awp_block ?_ | with_reducible refine awp_skip ?_ | ((with_reducible refine w_region ?_ ?_); kernel_rfl))
    refine w_cond rfl (fun q => ?_) (fun q => ?_)
    · have q' : o.k = 1 := by simpa using q
      have q1 : isK 1 o = true := by unfold isK; simpa using q'
      have q2 : isK 2 o = false := by unfold isK; rw [q']; rfl
      have q3 : decide (o.k = 2) = false := by rw [q']; rfl
      rw [q1] at n1
      rw [q2] at n2
      repeat (first | ((with_reducible refine k_move ?_); refine m_move rfl ?_) | ((with_reducible refine k_assign ?_); refine m_assign rfl ?_) | ((with_reducible refine k_fieldAddr ?_); refine x_fieldAddr_ptr tbOk rfl rfl rfl rfl ?_) | ((with_reducible refine k_load ?_); refine x_load_one tbOk rfl rfl rfl rfl rfl ?_) | ((with_reducible refine k_bin ?_); refine x_add_in rfl rfl (by omega) ?_) | ((with_reducible refine k_bin ?_); refine x_sub_in rfl rfl (by omega) ?_) | ((with_reducible refine k_bin ?_); refine m_binI rfl rfl rfl ?_)  | refine e_nrm ?_ | refine x_none rfl ?_ | with_reducible refine q_then ?_ | with_reducible refine q_block ?_ | with_reducible refine awp_seq ?_ | with_reducible refine awp_skip ?_ | ((with_reducible refine w_region ?_ ?_); kernel_rfl) | refine w_cond_f rfl (by first | rfl | assumption) ?_)
      exact ⟨j + 1, by omega, by omega, ⟨rfl, rfl, rfl, rfl, rfl, rfl, congrArg (fun z : Int => AV.v (.int .i64 z)) (by rw [n1]; simp; omega), congrArg (fun z : Int => AV.v (.int .i64 z)) (by rw [n2]; simp), rfl, rfl, rfl, trivial⟩, ⟨rfl, rfl, trivial⟩⟩
    have q' : ¬ o.k = 1 := by simpa using q
    have q1 : isK 1 o = false := by unfold isK; simpa using q'
    rw [q1] at n1
    repeat (first | ((with_reducible refine k_fieldAddr ?_); refine x_fieldAddr_ptr tbOk rfl rfl rfl rfl ?_) | ((with_reducible refine k_load ?_); refine x_load_one tbOk rfl rfl rfl rfl rfl ?_) | ((with_reducible refine k_bin ?_); refine m_binI rfl rfl rfl ?_)  | refine e_nrm ?_ | refine x_none rfl ?_ | with_reducible refine q_then ?_ | with_reducible refine awp_seq ?_ | with_reducible refine awp_skip ?_ | ((with_reducible refine w_region ?_ ?_); kernel_rfl))
    refine w_cond rfl (fun q => ?_) (fun q => ?_)
    · have q2 : isK 2 o = true := by unfold isK; simpa using q
      rw [q2] at n2
      repeat (first | ((with_reducible refine k_move ?_); refine m_move rfl ?_) | ((with_reducible refine k_assign ?_); refine m_assign rfl ?_) | ((with_reducible refine k_bin ?_); refine x_add_in rfl rfl (by omega) ?_) | ((with_reducible refine k_bin ?_); refine x_sub_in rfl rfl (by omega) ?_)  | refine e_nrm ?_ | refine x_none rfl ?_ | with_reducible refine q_then ?_ | with_reducible refine q_block ?_ | ((with_reducible refine w_region ?_ ?_); kernel_rfl))
      exact ⟨j + 1, by omega, by omega, ⟨rfl, rfl, rfl, rfl, rfl, rfl, congrArg (fun z : Int => AV.v (.int .i64 z)) (by rw [n1]; simp), congrArg (fun z : Int => AV.v (.int .i64 z)) (by rw [n2]; simp; omega), rfl, rfl, rfl, trivial⟩, ⟨rfl, rfl, trivial⟩⟩
    · have q2 : isK 2 o = false := by unfold isK; simpa using q
      rw [q2] at n2
      repeat (first | ((with_reducible refine k_move ?_); refine m_move rfl ?_) | ((with_reducible refine k_bin ?_); refine x_add_in rfl rfl (by omega) ?_)  | refine e_nrm ?_ | refine x_none rfl ?_ | with_reducible refine q_then ?_ | with_reducible refine q_block ?_ | with_reducible refine awp_skip ?_ | ((with_reducible refine w_region ?_ ?_); kernel_rfl))
      exact ⟨j + 1, by omega, by omega, ⟨rfl, rfl, rfl, rfl, rfl, rfl, congrArg (fun z : Int => AV.v (.int .i64 z)) (by rw [n1]; simp), congrArg (fun z : Int => AV.v (.int .i64 z)) (by rw [n2]; simp), rfl, rfl, rfl, trivial⟩, ⟨rfl, rfl, trivial⟩⟩
  have hge : P.st.length ≤ j := by simpa using h
  rw [List.take_of_length_le hge, Int.sub_self, Int.sub_self]
  have hfin : decide ((((P.st.length + 1 : Nat) : Int)) = (((P.st.map St.av).length : Nat) : Int) + 1) = true := by simp
  have hml : (P.st.map St.av).length ≤ 64 := by simp; omega
  repeat (first | ((with_reducible refine k_move ?_); refine m_move rfl ?_) | ((with_reducible refine k_load ?_); refine x_load_agg tbOk rfl rfl rfl rfl (Nat.le_of_ble_eq_true rfl) ?_) | ((with_reducible refine k_pick ?_); refine m_pickt rfl (by first | rfl | assumption) rfl ?_) | ((with_reducible refine k_bin ?_); refine m_binI rfl rfl rfl ?_)  | refine x_none rfl ?_ | refine x_run_t rfl rfl (by first | rfl | assumption) ?_ | with_reducible refine q_then ?_ | with_reducible refine q_then_exit ?_ | with_reducible refine awp_seq ?_ | with_reducible refine awp_exit ?_ | ((with_reducible refine q_block_exit ?_ ?_); rfl) | ((with_reducible refine w_region ?_ ?_); kernel_rfl))
  refine x_call0 (hsa) (by repeat' (first | exact trivial | exact Ren.v _ | exact Ren.sl _ _ | exact Ren.ep _ | exact Ren.ptr _ _ _ _ rfl | exact Ren.bs _ _ _ _ _ rfl | exact Ren.nil _ | exact Ren.own _ _ _ _ ⟨_, rfl⟩ | refine ren_ag ?_ | refine ren_tu ?_ | refine ren_fn ?_ | refine ⟨?_, ?_⟩)) (by repeat' (first | exact trivial | exact RenB.v _ | exact RenB.sl _ _ | exact RenB.ep _ | exact RenB.ptr _ _ _ _ rfl | refine renb_ag ?_ | refine renb_tu ?_ | refine ⟨?_, ?_⟩)) ?_
  repeat (first | ((with_reducible refine k_move ?_); refine m_move rfl ?_) | ((with_reducible refine k_load ?_); refine x_load_agg tbOk rfl rfl rfl rfl (Nat.le_of_ble_eq_true rfl) ?_) | ((with_reducible refine k_pick ?_); refine m_pickt rfl (by first | rfl | assumption) rfl ?_)  | refine x_none rfl ?_ | refine x_run_t rfl rfl (by first | rfl | assumption) ?_  )
  refine x_call0 (hsr) (by repeat' (first | exact trivial | exact Ren.v _ | exact Ren.sl _ _ | exact Ren.ep _ | exact Ren.ptr _ _ _ _ rfl | exact Ren.bs _ _ _ _ _ rfl | exact Ren.nil _ | exact Ren.own _ _ _ _ ⟨_, rfl⟩ | refine ren_ag ?_ | refine ren_tu ?_ | refine ren_fn ?_ | refine ⟨?_, ?_⟩)) (by repeat' (first | exact trivial | exact RenB.v _ | exact RenB.sl _ _ | exact RenB.ep _ | exact RenB.ptr _ _ _ _ rfl | refine renb_ag ?_ | refine renb_tu ?_ | refine ⟨?_, ?_⟩)) ?_
  repeat (first | ((with_reducible refine k_move ?_); refine m_move rfl ?_) | ((with_reducible refine k_fieldAddr ?_); refine x_fieldAddr_ptr tbOk rfl rfl rfl rfl ?_) | ((with_reducible refine k_load ?_); refine x_load_one tbOk rfl rfl rfl rfl rfl ?_) | ((with_reducible refine k_pick ?_); refine m_pickt rfl (by first | rfl | assumption) rfl ?_) | ((with_reducible refine k_call ?_); refine x_len tbOk rfl rfl ?_) | ((with_reducible refine k_bin ?_); refine x_add_in rfl rfl (by omega) ?_) | ((with_reducible refine k_bin ?_); refine m_binI rfl rfl rfl ?_)  | refine x_none rfl ?_ | refine x_run_t rfl rfl (by first | rfl | assumption) ?_  )
  refine x_call0 (awake_A hG hP hPl hM) (by repeat' (first | exact trivial | exact Ren.v _ | exact Ren.sl _ _ | exact Ren.ep _ | exact Ren.ptr _ _ _ _ rfl | exact Ren.bs _ _ _ _ _ rfl | exact Ren.nil _ | exact Ren.own _ _ _ _ ⟨_, rfl⟩ | refine ren_ag ?_ | refine ren_tu ?_ | refine ren_fn ?_ | refine ⟨?_, ?_⟩)) (by repeat' (first | exact trivial | exact RenB.v _ | exact RenB.sl _ _ | exact RenB.ep _ | exact RenB.ptr _ _ _ _ rfl | refine renb_ag ?_ | refine renb_tu ?_ | refine ⟨?_, ?_⟩)) ?_
  repeat (first | ((with_reducible refine k_assign ?_); refine m_assign rfl ?_) | ((with_reducible refine k_pick ?_); refine m_pickt rfl (by first | rfl | assumption) rfl ?_)  | refine e_nrm ?_ | refine x_none rfl ?_ | with_reducible refine q_then ?_ | with_reducible refine awp_ret ?_ )
  refine ret_v (by first | exact .inr rfl | exact .inl rfl) rfl rfl ?_
  rfl
end Go.Proofs.YtggngllfnboehaaDoor
