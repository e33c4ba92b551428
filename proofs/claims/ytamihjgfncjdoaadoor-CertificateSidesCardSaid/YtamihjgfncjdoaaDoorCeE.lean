/- permitofficefield.Certificate, by the abstract machine; conditions: none. -/
import Derived.Test.YtamihjgfncjdoaaDoorCeA
import Derived.Test.YtamihjgfncjdoaaDoorLc8
import Derived.Test.YtamihjgfncjdoaaDoorTkA
set_option linter.unusedVariables false
set_option linter.unusedSimpArgs false
namespace Go.Proofs.YtamihjgfncjdoaaDoor
open Go Go.RowKit
set_option maxRecDepth 10000
variable {G : Nat → Option (List Value)}
def ownF (V : List Dv) (g : Int) (L : List Lk) : List Lk := L.filter fun k => decide (coAt V k.d = g)
def ownGo (V : List Dv) (g : Int) : Nat → Nat → Dk → List Lk → Dk × List Lk
  | 0, _, D, O => (D, O)
  | m + 1, k, D, O => if O = [] then (match V[k]? with
    | some x => if x.co = g ∧ ¬ x.k = 5 then ownGo V g m (k + 1) D.next.next [⟨k, 1 + D.val 2, 10 + D.next.val 50⟩] else ownGo V g m (k + 1) D O
    | none => (D, O)) else (D, O)
def cLk (N : List Nd) (V : List Dv) (D : Dk) : Dk × List Lk := locksP N V [] 8 0 D.next.next.next []
def cG (D : Dk) : Int := 3 - (1 + D.next.val 2)
def cOwn (N : List Nd) (V : List Dv) (D : Dk) : Dk × List Lk := ownGo V (cG D) V.length 0 (cLk N V D).1 (ownF V (cG D) (cLk N V D).2)
def certP (N : List Nd) (V : List Dv) (D : Dk) : Dk × Ce :=
  let z := (cOwn N V D).1.val 16
  let E := (cOwn N V D).1.next
  let n := 1 + D.val 30
  let a := 1 + D.next.val 2
  let s := 1 + D.next.next.val 5
  if z = 0 then (E, ⟨n, a, a, s, (cOwn N V D).2⟩)
  else if z = 1 then (E, ⟨0, a, cG D, s, (cOwn N V D).2⟩)
  else if z = 2 then (E.next, ⟨n, a, cG D, E.val 8, (cOwn N V D).2⟩)
  else if z = 3 then (E, ⟨n, a, cG D, s, (cLk N V D).2⟩)
  else if z = 4 then (E, ⟨n, a, cG D, s, []⟩)
  else (E, ⟨n, a, cG D, s, (cOwn N V D).2⟩)
theorem ownF_next {V : List Dv} {g : Int} {L : List Lk} {k : Nat} {x : Lk} (h : L[k]? = some x) : ownF V g (L.take (k + 1)) = ownF V g (L.take k) ++ if coAt V x.d = g then [x] else [] := by
  rw [take_at h]; unfold ownF; rw [List.filter_append]
  congr 1
  split
  · rename_i c; simp [c]
  · rename_i c; simp [c]
theorem locksP_dk {N : List Nd} {V : List Dv} {S : List Int} : ∀ (m i : Nat) (D : Dk) (L : List Lk), DkOk D → DkOk (locksP N V S m i D L).1
  | 0, _, _, _, h => h
  | m + 1, i, D, L, h => by
    rw [locksP]
    refine locksP_dk m (i + 1) _ _ ?_
    unfold lockS
    split
    · exact h.next
    · exact h.next.next.next
theorem ownGo_ok {V : List Dv} {g : Int} : ∀ (m k : Nat) (D : Dk) (O : List Lk), DkOk D → O.length ≤ 8 → DkOk (ownGo V g m k D O).1 ∧ (ownGo V g m k D O).2.length ≤ 8
  | 0, _, _, _, h, h2 => ⟨h, h2⟩
  | m + 1, k, D, O, h, h2 => by
    rw [ownGo]
    split
    · split
      · split
        · exact ownGo_ok m (k + 1) _ _ h.next.next (by simp)
        · exact ownGo_ok m (k + 1) _ _ h h2
      · exact ⟨h, h2⟩
    · exact ⟨h, h2⟩
theorem cLk_ok {N : List Nd} {V : List Dv} {D : Dk} (h : DkOk D) : DkOk (cLk N V D).1 ∧ (cLk N V D).2.length ≤ 8 ∧ LkOk V (cLk N V D).2 := by
  obtain ⟨a, b⟩ := locksP_ok (N := N) (V := V) (S := []) 8 0 D.next.next.next [] ⟨by simp, List.Pairwise.nil⟩
  exact ⟨locksP_dk 8 0 _ _ h.next.next.next, Nat.le_trans b (by simp), a⟩
theorem cOwn_ok {N : List Nd} {V : List Dv} {D : Dk} (h : DkOk D) : DkOk (cOwn N V D).1 ∧ (cOwn N V D).2.length ≤ 8 := by
  obtain ⟨a, b, -⟩ := cLk_ok (N := N) (V := V) h
  exact ownGo_ok _ _ _ _ a (Nat.le_trans (List.length_filter_le _ _) b)
theorem certP_ok {N : List Nd} {V : List Dv} {D : Dk} (h : DkOk D) : DkOk (certP N V D).1 ∧ (certP N V D).2.lk.length ≤ 8 := by
  obtain ⟨a, b⟩ := cOwn_ok (N := N) (V := V) h
  obtain ⟨c, d, -⟩ := cLk_ok (N := N) (V := V) h
  unfold certP
  dsimp only
  split
  · exact ⟨a.next, b⟩
  split
  · exact ⟨a.next, b⟩
  split
  · exact ⟨a.next.next, b⟩
  split
  · exact ⟨a.next, d⟩
  split
  · exact ⟨a.next, Nat.zero_le _⟩
  · exact ⟨a.next, b⟩
theorem ownGo_end {V : List Dv} {g : Int} {m k : Nat} {D : Dk} {O : List Lk} (h : V.length ≤ k) : ownGo V g m k D O = (D, O) := by
  cases m with
  | zero => rfl
  | succ m =>
    rw [ownGo, List.getElem?_eq_none h]
    split <;> rfl
set_option maxHeartbeats 4000000 in
theorem cert_A (D : Dk) (N : List Nd) (V : List Dv) (hD : DkOk D) (hN : ∀ x ∈ N, x.n.size ≤ maxLen) (hV : ∀ x ∈ V, x.n.size ≤ maxLen) (h1 : N.length ≤ maxLen) (hV0 : 0 < V.length) (hV64 : V.length ≤ 64) :
    ACalls Tryd.prog G 8 [.ptr (refB + 0) 0 0, netAV N V] [D.cells] (certP N V D).2.av [(certP N V D).1.cells] := by
  have h2 : V.length ≤ maxLen := by unfold maxLen; omega
  have hmv : (V.map Dv.av).length = V.length := by simp
  have r1 := D.val_range (n := 30) (by omega)
  have r2 := D.next.val_range (n := 2) (by omega)
  have r3 := D.next.next.val_range (n := 5) (by omega)
  have r1' := r1.2.1 (by omega)
  have r2' := r2.2.1 (by omega)
  have r3' := r3.2.1 (by omega)
  obtain ⟨dL, lL, oL⟩ := cLk_ok (N := N) (V := V) hD
  obtain ⟨dO, lO⟩ := cOwn_ok (N := N) (V := V) hD
  have hLk := locks8_A (G := G) D.next.next.next N V hD.next.next.next hN hV h1 hV0 hV64
  rw [show locksP N V [] 8 0 D.next.next.next [] = cLk N V D from rfl] at hLk
  have hcO : cOwn N V D = ownGo V (cG D) V.length 0 (cLk N V D).1 (ownF V (cG D) (cLk N V D).2) := rfl
  have hg : cG D = 3 - (1 + D.next.val 2) := rfl
  unfold certP
  dsimp only
  generalize cOwn N V D = R at hcO dO lO ⊢
  generalize cLk N V D = Q at hLk dL lL oL hcO ⊢
  obtain ⟨E, L⟩ := Q
  obtain ⟨F, O⟩ := R
  simp only at hLk dL lL oL hcO dO lO ⊢
  generalize cG D = g at hg hcO ⊢
  have hml : (L.map Lk.av).length = L.length := by simp
  refine acalls_of tbOk (enter_of Tryd.func8 (by kernel_rfl) rfl) Tryd.func8 rfl _ Tryd.ntmps8 (Nat.le_of_ble_eq_true rfl) fun X hX => ?_
  subst hX
  repeat (first | ((with_reducible refine k_move ?_); refine m_move rfl ?_) | ((with_reducible refine k_alloc ?_); refine x_alloc tbOk rfl rfl ?_) | ((with_reducible refine k_box ?_); refine m_box rfl rfl rfl ?_)  | refine e_nrm ?_ | refine x_none rfl ?_ | with_reducible (first | refine q_then ?_ | refine awp_seq ?_) | ((with_reducible refine w_region ?_ ?_); kernel_rfl))
  refine zD (ss := [(refB + 0, 0)]) (next_A D 30 hD (by omega) (by omega)) (by simp) (in1 rfl rfl) rfl (back1 rfl) ?_
  repeat (first | ((with_reducible refine k_move ?_); refine m_move rfl ?_) | ((with_reducible refine k_bin ?_); refine x_add_in rfl rfl (by omega) ?_)  | refine x_none rfl ?_  )
  refine zD (ss := [(refB + 0, 0)]) (next_A D.next 2 hD.next (by omega) (by omega)) (by simp) (in1 rfl rfl) rfl (back1 rfl) ?_
  repeat (first | ((with_reducible refine k_move ?_); refine m_move rfl ?_) | ((with_reducible refine k_bin ?_); refine x_add_in rfl rfl (by omega) ?_)  | refine x_none rfl ?_  )
  refine zD (ss := [(refB + 0, 0)]) (next_A D.next.next 5 hD.next.next (by omega) (by omega)) (by simp) (in1 rfl rfl) rfl (back1 rfl) ?_
  repeat (first | ((with_reducible refine k_move ?_); refine m_move rfl ?_) | ((with_reducible refine k_assign ?_); refine m_assign rfl ?_) | ((with_reducible refine k_fieldAddr ?_); refine x_fieldAddr_ptr tbOk rfl rfl rfl rfl ?_) | ((with_reducible refine k_load ?_); (first | refine x_load_one tbOk rfl rfl rfl rfl rfl ?_ | refine x_load_agg tbOk rfl rfl rfl rfl (Nat.le_of_ble_eq_true rfl) ?_)) | ((with_reducible refine k_store ?_); refine m_store tbOk rfl rfl rfl rfl rfl rfl rfl (Nat.le_of_ble_eq_true rfl) rfl ?_) | ((with_reducible refine k_alloc ?_); refine x_alloc tbOk rfl rfl ?_) | ((with_reducible refine k_build ?_); refine m_build tbOk rfl rfl rfl rfl rfl ?_) | ((with_reducible refine k_bin ?_); (first | refine x_add_in rfl rfl (by omega) ?_ | refine x_sub_in rfl rfl (by omega) ?_))  | refine e_nrm ?_ | refine x_none rfl ?_ | with_reducible (first | refine q_then ?_ | refine awp_seq ?_) | ((with_reducible refine w_region ?_ ?_); kernel_rfl))
  refine zD (ss := [(refB + 0, 0)]) (hLk) (by simp) (in1 rfl rfl) rfl (back1 rfl) ?_
  repeat (first | ((with_reducible refine k_assign ?_); refine m_assign rfl ?_)  | refine e_nrm ?_ | refine x_none rfl ?_ | with_reducible (first | refine q_then ?_ | refine awp_seq ?_ | refine awp_block ?_) | ((with_reducible refine w_region ?_ ?_); kernel_rfl))
  rw [← hg]
  refine awp_own (t := 6) (s := 52) 54 3 rfl rfl ?_
  refine awp_loopv (ι := Nat) (fun v k => v (refB + 0) = 0 ∧ k ≤ L.length) (fun k => L.length - k) (fun v k => [(0, .ptr (refB + 0) (v (refB + 0)) 0), (3, .ptr 3 (v 3) 0), (4, .ptr 4 (v 4) 0), (5, .ptr 5 (v 5) 0), (6, .own 52 (v 52)), (7, .sl 3 (L.map Lk.av)), (8, .v (.int .i64 (k : Nat)))]) (fun v k => [(refB + 0, .box E.cells), (3, .box [.sl 3 (N.map Nd.av), .sl 5 (V.map Dv.av)]), (4, .box [.v (.int .i64 0), .v (.int .i64 0), .v (.int .i64 0), .v (.int .i64 0), .v (.slice none 0 0)]), (5, .box [.v (.int .i64 (1 + D.val 30)), .v (.int .i64 (1 + D.next.val 2)), .v (.int .i64 g), .v (.int .i64 (1 + D.next.next.val 5)), .v (.slice none 0 0)]), (52, .buf 54 3 ((ownF V g (L.take k)).map Lk.av))]) ?_ ?_
  · exact ⟨0, ⟨rfl, Nat.zero_le _⟩, trivial, ⟨rfl, rfl, rfl, rfl, rfl, rfl, rfl, trivial⟩, ⟨rfl, rfl, rfl, rfl, rfl, trivial⟩⟩
  rintro v k ⟨hv0, hk⟩
  repeat (first | ((with_reducible refine k_move ?_); refine m_move rfl ?_) | ((with_reducible refine k_call ?_); refine x_len tbOk rfl rfl ?_) | ((with_reducible refine k_bin ?_); refine m_binI rfl rfl rfl ?_)  | refine e_nrm ?_ | refine x_none rfl ?_ | with_reducible (first | refine q_then ?_ | refine awp_seq ?_) | ((with_reducible refine w_region ?_ ?_); kernel_rfl))
  refine w_cond rfl (fun h => ?_) (fun h => ?_)
  · have hlt : k < L.length := by simpa using h
    obtain ⟨x, hx⟩ := some_at hlt
    have hy := lk_at hx
    have hr := faultE_rng (oL.1 x (List.mem_of_getElem? hx))
    obtain ⟨z, hz⟩ := some_at (L := V) (k := x.d.toNat) (by omega)
    have hzy := dv_at hz
    have eC : coAt V x.d = z.co := by unfold coAt; rw [hz]
    have hnx := ownF_next (V := V) (g := g) hx
    rw [eC] at hnx
    have hfl := List.length_filter_le (fun k : Lk => decide (coAt V k.d = g)) (L.take k)
    rw [List.length_take, Nat.min_eq_left (by omega)] at hfl
    have hml2 : ((ownF V g (L.take k)).map Lk.av).length ≤ k := by rw [List.length_map]; exact hfl
    repeat (first | ((with_reducible refine k_move ?_); refine m_move rfl ?_) | ((with_reducible refine k_fieldAddr ?_); (first | refine x_fieldAddr_ptr tbOk rfl rfl rfl rfl ?_ | refine x_fieldAddr_ep tbOk rfl rfl rfl rfl ?_)) | ((with_reducible refine k_load ?_); (first | refine x_load_one tbOk rfl rfl rfl rfl rfl ?_ | refine x_load_ep_one tbOk rfl rfl rfl ?_)) | ((with_reducible refine k_indexAddr ?_); (first | refine x_indexAddr_n tbOk rfl rfl rfl rfl (by assumption) ?_ | refine x_indexAddr tbOk rfl rfl rfl rfl (by omega) (by assumption) ?_)) | ((with_reducible refine k_bin ?_); refine m_binI rfl rfl rfl ?_)  | refine e_drw (by kernel_rfl) ?_ | refine x_none rfl ?_ | with_reducible (first | refine q_then ?_ | refine awp_seq ?_ | refine awp_block ?_ | refine awp_skip ?_) | ((with_reducible refine w_draw mixd ?_ ?_); kernel_rfl))
    refine w_cond rfl (fun h => ?_) (fun h => ?_)
    · rw [if_pos (by simpa using h)] at hnx
      repeat (first | ((with_reducible refine k_move ?_); refine m_move rfl ?_) | ((with_reducible refine k_load ?_); refine x_load_ep_agg tbOk rfl rfl (Nat.le_of_ble_eq_true rfl) ?_) | ((with_reducible refine k_indexAddr ?_); refine x_indexAddr_n tbOk rfl rfl rfl rfl (by assumption) ?_) | ((with_reducible refine k_buildSlice ?_); refine m_buildSlice tbOk rfl rfl rfl rfl rfl (by omega) rfl rfl rfl ?_) | refine x_none rfl ?_  | ((with_reducible refine w_region ?_ ?_); kernel_rfl))
      refine x_append_own tbOk rfl rfl rfl rfl rfl (by decide) rfl rfl rfl rfl rfl (fun x hx => by simp at hx; subst hx; rfl) (by simp only [List.length_map, List.length_cons, List.length_nil] at hml2 ⊢; omega) (by simp only [List.length_map, List.length_cons, List.length_nil] at hml2 ⊢; omega) ?_
      repeat (first | ((with_reducible refine k_move ?_); refine m_move rfl ?_) | ((with_reducible refine k_assign ?_); refine m_assign rfl ?_) | ((with_reducible refine k_bin ?_); refine x_add_in rfl rfl (by omega) ?_)  | refine e_nrm ?_ | refine x_none rfl ?_ | with_reducible (first | refine q_then ?_ | refine q_block ?_) | ((with_reducible refine w_region ?_ ?_); kernel_rfl))
      refine ⟨k + 1, ⟨hv0, by omega⟩, by omega, ⟨rfl, rfl, rfl, rfl, rfl, rfl, rfl, trivial⟩, ⟨rfl, rfl, rfl, rfl, hc_buf ?_, trivial⟩⟩
      rw [hnx, List.map_append]; rfl
    · rw [if_neg (by simpa using h), List.append_nil] at hnx
      repeat (first | ((with_reducible refine k_move ?_); refine m_move rfl ?_) | ((with_reducible refine k_assign ?_); refine m_assign rfl ?_) | ((with_reducible refine k_bin ?_); refine x_add_in rfl rfl (by omega) ?_)  | refine e_nrm ?_ | refine x_none rfl ?_ | with_reducible (first | refine q_then ?_ | refine q_block ?_ | refine awp_skip ?_) | ((with_reducible refine w_region ?_ ?_); kernel_rfl))
      refine ⟨k + 1, ⟨hv0, by omega⟩, by omega, ⟨rfl, rfl, rfl, rfl, rfl, rfl, rfl, trivial⟩, ⟨rfl, rfl, rfl, rfl, hc_buf ?_, trivial⟩⟩
      rw [hnx]
  have hge : k = L.length := by simp at h; omega
  rw [hge, List.take_length]
  refine awp_freeze (t := 6) (s := 52) rfl rfl ?_
  repeat (first | ((with_reducible refine k_assign ?_); refine m_assign rfl ?_)  | refine e_nrm ?_ | refine x_none rfl ?_ | with_reducible (first | refine q_then ?_ | refine q_then_exit ?_ | refine awp_seq ?_ | refine awp_block ?_ | refine awp_exit ?_) | ((with_reducible refine q_block_exit ?_ ?_); rfl) | ((with_reducible refine w_region ?_ ?_); kernel_rfl))
  clear h
  refine awp_loopv (ι := Nat × Dk × List Lk) (fun v i => v (refB + 0) = 0 ∧ i.1 ≤ V.length ∧ DkOk i.2.1 ∧ ownGo V g (V.length - i.1) i.1 i.2.1 i.2.2 = (F, O)) (fun i => V.length - i.1) (fun v i => [(0, .ptr (refB + 0) (v (refB + 0)) 0), (3, .ptr 3 (v 3) 0), (4, .ptr 4 (v 4) 0), (5, .ptr 5 (v 5) 0), (6, .sl 3 (i.2.2.map Lk.av)), (7, .sl 3 (L.map Lk.av)), (9, .v (.int .i64 (i.1 : Nat)))]) (fun v i => [(refB + 0, .box i.2.1.cells), (3, .box [.sl 3 (N.map Nd.av), .sl 5 (V.map Dv.av)]), (4, .box [.v (.int .i64 0), .v (.int .i64 0), .v (.int .i64 0), .v (.int .i64 0), .v (.slice none 0 0)]), (5, .box [.v (.int .i64 (1 + D.val 30)), .v (.int .i64 (1 + D.next.val 2)), .v (.int .i64 g), .v (.int .i64 (1 + D.next.next.val 5)), .v (.slice none 0 0)])]) ?_ ?_
  · exact ⟨(0, E, ownF V g L), ⟨hv0, Nat.zero_le _, dL, hcO.symm⟩, trivial, ⟨rfl, rfl, rfl, rfl, rfl, rfl, rfl, trivial⟩, ⟨rfl, rfl, rfl, rfl, trivial⟩⟩
  clear hv0 hk v
  rintro v ⟨k, H, P⟩ ⟨hv0, hk, dH, hf⟩
  simp only at hv0 hk dH hf
  dsimp only
  have fin : (P ≠ [] ∨ V.length ≤ k) → (F, O) = (H, P) := fun h => by
    rw [← hf]
    rcases h with h | h
    · cases hm : V.length - k with
      | zero => rfl
      | succ m => rw [ownGo, if_neg h]
    · exact ownGo_end h
  have step : P = [] → k < V.length → ∀ x, V[k]? = some x → (if x.co = g ∧ ¬ x.k = 5 then ownGo V g (V.length - (k + 1)) (k + 1) H.next.next [⟨k, 1 + H.val 2, 10 + H.next.val 50⟩] else ownGo V g (V.length - (k + 1)) (k + 1) H P) = (F, O) := fun h hlt x hx => by
    rw [← hf, show V.length - k = (V.length - (k + 1)) + 1 by omega, ownGo, if_pos h, hx]
  repeat (first | ((with_reducible refine k_move ?_); refine m_move rfl ?_) | ((with_reducible refine k_call ?_); refine x_len tbOk rfl rfl ?_) | ((with_reducible refine k_bin ?_); refine m_binI rfl rfl rfl ?_)  | refine x_none rfl ?_ | with_reducible refine awp_seq ?_ | ((with_reducible refine w_region ?_ ?_); kernel_rfl))
  have q1 := H.val_range (n := 2) (by omega)
  have q2 := H.next.val_range (n := 50) (by omega)
  have q1' := q1.2.1 (by omega)
  have q2' := q2.2.1 (by omega)
  have hsub : ∀ (x : Dv), V[k]? = some x → k < V.length := fun x h => lt_at h
  refine x_split rfl rfl (fun hp => ?_) (fun hp => ?_)
  · have hp0 : P = [] := List.eq_nil_of_length_eq_zero (by simpa using hp)
    repeat (first | ((with_reducible refine k_move ?_); refine m_move rfl ?_) | ((with_reducible refine k_fieldAddr ?_); refine x_fieldAddr_ptr tbOk rfl rfl rfl rfl ?_) | ((with_reducible refine k_load ?_); refine x_load_one tbOk rfl rfl rfl rfl rfl ?_) | ((with_reducible refine k_pick ?_); refine m_pickt rfl (by first | rfl | assumption) rfl ?_) | ((with_reducible refine k_call ?_); refine x_len tbOk rfl rfl ?_) | ((with_reducible refine k_bin ?_); refine m_binI rfl rfl rfl ?_)  | refine e_nrm ?_ | refine x_none rfl ?_ | refine x_run_t rfl rfl (by first | rfl | assumption) ?_ | with_reducible refine q_then ?_ )
    refine w_cond rfl (fun h => ?_) (fun h => ?_)
    · have hlt : k < V.length := by simpa using h
      obtain ⟨z, hz⟩ := some_at hlt
      have hzy := dv_at hz
      have hs := step hp0 hlt z hz
      repeat (first | ((with_reducible refine k_move ?_); refine m_move rfl ?_) | ((with_reducible refine k_fieldAddr ?_); (first | refine x_fieldAddr_ptr tbOk rfl rfl rfl rfl ?_ | refine x_fieldAddr_ep tbOk rfl rfl rfl rfl ?_)) | ((with_reducible refine k_load ?_); (first | refine x_load_one tbOk rfl rfl rfl rfl rfl ?_ | refine x_load_ep_one tbOk rfl rfl rfl ?_)) | ((with_reducible refine k_indexAddr ?_); refine x_indexAddr_n tbOk rfl rfl rfl rfl (by assumption) ?_) | ((with_reducible refine k_bin ?_); refine m_binI rfl rfl rfl ?_)  | refine x_none rfl ?_ | with_reducible (first | refine q_then ?_ | refine awp_seq ?_ | refine awp_block ?_ | refine awp_skip ?_) | ((with_reducible refine w_draw mixd ?_ ?_); kernel_rfl))
      refine x_split rfl rfl (fun hc => ?_) (fun hc => ?_)
      · repeat (first | ((with_reducible refine k_move ?_); refine m_move rfl ?_) | ((with_reducible refine k_fieldAddr ?_); (first | refine x_fieldAddr_ptr tbOk rfl rfl rfl rfl ?_ | refine x_fieldAddr_ep tbOk rfl rfl rfl rfl ?_)) | ((with_reducible refine k_load ?_); (first | refine x_load_one tbOk rfl rfl rfl rfl rfl ?_ | refine x_load_ep_one tbOk rfl rfl rfl ?_)) | ((with_reducible refine k_pick ?_); refine m_pickt rfl (by first | rfl | assumption) rfl ?_) | ((with_reducible refine k_indexAddr ?_); refine x_indexAddr_n tbOk rfl rfl rfl rfl (by assumption) ?_) | ((with_reducible refine k_bin ?_); refine m_binI rfl rfl rfl ?_)  | refine e_drw (by kernel_rfl) ?_ | refine x_none rfl ?_ | refine x_run_t rfl rfl (by first | rfl | assumption) ?_ | with_reducible refine q_then ?_ )
        refine w_cond rfl (fun h5 => ?_) (fun h5 => ?_)
        · rw [if_pos ⟨by simpa using hc, by simpa using h5⟩] at hs
          repeat (first | ((with_reducible refine k_move ?_); refine m_move rfl ?_)  | refine x_none rfl ?_  | ((with_reducible refine w_region ?_ ?_); kernel_rfl))
          refine zD (ss := [(refB + 0, v (refB + 0))]) (next_A H 2 dH (by omega) (by omega)) (by simp) (in1 rfl rfl) rfl (back1 rfl) ?_
          repeat (first | ((with_reducible refine k_move ?_); refine m_move rfl ?_) | ((with_reducible refine k_bin ?_); refine x_add_in rfl rfl (by omega) ?_)  | refine x_none rfl ?_  )
          refine zD (ss := [(refB + 0, v (refB + 0))]) (next_A H.next 50 dH.next (by omega) (by omega)) (by simp) (in1 rfl rfl) rfl (back1 rfl) ?_
          repeat (first | ((with_reducible refine k_move ?_); refine m_move rfl ?_) | ((with_reducible refine k_assign ?_); refine m_assign rfl ?_) | ((with_reducible refine k_build ?_); refine m_build tbOk rfl rfl rfl rfl rfl ?_) | ((with_reducible refine k_bin ?_); refine x_add_in rfl rfl (by omega) ?_) | ((with_reducible refine k_buildSlice ?_); refine m_buildSlice tbOk rfl rfl rfl rfl rfl (by omega) rfl rfl rfl ?_) | refine e_nrm ?_ | refine x_none rfl ?_ | with_reducible (first | refine q_then ?_ | refine q_block ?_) | ((with_reducible refine w_region ?_ ?_); kernel_rfl))
          exact ⟨(k + 1, H.next.next, [⟨k, 1 + H.val 2, 10 + H.next.val 50⟩]), ⟨hv0, by show k + 1 ≤ _; omega, dH.next.next, hs⟩, by show V.length - (k + 1) < V.length - k; omega, ⟨rfl, rfl, rfl, rfl, rfl, rfl, rfl, trivial⟩, ⟨rfl, rfl, rfl, rfl, trivial⟩⟩
        · rw [if_neg (fun e => e.2 (by simpa using h5))] at hs
          repeat (first | ((with_reducible refine k_move ?_); refine m_move rfl ?_) | ((with_reducible refine k_assign ?_); refine m_assign rfl ?_) | ((with_reducible refine k_bin ?_); refine x_add_in rfl rfl (by omega) ?_)  | refine e_nrm ?_ | refine x_none rfl ?_ | with_reducible (first | refine q_then ?_ | refine q_block ?_ | refine awp_skip ?_) | ((with_reducible refine w_region ?_ ?_); kernel_rfl))
          exact ⟨(k + 1, H, P), ⟨hv0, by show k + 1 ≤ _; omega, dH, hs⟩, by show V.length - (k + 1) < V.length - k; omega, ⟨rfl, rfl, rfl, rfl, rfl, rfl, rfl, trivial⟩, ⟨rfl, rfl, rfl, rfl, trivial⟩⟩
      · rw [if_neg (fun e => by have := e.1; simp [this] at hc)] at hs
        repeat (first | ((with_reducible refine k_move ?_); refine m_move rfl ?_) | ((with_reducible refine k_assign ?_); refine m_assign rfl ?_) | ((with_reducible refine k_pick ?_); refine m_pickf rfl (by first | rfl | assumption) rfl ?_) | ((with_reducible refine k_bin ?_); refine x_add_in rfl rfl (by omega) ?_)  | refine e_nrm ?_ | refine e_drw (by kernel_rfl) ?_ | refine x_none rfl ?_ | refine x_skip_t rfl rfl (by first | rfl | assumption) ?_ | with_reducible (first | refine q_then ?_ | refine q_block ?_ | refine awp_skip ?_) | ((with_reducible refine w_region ?_ ?_); kernel_rfl) | refine w_cond_f rfl (by first | rfl | assumption) ?_)
        exact ⟨(k + 1, H, P), ⟨hv0, by show k + 1 ≤ _; omega, dH, hs⟩, by show V.length - (k + 1) < V.length - k; omega, ⟨rfl, rfl, rfl, rfl, rfl, rfl, rfl, trivial⟩, ⟨rfl, rfl, rfl, rfl, trivial⟩⟩
    · have e := fin (.inr (by simpa using h))
      injection e with e1 e2
      subst e1; subst e2
      repeat (first | ((with_reducible refine k_move ?_); refine m_move rfl ?_) | ((with_reducible refine k_fieldAddr ?_); refine x_fieldAddr_ptr tbOk rfl rfl rfl rfl ?_) | ((with_reducible refine k_store ?_); refine m_store tbOk rfl rfl rfl rfl rfl rfl rfl (Nat.le_of_ble_eq_true rfl) rfl ?_)  | refine e_nrm ?_ | refine x_none rfl ?_ | with_reducible (first | refine q_then ?_ | refine q_then_exit ?_ | refine awp_seq ?_ | refine awp_exit ?_) | ((with_reducible refine q_block_exit ?_ ?_); rfl) | ((with_reducible refine w_region ?_ ?_); kernel_rfl))
      refine zD (ss := [(refB + 0, v (refB + 0))]) (next_A F 16 dO (by omega) (by omega)) (by simp) (in1 rfl rfl) rfl (back1 rfl) ?_
      repeat (first | ((with_reducible refine k_assign ?_); refine m_assign rfl ?_) | ((with_reducible refine k_bin ?_); refine m_binI rfl rfl rfl ?_)  | refine e_nrm ?_ | refine x_none rfl ?_ | with_reducible (first | refine q_then ?_ | refine awp_seq ?_ | refine awp_block ?_) | ((with_reducible refine w_region ?_ ?_); kernel_rfl))
      refine w_cond rfl (fun h => ?_) (fun h => ?_)
      · rw [if_pos (by simpa using h)]
        repeat (first | ((with_reducible refine k_fieldAddr ?_); refine x_fieldAddr_ptr tbOk rfl rfl rfl rfl ?_) | ((with_reducible refine k_load ?_); (first | refine x_load_one tbOk rfl rfl rfl rfl rfl ?_ | refine x_load_agg tbOk rfl rfl rfl rfl (Nat.le_of_ble_eq_true rfl) ?_)) | ((with_reducible refine k_store ?_); refine m_store tbOk rfl rfl rfl rfl rfl rfl rfl (Nat.le_of_ble_eq_true rfl) rfl ?_)  | refine e_nrm ?_ | refine x_none rfl ?_ | with_reducible (first | refine q_then ?_ | refine q_block ?_ | refine awp_seq ?_ | refine awp_ret ?_) | ((with_reducible refine w_region ?_ ?_); kernel_rfl))
        refine ret1_cell (by first | exact .inr rfl | exact .inl rfl) rfl rfl rfl rfl rfl rfl (by first | rfl | assumption) ?_ rfl ?_ rfl <;> rfl
      rw [if_neg (by simpa using h)]
      repeat (first | ((with_reducible refine k_assign ?_); refine m_assign rfl ?_) | ((with_reducible refine k_bin ?_); refine m_binI rfl rfl rfl ?_)  | refine e_nrm ?_ | refine x_none rfl ?_ | with_reducible (first | refine q_then ?_ | refine awp_seq ?_) | ((with_reducible refine w_region ?_ ?_); kernel_rfl))
      refine w_cond rfl (fun h => ?_) (fun h => ?_)
      · rw [if_pos (by simpa using h)]
        repeat (first | ((with_reducible refine k_fieldAddr ?_); refine x_fieldAddr_ptr tbOk rfl rfl rfl rfl ?_) | ((with_reducible refine k_load ?_); refine x_load_agg tbOk rfl rfl rfl rfl (Nat.le_of_ble_eq_true rfl) ?_) | ((with_reducible refine k_store ?_); refine m_store tbOk rfl rfl rfl rfl rfl rfl rfl (Nat.le_of_ble_eq_true rfl) rfl ?_)  | refine e_nrm ?_ | refine x_none rfl ?_ | with_reducible (first | refine q_then ?_ | refine q_block ?_ | refine awp_seq ?_ | refine awp_ret ?_) | ((with_reducible refine w_region ?_ ?_); kernel_rfl))
        refine ret1_cell (by first | exact .inr rfl | exact .inl rfl) rfl rfl rfl rfl rfl rfl (by first | rfl | assumption) ?_ rfl ?_ rfl <;> rfl
      rw [if_neg (by simpa using h)]
      repeat (first | ((with_reducible refine k_assign ?_); refine m_assign rfl ?_) | ((with_reducible refine k_bin ?_); refine m_binI rfl rfl rfl ?_)  | refine e_nrm ?_ | refine x_none rfl ?_ | with_reducible (first | refine q_then ?_ | refine awp_seq ?_) | ((with_reducible refine w_region ?_ ?_); kernel_rfl))
      refine w_cond rfl (fun h => ?_) (fun h => ?_)
      · rw [if_pos (by simpa using h)]
        repeat (first | ((with_reducible refine k_move ?_); refine m_move rfl ?_)  | refine x_none rfl ?_  | ((with_reducible refine w_region ?_ ?_); kernel_rfl))
        refine zD (ss := [(refB + 0, v (refB + 0))]) (next_A F.next 8 dO.next (by omega) (by omega)) (by simp) (in1 rfl rfl) rfl (back1 rfl) ?_
        repeat (first | ((with_reducible refine k_fieldAddr ?_); refine x_fieldAddr_ptr tbOk rfl rfl rfl rfl ?_) | ((with_reducible refine k_load ?_); refine x_load_agg tbOk rfl rfl rfl rfl (Nat.le_of_ble_eq_true rfl) ?_) | ((with_reducible refine k_store ?_); refine m_store tbOk rfl rfl rfl rfl rfl rfl rfl (Nat.le_of_ble_eq_true rfl) rfl ?_)  | refine e_nrm ?_ | refine x_none rfl ?_ | with_reducible (first | refine q_then ?_ | refine q_block ?_ | refine awp_seq ?_ | refine awp_ret ?_) | ((with_reducible refine w_region ?_ ?_); kernel_rfl))
        refine ret1_cell (by first | exact .inr rfl | exact .inl rfl) rfl rfl rfl rfl rfl rfl (by first | rfl | assumption) ?_ rfl ?_ rfl <;> rfl
      rw [if_neg (by simpa using h)]
      repeat (first | ((with_reducible refine k_assign ?_); refine m_assign rfl ?_) | ((with_reducible refine k_bin ?_); refine m_binI rfl rfl rfl ?_)  | refine e_nrm ?_ | refine x_none rfl ?_ | with_reducible (first | refine q_then ?_ | refine awp_seq ?_) | ((with_reducible refine w_region ?_ ?_); kernel_rfl))
      refine w_cond rfl (fun h => ?_) (fun h => ?_)
      · rw [if_pos (by simpa using h)]
        repeat (first | ((with_reducible refine k_move ?_); refine m_move rfl ?_) | ((with_reducible refine k_fieldAddr ?_); refine x_fieldAddr_ptr tbOk rfl rfl rfl rfl ?_) | ((with_reducible refine k_load ?_); refine x_load_agg tbOk rfl rfl rfl rfl (Nat.le_of_ble_eq_true rfl) ?_) | ((with_reducible refine k_store ?_); refine m_store tbOk rfl rfl rfl rfl rfl rfl rfl (Nat.le_of_ble_eq_true rfl) rfl ?_)  | refine e_nrm ?_ | refine x_none rfl ?_ | with_reducible (first | refine q_then ?_ | refine q_block ?_ | refine awp_seq ?_ | refine awp_ret ?_) | ((with_reducible refine w_region ?_ ?_); kernel_rfl))
        refine ret1_cell (by first | exact .inr rfl | exact .inl rfl) rfl rfl rfl rfl rfl rfl (by first | rfl | assumption) ?_ rfl ?_ rfl <;> rfl
      rw [if_neg (by simpa using h)]
      repeat (first | ((with_reducible refine k_assign ?_); refine m_assign rfl ?_) | ((with_reducible refine k_bin ?_); refine m_binI rfl rfl rfl ?_)  | refine e_nrm ?_ | refine x_none rfl ?_ | with_reducible (first | refine q_then ?_ | refine awp_seq ?_) | ((with_reducible refine w_region ?_ ?_); kernel_rfl))
      refine w_cond rfl (fun h => ?_) (fun h => ?_)
      · rw [if_pos (by simpa using h)]
        repeat (first | ((with_reducible refine k_fieldAddr ?_); refine x_fieldAddr_ptr tbOk rfl rfl rfl rfl ?_) | ((with_reducible refine k_load ?_); refine x_load_agg tbOk rfl rfl rfl rfl (Nat.le_of_ble_eq_true rfl) ?_) | ((with_reducible refine k_store ?_); refine m_store tbOk rfl rfl rfl rfl rfl rfl rfl (Nat.le_of_ble_eq_true rfl) rfl ?_)  | refine e_nrm ?_ | refine x_none rfl ?_ | with_reducible (first | refine q_then ?_ | refine q_block ?_ | refine awp_seq ?_ | refine awp_ret ?_) | ((with_reducible refine w_region ?_ ?_); kernel_rfl))
        refine ret1 (by first | exact .inr rfl | exact .inl rfl) (xs := [.ag [.v (.int .i64 (1 + D.val 30)), .v (.int .i64 (1 + D.next.val 2)), .v (.int .i64 g), .v (.int .i64 (1 + D.next.next.val 5)), .v (.slice none 0 0)]]) ?_ ?_ rfl hv0 (by repeat' (first | exact trivial | exact Ren.v _ | exact Ren.sl _ _ | exact Ren.ep _ | exact Ren.ptr _ _ _ _ rfl | exact Ren.bs _ _ _ _ _ rfl | exact Ren.nil _ | exact Ren.own _ _ _ _ ⟨_, rfl⟩ | refine ren_ag ?_ | refine ren_tu ?_ | refine ren_fn ?_ | refine ⟨?_, ?_⟩))
        · exact ⟨.agg _ _ _ _ _ _ rfl rfl rfl rfl, trivial⟩
        · exact ren_ag ⟨Ren.v _, Ren.v _, Ren.v _, Ren.v _, Ren.nil 3, trivial⟩
      rw [if_neg (by simpa using h)]
      repeat (first | ((with_reducible refine k_load ?_); refine x_load_agg tbOk rfl rfl rfl rfl (Nat.le_of_ble_eq_true rfl) ?_) | ((with_reducible refine k_store ?_); refine m_store tbOk rfl rfl rfl rfl rfl rfl rfl (Nat.le_of_ble_eq_true rfl) rfl ?_)  | refine e_nrm ?_ | refine x_none rfl ?_ | with_reducible (first | refine q_then ?_ | refine q_block ?_ | refine awp_seq ?_ | refine awp_skip ?_ | refine awp_ret ?_) | ((with_reducible refine w_region ?_ ?_); kernel_rfl))
      refine ret1_cell (by first | exact .inr rfl | exact .inl rfl) rfl rfl rfl rfl rfl rfl (by first | rfl | assumption) ?_ rfl ?_ rfl <;> rfl
  · have e := fin (.inl (fun e => by rw [e] at hp; simp at hp))
    injection e with e1 e2
    subst e1; subst e2
    repeat (first | ((with_reducible refine k_move ?_); refine m_move rfl ?_) | ((with_reducible refine k_fieldAddr ?_); refine x_fieldAddr_ptr tbOk rfl rfl rfl rfl ?_) | ((with_reducible refine k_store ?_); refine m_store tbOk rfl rfl rfl rfl rfl rfl rfl (Nat.le_of_ble_eq_true rfl) rfl ?_) | ((with_reducible refine k_pick ?_); refine m_pickf rfl (by first | rfl | assumption) rfl ?_)  | refine e_nrm ?_ | refine x_none rfl ?_ | refine x_skip_t rfl rfl (by first | rfl | assumption) ?_ | with_reducible (first | refine q_then ?_ | refine q_then_exit ?_ | refine awp_seq ?_ | refine awp_exit ?_) | ((with_reducible refine q_block_exit ?_ ?_); rfl) | ((with_reducible refine w_region ?_ ?_); kernel_rfl) | refine w_cond_f rfl (by first | rfl | assumption) ?_)
    refine zD (ss := [(refB + 0, v (refB + 0))]) (next_A F 16 dO (by omega) (by omega)) (by simp) (in1 rfl rfl) rfl (back1 rfl) ?_
    repeat (first | ((with_reducible refine k_assign ?_); refine m_assign rfl ?_) | ((with_reducible refine k_bin ?_); refine m_binI rfl rfl rfl ?_)  | refine e_nrm ?_ | refine x_none rfl ?_ | with_reducible (first | refine q_then ?_ | refine awp_seq ?_ | refine awp_block ?_) | ((with_reducible refine w_region ?_ ?_); kernel_rfl))
    refine w_cond rfl (fun h => ?_) (fun h => ?_)
    · rw [if_pos (by simpa using h)]
      repeat (first | ((with_reducible refine k_fieldAddr ?_); refine x_fieldAddr_ptr tbOk rfl rfl rfl rfl ?_) | ((with_reducible refine k_load ?_); (first | refine x_load_one tbOk rfl rfl rfl rfl rfl ?_ | refine x_load_agg tbOk rfl rfl rfl rfl (Nat.le_of_ble_eq_true rfl) ?_)) | ((with_reducible refine k_store ?_); refine m_store tbOk rfl rfl rfl rfl rfl rfl rfl (Nat.le_of_ble_eq_true rfl) rfl ?_)  | refine e_nrm ?_ | refine x_none rfl ?_ | with_reducible (first | refine q_then ?_ | refine q_block ?_ | refine awp_seq ?_ | refine awp_ret ?_) | ((with_reducible refine w_region ?_ ?_); kernel_rfl))
      refine ret1_cell (by first | exact .inr rfl | exact .inl rfl) rfl rfl rfl rfl rfl rfl (by first | rfl | assumption) ?_ rfl ?_ rfl <;> rfl
    rw [if_neg (by simpa using h)]
    repeat (first | ((with_reducible refine k_assign ?_); refine m_assign rfl ?_) | ((with_reducible refine k_bin ?_); refine m_binI rfl rfl rfl ?_)  | refine e_nrm ?_ | refine x_none rfl ?_ | with_reducible (first | refine q_then ?_ | refine awp_seq ?_) | ((with_reducible refine w_region ?_ ?_); kernel_rfl))
    refine w_cond rfl (fun h => ?_) (fun h => ?_)
    · rw [if_pos (by simpa using h)]
      repeat (first | ((with_reducible refine k_fieldAddr ?_); refine x_fieldAddr_ptr tbOk rfl rfl rfl rfl ?_) | ((with_reducible refine k_load ?_); refine x_load_agg tbOk rfl rfl rfl rfl (Nat.le_of_ble_eq_true rfl) ?_) | ((with_reducible refine k_store ?_); refine m_store tbOk rfl rfl rfl rfl rfl rfl rfl (Nat.le_of_ble_eq_true rfl) rfl ?_)  | refine e_nrm ?_ | refine x_none rfl ?_ | with_reducible (first | refine q_then ?_ | refine q_block ?_ | refine awp_seq ?_ | refine awp_ret ?_) | ((with_reducible refine w_region ?_ ?_); kernel_rfl))
      refine ret1_cell (by first | exact .inr rfl | exact .inl rfl) rfl rfl rfl rfl rfl rfl (by first | rfl | assumption) ?_ rfl ?_ rfl <;> rfl
    rw [if_neg (by simpa using h)]
    repeat (first | ((with_reducible refine k_assign ?_); refine m_assign rfl ?_) | ((with_reducible refine k_bin ?_); refine m_binI rfl rfl rfl ?_)  | refine e_nrm ?_ | refine x_none rfl ?_ | with_reducible (first | refine q_then ?_ | refine awp_seq ?_) | ((with_reducible refine w_region ?_ ?_); kernel_rfl))
    refine w_cond rfl (fun h => ?_) (fun h => ?_)
    · rw [if_pos (by simpa using h)]
      repeat (first | ((with_reducible refine k_move ?_); refine m_move rfl ?_)  | refine x_none rfl ?_  | ((with_reducible refine w_region ?_ ?_); kernel_rfl))
      refine zD (ss := [(refB + 0, v (refB + 0))]) (next_A F.next 8 dO.next (by omega) (by omega)) (by simp) (in1 rfl rfl) rfl (back1 rfl) ?_
      repeat (first | ((with_reducible refine k_fieldAddr ?_); refine x_fieldAddr_ptr tbOk rfl rfl rfl rfl ?_) | ((with_reducible refine k_load ?_); refine x_load_agg tbOk rfl rfl rfl rfl (Nat.le_of_ble_eq_true rfl) ?_) | ((with_reducible refine k_store ?_); refine m_store tbOk rfl rfl rfl rfl rfl rfl rfl (Nat.le_of_ble_eq_true rfl) rfl ?_)  | refine e_nrm ?_ | refine x_none rfl ?_ | with_reducible (first | refine q_then ?_ | refine q_block ?_ | refine awp_seq ?_ | refine awp_ret ?_) | ((with_reducible refine w_region ?_ ?_); kernel_rfl))
      refine ret1_cell (by first | exact .inr rfl | exact .inl rfl) rfl rfl rfl rfl rfl rfl (by first | rfl | assumption) ?_ rfl ?_ rfl <;> rfl
    rw [if_neg (by simpa using h)]
    repeat (first | ((with_reducible refine k_assign ?_); refine m_assign rfl ?_) | ((with_reducible refine k_bin ?_); refine m_binI rfl rfl rfl ?_)  | refine e_nrm ?_ | refine x_none rfl ?_ | with_reducible (first | refine q_then ?_ | refine awp_seq ?_) | ((with_reducible refine w_region ?_ ?_); kernel_rfl))
    refine w_cond rfl (fun h => ?_) (fun h => ?_)
    · rw [if_pos (by simpa using h)]
      repeat (first | ((with_reducible refine k_move ?_); refine m_move rfl ?_) | ((with_reducible refine k_fieldAddr ?_); refine x_fieldAddr_ptr tbOk rfl rfl rfl rfl ?_) | ((with_reducible refine k_load ?_); refine x_load_agg tbOk rfl rfl rfl rfl (Nat.le_of_ble_eq_true rfl) ?_) | ((with_reducible refine k_store ?_); refine m_store tbOk rfl rfl rfl rfl rfl rfl rfl (Nat.le_of_ble_eq_true rfl) rfl ?_)  | refine e_nrm ?_ | refine x_none rfl ?_ | with_reducible (first | refine q_then ?_ | refine q_block ?_ | refine awp_seq ?_ | refine awp_ret ?_) | ((with_reducible refine w_region ?_ ?_); kernel_rfl))
      refine ret1_cell (by first | exact .inr rfl | exact .inl rfl) rfl rfl rfl rfl rfl rfl (by first | rfl | assumption) ?_ rfl ?_ rfl <;> rfl
    rw [if_neg (by simpa using h)]
    repeat (first | ((with_reducible refine k_assign ?_); refine m_assign rfl ?_) | ((with_reducible refine k_bin ?_); refine m_binI rfl rfl rfl ?_)  | refine e_nrm ?_ | refine x_none rfl ?_ | with_reducible (first | refine q_then ?_ | refine awp_seq ?_) | ((with_reducible refine w_region ?_ ?_); kernel_rfl))
    refine w_cond rfl (fun h => ?_) (fun h => ?_)
    · rw [if_pos (by simpa using h)]
      repeat (first | ((with_reducible refine k_fieldAddr ?_); refine x_fieldAddr_ptr tbOk rfl rfl rfl rfl ?_) | ((with_reducible refine k_load ?_); refine x_load_agg tbOk rfl rfl rfl rfl (Nat.le_of_ble_eq_true rfl) ?_) | ((with_reducible refine k_store ?_); refine m_store tbOk rfl rfl rfl rfl rfl rfl rfl (Nat.le_of_ble_eq_true rfl) rfl ?_)  | refine e_nrm ?_ | refine x_none rfl ?_ | with_reducible (first | refine q_then ?_ | refine q_block ?_ | refine awp_seq ?_ | refine awp_ret ?_) | ((with_reducible refine w_region ?_ ?_); kernel_rfl))
      refine ret1 (by first | exact .inr rfl | exact .inl rfl) (xs := [.ag [.v (.int .i64 (1 + D.val 30)), .v (.int .i64 (1 + D.next.val 2)), .v (.int .i64 g), .v (.int .i64 (1 + D.next.next.val 5)), .v (.slice none 0 0)]]) ?_ ?_ rfl hv0 (by repeat' (first | exact trivial | exact Ren.v _ | exact Ren.sl _ _ | exact Ren.ep _ | exact Ren.ptr _ _ _ _ rfl | exact Ren.bs _ _ _ _ _ rfl | exact Ren.nil _ | exact Ren.own _ _ _ _ ⟨_, rfl⟩ | refine ren_ag ?_ | refine ren_tu ?_ | refine ren_fn ?_ | refine ⟨?_, ?_⟩))
      · exact ⟨.agg _ _ _ _ _ _ rfl rfl rfl rfl, trivial⟩
      · exact ren_ag ⟨Ren.v _, Ren.v _, Ren.v _, Ren.v _, Ren.nil 3, trivial⟩
    rw [if_neg (by simpa using h)]
    repeat (first | ((with_reducible refine k_load ?_); refine x_load_agg tbOk rfl rfl rfl rfl (Nat.le_of_ble_eq_true rfl) ?_) | ((with_reducible refine k_store ?_); refine m_store tbOk rfl rfl rfl rfl rfl rfl rfl (Nat.le_of_ble_eq_true rfl) rfl ?_)  | refine e_nrm ?_ | refine x_none rfl ?_ | with_reducible (first | refine q_then ?_ | refine q_block ?_ | refine awp_seq ?_ | refine awp_skip ?_ | refine awp_ret ?_) | ((with_reducible refine w_region ?_ ?_); kernel_rfl))
    refine ret1_cell (by first | exact .inr rfl | exact .inl rfl) rfl rfl rfl rfl rfl rfl (by first | rfl | assumption) ?_ rfl ?_ rfl <;> rfl
end Go.Proofs.YtamihjgfncjdoaaDoor
