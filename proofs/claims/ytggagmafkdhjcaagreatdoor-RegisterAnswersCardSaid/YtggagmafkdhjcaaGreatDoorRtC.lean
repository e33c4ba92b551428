/- (*strings.Builder).WriteByte; conditions: none / register.Print, by the abstract machine: a line for each person, put together by a builder; conditions: the tables of classes and powers stand. -/
import Derived.Test.YtggagmafkdhjcaaGreatDoorBdA
import Derived.Test.YtggagmafkdhjcaaGreatDoorRtB
import Derived.Test.YtggagmafkdhjcaaGreatDoorTxA
set_option linter.unusedVariables false
set_option linter.unusedSimpArgs false
namespace Go.Proofs.YtggagmafkdhjcaaGreatDoor
open Go Go.Shelf Go.RowKit
set_option maxHeartbeats 2000000 in
set_option maxRecDepth 100000 in
theorem bd_wb (c : UInt8) : BdCalls Tryz.prog 31 56 5 (.int .u8 c.toNat) .nilIface [c] := by
  refine ⟨enter_of Tryz.func31 (by kernel_rfl) rfl, fun B b p u bs w hB hbk hp hown hne hlen hBw => ?_⟩
  obtain ⟨i0, hi, hz0, hz1, hz2⟩ := info_parts bdByte
  have e0 : ∀ args w, (callFunc 53 args).run Tryz.prog w = .ok (.enter 53 args) w := enters_of Tryz.func53 (by kernel_rfl) rfl
  simp only [List.length_cons, List.length_nil] at hlen
  go_enter Tryz.func31, Tryz.ntmps31
  go_wp2_with (go_at_fn 53; refine (chk_any b p u _ hbk hp).mono ?_)
  rintro e w1 ⟨rfl, h1, hb1⟩
  have hown1 : w1.ownsRow B 5 1 u bs.length bs := by
    rcases h1 with rfl | rfl
    · exact hown
    · refine own_move hown fun g hg => far_setCells (fun e => hne ?_) _ _ _
      rw [(vblk_own hown).1, e] at hg
      exact hg
  have hBw1 : B ≤ w1.heap.size := by
    rcases h1 with rfl | rfl
    · exact hBw
    · rw [(same_setCells _ _ _).2.2.2]; exact hBw
  have c0 : w1.cell? ⟨b, 0, none⟩ = some (.pointer (some ⟨b, 0, none⟩)) := by rw [Lib.cell_of_heap hb1]; rfl
  have c1 : w1.cell? ⟨b, 1, none⟩ = some u := by rw [Lib.cell_of_heap hb1]; rfl
  go_wp2_with (at_builtin; refine wpList_append_any _ rfl _ _ 54 rfl B 5 i0 (.int .u8 0) 1 1 Tryz.underlying54 hi hz0 hz1 hz2 rfl (by decide) _ _ _ rfl (hown1.alloc _) (some ⟨w1.heap.size, 0, none⟩) 1 1 [.int .u8 c.toNat] rfl rfl ?c1 ?c2 ?c3 ?c4 ?c5 ?_)
  case c1 => exact fun _ => ⟨_, rfl, one_new w1 _ _ _ rfl⟩
  case c2 => intro u hu; simp at hu; subst hu; rfl
  case c3 => unfold maxLen; omega
  case c4 => omega
  case c5 => simp; omega
  intro v' w2 hown' hgrow hat
  have hgrow1 : w1.grownBy w2 u.ownBlock := ⟨hgrow.os, hgrow.tape, hgrow.output, by have := hgrow.size; simp at this; omega, fun k hk hne' => (hgrow.block k (by simp; omega) hne').trans (Lib.alloc_old w1 _ k hk)⟩
  have hlt : b < w1.heap.size := (Array.getElem?_eq_some_iff.1 hb1).1
  have hb2 : w2.heap[b]? = some (.cells ⟨[.pointer (some ⟨b, 0, none⟩), u]⟩ 56 (0, 0)) := by
    rw [hgrow1.block b hlt (fun e => hne e.symm)]
    exact hb1
  have d0 : w2.cell? ⟨b, 0, none⟩ = some (.pointer (some ⟨b, 0, none⟩)) := by rw [Lib.cell_of_heap hb2]; rfl
  have d1 : w2.cell? ⟨b, 1, none⟩ = some u := by rw [Lib.cell_of_heap hb2]; rfl
  have f1 : w2.frozen? ⟨b, 1, none⟩ = false := Lib.frozen_of_heap hb2 1
  obtain ⟨ao, n', cap, rfl⟩ : ∃ ao n' cap, v' = .slice ao n' cap := by
    rcases hown'.2 with ⟨hv, _⟩ | ⟨g, cap, cur, hv, _⟩
    · exact ⟨_, _, _, hv⟩
    · exact ⟨_, _, _, hv⟩
  go_wp2
  go_ret
  exact ⟨rfl, w1, w2, _, h1, hb1, hgrow1, hown', hat.imp id fun e => ⟨_, by simp, e⟩, rfl⟩
end Go.Proofs.YtggagmafkdhjcaaGreatDoor
namespace Go.Proofs.YtggagmafkdhjcaaGreatDoor
open Go Go.RowKit
set_option maxRecDepth 10000
variable {G : Nat → Option (List Value)}
def printR (L : List Per) : ByteArray × Int := if pcheckE pvalidE L ≠ 0 then (⟨#[]⟩, pcheckE pvalidE L) else (strL (regT L), 0)
theorem per_at {L : List Per} {k : Nat} {p : Per} (h : L[k]? = some p) : (L.map Per.av)[k]? = some p.av := by rw [List.getElem?_map, h]; rfl
set_option maxHeartbeats 16000000 in
theorem kprint_A (L : List Per) (hG : GCls G) (hP : GPow G) (hs : ∀ p ∈ L, p.n.size ≤ maxLen) (hi : ∀ p ∈ L, I64 p.s) (hm : L.length ≤ maxLen) :
    ACalls Tryz.prog G 9 [regAV L] [] (.tu [.v (.string (printR L).1), .v (.int .i64 (printR L).2)]) [] := by
  by_cases hc : pcheckE pvalidE L ≠ 0
  · have e : printR L = (⟨#[]⟩, pcheckE pvalidE L) := by unfold printR; rw [if_pos hc]
    rw [e]
    refine acalls_of tbOk (enter_of Tryz.func9 (by kernel_rfl) rfl) Tryz.func9 rfl _ Tryz.ntmps9 (Nat.le_of_ble_eq_true rfl) fun X hX => ?_
    subst hX
    repeat (first | ((with_reducible refine k_assign ?_); refine m_assign rfl ?_) | ((with_reducible refine k_load ?_); refine x_load_agg tbOk rfl rfl rfl rfl (Nat.le_of_ble_eq_true rfl) ?_) | ((with_reducible refine k_box ?_); refine m_box rfl rfl rfl ?_)  | refine e_nrm ?_ | refine x_none rfl ?_ | with_reducible (first | refine q_then ?_ | refine awp_seq ?_) | ((with_reducible refine w_region ?_ ?_); kernel_rfl))
    refine x_call0 (check_A L hG hs hm) (by repeat' (first | exact trivial | exact Ren.sl _ _ | refine ren_ag ?_ | refine ⟨?_, ?_⟩)) (by repeat' exact RenB.v _) ?_
    repeat (first | ((with_reducible refine k_move ?_); refine m_move rfl ?_) | ((with_reducible refine k_assign ?_); refine m_assign rfl ?_) | ((with_reducible refine k_bin ?_); refine m_binI rfl rfl rfl ?_)  | refine e_nrm ?_ | refine x_none rfl ?_ | with_reducible (first | refine q_then ?_ | refine awp_seq ?_) | ((with_reducible refine w_region ?_ ?_); kernel_rfl))
    refine w_cond rfl (fun h => ?_) (fun h => ?_)
    · repeat (first | ((with_reducible refine k_move ?_); refine m_move rfl ?_) | ((with_reducible refine k_assign ?_); refine m_assign rfl ?_)  | refine e_nrm ?_ | refine x_none rfl ?_ | with_reducible (first | refine q_then ?_ | refine q_then_ret ?_ | refine awp_seq ?_ | refine awp_ret ?_) | ((with_reducible refine w_region ?_ ?_); kernel_rfl))
      refine ret0_2 (by first | exact .inr rfl | exact .inl rfl) rfl rfl rfl ?_
      repeat' (first | exact trivial | exact Ren.v _ | refine ren_tu ?_ | refine ⟨?_, ?_⟩)
    · exact absurd (by simpa using h) hc
  have e : printR L = (strL (regT L), 0) := by unfold printR; rw [if_neg hc]
  have hvl := (check_iff L).1 (by simpa using hc)
  have hpv : ∀ p ∈ L, PvOk p := fun p hp => pv_ok (hvl.2.1 p hp) (hi p hp)
  have h64 := hvl.1
  rw [e]
  refine acalls_of tbOk (enter_of Tryz.func9 (by kernel_rfl) rfl) Tryz.func9 rfl _ Tryz.ntmps9 (Nat.le_of_ble_eq_true rfl) fun X hX => ?_
  subst hX
  repeat (first | ((with_reducible refine k_assign ?_); refine m_assign rfl ?_) | ((with_reducible refine k_load ?_); refine x_load_agg tbOk rfl rfl rfl rfl (Nat.le_of_ble_eq_true rfl) ?_) | ((with_reducible refine k_box ?_); refine m_box rfl rfl rfl ?_)  | refine e_nrm ?_ | refine x_none rfl ?_ | with_reducible (first | refine q_then ?_ | refine awp_seq ?_) | ((with_reducible refine w_region ?_ ?_); kernel_rfl))
  refine x_call0 (check_A L hG hs hm) (by repeat' (first | exact trivial | exact Ren.sl _ _ | refine ren_ag ?_ | refine ⟨?_, ?_⟩)) (by repeat' exact RenB.v _) ?_
  repeat (first | ((with_reducible refine k_assign ?_); refine m_assign rfl ?_) | refine e_nrm ?_ | refine x_none rfl ?_ | with_reducible (first | refine q_then ?_ | refine awp_seq ?_))
  (with_reducible refine w_region ?_ ?_); kernel_rfl
  repeat (first | ((with_reducible refine k_move ?_); refine m_move rfl ?_) | ((with_reducible refine k_bin ?_); refine m_binI rfl rfl rfl ?_) | refine e_nrm ?_ | refine x_none rfl ?_ | with_reducible refine q_then ?_)
  refine w_cond rfl (fun h => ?_) (fun h => ?_)
  · exact absurd (by simpa using h) hc
  clear h
  repeat (first  | refine x_none rfl ?_ | with_reducible (first | refine q_then ?_ | refine awp_seq ?_ | refine awp_skip ?_))
  (with_reducible refine w_region ?_ ?_); kernel_rfl
  repeat (first | refine x_none rfl ?_)
  (with_reducible refine k_alloc ?_)
  refine x_alloc_bd tbOk (e := 5) 900 rfl (by decide) rfl rfl ?_
  repeat (first | ((with_reducible refine k_move ?_); refine m_move rfl ?_) | ((with_reducible refine k_fieldAddr ?_); refine x_fieldAddr_ptr tbOk rfl rfl rfl rfl ?_) | ((with_reducible refine k_load ?_); refine x_load_one tbOk rfl rfl rfl rfl rfl ?_) | ((with_reducible refine k_call ?_); refine x_len tbOk rfl rfl ?_)  | refine e_nrm ?_ | refine x_none rfl ?_ | with_reducible (first | refine q_then ?_ | refine awp_seq ?_ | refine awp_block ?_) | ((with_reducible refine w_region ?_ ?_); kernel_rfl))
  refine awp_loop (ι := Nat) (fun k => k ≤ L.length) (fun k => L.length - k) (fun v k => [(5, .ptr 5 (v 5) 0), (18, .sl 5 (L.map Per.av)), (19, .v (.int .i64 (L.map Per.av).length)), (20, .v (.int .i64 (k : Nat)))]) (fun v k => [(900, .buf 5 1 ((regT (L.take k)).map bv)), (5, .ob (.bd 56 900 (v 900)))]) ?_ ?_
  · exact ⟨0, Nat.zero_le _, trivial, ⟨rfl, rfl, rfl, rfl, trivial⟩, ⟨rfl, rfl, trivial⟩⟩
  rintro v k hk
  repeat (first | ((with_reducible refine k_bin ?_); refine m_binI rfl rfl rfl ?_)  | refine e_nrm ?_ | refine x_none rfl ?_ | with_reducible (first | refine q_then ?_ | refine awp_seq ?_) | ((with_reducible refine w_region ?_ ?_); kernel_rfl))
  refine w_cond rfl (fun h => ?_) (fun h => ?_)
  · have hlt : k < L.length := by simp at h; omega
    obtain ⟨p, hp⟩ := some_at hlt
    have hy := per_at hp
    have hpk := hpv p (List.mem_of_getElem? hp)
    have ht := hpk.t
    have hcc := hpk.c
    have hjl := (line_ok hpk).2
    have hjn := jn_A (G := X.G) (lineP p) (by show (10 : Nat) ≤ _; omega) (by omega)
    have hpf := print_A (G := X.G) p.f hP
    have hpu := print_A (G := X.G) p.u hP
    have htl : (regT (L.take k)).length ≤ 64 * 1011 := by
      have := regT_len (M := L.take k) (fun q hq => hpv q (List.mem_of_mem_take hq))
      rw [List.length_take] at this
      have : min k L.length ≤ 64 := by omega
      omega
    have hnx : regT (L.take (k + 1)) = regT (L.take k) ++ joinW (lineP p) ++ [10] := by
      rw [take_at hp, regT_app]
      simp [regT, txtOf]
    repeat (first | ((with_reducible refine k_fieldAddr ?_); refine x_fieldAddr_ptr tbOk rfl rfl rfl rfl ?_) | ((with_reducible refine k_load ?_); (first | refine x_load_one tbOk rfl rfl rfl rfl rfl ?_ | refine x_load_ep_agg tbOk rfl rfl (Nat.le_of_ble_eq_true rfl) ?_)) | ((with_reducible refine k_store ?_); refine m_store tbOk rfl rfl rfl rfl rfl rfl rfl (Nat.le_of_ble_eq_true rfl) rfl ?_) | ((with_reducible refine k_alloc ?_); refine x_alloc tbOk rfl rfl ?_) | ((with_reducible refine k_indexAddr ?_); refine x_indexAddr_n tbOk rfl rfl rfl rfl (by assumption) ?_)  | refine e_nrm ?_ | refine x_none rfl ?_ | with_reducible (first | refine q_then ?_ | refine awp_seq ?_ | refine awp_block ?_ | refine awp_skip ?_) | ((with_reducible refine w_region ?_ ?_); kernel_rfl))
    refine x_call0 (hpf) (by repeat' (first | exact trivial | exact Ren.v _ | refine ⟨?_, ?_⟩)) (by repeat' (first | exact trivial | exact RenB.v _ | refine renb_tu ?_ | refine ⟨?_, ?_⟩)) ?_
    repeat (first | ((with_reducible refine k_move ?_); refine m_move rfl ?_) | ((with_reducible refine k_assign ?_); refine m_assign rfl ?_) | ((with_reducible refine k_fieldAddr ?_); refine x_fieldAddr_ptr tbOk rfl rfl rfl rfl ?_) | ((with_reducible refine k_load ?_); refine x_load_one tbOk rfl rfl rfl rfl rfl ?_) | ((with_reducible refine k_extract ?_); refine x_extract rfl rfl ?_)  | refine e_nrm ?_ | refine x_none rfl ?_ | with_reducible (first | refine q_then ?_ | refine awp_seq ?_) | ((with_reducible refine w_region ?_ ?_); kernel_rfl))
    refine x_call0 (hpu) (by repeat' (first | exact trivial | exact Ren.v _ | refine ⟨?_, ?_⟩)) (by repeat' (first | exact trivial | exact RenB.v _ | refine renb_tu ?_ | refine ⟨?_, ?_⟩)) ?_
    repeat (first | ((with_reducible refine k_move ?_); refine m_move rfl ?_) | ((with_reducible refine k_assign ?_); refine m_assign rfl ?_) | ((with_reducible refine k_fieldAddr ?_); refine x_fieldAddr_ptr tbOk rfl rfl rfl rfl ?_) | ((with_reducible refine k_load ?_); refine x_load_one tbOk rfl rfl rfl rfl rfl ?_) | ((with_reducible refine k_extract ?_); refine x_extract rfl rfl ?_)  | refine e_nrm ?_ | refine x_none rfl ?_ | with_reducible (first | refine q_then ?_ | refine awp_seq ?_) | ((with_reducible refine w_draw mixd ?_ ?_); kernel_rfl))
    refine x_call0 (text_A p.c hP (by omega) (by omega)) (by repeat' (first | exact trivial | exact Ren.v _ | refine ⟨?_, ?_⟩)) (by repeat' exact RenB.v _) ?_
    repeat (first | ((with_reducible refine k_fieldAddr ?_); refine x_fieldAddr_ptr tbOk rfl rfl rfl rfl ?_) | ((with_reducible refine k_load ?_); refine x_load_one tbOk rfl rfl rfl rfl rfl ?_)  | refine x_none rfl ?_  )
    refine x_call0 (skills_A p.s) (by repeat' (first | exact trivial | exact Ren.v _ | refine ⟨?_, ?_⟩)) (by repeat' exact RenB.v _) ?_
    repeat (first | ((with_reducible refine k_move ?_); refine m_move rfl ?_) | ((with_reducible refine k_buildSlice ?_); refine m_buildSlice tbOk rfl rfl rfl rfl rfl (by omega) rfl rfl rfl ?_) | refine x_none rfl ?_  )
    refine x_call0 (hjn) (by repeat' (first | exact trivial | exact Ren.sl _ _ | refine ⟨?_, ?_⟩)) (by repeat' exact RenB.v _) ?_
    repeat (first   | refine x_none rfl ?_  )
    (with_reducible refine k_call ?_)
    refine x_bd (bd_ws (strL (joinW (lineP p)))) rfl rfl rfl rfl rfl rfl (by rw [strL_data]; omega) ?_
    repeat (first   | refine e_drw (by kernel_rfl) ?_ | refine x_none rfl ?_ | with_reducible refine q_then ?_ | ((with_reducible refine w_region ?_ ?_); kernel_rfl))
    (with_reducible refine k_call ?_)
    refine x_bd (bd_wb 10) rfl rfl rfl rfl rfl rfl (by rw [List.length_append, strL_data, List.length_singleton]; omega) ?_
    repeat (first | ((with_reducible refine k_move ?_); refine m_move rfl ?_) | ((with_reducible refine k_bin ?_); refine x_add_in rfl rfl (by omega) ?_)  | refine e_nrm ?_ | refine x_none rfl ?_ | with_reducible (first | refine q_then ?_ | refine q_block ?_) | ((with_reducible refine w_region ?_ ?_); kernel_rfl))
    exact ⟨k + 1, by omega, by omega, ⟨rfl, rfl, rfl, rfl, trivial⟩, ⟨hc_buf (by rw [hnx, strL_data]), rfl, trivial⟩⟩
  · have hge : L.length ≤ k := by simp at h; omega
    rw [List.take_of_length_le hge]
    repeat (first   | refine x_none rfl ?_ | with_reducible (first | refine q_then ?_ | refine q_then_exit ?_ | refine awp_seq ?_ | refine awp_exit ?_) | ((with_reducible refine q_block_exit ?_ ?_); rfl) | ((with_reducible refine w_region ?_ ?_); kernel_rfl))
    with_reducible refine k_call ?_
    refine x_bd_str bd_str rfl rfl rfl rfl rfl ?_
    repeat (first | ((with_reducible refine k_assign ?_); refine m_assign rfl ?_)  | refine e_nrm ?_ | refine x_none rfl ?_ | with_reducible (first | refine q_then ?_ | refine awp_ret ?_) )
    refine ret0_2 (by first | exact .inr rfl | exact .inl rfl) rfl rfl rfl ?_
    repeat' (first | exact trivial | exact Ren.v _ | refine ren_tu ?_ | refine ⟨?_, ?_⟩)
end Go.Proofs.YtggagmafkdhjcaaGreatDoor
