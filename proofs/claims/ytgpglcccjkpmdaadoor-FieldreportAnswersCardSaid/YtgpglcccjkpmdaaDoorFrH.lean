/- fieldreport.report, read and Parse, strings.CutSuffix at a byte, by the abstract machine; conditions: the table of classes stands / fieldreport.read, by the abstract machine: what it reads as a message, or that it reads none; conditions: the table of classes stands / fieldreport.Parse, by the abstract machine: what the plain function reads; conditions: the table of classes stands / The reference of fieldreport.Parse, by the abstract machine: what the plain function reads; conditions: none. -/
import Derived.Test.YtgpglcccjkpmdaaDoorFrD
import Derived.Test.YtgpglcccjkpmdaaDoorCdD
import Derived.Test.YtgpglcccjkpmdaaDoorWsA
import Derived.Test.YtgpglcccjkpmdaaDoorAbsY
import Derived.Test.YtgpglcccjkpmdaaDoorAbsJ
set_option linter.unusedVariables false
set_option linter.unusedSimpArgs false
namespace Go.Proofs.YtgpglcccjkpmdaaDoor
open Go Go.RowKit
section
variable {P : Program} {X : Ctx} {n : Nat} {ops : Array Oper} {os : List Oper} {acc : List Rule} {σ : AS} {K : List Rule → AS → Prop} {gt : List (Nat × AV)} {d : Option Nat} {ty : TypeId} {ps : String} {af : Array Edge} {g : Option (Nat × Bool)} {TB : Tabs} (hTB : TabsOk P TB)
include hTB
/-- A part of a row, with all three bounds. -/
theorem x_slice3 {t : TypeId} {x lo hi mx : Operand} {sz e : Nat} {b : Bool} {L : List AV} {k1 k2 k3 : IntKind} {l h m : Int} (hs : lk TB.sle t = some e) (hz : lk TB.ty e = some (b, sz)) (hx : ev σ x = .sl sz L) (hlo : ev σ lo = .v (.int k1 l)) (hhi : ev σ hi = .v (.int k2 h)) (hmx : ev σ mx = .v (.int k3 m)) (hb : 0 ≤ l ∧ l ≤ h ∧ h ≤ m ∧ m ≤ L.length)
    (hK : Exec P X n ops os (mkG gt σ [x, lo, hi, mx] [] d (.sl sz ((L.take h.toNat).drop l.toNat)) [] :: acc) (σ.put d (.sl sz ((L.take h.toNat).drop l.toNat))) K) : Op1 P X n ops gt ⟨d, .slice t x (some lo) (some hi) (some mx), ty, ps, af, g⟩ os acc σ K :=
  x_pure (fun M ρ τ a w he hR => by
    have h1 := hR.ev x
    rw [he x (by simp), hx] at h1
    obtain ⟨A, c, us, e1, e2, e2', e3, e4⟩ := h1.sl_inv
    obtain ⟨b1, b2, b3, b4⟩ := hb
    have v1 := eval_v hR (he lo (by simp)) hlo
    have v2 := eval_v hR (he hi (by simp)) hhi
    have v3 := eval_v hR (he mx (by simp)) hmx
    have el : (l.toNat : Int) = l := Int.toNat_of_nonneg b1
    have eh : (h.toNat : Int) = h := Int.toNat_of_nonneg (by omega)
    have em : (m.toNat : Int) = m := Int.toNat_of_nonneg (by omega)
    have hr : (Instr.sliceAt t (.slice A L.length c) (some (.int k1 l)) (some (.int k2 h)) (some (.int k3 m))).run P w = .ok (.slice (if m.toNat = l.toNat then A else A.map (·.add (l.toNat * sz))) (h.toNat - l.toNat) (m.toNat - l.toNat)) w := by
      have hb : (Instr.sliceBounds true L.length c (some (.int k1 l)) (some (.int k2 h)) (some (.int k3 m))).run P w = .ok (l.toNat, h.toNat, m.toNat) w := by
        unfold Instr.sliceBounds
        simp [run_sliceBound w k3 m c .slice3Acap (by omega) (by omega), run_sliceBound w k2 h m.toNat .slice3B (by omega) (by omega), run_sliceBound w k1 l h.toNat .slice3C (by omega) (by omega)]
      unfold Instr.sliceAt Instr.slice
      simp only [Sem.run_bind, run_underlying (tab_sle hTB hs), Result.andThen_ok, hb, run_size hTB hz, Sem.run_pure]
    refine ⟨_, by unfold execOp; simp only [e1, v1, v2, v3, Option.map_some, Sem.run_bind, hr]; rfl, ?_⟩
    have hlen : ((L.take h.toNat).drop l.toNat).length = h.toNat - l.toNat := by rw [List.length_drop, List.length_take, Nat.min_eq_left (by omega)]
    have hat : ∀ (k : Nat) (x : AV), ((L.take h.toNat).drop l.toNat)[k]? = some x → L[l.toNat + k]? = some x := fun k x hk => by
      rw [List.getElem?_drop, List.getElem?_take] at hk
      split at hk
      · exact hk
      · cases hk
    have : Rep M ρ (.sl sz ((L.take h.toNat).drop l.toNat)) (.slice (if m.toNat = l.toNat then A else A.map (·.add (l.toNat * sz))) ((L.take h.toNat).drop l.toNat).length (m.toNat - l.toNat)) := by
      refine .sl _ sz _ _ _ (fun k j => us (l.toNat + k) j) (by omega) (by omega) (fun k x j y hk hy => e3 _ x j y (hat k x hk) hy) (fun k x hk => ?_)
      obtain ⟨f1, b', o, arr, rfl, f3, f4⟩ := e4 _ x (hat k x hk)
      have hlt := lt_at hk
      rw [hlen] at hlt
      refine ⟨f1, b', o + l.toNat * sz, arr, ?_, f3, fun j hj => ?_⟩
      · rw [if_neg (by omega), Option.map_some, Addr.add_mid]
      · rw [← f4 j hj, Nat.add_mul]; congr 1; omega
    rwa [hlen] at this) hK
end
set_option maxRecDepth 10000
variable {G : Nat → Option (List Value)}
theorem last_extract (s : ByteArray) (h : 1 ≤ s.size) : strEq (s.extract (s.size - 1) s.size) ⟨#[58]⟩ = decide (s.data.toList.getLast? = some 58) := by
  have hz := nsizeS s
  obtain ⟨l, c, e⟩ : ∃ l c, s.data.toList = l ++ [c] := by
    rcases List.eq_nil_or_concat s.data.toList with h0 | ⟨l, c, h0⟩
    · rw [h0, List.length_nil] at hz; omega
    · exact ⟨l, c, by rw [h0]; simp⟩
  rw [e] at hz
  rw [List.length_append, List.length_cons, List.length_nil] at hz
  rw [Bool.eq_iff_iff, strEq_l, ba_sub, e, List.take_of_length_le (by simp; omega), show s.size - 1 = l.length by omega, List.drop_left]
  simp
theorem drop_extract (s : ByteArray) (h : 1 ≤ s.size) : s.extract 0 (s.size - 1) = strL s.data.toList.dropLast := by
  refine ba_ext2 ?_
  rw [ba_sub]
  have hz := nsizeS s
  rw [List.dropLast_eq_take, ← hz]
  simp [strL]
theorem has_A (s : ByteArray) (hm : s.size ≤ maxLen) : ACalls Tryd.prog G 87 [.v (.string s), .v (.string ⟨#[58]⟩)] [] (.v (.bool (decide (s.data.toList.getLast? = some 58)))) [] := by
  have hm9 : s.size ≤ 9223372036854775807 := by unfold maxLen at hm; omega
  have hs1 : ((ByteArray.mk #[58]).size : Int) = 1 := rfl
  refine acalls_of tbOk (enter_of Tryd.func87 (by kernel_rfl) rfl) Tryd.func87 rfl _ Tryd.ntmps87 (Nat.le_of_ble_eq_true rfl) fun X hX => ?_
  subst hX
  repeat (first | ((with_reducible refine k_move ?_); refine m_move rfl ?_) | ((with_reducible refine k_assign ?_); refine m_assign rfl ?_) | ((with_reducible refine k_call ?_); refine x_len_str (by exact Tryd.underlying9) rfl ?_) | ((with_reducible refine k_bin ?_); refine m_binI rfl rfl rfl ?_)  | refine e_nrm ?_ | refine x_none rfl ?_ | with_reducible refine q_then ?_ | with_reducible refine awp_seq ?_ | ((with_reducible refine w_region ?_ ?_); kernel_rfl))
  refine x_split rfl rfl (fun b1 => ?_) (fun b1 => ?_)
  · have b1' : (s.size : Int) ≥ ((ByteArray.mk #[58]).size : Int) := by simpa using b1
    have h1 : 1 ≤ s.size := by omega
    have e1 : ((s.size : Int) - ((ByteArray.mk #[58]).size : Int)).toNat = s.size - 1 := by omega
    repeat (first | ((with_reducible refine k_move ?_); refine m_move rfl ?_) | ((with_reducible refine k_assign ?_); refine m_assign rfl ?_) | ((with_reducible refine k_pick ?_); refine m_pickt rfl (by first | rfl | assumption) rfl ?_) | ((with_reducible refine k_slice ?_); refine x_sliceS (by exact Tryd.underlying9) rfl rfl rfl (by refine ⟨?_, ?_, ?_⟩ <;> omega) ?_) | ((with_reducible refine k_call ?_); refine x_len_str (by exact Tryd.underlying9) rfl ?_) | ((with_reducible refine k_bin ?_); refine x_sub_in rfl rfl (by omega) ?_) | ((with_reducible refine k_bin ?_); refine m_binS rfl rfl rfl ?_)  | refine e_nrm ?_ | refine x_none rfl ?_ | refine x_run_t rfl rfl (by first | rfl | assumption) ?_ | with_reducible refine q_then ?_ | with_reducible refine awp_ret ?_ )
    refine ret_v (by first | exact .inr rfl | exact .inl rfl) rfl rfl ?_
    have e2 : ((s.size : Int)).toNat = s.size := by omega
    rw [e1, e2, last_extract s h1]
  · repeat (first | ((with_reducible refine k_assign ?_); refine m_assign rfl ?_) | ((with_reducible refine k_pick ?_); refine m_pickf rfl (by first | rfl | assumption) rfl ?_)  | refine e_nrm ?_ | refine x_none rfl ?_ | refine x_skip_t rfl rfl (by first | rfl | assumption) ?_ | with_reducible refine q_then ?_ | with_reducible refine awp_ret ?_ )
    refine ret_v (by first | exact .inr rfl | exact .inl rfl) rfl rfl ?_
    have b1' : ¬ (s.size : Int) ≥ ((ByteArray.mk #[58]).size : Int) := by simpa using b1
    have hz := nsizeS s
    have h0 : s.data.toList = [] := List.eq_nil_of_length_eq_zero (by omega)
    rw [h0]; rfl
theorem suf_A (s : ByteArray) (hm : s.size ≤ maxLen) : ACalls Tryd.prog G 55 [.v (.string s), .v (.string ⟨#[58]⟩)] [] (.tu [.v (.string (if s.data.toList.getLast? = some 58 then strL s.data.toList.dropLast else s)), .v (.bool (decide (s.data.toList.getLast? = some 58)))]) [] := by
  have hm9 : s.size ≤ 9223372036854775807 := by unfold maxLen at hm; omega
  have hs1 : ((ByteArray.mk #[58]).size : Int) = 1 := rfl
  have hl : ACalls Tryd.prog G 78 [.v (.string s), .v (.string ⟨#[58]⟩)] [] (.tu [.v (.string (if s.data.toList.getLast? = some 58 then strL s.data.toList.dropLast else s)), .v (.bool (decide (s.data.toList.getLast? = some 58)))]) [] := by
    refine acalls_of tbOk (enter_of Tryd.func78 (by kernel_rfl) rfl) Tryd.func78 rfl _ Tryd.ntmps78 (Nat.le_of_ble_eq_true rfl) fun X hX => ?_
    subst hX
    repeat (first | ((with_reducible refine k_move ?_); refine m_move rfl ?_) | ((with_reducible refine k_assign ?_); refine m_assign rfl ?_)  | refine e_nrm ?_ | refine x_none rfl ?_ | with_reducible refine q_then ?_ | with_reducible refine awp_seq ?_ | ((with_reducible refine w_region ?_ ?_); kernel_rfl))
    refine x_call0 (has_A s hm) (by repeat' (first | exact trivial | exact Ren.v _ | exact Ren.sl _ _ | exact Ren.ep _ | exact Ren.ptr _ _ _ _ rfl | exact Ren.bs _ _ _ _ _ rfl | exact Ren.nil _ | exact Ren.own _ _ _ _ ⟨_, rfl⟩ | refine ren_ag ?_ | refine ren_tu ?_ | refine ren_fn ?_ | refine ⟨?_, ?_⟩)) (by repeat' (first | exact trivial | exact RenB.v _ | exact RenB.sl _ _ | exact RenB.ep _ | exact RenB.ptr _ _ _ _ rfl | refine renb_ag ?_ | refine renb_tu ?_ | refine ⟨?_, ?_⟩)) ?_
    repeat (first | ((with_reducible refine k_un ?_); refine x_not rfl ?_)  | refine e_nrm ?_ | refine x_none rfl ?_ | with_reducible refine q_then ?_ )
    refine w_cond rfl (fun h => ?_) (fun h => ?_)
    · have h' : ¬ s.data.toList.getLast? = some 58 := by simpa using h
      rw [if_neg h', decide_eq_false h']
      repeat (first | ((with_reducible refine k_move ?_); refine m_move rfl ?_) | ((with_reducible refine k_assign ?_); refine m_assign rfl ?_)  | refine e_nrm ?_ | refine x_none rfl ?_ | with_reducible refine q_then ?_ | with_reducible refine q_then_ret ?_ | with_reducible refine awp_seq ?_ | with_reducible refine awp_ret ?_ | ((with_reducible refine w_region ?_ ?_); kernel_rfl))
      refine ret0_2 (by first | exact .inr rfl | exact .inl rfl) rfl rfl rfl ?_
      repeat' (first | exact trivial | exact Ren.v _ | exact Ren.sl _ _ | exact Ren.ep _ | exact Ren.ptr _ _ _ _ rfl | exact Ren.bs _ _ _ _ _ rfl | exact Ren.nil _ | exact Ren.own _ _ _ _ ⟨_, rfl⟩ | refine ren_ag ?_ | refine ren_tu ?_ | refine ren_fn ?_ | refine ⟨?_, ?_⟩)
    · have h' : s.data.toList.getLast? = some 58 := by simpa using h
      have h1 : 1 ≤ s.size := by
        rcases Nat.eq_zero_or_pos s.size with h0 | h0
        · rw [nsizeS] at h0
          rw [List.eq_nil_of_length_eq_zero h0] at h'; cases h'
        · exact h0
      have e1 : ((s.size : Int) - ((ByteArray.mk #[58]).size : Int)).toNat = s.size - 1 := by omega
      rw [if_pos h', decide_eq_true h', ← drop_extract s h1, ← e1]
      repeat (first | ((with_reducible refine k_move ?_); refine m_move rfl ?_) | ((with_reducible refine k_assign ?_); refine m_assign rfl ?_) | ((with_reducible refine k_slice ?_); refine x_sliceS (by exact Tryd.underlying9) rfl rfl rfl (by refine ⟨?_, ?_, ?_⟩ <;> omega) ?_) | ((with_reducible refine k_call ?_); refine x_len_str (by exact Tryd.underlying9) rfl ?_) | ((with_reducible refine k_bin ?_); refine x_sub_in rfl rfl (by omega) ?_)  | refine e_nrm ?_ | refine x_none rfl ?_ | with_reducible refine q_then ?_ | with_reducible refine awp_seq ?_ | with_reducible refine awp_skip ?_ | with_reducible refine awp_ret ?_ | ((with_reducible refine w_region ?_ ?_); kernel_rfl))
      refine ret0_2 (by first | exact .inr rfl | exact .inl rfl) rfl rfl rfl ?_
      repeat' (first | exact trivial | exact Ren.v _ | exact Ren.sl _ _ | exact Ren.ep _ | exact Ren.ptr _ _ _ _ rfl | exact Ren.bs _ _ _ _ _ rfl | exact Ren.nil _ | exact Ren.own _ _ _ _ ⟨_, rfl⟩ | refine ren_ag ?_ | refine ren_tu ?_ | refine ren_fn ?_ | refine ⟨?_, ?_⟩)
  refine acalls_of tbOk (enter_of Tryd.func55 (by kernel_rfl) rfl) Tryd.func55 rfl _ Tryd.ntmps55 (Nat.le_of_ble_eq_true rfl) fun X hX => ?_
  subst hX
  repeat (first | ((with_reducible refine k_move ?_); refine m_move rfl ?_) | ((with_reducible refine k_assign ?_); refine m_assign rfl ?_)  | refine e_nrm ?_ | refine x_none rfl ?_ | with_reducible refine q_then ?_ | with_reducible refine awp_seq ?_ | ((with_reducible refine w_region ?_ ?_); kernel_rfl))
  refine x_call0 (hl) (by repeat' (first | exact trivial | exact Ren.v _ | exact Ren.sl _ _ | exact Ren.ep _ | exact Ren.ptr _ _ _ _ rfl | exact Ren.bs _ _ _ _ _ rfl | exact Ren.nil _ | exact Ren.own _ _ _ _ ⟨_, rfl⟩ | refine ren_ag ?_ | refine ren_tu ?_ | refine ren_fn ?_ | refine ⟨?_, ?_⟩)) (by repeat' (first | exact trivial | exact RenB.v _ | exact RenB.sl _ _ | exact RenB.ep _ | exact RenB.ptr _ _ _ _ rfl | refine renb_ag ?_ | refine renb_tu ?_ | refine ⟨?_, ?_⟩)) ?_
  repeat (first | ((with_reducible refine k_assign ?_); refine m_assign rfl ?_) | ((with_reducible refine k_extract ?_); refine x_extract rfl rfl ?_)  | refine e_nrm ?_ | refine x_none rfl ?_ | with_reducible refine q_then ?_ | with_reducible refine awp_ret ?_ )
  refine ret0_2 (by first | exact .inr rfl | exact .inl rfl) rfl rfl rfl ?_
  repeat' (first | exact trivial | exact Ren.v _ | exact Ren.sl _ _ | exact Ren.ep _ | exact Ren.ptr _ _ _ _ rfl | exact Ren.bs _ _ _ _ _ rfl | exact Ren.nil _ | exact Ren.own _ _ _ _ ⟨_, rfl⟩ | refine ren_ag ?_ | refine ren_tu ?_ | refine ren_fn ?_ | refine ⟨?_, ?_⟩)
def rpOf (t : Int) (b c : List UInt8) : Rp := ⟨0, if b = closedL then 2 else 1, 2, t, decide (c = toldL)⟩
def repOk (a b c : List UInt8) : Bool := nameB a && (decide (b = openL) || decide (b = closedL)) && (decide (c = seenL) || decide (c = toldL))
theorem repR_eq (t : Int) (a b c : List UInt8) : repR t a b c = if repOk a b c = true then some (rpOf t b c) else none := by
  unfold repR repOk rpOf
  simp only [Bool.and_eq_true, Bool.or_eq_true, decide_eq_true_eq, and_assoc]
theorem strEq_c (l m : List UInt8) : strEq (strL l) ⟨m.toArray⟩ = decide (l = m) := by
  rw [Bool.eq_iff_iff, strEq_l]
  simp [strL]
theorem ren_vb {B : Nat → Nat → Nat → List AV → Prop} {π : Nat → Option (Nat × Nat)} {a b : Bool} (h : a = b) : Ren B π (.v (.bool a)) (.v (.bool b)) := by rw [h]; exact .v _
set_option maxHeartbeats 4000000 in
theorem report_A (t : Int) (a b c : List UInt8) (hG : GCls G) (ha : a.length ≤ maxLen) : ACalls Tryd.prog G 57 [.sl 1 [svL a, svL b, svL c], .v (.int .i64 t)] [] (.tu [(rpOf t b c).av, svL a, .v (.bool (repOk a b c))]) [] := by
  have i0 : ([svL a, svL b, svL c] : List AV)[(0 : Int).toNat]? = some (svL a) := rfl
  have i1 : ([svL a, svL b, svL c] : List AV)[(1 : Int).toNat]? = some (svL b) := rfl
  have i2 : ([svL a, svL b, svL c] : List AV)[(2 : Int).toNat]? = some (svL c) := rfl
  have k1 : strEq (strL b) ⟨#[99, 108, 111, 115, 101, 100]⟩ = decide (b = closedL) := strEq_c _ _
  have k2 : strEq (strL b) ⟨#[111, 112, 101, 110]⟩ = decide (b = openL) := strEq_c _ _
  have k3 : strEq (strL c) ⟨#[115, 101, 101, 110, 59]⟩ = decide (c = seenL) := strEq_c _ _
  have k4 : strEq (strL c) ⟨#[116, 111, 108, 100, 59]⟩ = decide (c = toldL) := strEq_c _ _
  have hn := name_A (G := G) (strL a) hG (by rw [strL_size]; exact ha)
  rw [strL_data] at hn
  unfold rpOf repOk
  refine acalls_of tbOk (enter_of Tryd.func57 (by kernel_rfl) rfl) Tryd.func57 rfl _ Tryd.ntmps57 (Nat.le_of_ble_eq_true rfl) fun X hX => ?_
  subst hX
  repeat (first | ((with_reducible refine k_move ?_); refine m_move rfl ?_) | ((with_reducible refine k_assign ?_); refine m_assign rfl ?_) | ((with_reducible refine k_load ?_); refine x_load_ep_one tbOk rfl rfl rfl ?_) | ((with_reducible refine k_store ?_); refine m_store tbOk rfl rfl rfl rfl rfl rfl rfl (Nat.le_of_ble_eq_true rfl) rfl ?_) | ((with_reducible refine k_alloc ?_); refine x_alloc tbOk rfl rfl ?_) | ((with_reducible refine k_indexAddr ?_); refine x_indexAddr_n tbOk rfl rfl rfl rfl (by assumption) ?_) | ((with_reducible refine k_build ?_); refine m_build tbOk rfl rfl rfl rfl rfl ?_) | ((with_reducible refine k_bin ?_); refine m_binS rfl rfl rfl ?_)  | refine e_nrm ?_ | refine x_none rfl ?_ | with_reducible refine q_then ?_ | with_reducible refine awp_seq ?_ | ((with_reducible refine w_region ?_ ?_); kernel_rfl))
  refine w_cond rfl (fun h => ?_) (fun h => ?_)
  · have hcl : strEq (strL b) ⟨#[99, 108, 111, 115, 101, 100]⟩ = true := h
    have hb : b = closedL := by rw [k1] at hcl; simpa using hcl
    have ho : strEq (strL b) ⟨#[111, 112, 101, 110]⟩ = false := by rw [k2, hb]; decide
    have e0 : (if b = closedL then (2 : Int) else 1) = 2 := if_pos hb
    have e1 : (decide (b = openL) || decide (b = closedL)) = true := by rw [decide_eq_true hb]; simp
    rw [e0, e1]
    repeat (first | ((with_reducible refine k_move ?_); refine m_move rfl ?_) | ((with_reducible refine k_fieldAddr ?_); refine x_fieldAddr_ptr tbOk rfl rfl rfl rfl ?_) | ((with_reducible refine k_load ?_); refine x_load_agg tbOk rfl rfl rfl rfl (Nat.le_of_ble_eq_true rfl) ?_) | ((with_reducible refine k_load ?_); refine x_load_ep_one tbOk rfl rfl rfl ?_) | ((with_reducible refine k_store ?_); refine m_store tbOk rfl rfl rfl rfl rfl rfl rfl (Nat.le_of_ble_eq_true rfl) rfl ?_) | ((with_reducible refine k_indexAddr ?_); refine x_indexAddr_n tbOk rfl rfl rfl rfl (by assumption) ?_)  | refine e_nrm ?_ | refine x_none rfl ?_ | with_reducible refine q_then ?_ | with_reducible refine awp_seq ?_ | ((with_reducible refine w_region ?_ ?_); kernel_rfl) | ((with_reducible refine w_draw mixd ?_ ?_); kernel_rfl))
    refine x_call0 (hn) (by repeat' (first | exact trivial | exact Ren.v _ | exact Ren.sl _ _ | exact Ren.ep _ | exact Ren.ptr _ _ _ _ rfl | exact Ren.bs _ _ _ _ _ rfl | exact Ren.nil _ | exact Ren.own _ _ _ _ ⟨_, rfl⟩ | refine ren_ag ?_ | refine ren_tu ?_ | refine ren_fn ?_ | refine ⟨?_, ?_⟩)) (by repeat' (first | exact trivial | exact RenB.v _ | exact RenB.sl _ _ | exact RenB.ep _ | exact RenB.ptr _ _ _ _ rfl | refine renb_ag ?_ | refine renb_tu ?_ | refine ⟨?_, ?_⟩)) ?_
    repeat' (first | ((with_reducible refine k_move ?_); refine m_move rfl ?_) | ((with_reducible refine k_assign ?_); refine m_assign rfl ?_) | ((with_reducible refine k_load ?_); refine x_load_ep_one tbOk rfl rfl rfl ?_) | ((with_reducible refine k_store ?_); refine m_store tbOk rfl rfl rfl rfl rfl rfl rfl (Nat.le_of_ble_eq_true rfl) rfl ?_) | ((with_reducible refine k_pick ?_); refine m_pickt rfl (by first | rfl | assumption) rfl ?_) | ((with_reducible refine k_pick ?_); refine m_pickf rfl (by first | rfl | assumption) rfl ?_) | ((with_reducible refine k_indexAddr ?_); refine x_indexAddr_n tbOk rfl rfl rfl rfl (by assumption) ?_) | ((with_reducible refine k_bin ?_); refine m_binS rfl rfl rfl ?_)  | refine e_drw (by kernel_rfl) ?_ | refine x_none rfl ?_ | refine x_run_t rfl rfl (by first | rfl | assumption) ?_ | refine x_skip_t rfl rfl (by first | rfl | assumption) ?_ | refine x_run_f rfl rfl (by first | rfl | assumption) ?_ | refine x_skip_f rfl rfl (by first | rfl | assumption) ?_ | refine x_skip' rfl rfl rfl ?_ | with_reducible refine q_then ?_ | with_reducible refine awp_ret ?_  | refine x_split rfl rfl (fun _ => ?_) (fun _ => ?_) | refine w_cond rfl (fun _ => ?_) (fun _ => ?_))
    all_goals (refine ret0_ctt (by first | exact .inr rfl | exact .inl rfl) rfl rfl rfl rfl rfl rfl rfl ?_; refine ren_tu ⟨ren_ag ⟨.v _, .v _, .v _, .v _, ren_vb ?_, trivial⟩, .v _, ren_vb ?_, trivial⟩)
    all_goals first | exact k4.symm | simp_all
  · have hcl : strEq (strL b) ⟨#[99, 108, 111, 115, 101, 100]⟩ = false := h
    have hb : ¬ b = closedL := by rw [k1] at hcl; simpa using hcl
    have e0 : (if b = closedL then (2 : Int) else 1) = 1 := if_neg hb
    have e1 : (decide (b = openL) || decide (b = closedL)) = decide (b = openL) := by rw [decide_eq_false hb]; simp
    rw [e0, e1]
    repeat (first | ((with_reducible refine k_move ?_); refine m_move rfl ?_) | ((with_reducible refine k_load ?_); refine x_load_agg tbOk rfl rfl rfl rfl (Nat.le_of_ble_eq_true rfl) ?_) | ((with_reducible refine k_load ?_); refine x_load_ep_one tbOk rfl rfl rfl ?_) | ((with_reducible refine k_indexAddr ?_); refine x_indexAddr_n tbOk rfl rfl rfl rfl (by assumption) ?_)  | refine x_none rfl ?_ | with_reducible refine q_then ?_ | with_reducible refine awp_seq ?_ | with_reducible refine awp_skip ?_ | ((with_reducible refine w_draw mixd ?_ ?_); kernel_rfl))
    refine x_call0 (hn) (by repeat' (first | exact trivial | exact Ren.v _ | exact Ren.sl _ _ | exact Ren.ep _ | exact Ren.ptr _ _ _ _ rfl | exact Ren.bs _ _ _ _ _ rfl | exact Ren.nil _ | exact Ren.own _ _ _ _ ⟨_, rfl⟩ | refine ren_ag ?_ | refine ren_tu ?_ | refine ren_fn ?_ | refine ⟨?_, ?_⟩)) (by repeat' (first | exact trivial | exact RenB.v _ | exact RenB.sl _ _ | exact RenB.ep _ | exact RenB.ptr _ _ _ _ rfl | refine renb_ag ?_ | refine renb_tu ?_ | refine ⟨?_, ?_⟩)) ?_
    repeat' (first | ((with_reducible refine k_move ?_); refine m_move rfl ?_) | ((with_reducible refine k_assign ?_); refine m_assign rfl ?_) | ((with_reducible refine k_load ?_); refine x_load_ep_one tbOk rfl rfl rfl ?_) | ((with_reducible refine k_store ?_); refine m_store tbOk rfl rfl rfl rfl rfl rfl rfl (Nat.le_of_ble_eq_true rfl) rfl ?_) | ((with_reducible refine k_pick ?_); refine m_pickt rfl (by first | rfl | assumption) rfl ?_) | ((with_reducible refine k_pick ?_); refine m_pickf rfl (by first | rfl | assumption) rfl ?_) | ((with_reducible refine k_indexAddr ?_); refine x_indexAddr_n tbOk rfl rfl rfl rfl (by assumption) ?_) | ((with_reducible refine k_bin ?_); refine m_binS rfl rfl rfl ?_)  | refine e_drw (by kernel_rfl) ?_ | refine x_none rfl ?_ | refine x_run_t rfl rfl (by first | rfl | assumption) ?_ | refine x_skip_t rfl rfl (by first | rfl | assumption) ?_ | refine x_run_f rfl rfl (by first | rfl | assumption) ?_ | refine x_skip_f rfl rfl (by first | rfl | assumption) ?_ | refine x_skip' rfl rfl rfl ?_ | with_reducible refine q_then ?_ | with_reducible refine awp_ret ?_  | refine x_split rfl rfl (fun _ => ?_) (fun _ => ?_) | refine w_cond rfl (fun _ => ?_) (fun _ => ?_))
    all_goals (refine ret0_ctt (by first | exact .inr rfl | exact .inl rfl) rfl rfl rfl rfl rfl rfl rfl ?_; refine ren_tu ⟨ren_ag ⟨.v _, .v _, .v _, .v _, ren_vb ?_, trivial⟩, .v _, ren_vb ?_, trivial⟩)
    all_goals first | exact k4.symm | simp_all
end Go.Proofs.YtgpglcccjkpmdaaDoor
namespace Go.Proofs.YtgpglcccjkpmdaaDoor
open Go Go.RowKit
set_option maxRecDepth 10000
variable {G : Nat → Option (List Value)}
theorem sv_at {W : List (List UInt8)} {k : Nat} {w : List UInt8} (h : W[k]? = some w) : (W.map svL)[k]? = some (svL w) := by rw [List.getElem?_map, h]; rfl
theorem readT_map (t : Int) {l : List (List UInt8)} {a b c : List UInt8} {D : List Rp} {Ns : List (List UInt8)} {Q : Option (List Rp × List (List UInt8))} (hok : repOk a b c = true) (h : Q = (readT t (a :: b :: c :: l)).map (fun q => (D ++ q.1, Ns ++ q.2))) : Q = (readT t l).map (fun q => ((D ++ [rpOf t b c]) ++ q.1, (Ns ++ [a]) ++ q.2)) := by
  rw [h, readT, repR_eq, if_pos hok]
  simp only
  cases readT t l with
  | none => rfl
  | some q => simp
theorem readT_bad (t : Int) {l : List (List UInt8)} {a b c : List UInt8} {D : List Rp} {Ns : List (List UInt8)} {Q : Option (List Rp × List (List UInt8))} (hok : ¬ repOk a b c = true) (h : Q = (readT t (a :: b :: c :: l)).map (fun q => (D ++ q.1, Ns ++ q.2))) : Q = none := by
  rw [h, readT, repR_eq, if_neg hok]; rfl
set_option maxHeartbeats 16000000 in
theorem read_none (W : List (List UInt8)) (hG : GCls G) (hW : W.length ≤ 100000) (hWl : ∀ w ∈ W, w.length ≤ 100000000) (hq : readW W = none) : ACalls Tryd.prog G 32 [.sl 1 (W.map svL)] [] (.tu [ms0.av, .sl 1 [], .v (.bool false)]) [] := by
  have hm9 : W.length ≤ 100000 := hW
  have hlen : (W.map svL).length = W.length := by simp
  refine acalls_of tbOk (enter_of Tryd.func32 (by kernel_rfl) rfl) Tryd.func32 rfl _ Tryd.ntmps32 (Nat.le_of_ble_eq_true rfl) fun X hX => ?_
  subst hX
  repeat (first | ((with_reducible refine k_move ?_); refine m_move rfl ?_) | ((with_reducible refine k_assign ?_); refine m_assign rfl ?_) | ((with_reducible refine k_alloc ?_); refine x_alloc tbOk rfl rfl ?_) | ((with_reducible refine k_call ?_); refine x_len tbOk rfl rfl ?_) | ((with_reducible refine k_bin ?_); refine m_binI rfl rfl rfl ?_)  | refine e_nrm ?_ | refine x_none rfl ?_ | with_reducible refine q_then ?_ | with_reducible refine awp_seq ?_ | ((with_reducible refine w_region ?_ ?_); kernel_rfl))
  refine x_split rfl rfl (fun b1 => ?_) (fun b1 => ?_)
  · have hN : readW W = none := by unfold readW; rw [if_pos (.inl (by simp at b1; omega))]
    repeat (first | ((with_reducible refine k_move ?_); refine m_move rfl ?_) | ((with_reducible refine k_assign ?_); refine m_assign rfl ?_) | ((with_reducible refine k_store ?_); refine m_store tbOk rfl rfl rfl rfl rfl rfl rfl (Nat.le_of_ble_eq_true rfl) rfl ?_) | ((with_reducible refine k_pick ?_); refine m_pickt rfl (by first | rfl | assumption) rfl ?_) | ((with_reducible refine k_build ?_); refine m_build tbOk rfl rfl rfl rfl rfl ?_)  | refine e_nrm ?_ | refine x_none rfl ?_ | refine x_skip_f rfl rfl (by first | rfl | assumption) ?_ | with_reducible refine q_then ?_ | with_reducible refine q_then_ret ?_ | with_reducible refine awp_seq ?_ | with_reducible refine awp_ret ?_ | ((with_reducible refine w_region ?_ ?_); kernel_rfl) | refine w_cond_t rfl (by first | rfl | assumption) ?_)
    refine ret0_ctt (by first | exact .inr rfl | exact .inl rfl) rfl rfl rfl rfl rfl rfl rfl ?_
    repeat' (first | exact trivial | exact Ren.v _ | exact Ren.sl _ _ | exact Ren.ep _ | exact Ren.ptr _ _ _ _ rfl | exact Ren.bs _ _ _ _ _ rfl | exact Ren.nil _ | exact Ren.own _ _ _ _ ⟨_, rfl⟩ | refine ren_ag ?_ | refine ren_tu ?_ | refine ren_fn ?_ | refine ⟨?_, ?_⟩)
  have c1 : ¬ W.length < 6 := by simp at b1; omega
  have e3 : ((W.map svL).length : Int).tmod 3 = ((W.length % 3 : Nat) : Int) := by rw [Int.tmod_eq_emod_of_nonneg (by omega), hlen]; omega
  have e4 : ((W.map svL).length : Int).tdiv 3 = ((W.length / 3 : Nat) : Int) := by rw [Int.tdiv_eq_ediv_of_nonneg (by omega), hlen]; omega
  repeat (first | ((with_reducible refine k_move ?_); refine m_move rfl ?_) | ((with_reducible refine k_pick ?_); refine m_pickf rfl (by first | rfl | assumption) rfl ?_) | ((with_reducible refine k_call ?_); refine x_len tbOk rfl rfl ?_) | ((with_reducible refine k_bin ?_); refine m_binI rfl rfl rfl ?_) | ((with_reducible refine k_bin ?_); refine x_rem rfl rfl (by first | decide | assumption | omega) ?_)  | refine x_none rfl ?_ | refine x_run_f rfl rfl (by first | rfl | assumption) ?_  )
  refine x_split rfl rfl (fun b2 => ?_) (fun b2 => ?_)
  · have hN : readW W = none := by unfold readW; rw [if_pos (.inr (.inl (by rw [e3] at b2; simp at b2; omega)))]
    repeat (first | ((with_reducible refine k_move ?_); refine m_move rfl ?_) | ((with_reducible refine k_assign ?_); refine m_assign rfl ?_) | ((with_reducible refine k_store ?_); refine m_store tbOk rfl rfl rfl rfl rfl rfl rfl (Nat.le_of_ble_eq_true rfl) rfl ?_) | ((with_reducible refine k_pick ?_); refine m_pickt rfl (by first | rfl | assumption) rfl ?_) | ((with_reducible refine k_build ?_); refine m_build tbOk rfl rfl rfl rfl rfl ?_)  | refine e_nrm ?_ | refine x_none rfl ?_ | refine x_skip_f rfl rfl (by first | rfl | assumption) ?_ | with_reducible refine q_then ?_ | with_reducible refine q_then_ret ?_ | with_reducible refine awp_seq ?_ | with_reducible refine awp_ret ?_ | ((with_reducible refine w_region ?_ ?_); kernel_rfl) | refine w_cond_t rfl (by first | rfl | assumption) ?_)
    refine ret0_ctt (by first | exact .inr rfl | exact .inl rfl) rfl rfl rfl rfl rfl rfl rfl ?_
    repeat' (first | exact trivial | exact Ren.v _ | exact Ren.sl _ _ | exact Ren.ep _ | exact Ren.ptr _ _ _ _ rfl | exact Ren.bs _ _ _ _ _ rfl | exact Ren.nil _ | exact Ren.own _ _ _ _ ⟨_, rfl⟩ | refine ren_ag ?_ | refine ren_tu ?_ | refine ren_fn ?_ | refine ⟨?_, ?_⟩)
  have c2 : W.length % 3 = 0 := by rw [e3] at b2; simp at b2; omega
  have e5 : IntKind.i64.wrap (((W.map svL).length : Int).tdiv 3) = ((W.length / 3 : Nat) : Int) := by rw [e4, wrap_i64_in (by omega)]
  have hq0 : 0 ≤ ((W.map svL).length : Int).tdiv 3 ∧ ((W.map svL).length : Int).tdiv 3 ≤ 100000 := by rw [e4]; omega
  repeat (first | ((with_reducible refine k_move ?_); refine m_move rfl ?_) | ((with_reducible refine k_pick ?_); refine m_pickf rfl (by first | rfl | assumption) rfl ?_) | ((with_reducible refine k_call ?_); refine x_len tbOk rfl rfl ?_) | ((with_reducible refine k_bin ?_); refine x_sub_in rfl rfl (by omega) ?_) | ((with_reducible refine k_bin ?_); refine m_binI rfl rfl rfl ?_) | ((with_reducible refine k_bin ?_); refine x_quo rfl rfl (by first | decide | assumption | omega) ?_)  | refine x_none rfl ?_ | refine x_run_f rfl rfl (by first | rfl | assumption) ?_  )
  refine x_split rfl rfl (fun b3 => ?_) (fun b3 => ?_)
  · have hN : readW W = none := by unfold readW; rw [if_pos (.inr (.inr (.inl (by (first | rw [e5] at b3 | rw [e4] at b3); simp at b3; omega))))]
    repeat (first | ((with_reducible refine k_move ?_); refine m_move rfl ?_) | ((with_reducible refine k_assign ?_); refine m_assign rfl ?_) | ((with_reducible refine k_store ?_); refine m_store tbOk rfl rfl rfl rfl rfl rfl rfl (Nat.le_of_ble_eq_true rfl) rfl ?_) | ((with_reducible refine k_pick ?_); refine m_pickt rfl (by first | rfl | assumption) rfl ?_) | ((with_reducible refine k_build ?_); refine m_build tbOk rfl rfl rfl rfl rfl ?_)  | refine e_nrm ?_ | refine x_none rfl ?_ | refine x_skip_f rfl rfl (by first | rfl | assumption) ?_ | with_reducible refine q_then ?_ | with_reducible refine q_then_ret ?_ | with_reducible refine awp_seq ?_ | with_reducible refine awp_ret ?_ | ((with_reducible refine w_region ?_ ?_); kernel_rfl) | refine w_cond_t rfl (by first | rfl | assumption) ?_)
    refine ret0_ctt (by first | exact .inr rfl | exact .inl rfl) rfl rfl rfl rfl rfl rfl rfl ?_
    repeat' (first | exact trivial | exact Ren.v _ | exact Ren.sl _ _ | exact Ren.ep _ | exact Ren.ptr _ _ _ _ rfl | exact Ren.bs _ _ _ _ _ rfl | exact Ren.nil _ | exact Ren.own _ _ _ _ ⟨_, rfl⟩ | refine ren_ag ?_ | refine ren_tu ?_ | refine ren_fn ?_ | refine ⟨?_, ?_⟩)
  have c3 : ¬ 33 < W.length / 3 := by (first | rw [e5] at b3 | rw [e4] at b3); simp at b3; omega
  obtain ⟨w0, hw0⟩ := some_at (L := W) (k := 0) (by omega)
  obtain ⟨w1, hw1⟩ := some_at (L := W) (k := 1) (by omega)
  obtain ⟨w2, hw2⟩ := some_at (L := W) (k := 2) (by omega)
  have y0 : (W.map svL)[(0 : Int).toNat]? = some (svL w0) := sv_at hw0
  have y1 : (W.map svL)[(1 : Int).toNat]? = some (svL w1) := sv_at hw1
  have y2 : (W.map svL)[(2 : Int).toNat]? = some (svL w2) := sv_at hw2
  have a0 : wAt W 0 = w0 := by unfold wAt; rw [hw0]; rfl
  have a1 : wAt W 1 = w1 := by unfold wAt; rw [hw1]; rfl
  have a2 : wAt W 2 = w2 := by unfold wAt; rw [hw2]; rfl
  have hl0 := hWl w0 (List.mem_of_getElem? hw0)
  have hl2 := hWl w2 (List.mem_of_getElem? hw2)
  have hn := name_A (G := X.G) (strL w0) hG (by rw [strL_size]; unfold maxLen; omega)
  rw [strL_data] at hn
  repeat (first | ((with_reducible refine k_move ?_); refine m_move rfl ?_) | ((with_reducible refine k_load ?_); refine x_load_ep_one tbOk rfl rfl rfl ?_) | ((with_reducible refine k_indexAddr ?_); refine x_indexAddr_n tbOk rfl rfl rfl rfl (by assumption) ?_)  | refine x_run_f rfl rfl (by first | rfl | assumption) ?_  )
  refine x_call0 (hn) (by repeat' (first | exact trivial | exact Ren.v _ | exact Ren.sl _ _ | exact Ren.ep _ | exact Ren.ptr _ _ _ _ rfl | exact Ren.bs _ _ _ _ _ rfl | exact Ren.nil _ | exact Ren.own _ _ _ _ ⟨_, rfl⟩ | refine ren_ag ?_ | refine ren_tu ?_ | refine ren_fn ?_ | refine ⟨?_, ?_⟩)) (by repeat' (first | exact trivial | exact RenB.v _ | exact RenB.sl _ _ | exact RenB.ep _ | exact RenB.ptr _ _ _ _ rfl | refine renb_ag ?_ | refine renb_tu ?_ | refine ⟨?_, ?_⟩)) ?_
  repeat (first | ((with_reducible refine k_move ?_); refine m_move rfl ?_) | ((with_reducible refine k_un ?_); refine x_not rfl ?_) | ((with_reducible refine k_pick ?_); refine m_pickf rfl (by first | rfl | assumption) rfl ?_)  | refine x_none rfl ?_ | refine x_run_f rfl rfl (by first | rfl | assumption) ?_  )
  refine x_split rfl rfl (fun b4 => ?_) (fun b4 => ?_)
  · have hN : readW W = none := by unfold readW; rw [if_pos (.inr (.inr (.inr (.inl (by rw [a0]; simpa using b4)))))]
    repeat (first | ((with_reducible refine k_assign ?_); refine m_assign rfl ?_) | ((with_reducible refine k_store ?_); refine m_store tbOk rfl rfl rfl rfl rfl rfl rfl (Nat.le_of_ble_eq_true rfl) rfl ?_) | ((with_reducible refine k_pick ?_); refine m_pickt rfl (by first | rfl | assumption) rfl ?_) | ((with_reducible refine k_build ?_); refine m_build tbOk rfl rfl rfl rfl rfl ?_)  | refine e_nrm ?_ | refine x_none rfl ?_ | refine x_skip_f rfl rfl (by first | rfl | assumption) ?_ | with_reducible refine q_then ?_ | with_reducible refine q_then_ret ?_ | with_reducible refine awp_seq ?_ | with_reducible refine awp_ret ?_ | ((with_reducible refine w_region ?_ ?_); kernel_rfl) | refine w_cond_t rfl (by first | rfl | assumption) ?_)
    refine ret0_ctt (by first | exact .inr rfl | exact .inl rfl) rfl rfl rfl rfl rfl rfl rfl ?_
    repeat' (first | exact trivial | exact Ren.v _ | exact Ren.sl _ _ | exact Ren.ep _ | exact Ren.ptr _ _ _ _ rfl | exact Ren.bs _ _ _ _ _ rfl | exact Ren.nil _ | exact Ren.own _ _ _ _ ⟨_, rfl⟩ | refine ren_ag ?_ | refine ren_tu ?_ | refine ren_fn ?_ | refine ⟨?_, ?_⟩)
  have c4 : nameB w0 = true := by simpa using b4
  have k1 : strEq (strL w1) ⟨#[97, 116]⟩ = decide (w1 = atL) := strEq_c _ _
  repeat (first | ((with_reducible refine k_move ?_); refine m_move rfl ?_) | ((with_reducible refine k_load ?_); refine x_load_ep_one tbOk rfl rfl rfl ?_) | ((with_reducible refine k_pick ?_); refine m_pickf rfl (by first | rfl | assumption) rfl ?_) | ((with_reducible refine k_indexAddr ?_); refine x_indexAddr_n tbOk rfl rfl rfl rfl (by assumption) ?_) | ((with_reducible refine k_bin ?_); refine m_binS rfl rfl rfl ?_)  | refine e_nrm ?_ | refine x_none rfl ?_ | refine x_run_f rfl rfl (by first | rfl | assumption) ?_ | with_reducible refine q_then ?_ )
  refine w_cond rfl (fun h => ?_) (fun h => ?_)
  · have h' : strEq (strL w1) ⟨#[97, 116]⟩ = false := by simpa using h
    have hN : readW W = none := by unfold readW; rw [if_pos (.inr (.inr (.inr (.inr (by rw [a1]; rw [k1] at h'; simpa using h')))))]
    repeat (first | ((with_reducible refine k_assign ?_); refine m_assign rfl ?_) | ((with_reducible refine k_store ?_); refine m_store tbOk rfl rfl rfl rfl rfl rfl rfl (Nat.le_of_ble_eq_true rfl) rfl ?_) | ((with_reducible refine k_build ?_); refine m_build tbOk rfl rfl rfl rfl rfl ?_)  | refine e_nrm ?_ | refine x_none rfl ?_ | with_reducible refine q_then ?_ | with_reducible refine q_then_ret ?_ | with_reducible refine awp_seq ?_ | with_reducible refine awp_ret ?_ | ((with_reducible refine w_region ?_ ?_); kernel_rfl))
    refine ret0_ctt (by first | exact .inr rfl | exact .inl rfl) rfl rfl rfl rfl rfl rfl rfl ?_
    repeat' (first | exact trivial | exact Ren.v _ | exact Ren.sl _ _ | exact Ren.ep _ | exact Ren.ptr _ _ _ _ rfl | exact Ren.bs _ _ _ _ _ rfl | exact Ren.nil _ | exact Ren.own _ _ _ _ ⟨_, rfl⟩ | refine ren_ag ?_ | refine ren_tu ?_ | refine ren_fn ?_ | refine ⟨?_, ?_⟩)
  have h' : strEq (strL w1) ⟨#[97, 116]⟩ = true := by simpa using h
  have c5 : w1 = atL := by rw [k1] at h'; simpa using h'
  have hR : readW W = match timeW w2 with
    | none => none
    | some t => match readT t (W.drop 3) with
      | none => none
      | some q => some (⟨⟨w0.toArray⟩, t, q.1⟩, q.2) := by
    unfold readW
    rw [if_neg (by rw [a0, a1, c4, c5]; simp; omega), a2, a0]
    rfl
  have hsuf := suf_A (G := X.G) (strL w2) (by rw [strL_size]; unfold maxLen; omega)
  rw [strL_data] at hsuf
  by_cases c6 : w2.getLast? = some 58
  · rw [if_pos c6, decide_eq_true c6] at hsuf
    have hpa := parse_A (G := X.G) (strL w2.dropLast) (by rw [strL_size, List.length_dropLast]; unfold maxLen; omega)
    rw [strL_data] at hpa
    repeat (first | ((with_reducible refine k_move ?_); refine m_move rfl ?_) | ((with_reducible refine k_load ?_); refine x_load_ep_one tbOk rfl rfl rfl ?_) | ((with_reducible refine k_indexAddr ?_); refine x_indexAddr_n tbOk rfl rfl rfl rfl (by assumption) ?_)  | refine x_none rfl ?_ | with_reducible refine q_then ?_ | with_reducible refine awp_seq ?_ | with_reducible refine awp_skip ?_ | ((with_reducible refine w_region ?_ ?_); kernel_rfl))
    refine x_call0 (hsuf) (by repeat' (first | exact trivial | exact Ren.v _ | exact Ren.sl _ _ | exact Ren.ep _ | exact Ren.ptr _ _ _ _ rfl | exact Ren.bs _ _ _ _ _ rfl | exact Ren.nil _ | exact Ren.own _ _ _ _ ⟨_, rfl⟩ | refine ren_ag ?_ | refine ren_tu ?_ | refine ren_fn ?_ | refine ⟨?_, ?_⟩)) (by repeat' (first | exact trivial | exact RenB.v _ | exact RenB.sl _ _ | exact RenB.ep _ | exact RenB.ptr _ _ _ _ rfl | refine renb_ag ?_ | refine renb_tu ?_ | refine ⟨?_, ?_⟩)) ?_
    repeat (first | ((with_reducible refine k_move ?_); refine m_move rfl ?_) | ((with_reducible refine k_assign ?_); refine m_assign rfl ?_) | ((with_reducible refine k_extract ?_); refine x_extract rfl rfl ?_)  | refine e_nrm ?_ | refine x_none rfl ?_ | with_reducible refine q_then ?_ | with_reducible refine awp_seq ?_ | ((with_reducible refine w_region ?_ ?_); kernel_rfl))
    refine x_call0 (hpa) (by repeat' (first | exact trivial | exact Ren.v _ | exact Ren.sl _ _ | exact Ren.ep _ | exact Ren.ptr _ _ _ _ rfl | exact Ren.bs _ _ _ _ _ rfl | exact Ren.nil _ | exact Ren.own _ _ _ _ ⟨_, rfl⟩ | refine ren_ag ?_ | refine ren_tu ?_ | refine ren_fn ?_ | refine ⟨?_, ?_⟩)) (by repeat' (first | exact trivial | exact RenB.v _ | exact RenB.sl _ _ | exact RenB.ep _ | exact RenB.ptr _ _ _ _ rfl | refine renb_ag ?_ | refine renb_tu ?_ | refine ⟨?_, ?_⟩)) ?_
    repeat (first | ((with_reducible refine k_move ?_); refine m_move rfl ?_) | ((with_reducible refine k_assign ?_); refine m_assign rfl ?_) | ((with_reducible refine k_un ?_); refine x_not rfl ?_) | ((with_reducible refine k_extract ?_); refine x_extract rfl rfl ?_) | ((with_reducible refine k_pick ?_); refine m_pickf rfl (by first | rfl | assumption) rfl ?_) | ((with_reducible refine k_bin ?_); refine m_binI rfl rfl rfl ?_)  | refine e_nrm ?_ | refine x_none rfl ?_ | refine x_run_f rfl rfl (by first | rfl | assumption) ?_ | with_reducible refine q_then ?_ | with_reducible refine awp_seq ?_ | ((with_reducible refine w_region ?_ ?_); kernel_rfl))
    refine w_cond rfl (fun h => ?_) (fun h => ?_)
    · have h' : ¬ (parseP w2.dropLast).2 = 0 := by simpa using h
      have hT : timeW w2 = none := by unfold timeW; rw [if_neg (fun e => h' e.2)]
      have hN : readW W = none := by rw [hR, hT]
      repeat (first | ((with_reducible refine k_assign ?_); refine m_assign rfl ?_) | ((with_reducible refine k_store ?_); refine m_store tbOk rfl rfl rfl rfl rfl rfl rfl (Nat.le_of_ble_eq_true rfl) rfl ?_) | ((with_reducible refine k_build ?_); refine m_build tbOk rfl rfl rfl rfl rfl ?_)  | refine e_nrm ?_ | refine x_none rfl ?_ | with_reducible refine q_then ?_ | with_reducible refine q_then_ret ?_ | with_reducible refine awp_seq ?_ | with_reducible refine awp_ret ?_ | ((with_reducible refine w_region ?_ ?_); kernel_rfl))
      refine ret0_ctt (by first | exact .inr rfl | exact .inl rfl) rfl rfl rfl rfl rfl rfl rfl ?_
      repeat' (first | exact trivial | exact Ren.v _ | exact Ren.sl _ _ | exact Ren.ep _ | exact Ren.ptr _ _ _ _ rfl | exact Ren.bs _ _ _ _ _ rfl | exact Ren.nil _ | exact Ren.own _ _ _ _ ⟨_, rfl⟩ | refine ren_ag ?_ | refine ren_tu ?_ | refine ren_fn ?_ | refine ⟨?_, ?_⟩)
    have c7 : (parseP w2.dropLast).2 = 0 := by simpa using h
    have hT : timeW w2 = some (parseP w2.dropLast).1 := by unfold timeW; rw [if_pos ⟨c6, c7⟩]
    obtain ⟨t, ht⟩ : ∃ t, t = (parseP w2.dropLast).1 := ⟨_, rfl⟩
    rw [← ht] at hT ⊢
    rw [hT] at hR
    simp only at hR
    repeat (first | ((with_reducible refine k_move ?_); refine m_move rfl ?_) | ((with_reducible refine k_assign ?_); refine m_assign rfl ?_) | ((with_reducible refine k_load ?_); refine x_load_ep_one tbOk rfl rfl rfl ?_) | ((with_reducible refine k_store ?_); refine m_store tbOk rfl rfl rfl rfl rfl rfl rfl (Nat.le_of_ble_eq_true rfl) rfl ?_) | ((with_reducible refine k_alloc ?_); refine x_alloc tbOk rfl rfl ?_) | ((with_reducible refine k_indexAddr ?_); refine x_indexAddr_n tbOk rfl rfl rfl rfl (by assumption) ?_) | ((with_reducible refine k_build ?_); refine m_build tbOk rfl rfl rfl rfl rfl ?_)  | refine e_nrm ?_ | refine x_none rfl ?_ | with_reducible refine q_then ?_ | with_reducible refine awp_seq ?_ | with_reducible refine awp_block ?_ | with_reducible refine awp_skip ?_ | ((with_reducible refine w_region ?_ ?_); kernel_rfl))
    refine awp_own_at (s := 95) 36 5 [] [(9, [.v (.string (strL w0)), .v (.int .i64 t), .own 95 1])] rfl trivial ⟨⟨_, _, rfl, .same (.same (.hit .nil))⟩, trivial⟩ ?_
    refine awp_own (t := 10) (s := 99) 9 1 rfl rfl ?_
    refine awp_loop (ι := Nat × List Rp × List (List UInt8)) (fun q => 3 + 3 * q.1 ≤ W.length ∧ q.2.1.length = q.1 ∧ q.2.2.length = q.1 ∧ readT t (W.drop 3) = (readT t (W.drop (3 + 3 * q.1))).map (fun z => (q.2.1 ++ z.1, q.2.2 ++ z.2))) (fun q => W.length - q.1) (fun v q => [(0, .sl 1 (W.map svL)), (2, .ptr 2 (v 2) 0), (7, .v (.int .i64 t)), (9, .ptr 9 (v 9) 0), (10, .own 99 (v 99)), (11, .v (.int .i64 ((3 + 3 * q.1 : Nat) : Int)))]) (fun v q => [(2, .box [.v (.string ByteArray.empty), .v (.int .i64 0), .v (.slice none 0 0)]), (9, .box [.v (.string (strL w0)), .v (.int .i64 t), .own 95 (v 95)]), (95, .buf 36 5 (q.2.1.map Rp.av)), (99, .buf 9 1 (q.2.2.map svL))]) ?_ ?_
    · exact ⟨(0, [], []), ⟨by simp; omega, rfl, rfl, by simp⟩, trivial, ⟨rfl, rfl, rfl, rfl, rfl, rfl, trivial⟩, ⟨rfl, rfl, rfl, rfl, trivial⟩⟩
    rintro v ⟨k, D, Ns⟩ ⟨hk, hD, hNs, hf⟩
    simp only at hk hD hNs hf
    dsimp only
    have hmD : (D.map Rp.av).length = D.length := by simp
    have hmN : (Ns.map svL).length = Ns.length := by simp
    repeat (first | ((with_reducible refine k_move ?_); refine m_move rfl ?_) | ((with_reducible refine k_call ?_); refine x_len tbOk rfl rfl ?_) | ((with_reducible refine k_bin ?_); refine m_binI rfl rfl rfl ?_)  | refine e_nrm ?_ | refine x_none rfl ?_ | with_reducible refine q_then ?_ | with_reducible refine awp_seq ?_ | ((with_reducible refine w_region ?_ ?_); kernel_rfl))
    refine w_cond rfl (fun h => ?_) (fun h => ?_)
    · have hlt : 3 + 3 * k < W.length := by simp at h; omega
      obtain ⟨a, ha⟩ := some_at (L := W) (k := 3 + 3 * k) (by omega)
      obtain ⟨b, hb⟩ := some_at (L := W) (k := 3 + 3 * k + 1) (by omega)
      obtain ⟨c, hc⟩ := some_at (L := W) (k := 3 + 3 * k + 2) (by omega)
      have hdr : W.drop (3 + 3 * k) = a :: b :: c :: W.drop (3 + 3 * (k + 1)) := by
        rw [drop_at ha, drop_at hb, drop_at hc]; rfl
      have hsl : ((W.map svL).take ((((3 + 3 * k : Nat) : Int) + 3)).toNat).drop (((3 + 3 * k : Nat) : Int)).toNat = [svL a, svL b, svL c] := by
        have e1 : ((((3 + 3 * k : Nat) : Int) + 3)).toNat = 3 + 3 * k + 3 := by omega
        have e2 : (((3 + 3 * k : Nat) : Int)).toNat = 3 + 3 * k := by omega
        rw [e1, e2, ← List.map_take, ← List.map_drop, List.drop_take, hdr]
        simp
      have hrep := report_A (G := X.G) t a b c hG (by have := hWl a (List.mem_of_getElem? ha); unfold maxLen; omega)
      rw [← hsl] at hrep
      rw [hdr] at hf
      repeat (first | ((with_reducible refine k_move ?_); refine m_move rfl ?_) | ((with_reducible refine k_bin ?_); refine x_add_in rfl rfl (by omega) ?_)  | refine x_none rfl ?_ | with_reducible refine q_then ?_ | with_reducible refine awp_seq ?_ | with_reducible refine awp_block ?_ | with_reducible refine awp_skip ?_ | ((with_reducible refine w_region ?_ ?_); kernel_rfl))
      (with_reducible refine k_slice ?_)
      refine x_slice3 tbOk rfl rfl rfl rfl rfl rfl ⟨by omega, by omega, by omega, by rw [hlen]; omega⟩ ?_
      repeat (first | ((with_reducible refine k_move ?_); refine m_move rfl ?_)  | refine x_none rfl ?_  )
      refine x_call0 (hrep) (by repeat' (first | exact trivial | exact Ren.v _ | exact Ren.sl _ _ | exact Ren.ep _ | exact Ren.ptr _ _ _ _ rfl | exact Ren.bs _ _ _ _ _ rfl | exact Ren.nil _ | exact Ren.own _ _ _ _ ⟨_, rfl⟩ | refine ren_ag ?_ | refine ren_tu ?_ | refine ren_fn ?_ | refine ⟨?_, ?_⟩)) (by repeat' (first | exact trivial | exact RenB.v _ | exact RenB.sl _ _ | exact RenB.ep _ | exact RenB.ptr _ _ _ _ rfl | refine renb_ag ?_ | refine renb_tu ?_ | refine ⟨?_, ?_⟩)) ?_
      repeat (first | ((with_reducible refine k_move ?_); refine m_move rfl ?_) | ((with_reducible refine k_assign ?_); refine m_assign rfl ?_) | ((with_reducible refine k_store ?_); refine m_store tbOk rfl rfl rfl rfl rfl rfl rfl (Nat.le_of_ble_eq_true rfl) rfl ?_) | ((with_reducible refine k_alloc ?_); refine x_alloc tbOk rfl rfl ?_) | ((with_reducible refine k_un ?_); refine x_not rfl ?_) | ((with_reducible refine k_extract ?_); refine x_extract rfl rfl ?_)  | refine e_nrm ?_ | refine x_none rfl ?_ | with_reducible refine q_then ?_ | with_reducible refine awp_seq ?_ | ((with_reducible refine w_region ?_ ?_); kernel_rfl))
      refine w_cond rfl (fun h => ?_) (fun h => ?_)
      · have hno : ¬ repOk a b c = true := by simpa using h
        have hN : readW W = none := by rw [hR, readT_bad t hno hf]
        repeat (first | ((with_reducible refine k_assign ?_); refine m_assign rfl ?_) | ((with_reducible refine k_store ?_); refine m_store tbOk rfl rfl rfl rfl rfl rfl rfl (Nat.le_of_ble_eq_true rfl) rfl ?_) | ((with_reducible refine k_build ?_); refine m_build tbOk rfl rfl rfl rfl rfl ?_)  | refine e_nrm ?_ | refine x_none rfl ?_ | with_reducible refine q_then ?_ | with_reducible refine q_then_ret ?_ | with_reducible refine q_block_ret ?_ | with_reducible refine awp_seq ?_ | with_reducible refine awp_ret ?_ | ((with_reducible refine w_region ?_ ?_); kernel_rfl))
        refine ret0_ctt (by first | exact .inr rfl | exact .inl rfl) rfl rfl rfl rfl rfl rfl rfl ?_
        repeat' (first | exact trivial | exact Ren.v _ | exact Ren.sl _ _ | exact Ren.ep _ | exact Ren.ptr _ _ _ _ rfl | exact Ren.bs _ _ _ _ _ rfl | exact Ren.nil _ | exact Ren.own _ _ _ _ ⟨_, rfl⟩ | refine ren_ag ?_ | refine ren_tu ?_ | refine ren_fn ?_ | refine ⟨?_, ?_⟩)
      have hyes : repOk a b c = true := by simpa using h
      repeat (first | ((with_reducible refine k_fieldAddr ?_); refine x_fieldAddr_ptr tbOk rfl rfl rfl rfl ?_) | ((with_reducible refine k_load ?_); refine x_load_one tbOk rfl rfl rfl rfl rfl ?_) | ((with_reducible refine k_load ?_); refine x_load_agg tbOk rfl rfl rfl rfl (Nat.le_of_ble_eq_true rfl) ?_) | ((with_reducible refine k_buildSlice ?_); refine m_buildSlice tbOk rfl rfl rfl rfl rfl (by omega) rfl rfl rfl ?_) | refine x_none rfl ?_ | with_reducible refine q_then ?_ | with_reducible refine awp_skip ?_ | ((with_reducible refine w_region ?_ ?_); kernel_rfl))
      refine x_append_own tbOk rfl rfl rfl rfl rfl (by decide) rfl rfl rfl rfl rfl (fun x hx => by simp at hx; subst hx; rfl) (by simp only [List.length_map, List.length_cons, List.length_nil]; omega) (by simp only [List.length_map, List.length_cons, List.length_nil]; omega) ?_
      repeat (first | ((with_reducible refine k_move ?_); refine m_move rfl ?_) | ((with_reducible refine k_buildSlice ?_); refine m_buildSlice tbOk rfl rfl rfl rfl rfl (by omega) rfl rfl rfl ?_) | refine x_none rfl ?_  )
      refine x_append_own tbOk rfl rfl rfl rfl rfl (by decide) rfl rfl rfl rfl rfl (fun x hx => by simp at hx; subst hx; rfl) (by simp only [List.length_map, List.length_cons, List.length_nil]; omega) (by simp only [List.length_map, List.length_cons, List.length_nil]; omega) ?_
      repeat (first | ((with_reducible refine k_move ?_); refine m_move rfl ?_) | ((with_reducible refine k_assign ?_); refine m_assign rfl ?_) | ((with_reducible refine k_fieldAddr ?_); refine x_fieldAddr_ptr tbOk rfl rfl rfl rfl ?_) | ((with_reducible refine k_store ?_); refine m_store tbOk rfl rfl rfl rfl rfl rfl rfl (Nat.le_of_ble_eq_true rfl) rfl ?_) | ((with_reducible refine k_bin ?_); refine x_add_in rfl rfl (by omega) ?_)  | refine e_nrm ?_ | refine x_none rfl ?_ | with_reducible refine q_then ?_ | with_reducible refine q_block ?_ | ((with_reducible refine w_region ?_ ?_); kernel_rfl))
      exact ⟨(k + 1, D ++ [rpOf t b c], Ns ++ [a]), ⟨by simp only; omega, by simp [hD], by simp [hNs], readT_map t hyes hf⟩, by simp only; omega, ⟨rfl, rfl, rfl, rfl, rfl, congrArg (fun z : Int => AV.v (.int .i64 z)) (by simp only; omega), trivial⟩, ⟨rfl, rfl, hc_buf (by rw [List.map_append]; rfl), hc_buf (by rw [List.map_append]; rfl), trivial⟩⟩
    have hge : 3 + 3 * k = W.length := by simp at h; omega
    have hfin : readT t (W.drop 3) = some (D, Ns) := by rw [hf, List.drop_of_length_le (by omega)]; simp [readT]
    have hS : readW W = some (⟨strL w0, t, D⟩, Ns) := by rw [hR, hfin]; rfl
    rw [hS] at hq; cases hq
  · rw [if_neg c6, decide_eq_false c6] at hsuf
    have hpa := parse_A (G := X.G) (strL w2) (by rw [strL_size]; unfold maxLen; omega)
    have hT : timeW w2 = none := by unfold timeW; rw [if_neg (fun e => c6 e.1)]
    have hN : readW W = none := by rw [hR, hT]
    repeat (first | ((with_reducible refine k_move ?_); refine m_move rfl ?_) | ((with_reducible refine k_load ?_); refine x_load_ep_one tbOk rfl rfl rfl ?_) | ((with_reducible refine k_indexAddr ?_); refine x_indexAddr_n tbOk rfl rfl rfl rfl (by assumption) ?_)  | refine x_none rfl ?_ | with_reducible refine q_then ?_ | with_reducible refine awp_seq ?_ | with_reducible refine awp_skip ?_ | ((with_reducible refine w_region ?_ ?_); kernel_rfl))
    refine x_call0 (hsuf) (by repeat' (first | exact trivial | exact Ren.v _ | exact Ren.sl _ _ | exact Ren.ep _ | exact Ren.ptr _ _ _ _ rfl | exact Ren.bs _ _ _ _ _ rfl | exact Ren.nil _ | exact Ren.own _ _ _ _ ⟨_, rfl⟩ | refine ren_ag ?_ | refine ren_tu ?_ | refine ren_fn ?_ | refine ⟨?_, ?_⟩)) (by repeat' (first | exact trivial | exact RenB.v _ | exact RenB.sl _ _ | exact RenB.ep _ | exact RenB.ptr _ _ _ _ rfl | refine renb_ag ?_ | refine renb_tu ?_ | refine ⟨?_, ?_⟩)) ?_
    repeat (first | ((with_reducible refine k_move ?_); refine m_move rfl ?_) | ((with_reducible refine k_assign ?_); refine m_assign rfl ?_) | ((with_reducible refine k_extract ?_); refine x_extract rfl rfl ?_)  | refine e_nrm ?_ | refine x_none rfl ?_ | with_reducible refine q_then ?_ | with_reducible refine awp_seq ?_ | ((with_reducible refine w_region ?_ ?_); kernel_rfl))
    refine x_call0 (hpa) (by repeat' (first | exact trivial | exact Ren.v _ | exact Ren.sl _ _ | exact Ren.ep _ | exact Ren.ptr _ _ _ _ rfl | exact Ren.bs _ _ _ _ _ rfl | exact Ren.nil _ | exact Ren.own _ _ _ _ ⟨_, rfl⟩ | refine ren_ag ?_ | refine ren_tu ?_ | refine ren_fn ?_ | refine ⟨?_, ?_⟩)) (by repeat' (first | exact trivial | exact RenB.v _ | exact RenB.sl _ _ | exact RenB.ep _ | exact RenB.ptr _ _ _ _ rfl | refine renb_ag ?_ | refine renb_tu ?_ | refine ⟨?_, ?_⟩)) ?_
    repeat (first | ((with_reducible refine k_move ?_); refine m_move rfl ?_) | ((with_reducible refine k_assign ?_); refine m_assign rfl ?_) | ((with_reducible refine k_store ?_); refine m_store tbOk rfl rfl rfl rfl rfl rfl rfl (Nat.le_of_ble_eq_true rfl) rfl ?_) | ((with_reducible refine k_un ?_); refine x_not rfl ?_) | ((with_reducible refine k_extract ?_); refine x_extract rfl rfl ?_) | ((with_reducible refine k_pick ?_); refine m_pickt rfl (by first | rfl | assumption) rfl ?_) | ((with_reducible refine k_build ?_); refine m_build tbOk rfl rfl rfl rfl rfl ?_)  | refine e_nrm ?_ | refine x_none rfl ?_ | refine x_skip_f rfl rfl (by first | rfl | assumption) ?_ | with_reducible refine q_then ?_ | with_reducible refine q_then_ret ?_ | with_reducible refine awp_seq ?_ | with_reducible refine awp_ret ?_ | ((with_reducible refine w_region ?_ ?_); kernel_rfl) | refine w_cond_t rfl (by first | rfl | assumption) ?_)
    refine ret0_ctt (by first | exact .inr rfl | exact .inl rfl) rfl rfl rfl rfl rfl rfl rfl ?_
    repeat' (first | exact trivial | exact Ren.v _ | exact Ren.sl _ _ | exact Ren.ep _ | exact Ren.ptr _ _ _ _ rfl | exact Ren.bs _ _ _ _ _ rfl | exact Ren.nil _ | exact Ren.own _ _ _ _ ⟨_, rfl⟩ | refine ren_ag ?_ | refine ren_tu ?_ | refine ren_fn ?_ | refine ⟨?_, ?_⟩)
set_option maxHeartbeats 16000000 in
theorem read_some (W : List (List UInt8)) (hG : GCls G) (hW : W.length ≤ 100000) (hWl : ∀ w ∈ W, w.length ≤ 100000000) (M : Ms) (Ns0 : List (List UInt8)) (hq : readW W = some (M, Ns0)) : ACallsJ Tryd.prog G 32 [.sl 1 (W.map svL)] [] (.tu [.ag [.v (.string M.cr), .v (.int .i64 M.t), .own (refB + 0) 0], .sl 1 (Ns0.map svL), .v (.bool true)]) [.buf 36 5 (M.rs.map Rp.av)] := by
  have hm9 : W.length ≤ 100000 := hW
  have hlen : (W.map svL).length = W.length := by simp
  refine acallsJ_of tbOk (enter_of Tryd.func32 (by kernel_rfl) rfl) Tryd.func32 rfl _ Tryd.ntmps32 (Nat.le_of_ble_eq_true rfl) fun X hX => ?_
  subst hX
  repeat (first | ((with_reducible refine k_move ?_); refine m_move rfl ?_) | ((with_reducible refine k_assign ?_); refine m_assign rfl ?_) | ((with_reducible refine k_alloc ?_); refine x_alloc tbOk rfl rfl ?_) | ((with_reducible refine k_call ?_); refine x_len tbOk rfl rfl ?_) | ((with_reducible refine k_bin ?_); refine m_binI rfl rfl rfl ?_)  | refine e_nrm ?_ | refine x_none rfl ?_ | with_reducible refine q_then ?_ | with_reducible refine awp_seq ?_ | ((with_reducible refine w_region ?_ ?_); kernel_rfl))
  refine x_split rfl rfl (fun b1 => ?_) (fun b1 => ?_)
  · have hN : readW W = none := by unfold readW; rw [if_pos (.inl (by simp at b1; omega))]
    rw [hN] at hq; cases hq
  have c1 : ¬ W.length < 6 := by simp at b1; omega
  have e3 : ((W.map svL).length : Int).tmod 3 = ((W.length % 3 : Nat) : Int) := by rw [Int.tmod_eq_emod_of_nonneg (by omega), hlen]; omega
  have e4 : ((W.map svL).length : Int).tdiv 3 = ((W.length / 3 : Nat) : Int) := by rw [Int.tdiv_eq_ediv_of_nonneg (by omega), hlen]; omega
  repeat (first | ((with_reducible refine k_move ?_); refine m_move rfl ?_) | ((with_reducible refine k_pick ?_); refine m_pickf rfl (by first | rfl | assumption) rfl ?_) | ((with_reducible refine k_call ?_); refine x_len tbOk rfl rfl ?_) | ((with_reducible refine k_bin ?_); refine m_binI rfl rfl rfl ?_) | ((with_reducible refine k_bin ?_); refine x_rem rfl rfl (by first | decide | assumption | omega) ?_)  | refine x_none rfl ?_ | refine x_run_f rfl rfl (by first | rfl | assumption) ?_  )
  refine x_split rfl rfl (fun b2 => ?_) (fun b2 => ?_)
  · have hN : readW W = none := by unfold readW; rw [if_pos (.inr (.inl (by rw [e3] at b2; simp at b2; omega)))]
    rw [hN] at hq; cases hq
  have c2 : W.length % 3 = 0 := by rw [e3] at b2; simp at b2; omega
  have e5 : IntKind.i64.wrap (((W.map svL).length : Int).tdiv 3) = ((W.length / 3 : Nat) : Int) := by rw [e4, wrap_i64_in (by omega)]
  have hq0 : 0 ≤ ((W.map svL).length : Int).tdiv 3 ∧ ((W.map svL).length : Int).tdiv 3 ≤ 100000 := by rw [e4]; omega
  repeat (first | ((with_reducible refine k_move ?_); refine m_move rfl ?_) | ((with_reducible refine k_pick ?_); refine m_pickf rfl (by first | rfl | assumption) rfl ?_) | ((with_reducible refine k_call ?_); refine x_len tbOk rfl rfl ?_) | ((with_reducible refine k_bin ?_); refine x_sub_in rfl rfl (by omega) ?_) | ((with_reducible refine k_bin ?_); refine m_binI rfl rfl rfl ?_) | ((with_reducible refine k_bin ?_); refine x_quo rfl rfl (by first | decide | assumption | omega) ?_)  | refine x_none rfl ?_ | refine x_run_f rfl rfl (by first | rfl | assumption) ?_  )
  refine x_split rfl rfl (fun b3 => ?_) (fun b3 => ?_)
  · have hN : readW W = none := by unfold readW; rw [if_pos (.inr (.inr (.inl (by (first | rw [e5] at b3 | rw [e4] at b3); simp at b3; omega))))]
    rw [hN] at hq; cases hq
  have c3 : ¬ 33 < W.length / 3 := by (first | rw [e5] at b3 | rw [e4] at b3); simp at b3; omega
  obtain ⟨w0, hw0⟩ := some_at (L := W) (k := 0) (by omega)
  obtain ⟨w1, hw1⟩ := some_at (L := W) (k := 1) (by omega)
  obtain ⟨w2, hw2⟩ := some_at (L := W) (k := 2) (by omega)
  have y0 : (W.map svL)[(0 : Int).toNat]? = some (svL w0) := sv_at hw0
  have y1 : (W.map svL)[(1 : Int).toNat]? = some (svL w1) := sv_at hw1
  have y2 : (W.map svL)[(2 : Int).toNat]? = some (svL w2) := sv_at hw2
  have a0 : wAt W 0 = w0 := by unfold wAt; rw [hw0]; rfl
  have a1 : wAt W 1 = w1 := by unfold wAt; rw [hw1]; rfl
  have a2 : wAt W 2 = w2 := by unfold wAt; rw [hw2]; rfl
  have hl0 := hWl w0 (List.mem_of_getElem? hw0)
  have hl2 := hWl w2 (List.mem_of_getElem? hw2)
  have hn := name_A (G := X.G) (strL w0) hG (by rw [strL_size]; unfold maxLen; omega)
  rw [strL_data] at hn
  repeat (first | ((with_reducible refine k_move ?_); refine m_move rfl ?_) | ((with_reducible refine k_load ?_); refine x_load_ep_one tbOk rfl rfl rfl ?_) | ((with_reducible refine k_indexAddr ?_); refine x_indexAddr_n tbOk rfl rfl rfl rfl (by assumption) ?_)  | refine x_run_f rfl rfl (by first | rfl | assumption) ?_  )
  refine x_call0 (hn) (by repeat' (first | exact trivial | exact Ren.v _ | exact Ren.sl _ _ | exact Ren.ep _ | exact Ren.ptr _ _ _ _ rfl | exact Ren.bs _ _ _ _ _ rfl | exact Ren.nil _ | exact Ren.own _ _ _ _ ⟨_, rfl⟩ | refine ren_ag ?_ | refine ren_tu ?_ | refine ren_fn ?_ | refine ⟨?_, ?_⟩)) (by repeat' (first | exact trivial | exact RenB.v _ | exact RenB.sl _ _ | exact RenB.ep _ | exact RenB.ptr _ _ _ _ rfl | refine renb_ag ?_ | refine renb_tu ?_ | refine ⟨?_, ?_⟩)) ?_
  repeat (first | ((with_reducible refine k_move ?_); refine m_move rfl ?_) | ((with_reducible refine k_un ?_); refine x_not rfl ?_) | ((with_reducible refine k_pick ?_); refine m_pickf rfl (by first | rfl | assumption) rfl ?_)  | refine x_none rfl ?_ | refine x_run_f rfl rfl (by first | rfl | assumption) ?_  )
  refine x_split rfl rfl (fun b4 => ?_) (fun b4 => ?_)
  · have hN : readW W = none := by unfold readW; rw [if_pos (.inr (.inr (.inr (.inl (by rw [a0]; simpa using b4)))))]
    rw [hN] at hq; cases hq
  have c4 : nameB w0 = true := by simpa using b4
  have k1 : strEq (strL w1) ⟨#[97, 116]⟩ = decide (w1 = atL) := strEq_c _ _
  repeat (first | ((with_reducible refine k_move ?_); refine m_move rfl ?_) | ((with_reducible refine k_load ?_); refine x_load_ep_one tbOk rfl rfl rfl ?_) | ((with_reducible refine k_pick ?_); refine m_pickf rfl (by first | rfl | assumption) rfl ?_) | ((with_reducible refine k_indexAddr ?_); refine x_indexAddr_n tbOk rfl rfl rfl rfl (by assumption) ?_) | ((with_reducible refine k_bin ?_); refine m_binS rfl rfl rfl ?_)  | refine e_nrm ?_ | refine x_none rfl ?_ | refine x_run_f rfl rfl (by first | rfl | assumption) ?_ | with_reducible refine q_then ?_ )
  refine w_cond rfl (fun h => ?_) (fun h => ?_)
  · have h' : strEq (strL w1) ⟨#[97, 116]⟩ = false := by simpa using h
    have hN : readW W = none := by unfold readW; rw [if_pos (.inr (.inr (.inr (.inr (by rw [a1]; rw [k1] at h'; simpa using h')))))]
    rw [hN] at hq; cases hq
  have h' : strEq (strL w1) ⟨#[97, 116]⟩ = true := by simpa using h
  have c5 : w1 = atL := by rw [k1] at h'; simpa using h'
  have hR : readW W = match timeW w2 with
    | none => none
    | some t => match readT t (W.drop 3) with
      | none => none
      | some q => some (⟨⟨w0.toArray⟩, t, q.1⟩, q.2) := by
    unfold readW
    rw [if_neg (by rw [a0, a1, c4, c5]; simp; omega), a2, a0]
    rfl
  have hsuf := suf_A (G := X.G) (strL w2) (by rw [strL_size]; unfold maxLen; omega)
  rw [strL_data] at hsuf
  by_cases c6 : w2.getLast? = some 58
  · rw [if_pos c6, decide_eq_true c6] at hsuf
    have hpa := parse_A (G := X.G) (strL w2.dropLast) (by rw [strL_size, List.length_dropLast]; unfold maxLen; omega)
    rw [strL_data] at hpa
    repeat (first | ((with_reducible refine k_move ?_); refine m_move rfl ?_) | ((with_reducible refine k_load ?_); refine x_load_ep_one tbOk rfl rfl rfl ?_) | ((with_reducible refine k_indexAddr ?_); refine x_indexAddr_n tbOk rfl rfl rfl rfl (by assumption) ?_)  | refine x_none rfl ?_ | with_reducible refine q_then ?_ | with_reducible refine awp_seq ?_ | with_reducible refine awp_skip ?_ | ((with_reducible refine w_region ?_ ?_); kernel_rfl))
    refine x_call0 (hsuf) (by repeat' (first | exact trivial | exact Ren.v _ | exact Ren.sl _ _ | exact Ren.ep _ | exact Ren.ptr _ _ _ _ rfl | exact Ren.bs _ _ _ _ _ rfl | exact Ren.nil _ | exact Ren.own _ _ _ _ ⟨_, rfl⟩ | refine ren_ag ?_ | refine ren_tu ?_ | refine ren_fn ?_ | refine ⟨?_, ?_⟩)) (by repeat' (first | exact trivial | exact RenB.v _ | exact RenB.sl _ _ | exact RenB.ep _ | exact RenB.ptr _ _ _ _ rfl | refine renb_ag ?_ | refine renb_tu ?_ | refine ⟨?_, ?_⟩)) ?_
    repeat (first | ((with_reducible refine k_move ?_); refine m_move rfl ?_) | ((with_reducible refine k_assign ?_); refine m_assign rfl ?_) | ((with_reducible refine k_extract ?_); refine x_extract rfl rfl ?_)  | refine e_nrm ?_ | refine x_none rfl ?_ | with_reducible refine q_then ?_ | with_reducible refine awp_seq ?_ | ((with_reducible refine w_region ?_ ?_); kernel_rfl))
    refine x_call0 (hpa) (by repeat' (first | exact trivial | exact Ren.v _ | exact Ren.sl _ _ | exact Ren.ep _ | exact Ren.ptr _ _ _ _ rfl | exact Ren.bs _ _ _ _ _ rfl | exact Ren.nil _ | exact Ren.own _ _ _ _ ⟨_, rfl⟩ | refine ren_ag ?_ | refine ren_tu ?_ | refine ren_fn ?_ | refine ⟨?_, ?_⟩)) (by repeat' (first | exact trivial | exact RenB.v _ | exact RenB.sl _ _ | exact RenB.ep _ | exact RenB.ptr _ _ _ _ rfl | refine renb_ag ?_ | refine renb_tu ?_ | refine ⟨?_, ?_⟩)) ?_
    repeat (first | ((with_reducible refine k_move ?_); refine m_move rfl ?_) | ((with_reducible refine k_assign ?_); refine m_assign rfl ?_) | ((with_reducible refine k_un ?_); refine x_not rfl ?_) | ((with_reducible refine k_extract ?_); refine x_extract rfl rfl ?_) | ((with_reducible refine k_pick ?_); refine m_pickf rfl (by first | rfl | assumption) rfl ?_) | ((with_reducible refine k_bin ?_); refine m_binI rfl rfl rfl ?_)  | refine e_nrm ?_ | refine x_none rfl ?_ | refine x_run_f rfl rfl (by first | rfl | assumption) ?_ | with_reducible refine q_then ?_ | with_reducible refine awp_seq ?_ | ((with_reducible refine w_region ?_ ?_); kernel_rfl))
    refine w_cond rfl (fun h => ?_) (fun h => ?_)
    · have h' : ¬ (parseP w2.dropLast).2 = 0 := by simpa using h
      have hT : timeW w2 = none := by unfold timeW; rw [if_neg (fun e => h' e.2)]
      have hN : readW W = none := by rw [hR, hT]
      rw [hN] at hq; cases hq
    have c7 : (parseP w2.dropLast).2 = 0 := by simpa using h
    have hT : timeW w2 = some (parseP w2.dropLast).1 := by unfold timeW; rw [if_pos ⟨c6, c7⟩]
    obtain ⟨t, ht⟩ : ∃ t, t = (parseP w2.dropLast).1 := ⟨_, rfl⟩
    rw [← ht] at hT ⊢
    rw [hT] at hR
    simp only at hR
    repeat (first | ((with_reducible refine k_move ?_); refine m_move rfl ?_) | ((with_reducible refine k_assign ?_); refine m_assign rfl ?_) | ((with_reducible refine k_load ?_); refine x_load_ep_one tbOk rfl rfl rfl ?_) | ((with_reducible refine k_store ?_); refine m_store tbOk rfl rfl rfl rfl rfl rfl rfl (Nat.le_of_ble_eq_true rfl) rfl ?_) | ((with_reducible refine k_alloc ?_); refine x_alloc tbOk rfl rfl ?_) | ((with_reducible refine k_indexAddr ?_); refine x_indexAddr_n tbOk rfl rfl rfl rfl (by assumption) ?_) | ((with_reducible refine k_build ?_); refine m_build tbOk rfl rfl rfl rfl rfl ?_)  | refine e_nrm ?_ | refine x_none rfl ?_ | with_reducible refine q_then ?_ | with_reducible refine awp_seq ?_ | with_reducible refine awp_block ?_ | with_reducible refine awp_skip ?_ | ((with_reducible refine w_region ?_ ?_); kernel_rfl))
    refine awp_own_at (s := 95) 36 5 [] [(9, [.v (.string (strL w0)), .v (.int .i64 t), .own 95 1])] rfl trivial ⟨⟨_, _, rfl, .same (.same (.hit .nil))⟩, trivial⟩ ?_
    refine awp_own (t := 10) (s := 99) 9 1 rfl rfl ?_
    refine awp_loop (ι := Nat × List Rp × List (List UInt8)) (fun q => 3 + 3 * q.1 ≤ W.length ∧ q.2.1.length = q.1 ∧ q.2.2.length = q.1 ∧ readT t (W.drop 3) = (readT t (W.drop (3 + 3 * q.1))).map (fun z => (q.2.1 ++ z.1, q.2.2 ++ z.2))) (fun q => W.length - q.1) (fun v q => [(0, .sl 1 (W.map svL)), (2, .ptr 2 (v 2) 0), (7, .v (.int .i64 t)), (9, .ptr 9 (v 9) 0), (10, .own 99 (v 99)), (11, .v (.int .i64 ((3 + 3 * q.1 : Nat) : Int)))]) (fun v q => [(2, .box [.v (.string ByteArray.empty), .v (.int .i64 0), .v (.slice none 0 0)]), (9, .box [.v (.string (strL w0)), .v (.int .i64 t), .own 95 (v 95)]), (95, .buf 36 5 (q.2.1.map Rp.av)), (99, .buf 9 1 (q.2.2.map svL))]) ?_ ?_
    · exact ⟨(0, [], []), ⟨by simp; omega, rfl, rfl, by simp⟩, trivial, ⟨rfl, rfl, rfl, rfl, rfl, rfl, trivial⟩, ⟨rfl, rfl, rfl, rfl, trivial⟩⟩
    rintro v ⟨k, D, Ns⟩ ⟨hk, hD, hNs, hf⟩
    simp only at hk hD hNs hf
    dsimp only
    have hmD : (D.map Rp.av).length = D.length := by simp
    have hmN : (Ns.map svL).length = Ns.length := by simp
    repeat (first | ((with_reducible refine k_move ?_); refine m_move rfl ?_) | ((with_reducible refine k_call ?_); refine x_len tbOk rfl rfl ?_) | ((with_reducible refine k_bin ?_); refine m_binI rfl rfl rfl ?_)  | refine e_nrm ?_ | refine x_none rfl ?_ | with_reducible refine q_then ?_ | with_reducible refine awp_seq ?_ | ((with_reducible refine w_region ?_ ?_); kernel_rfl))
    refine w_cond rfl (fun h => ?_) (fun h => ?_)
    · have hlt : 3 + 3 * k < W.length := by simp at h; omega
      obtain ⟨a, ha⟩ := some_at (L := W) (k := 3 + 3 * k) (by omega)
      obtain ⟨b, hb⟩ := some_at (L := W) (k := 3 + 3 * k + 1) (by omega)
      obtain ⟨c, hc⟩ := some_at (L := W) (k := 3 + 3 * k + 2) (by omega)
      have hdr : W.drop (3 + 3 * k) = a :: b :: c :: W.drop (3 + 3 * (k + 1)) := by
        rw [drop_at ha, drop_at hb, drop_at hc]; rfl
      have hsl : ((W.map svL).take ((((3 + 3 * k : Nat) : Int) + 3)).toNat).drop (((3 + 3 * k : Nat) : Int)).toNat = [svL a, svL b, svL c] := by
        have e1 : ((((3 + 3 * k : Nat) : Int) + 3)).toNat = 3 + 3 * k + 3 := by omega
        have e2 : (((3 + 3 * k : Nat) : Int)).toNat = 3 + 3 * k := by omega
        rw [e1, e2, ← List.map_take, ← List.map_drop, List.drop_take, hdr]
        simp
      have hrep := report_A (G := X.G) t a b c hG (by have := hWl a (List.mem_of_getElem? ha); unfold maxLen; omega)
      rw [← hsl] at hrep
      rw [hdr] at hf
      repeat (first | ((with_reducible refine k_move ?_); refine m_move rfl ?_) | ((with_reducible refine k_bin ?_); refine x_add_in rfl rfl (by omega) ?_)  | refine x_none rfl ?_ | with_reducible refine q_then ?_ | with_reducible refine awp_seq ?_ | with_reducible refine awp_block ?_ | with_reducible refine awp_skip ?_ | ((with_reducible refine w_region ?_ ?_); kernel_rfl))
      (with_reducible refine k_slice ?_)
      refine x_slice3 tbOk rfl rfl rfl rfl rfl rfl ⟨by omega, by omega, by omega, by rw [hlen]; omega⟩ ?_
      repeat (first | ((with_reducible refine k_move ?_); refine m_move rfl ?_)  | refine x_none rfl ?_  )
      refine x_call0 (hrep) (by repeat' (first | exact trivial | exact Ren.v _ | exact Ren.sl _ _ | exact Ren.ep _ | exact Ren.ptr _ _ _ _ rfl | exact Ren.bs _ _ _ _ _ rfl | exact Ren.nil _ | exact Ren.own _ _ _ _ ⟨_, rfl⟩ | refine ren_ag ?_ | refine ren_tu ?_ | refine ren_fn ?_ | refine ⟨?_, ?_⟩)) (by repeat' (first | exact trivial | exact RenB.v _ | exact RenB.sl _ _ | exact RenB.ep _ | exact RenB.ptr _ _ _ _ rfl | refine renb_ag ?_ | refine renb_tu ?_ | refine ⟨?_, ?_⟩)) ?_
      repeat (first | ((with_reducible refine k_move ?_); refine m_move rfl ?_) | ((with_reducible refine k_assign ?_); refine m_assign rfl ?_) | ((with_reducible refine k_store ?_); refine m_store tbOk rfl rfl rfl rfl rfl rfl rfl (Nat.le_of_ble_eq_true rfl) rfl ?_) | ((with_reducible refine k_alloc ?_); refine x_alloc tbOk rfl rfl ?_) | ((with_reducible refine k_un ?_); refine x_not rfl ?_) | ((with_reducible refine k_extract ?_); refine x_extract rfl rfl ?_)  | refine e_nrm ?_ | refine x_none rfl ?_ | with_reducible refine q_then ?_ | with_reducible refine awp_seq ?_ | ((with_reducible refine w_region ?_ ?_); kernel_rfl))
      refine w_cond rfl (fun h => ?_) (fun h => ?_)
      · have hno : ¬ repOk a b c = true := by simpa using h
        have hN : readW W = none := by rw [hR, readT_bad t hno hf]
        rw [hN] at hq; cases hq
      have hyes : repOk a b c = true := by simpa using h
      repeat (first | ((with_reducible refine k_fieldAddr ?_); refine x_fieldAddr_ptr tbOk rfl rfl rfl rfl ?_) | ((with_reducible refine k_load ?_); refine x_load_one tbOk rfl rfl rfl rfl rfl ?_) | ((with_reducible refine k_load ?_); refine x_load_agg tbOk rfl rfl rfl rfl (Nat.le_of_ble_eq_true rfl) ?_) | ((with_reducible refine k_buildSlice ?_); refine m_buildSlice tbOk rfl rfl rfl rfl rfl (by omega) rfl rfl rfl ?_) | refine x_none rfl ?_ | with_reducible refine q_then ?_ | with_reducible refine awp_skip ?_ | ((with_reducible refine w_region ?_ ?_); kernel_rfl))
      refine x_append_own tbOk rfl rfl rfl rfl rfl (by decide) rfl rfl rfl rfl rfl (fun x hx => by simp at hx; subst hx; rfl) (by simp only [List.length_map, List.length_cons, List.length_nil]; omega) (by simp only [List.length_map, List.length_cons, List.length_nil]; omega) ?_
      repeat (first | ((with_reducible refine k_move ?_); refine m_move rfl ?_) | ((with_reducible refine k_buildSlice ?_); refine m_buildSlice tbOk rfl rfl rfl rfl rfl (by omega) rfl rfl rfl ?_) | refine x_none rfl ?_  )
      refine x_append_own tbOk rfl rfl rfl rfl rfl (by decide) rfl rfl rfl rfl rfl (fun x hx => by simp at hx; subst hx; rfl) (by simp only [List.length_map, List.length_cons, List.length_nil]; omega) (by simp only [List.length_map, List.length_cons, List.length_nil]; omega) ?_
      repeat (first | ((with_reducible refine k_move ?_); refine m_move rfl ?_) | ((with_reducible refine k_assign ?_); refine m_assign rfl ?_) | ((with_reducible refine k_fieldAddr ?_); refine x_fieldAddr_ptr tbOk rfl rfl rfl rfl ?_) | ((with_reducible refine k_store ?_); refine m_store tbOk rfl rfl rfl rfl rfl rfl rfl (Nat.le_of_ble_eq_true rfl) rfl ?_) | ((with_reducible refine k_bin ?_); refine x_add_in rfl rfl (by omega) ?_)  | refine e_nrm ?_ | refine x_none rfl ?_ | with_reducible refine q_then ?_ | with_reducible refine q_block ?_ | ((with_reducible refine w_region ?_ ?_); kernel_rfl))
      exact ⟨(k + 1, D ++ [rpOf t b c], Ns ++ [a]), ⟨by simp only; omega, by simp [hD], by simp [hNs], readT_map t hyes hf⟩, by simp only; omega, ⟨rfl, rfl, rfl, rfl, rfl, congrArg (fun z : Int => AV.v (.int .i64 z)) (by simp only; omega), trivial⟩, ⟨rfl, rfl, hc_buf (by rw [List.map_append]; rfl), hc_buf (by rw [List.map_append]; rfl), trivial⟩⟩
    have hge : 3 + 3 * k = W.length := by simp at h; omega
    have hfin : readT t (W.drop 3) = some (D, Ns) := by rw [hf, List.drop_of_length_le (by omega)]; simp [readT]
    have hS : readW W = some (⟨strL w0, t, D⟩, Ns) := by rw [hR, hfin]; rfl
    rw [hS] at hq
    injection hq with hq
    injection hq with hq1 hq2
    subst hq1; subst hq2
    refine awp_freeze (t := 10) (s := 99) rfl rfl ?_
    repeat (first | ((with_reducible refine k_move ?_); refine m_move rfl ?_) | ((with_reducible refine k_assign ?_); refine m_assign rfl ?_) | ((with_reducible refine k_load ?_); refine x_load_agg tbOk rfl rfl rfl rfl (Nat.le_of_ble_eq_true rfl) ?_) | ((with_reducible refine k_store ?_); refine m_store tbOk rfl rfl rfl rfl rfl rfl rfl (Nat.le_of_ble_eq_true rfl) rfl ?_)  | refine e_nrm ?_ | refine x_none rfl ?_ | with_reducible refine q_then ?_ | with_reducible refine q_then_exit ?_ | with_reducible refine awp_seq ?_ | with_reducible refine awp_exit ?_ | with_reducible refine awp_ret ?_ | ((with_reducible refine q_block_exit ?_ ?_); rfl) | ((with_reducible refine w_region ?_ ?_); kernel_rfl))
    refine retJ_ctt [(95, v 95)] (by first | exact .inr rfl | exact .inl rfl) rfl rfl rfl rfl rfl rfl rfl (by simp) (by repeat' (first | exact trivial | exact Ren.v _ | exact Ren.sl _ _ | exact Ren.ep _ | exact Ren.ptr _ _ _ _ rfl | exact Ren.ownr _ _ _ rfl | exact Ren.bs _ _ _ _ _ rfl | refine ren_ag ?_ | refine ren_tu ?_ | refine ren_fn ?_ | refine ⟨?_, ?_⟩)) ?_
    exact ⟨rfl, trivial⟩
  · rw [if_neg c6, decide_eq_false c6] at hsuf
    have hpa := parse_A (G := X.G) (strL w2) (by rw [strL_size]; unfold maxLen; omega)
    have hT : timeW w2 = none := by unfold timeW; rw [if_neg (fun e => c6 e.1)]
    have hN : readW W = none := by rw [hR, hT]
    repeat (first | ((with_reducible refine k_move ?_); refine m_move rfl ?_) | ((with_reducible refine k_load ?_); refine x_load_ep_one tbOk rfl rfl rfl ?_) | ((with_reducible refine k_indexAddr ?_); refine x_indexAddr_n tbOk rfl rfl rfl rfl (by assumption) ?_)  | refine x_none rfl ?_ | with_reducible refine q_then ?_ | with_reducible refine awp_seq ?_ | with_reducible refine awp_skip ?_ | ((with_reducible refine w_region ?_ ?_); kernel_rfl))
    refine x_call0 (hsuf) (by repeat' (first | exact trivial | exact Ren.v _ | exact Ren.sl _ _ | exact Ren.ep _ | exact Ren.ptr _ _ _ _ rfl | exact Ren.bs _ _ _ _ _ rfl | exact Ren.nil _ | exact Ren.own _ _ _ _ ⟨_, rfl⟩ | refine ren_ag ?_ | refine ren_tu ?_ | refine ren_fn ?_ | refine ⟨?_, ?_⟩)) (by repeat' (first | exact trivial | exact RenB.v _ | exact RenB.sl _ _ | exact RenB.ep _ | exact RenB.ptr _ _ _ _ rfl | refine renb_ag ?_ | refine renb_tu ?_ | refine ⟨?_, ?_⟩)) ?_
    repeat (first | ((with_reducible refine k_move ?_); refine m_move rfl ?_) | ((with_reducible refine k_assign ?_); refine m_assign rfl ?_) | ((with_reducible refine k_extract ?_); refine x_extract rfl rfl ?_)  | refine e_nrm ?_ | refine x_none rfl ?_ | with_reducible refine q_then ?_ | with_reducible refine awp_seq ?_ | ((with_reducible refine w_region ?_ ?_); kernel_rfl))
    refine x_call0 (hpa) (by repeat' (first | exact trivial | exact Ren.v _ | exact Ren.sl _ _ | exact Ren.ep _ | exact Ren.ptr _ _ _ _ rfl | exact Ren.bs _ _ _ _ _ rfl | exact Ren.nil _ | exact Ren.own _ _ _ _ ⟨_, rfl⟩ | refine ren_ag ?_ | refine ren_tu ?_ | refine ren_fn ?_ | refine ⟨?_, ?_⟩)) (by repeat' (first | exact trivial | exact RenB.v _ | exact RenB.sl _ _ | exact RenB.ep _ | exact RenB.ptr _ _ _ _ rfl | refine renb_ag ?_ | refine renb_tu ?_ | refine ⟨?_, ?_⟩)) ?_
    rw [hN] at hq; cases hq
end Go.Proofs.YtgpglcccjkpmdaaDoor
namespace Go.Proofs.YtgpglcccjkpmdaaDoor
open Go Go.RowKit
set_option maxRecDepth 10000
variable {G : Nat → Option (List Value)}
theorem readT_len (t : Int) : ∀ {n : Nat} {l : List (List UInt8)} {R : List Rp} {Ns : List (List UInt8)}, l.length ≤ n → readT t l = some (R, Ns) → R.length = Ns.length ∧ R.length ≤ l.length ∧ ∀ w ∈ Ns, w ∈ l := by
  intro n
  induction n with
  | zero =>
    intro l R Ns hn h
    rw [List.eq_nil_of_length_eq_zero (Nat.le_zero.1 hn)] at h
    simp [readT] at h
    obtain ⟨rfl, rfl⟩ := h
    simp
  | succ n ih =>
    intro l R Ns hn h
    match l, hn, h with
    | [], _, h => simp [readT] at h; obtain ⟨rfl, rfl⟩ := h; simp
    | [_], _, h => simp [readT] at h; obtain ⟨rfl, rfl⟩ := h; simp
    | [_, _], _, h => simp [readT] at h; obtain ⟨rfl, rfl⟩ := h; simp
    | a :: b :: c :: l, hn, h =>
      rw [readT] at h
      split at h
      · cases h
      split at h
      · cases h
      rename_i q hq
      injection h with h
      injection h with h1 h2
      subst h1; subst h2
      obtain ⟨i1, i2, i3⟩ := ih (by simp at hn; omega) (show readT t l = some (q.1, q.2) from hq)
      refine ⟨by simp [i1], by simp; omega, fun w hw => ?_⟩
      rcases List.mem_cons.1 hw with rfl | hw
      · simp
      · have := i3 w hw; simp [this]
theorem readW_len {W : List (List UInt8)} {M : Ms} {Ns : List (List UInt8)} (h : readW W = some (M, Ns)) : M.rs.length = Ns.length ∧ M.rs.length ≤ W.length ∧ ∀ w ∈ Ns, w ∈ W := by
  unfold readW at h
  split at h
  · cases h
  split at h
  · cases h
  split at h
  · cases h
  rename_i q hq
  injection h with h
  injection h with h1 h2
  subst h1; subst h2
  obtain ⟨i1, i2, i3⟩ := readT_len _ (Nat.le_refl _) (show readT _ _ = some (q.1, q.2) from hq)
  rw [List.length_drop] at i2
  exact ⟨i1, by simp only; omega, fun w hw => List.mem_of_mem_drop (i3 w hw)⟩
theorem rp_cells (L : List Rp) : ∀ x ∈ L.map Rp.av, x.cells.length = 5 := by
  intro x hx
  obtain ⟨r, _, rfl⟩ := List.mem_map.1 hx
  rfl
theorem putL_app2 {α : Type} : ∀ (ys xs cs : List α) (o : Nat), putL (xs ++ cs) (xs.length + o) ys = xs ++ putL cs o ys
  | [], xs, cs, o => rfl
  | y :: ys, xs, cs, o => by
    rw [putL, putL, List.set_append_right _ _ (by omega), show xs.length + o - xs.length = o by omega, Nat.add_assoc, putL_app2 ys xs _ (o + 1)]
theorem flat_dev (d : Int) : ∀ (L : List Rp) (i : Nat) (r : Rp), L[i]? = some r → ((L.set i ⟨d, r.p, r.s, r.t, r.b⟩).map Rp.av).flatMap AV.cells = putL ((L.map Rp.av).flatMap AV.cells) (i * 5 + 0) [.v (.int .i64 d)]
  | [], i, r, h => by simp at h
  | x :: l, 0, r, h => by
    simp at h
    subst h
    rfl
  | x :: l, i + 1, r, h => by
    have ih := flat_dev d l i r (by simpa using h)
    rw [List.set_cons_succ, List.map_cons, List.flatMap_cons, ih, List.map_cons, List.flatMap_cons]
    rw [show (i + 1) * 5 + 0 = x.av.cells.length + (i * 5 + 0) by simp [Rp.av, AV.cells]; omega, putL_app2]
theorem putD_next {V : List Dv} {R : List Rp} {Ns : List (List UInt8)} {D : List Rp} {Q : Option (List Rp)} {k : Nat} {r : Rp} {w : List UInt8} (hr : R[k]? = some r) (hw : Ns[k]? = some w) (h : Q = (putD V (R.drop k) (Ns.drop k)).map (D ++ ·)) :
    (devI w 0 V < 0 → Q = none) ∧ (¬ devI w 0 V < 0 → Q = (putD V (R.drop (k + 1)) (Ns.drop (k + 1))).map ((D ++ [⟨devI w 0 V, r.p, r.s, r.t, r.b⟩]) ++ ·)) := by
  rw [h, drop_at hr, drop_at hw, putD]
  refine ⟨fun hl => by rw [if_pos hl]; rfl, fun hl => ?_⟩
  rw [if_neg hl]
  cases putD V (R.drop (k + 1)) (Ns.drop (k + 1)) with
  | none => rfl
  | some q => simp
theorem wordsL_len (l : List UInt8) : (wordsL l).length ≤ l.length + 1 := wl_count
theorem wordsL_mem {l w : List UInt8} (h : w ∈ wordsL l) : w.length ≤ l.length := by
  have := wl_len (show w ∈ wl [] l from h)
  simpa using this
set_option maxHeartbeats 8000000 in
theorem fparse_A (N : List Nd) (V : List Dv) (s : ByteArray) (hG : GCls G) (ok : NwOk N V) (hs : s.size ≤ 90000) : ACalls Tryd.prog G 12 [nwAV N V, .v (.string s)] [] (.tu [(parseM N V s.data.toList).1.av, .v (.int .i64 (parseM N V s.data.toList).2)]) [] := by
  have hz := nsizeS s
  have hwl := wordsL_len s.data.toList
  have hwm : ∀ w ∈ wordsL s.data.toList, w.length ≤ 100000000 := fun w hw => by have := wordsL_mem hw; omega
  refine acalls_of tbOk (enter_of Tryd.func12 (by kernel_rfl) rfl) Tryd.func12 rfl _ Tryd.ntmps12 (Nat.le_of_ble_eq_true rfl) fun X hX => ?_
  subst hX
  unfold parseM
  repeat (first | ((with_reducible refine k_assign ?_); refine m_assign rfl ?_) | ((with_reducible refine k_load ?_); refine x_load_agg tbOk rfl rfl rfl rfl (Nat.le_of_ble_eq_true rfl) ?_) | ((with_reducible refine k_alloc ?_); refine x_alloc tbOk rfl rfl ?_) | ((with_reducible refine k_box ?_); refine m_box rfl rfl rfl ?_)  | refine e_nrm ?_ | refine x_none rfl ?_ | with_reducible refine q_then ?_ | with_reducible refine awp_seq ?_ | ((with_reducible refine w_region ?_ ?_); kernel_rfl))
  refine x_call0 (netcheck_A N V hG ok.n ok.v ok.l1 ok.l2) (by repeat' (first | exact trivial | exact Ren.v _ | exact Ren.sl _ _ | exact Ren.ep _ | exact Ren.ptr _ _ _ _ rfl | exact Ren.bs _ _ _ _ _ rfl | exact Ren.nil _ | exact Ren.own _ _ _ _ ⟨_, rfl⟩ | refine ren_ag ?_ | refine ren_tu ?_ | refine ren_fn ?_ | refine ⟨?_, ?_⟩)) (by repeat' (first | exact trivial | exact RenB.v _ | exact RenB.sl _ _ | exact RenB.ep _ | exact RenB.ptr _ _ _ _ rfl | refine renb_ag ?_ | refine renb_tu ?_ | refine ⟨?_, ?_⟩)) ?_
  repeat (first | ((with_reducible refine k_move ?_); refine m_move rfl ?_) | ((with_reducible refine k_assign ?_); refine m_assign rfl ?_) | ((with_reducible refine k_bin ?_); refine m_binI rfl rfl rfl ?_)  | refine e_nrm ?_ | refine x_none rfl ?_ | with_reducible refine q_then ?_ | with_reducible refine awp_seq ?_ | ((with_reducible refine w_region ?_ ?_); kernel_rfl))
  refine w_cond rfl (fun h => ?_) (fun h => ?_)
  · rw [if_pos (by simpa using h)]
    repeat (first | ((with_reducible refine k_move ?_); refine m_move rfl ?_) | ((with_reducible refine k_assign ?_); refine m_assign rfl ?_) | ((with_reducible refine k_store ?_); refine m_store tbOk rfl rfl rfl rfl rfl rfl rfl (Nat.le_of_ble_eq_true rfl) rfl ?_) | ((with_reducible refine k_build ?_); refine m_build tbOk rfl rfl rfl rfl rfl ?_)  | refine e_nrm ?_ | refine x_none rfl ?_ | with_reducible refine q_then ?_ | with_reducible refine q_then_ret ?_ | with_reducible refine awp_seq ?_ | with_reducible refine awp_ret ?_ | ((with_reducible refine w_region ?_ ?_); kernel_rfl))
    refine ret0_ct (by first | exact .inr rfl | exact .inl rfl) rfl rfl rfl rfl rfl rfl ?_
    repeat' (first | exact trivial | exact Ren.v _ | exact Ren.sl _ _ | exact Ren.ep _ | exact Ren.ptr _ _ _ _ rfl | exact Ren.bs _ _ _ _ _ rfl | exact Ren.nil _ | exact Ren.own _ _ _ _ ⟨_, rfl⟩ | refine ren_ag ?_ | refine ren_tu ?_ | refine ren_fn ?_ | refine ⟨?_, ?_⟩)
  have h0 : netE N V = 0 := by simpa using h
  rw [if_neg (by simp [h0])]
  unfold parseW
  cases hq : readW (wordsL s.data.toList) with
  | none =>
    simp only
    repeat (first | ((with_reducible refine k_move ?_); refine m_move rfl ?_)  | refine x_none rfl ?_ | with_reducible refine q_then ?_ | with_reducible refine awp_seq ?_ | with_reducible refine awp_skip ?_ | ((with_reducible refine w_region ?_ ?_); kernel_rfl))
    refine x_call0 (words_A s (by omega)) (by repeat' (first | exact trivial | exact Ren.v _ | exact Ren.sl _ _ | exact Ren.ep _ | exact Ren.ptr _ _ _ _ rfl | exact Ren.bs _ _ _ _ _ rfl | exact Ren.nil _ | exact Ren.own _ _ _ _ ⟨_, rfl⟩ | refine ren_ag ?_ | refine ren_tu ?_ | refine ren_fn ?_ | refine ⟨?_, ?_⟩)) (by repeat' (first | exact trivial | exact RenB.v _ | exact RenB.sl _ _ | exact RenB.ep _ | exact RenB.ptr _ _ _ _ rfl | refine renb_ag ?_ | refine renb_tu ?_ | refine ⟨?_, ?_⟩)) ?_
    repeat (first   | refine x_none rfl ?_  )
    refine x_call0 (read_none (wordsL s.data.toList) hG (by omega) hwm hq) (by repeat' (first | exact trivial | exact Ren.v _ | exact Ren.sl _ _ | exact Ren.ep _ | exact Ren.ptr _ _ _ _ rfl | exact Ren.bs _ _ _ _ _ rfl | exact Ren.nil _ | exact Ren.own _ _ _ _ ⟨_, rfl⟩ | refine ren_ag ?_ | refine ren_tu ?_ | refine ren_fn ?_ | refine ⟨?_, ?_⟩)) (by repeat' (first | exact trivial | exact RenB.v _ | exact RenB.sl _ _ | exact RenB.ep _ | exact RenB.ptr _ _ _ _ rfl | refine renb_ag ?_ | refine renb_tu ?_ | refine ⟨?_, ?_⟩)) ?_
    repeat (first | ((with_reducible refine k_move ?_); refine m_move rfl ?_) | ((with_reducible refine k_assign ?_); refine m_assign rfl ?_) | ((with_reducible refine k_store ?_); refine m_store tbOk rfl rfl rfl rfl rfl rfl rfl (Nat.le_of_ble_eq_true rfl) rfl ?_) | ((with_reducible refine k_alloc ?_); refine x_alloc tbOk rfl rfl ?_) | ((with_reducible refine k_un ?_); refine x_not rfl ?_) | ((with_reducible refine k_extract ?_); refine x_extract rfl rfl ?_) | ((with_reducible refine k_build ?_); refine m_build tbOk rfl rfl rfl rfl rfl ?_)  | refine e_nrm ?_ | refine x_none rfl ?_ | with_reducible refine q_then ?_ | with_reducible refine q_then_ret ?_ | with_reducible refine awp_seq ?_ | with_reducible refine awp_ret ?_ | ((with_reducible refine w_region ?_ ?_); kernel_rfl) | refine w_cond_t rfl (by first | rfl | assumption) ?_)
    refine ret0_ct (by first | exact .inr rfl | exact .inl rfl) rfl rfl rfl rfl rfl rfl ?_
    repeat' (first | exact trivial | exact Ren.v _ | exact Ren.sl _ _ | exact Ren.ep _ | exact Ren.ptr _ _ _ _ rfl | exact Ren.bs _ _ _ _ _ rfl | exact Ren.nil _ | exact Ren.own _ _ _ _ ⟨_, rfl⟩ | refine ren_ag ?_ | refine ren_tu ?_ | refine ren_fn ?_ | refine ⟨?_, ?_⟩)
  | some q =>
    obtain ⟨M, Ns⟩ := q
    obtain ⟨l1, l2, l3⟩ := readW_len hq
    simp only
    have hmn : (Ns.map svL).length = Ns.length := by simp
    repeat (first | ((with_reducible refine k_move ?_); refine m_move rfl ?_)  | refine x_none rfl ?_ | with_reducible refine q_then ?_ | with_reducible refine awp_seq ?_ | with_reducible refine awp_skip ?_ | ((with_reducible refine w_region ?_ ?_); kernel_rfl))
    refine x_call0 (words_A s (by omega)) (by repeat' (first | exact trivial | exact Ren.v _ | exact Ren.sl _ _ | exact Ren.ep _ | exact Ren.ptr _ _ _ _ rfl | exact Ren.bs _ _ _ _ _ rfl | exact Ren.nil _ | exact Ren.own _ _ _ _ ⟨_, rfl⟩ | refine ren_ag ?_ | refine ren_tu ?_ | refine ren_fn ?_ | refine ⟨?_, ?_⟩)) (by repeat' (first | exact trivial | exact RenB.v _ | exact RenB.sl _ _ | exact RenB.ep _ | exact RenB.ptr _ _ _ _ rfl | refine renb_ag ?_ | refine renb_tu ?_ | refine ⟨?_, ?_⟩)) ?_
    repeat (first   | refine x_none rfl ?_  )
    refine x_call_newJ (s1 := 901) (y := .tu [.ag [.v (.string M.cr), .v (.int .i64 M.t), .own 901 (0 + 1)], .sl 1 (Ns.map svL), .v (.bool true)]) (read_some (wordsL s.data.toList) hG (by omega) hwm M Ns hq) (by repeat' (first | exact trivial | exact Ren.v _ | exact Ren.sl _ _ | exact Ren.ep _ | exact Ren.ptr _ _ _ _ rfl | exact Ren.bs _ _ _ _ _ rfl | exact Ren.nil _ | exact Ren.own _ _ _ _ ⟨_, rfl⟩ | refine ren_ag ?_ | refine ren_tu ?_ | refine ren_fn ?_ | refine ⟨?_, ?_⟩)) (by repeat' (first | exact trivial | exact RenB.v _ | exact RenB.sl _ _ | exact RenB.ep _ | exact RenB.ptr _ _ _ _ rfl | exact RenB.own _ _ _ rfl | refine renb_ag ?_ | refine renb_tu ?_ | refine ⟨?_, ?_⟩)) rfl ?_
    repeat (first | ((with_reducible refine k_move ?_); refine m_move rfl ?_) | ((with_reducible refine k_assign ?_); refine m_assign rfl ?_) | ((with_reducible refine k_store ?_); refine m_store tbOk rfl rfl rfl rfl rfl rfl rfl (Nat.le_of_ble_eq_true rfl) rfl ?_) | ((with_reducible refine k_alloc ?_); refine x_alloc tbOk rfl rfl ?_) | ((with_reducible refine k_un ?_); refine x_not rfl ?_) | ((with_reducible refine k_extract ?_); refine x_extract rfl rfl ?_) | ((with_reducible refine k_call ?_); refine x_len tbOk rfl rfl ?_)  | refine e_nrm ?_ | refine x_none rfl ?_ | with_reducible refine q_then ?_ | with_reducible refine awp_seq ?_ | with_reducible refine awp_block ?_ | with_reducible refine awp_skip ?_ | ((with_reducible refine w_region ?_ ?_); kernel_rfl) | refine w_cond_f rfl (by first | rfl | assumption) ?_)
    refine awp_loop (ι := Nat × List Rp) (fun i => i.1 ≤ Ns.length ∧ i.2.length = i.1 ∧ putD V M.rs Ns = (putD V (M.rs.drop i.1) (Ns.drop i.1)).map (i.2 ++ ·)) (fun i => Ns.length - i.1) (fun v i => [(2, .ptr 2 (v 2) 0), (4, .ptr 4 (v 4) 0), (7, .ptr 7 (v 7) 0), (29, .sl 1 (Ns.map svL)), (30, .v (.int .i64 (Ns.map svL).length)), (31, .v (.int .i64 (i.1 : Nat)))]) (fun v i => [(2, .box [.sl 3 (N.map Nd.av), .sl 5 (V.map Dv.av)]), (4, .box [.v (.string ByteArray.empty), .v (.int .i64 0), .v (.slice none 0 0)]), (7, .box [.v (.string M.cr), .v (.int .i64 M.t), .own 901 (v 901)]), (901, .buf 36 5 ((i.2 ++ M.rs.drop i.1).map Rp.av))]) ?_ ?_
    · exact ⟨(0, []), ⟨Nat.zero_le _, rfl, by simp⟩, trivial, ⟨rfl, rfl, rfl, rfl, rfl, rfl, trivial⟩, ⟨rfl, rfl, rfl, rfl, trivial⟩⟩
    rintro v ⟨k, D⟩ ⟨hk, hD, hf⟩
    simp only at hk hD hf
    dsimp only
    repeat (first | ((with_reducible refine k_bin ?_); refine m_binI rfl rfl rfl ?_)  | refine e_nrm ?_ | refine x_none rfl ?_ | with_reducible refine q_then ?_ | with_reducible refine awp_seq ?_ | ((with_reducible refine w_region ?_ ?_); kernel_rfl))
    refine w_cond rfl (fun h => ?_) (fun h => ?_)
    · have hlt : k < Ns.length := by simpa using h
      obtain ⟨w, hw⟩ := some_at hlt
      obtain ⟨r, hr⟩ := some_at (L := M.rs) (k := k) (by omega)
      have hy := sv_at hw
      obtain ⟨p1, p2⟩ := putD_next hr hw hf
      have hd : devF N V (strL w) = devI w 0 V := by unfold devF; rw [if_neg (by simp [h0]), strL_data]
      have hnd := ndev_A (G := X.G) N V (strL w) hG ok
      rw [hd] at hnd
      repeat (first | ((with_reducible refine k_move ?_); refine m_move rfl ?_) | ((with_reducible refine k_assign ?_); refine m_assign rfl ?_) | ((with_reducible refine k_load ?_); refine x_load_agg tbOk rfl rfl rfl rfl (Nat.le_of_ble_eq_true rfl) ?_) | ((with_reducible refine k_load ?_); refine x_load_ep_one tbOk rfl rfl rfl ?_) | ((with_reducible refine k_indexAddr ?_); refine x_indexAddr_n tbOk rfl rfl rfl rfl (by assumption) ?_)  | refine e_nrm ?_ | refine x_none rfl ?_ | with_reducible refine q_then ?_ | with_reducible refine awp_seq ?_ | with_reducible refine awp_block ?_ | with_reducible refine awp_skip ?_ | ((with_reducible refine w_region ?_ ?_); kernel_rfl))
      refine x_call0 (hnd) (by repeat' (first | exact trivial | exact Ren.v _ | exact Ren.sl _ _ | exact Ren.ep _ | exact Ren.ptr _ _ _ _ rfl | exact Ren.bs _ _ _ _ _ rfl | exact Ren.nil _ | exact Ren.own _ _ _ _ ⟨_, rfl⟩ | refine ren_ag ?_ | refine ren_tu ?_ | refine ren_fn ?_ | refine ⟨?_, ?_⟩)) (by repeat' (first | exact trivial | exact RenB.v _ | exact RenB.sl _ _ | exact RenB.ep _ | exact RenB.ptr _ _ _ _ rfl | refine renb_ag ?_ | refine renb_tu ?_ | refine ⟨?_, ?_⟩)) ?_
      repeat (first | ((with_reducible refine k_move ?_); refine m_move rfl ?_) | ((with_reducible refine k_assign ?_); refine m_assign rfl ?_) | ((with_reducible refine k_bin ?_); refine m_binI rfl rfl rfl ?_)  | refine e_nrm ?_ | refine x_none rfl ?_ | with_reducible refine q_then ?_ | with_reducible refine awp_seq ?_ | ((with_reducible refine w_region ?_ ?_); kernel_rfl))
      refine w_cond rfl (fun h => ?_) (fun h => ?_)
      · rw [p1 (by simpa using h)]
        repeat (first | ((with_reducible refine k_assign ?_); refine m_assign rfl ?_) | ((with_reducible refine k_store ?_); refine m_store tbOk rfl rfl rfl rfl rfl rfl rfl (Nat.le_of_ble_eq_true rfl) rfl ?_) | ((with_reducible refine k_build ?_); refine m_build tbOk rfl rfl rfl rfl rfl ?_)  | refine e_nrm ?_ | refine x_none rfl ?_ | with_reducible refine q_then ?_ | with_reducible refine q_then_ret ?_ | with_reducible refine q_block_ret ?_ | with_reducible refine awp_seq ?_ | with_reducible refine awp_ret ?_ | ((with_reducible refine w_region ?_ ?_); kernel_rfl))
        refine ret0_ct (by first | exact .inr rfl | exact .inl rfl) rfl rfl rfl rfl rfl rfl ?_
        repeat' (first | exact trivial | exact Ren.v _ | exact Ren.sl _ _ | exact Ren.ep _ | exact Ren.ptr _ _ _ _ rfl | exact Ren.bs _ _ _ _ _ rfl | exact Ren.nil _ | exact Ren.own _ _ _ _ ⟨_, rfl⟩ | refine ren_ag ?_ | refine ren_tu ?_ | refine ren_fn ?_ | refine ⟨?_, ?_⟩)
      have hge : ¬ devI w 0 V < 0 := by simpa using h
      have hLk : (D ++ M.rs.drop k)[k]? = some r := by rw [List.getElem?_append_right (by omega), hD, Nat.sub_self, List.getElem?_drop]; exact hr
      have hLl : ((D ++ M.rs.drop k).map Rp.av).length = M.rs.length := by simp; omega
      have hset : (D ++ M.rs.drop k).set k ⟨devI w 0 V, r.p, r.s, r.t, r.b⟩ = (D ++ [⟨devI w 0 V, r.p, r.s, r.t, r.b⟩]) ++ M.rs.drop (k + 1) := by
        rw [List.set_append_right _ _ (by omega), hD, Nat.sub_self, drop_at hr]
        simp
      repeat (first | ((with_reducible refine k_move ?_); refine m_move rfl ?_) | ((with_reducible refine k_fieldAddr ?_); refine x_fieldAddr_ptr tbOk rfl rfl rfl rfl ?_) | ((with_reducible refine k_load ?_); refine x_load_one tbOk rfl rfl rfl rfl rfl ?_)  | refine x_none rfl ?_ | with_reducible refine q_then ?_ | with_reducible refine awp_skip ?_ | ((with_reducible refine w_region ?_ ?_); kernel_rfl))
      with_reducible refine k_indexAddr ?_
      refine x_indexAddr_own tbOk rfl rfl rfl rfl rfl rfl ⟨by omega, by rw [hLl]; omega⟩ ?_
      repeat (first | ((with_reducible refine k_fieldAddr ?_); refine x_fieldAddr_po tbOk rfl rfl rfl rfl ?_)  | refine x_none rfl ?_  )
      with_reducible refine k_store ?_
      refine x_store_po (L' := ((D ++ M.rs.drop k).set k ⟨devI w 0 V, r.p, r.s, r.t, r.b⟩).map Rp.av) tbOk rfl rfl rfl rfl rfl rfl rfl rfl rfl (by rw [flat_len' (rp_cells _), hLl, Int.toNat_natCast]; omega) (by simp) (rp_cells _) (by rw [Int.toNat_natCast]; exact flat_dev _ _ _ _ hLk) ?_
      repeat (first | ((with_reducible refine k_move ?_); refine m_move rfl ?_) | ((with_reducible refine k_bin ?_); refine x_add_in rfl rfl (by omega) ?_)  | refine e_nrm ?_ | refine x_none rfl ?_ | with_reducible refine q_then ?_ | with_reducible refine q_block ?_ | ((with_reducible refine w_region ?_ ?_); kernel_rfl))
      exact ⟨(k + 1, D ++ [⟨devI w 0 V, r.p, r.s, r.t, r.b⟩]), ⟨by simp only; omega, by simp [hD], p2 hge⟩, by simp only; omega, ⟨rfl, rfl, rfl, rfl, rfl, rfl, trivial⟩, ⟨rfl, rfl, rfl, hc_buf (by rw [hset]), trivial⟩⟩
    have hge : k = Ns.length := by simp at h; omega
    have hfin : putD V M.rs Ns = some D := by
      rw [hf, List.drop_of_length_le (by omega), List.drop_of_length_le (by omega)]
      simp [putD]
    rw [hfin]
    have hDD : D ++ M.rs.drop k = D := by rw [List.drop_of_length_le (by omega), List.append_nil]
    rw [hDD]
    refine awp_freeze_at (s := 901) [] [(7, [.v (.string M.cr), .v (.int .i64 M.t), .sl 5 (D.map Rp.av)])] rfl trivial ⟨⟨_, _, rfl, .same (.same (.hit .nil))⟩, trivial⟩ ?_
    repeat (first | ((with_reducible refine k_assign ?_); refine m_assign rfl ?_) | ((with_reducible refine k_load ?_); refine x_load_agg tbOk rfl rfl rfl rfl (Nat.le_of_ble_eq_true rfl) ?_) | ((with_reducible refine k_store ?_); refine m_store tbOk rfl rfl rfl rfl rfl rfl rfl (Nat.le_of_ble_eq_true rfl) rfl ?_)  | refine e_nrm ?_ | refine x_none rfl ?_ | with_reducible refine q_then ?_ | with_reducible refine q_then_exit ?_ | with_reducible refine awp_seq ?_ | with_reducible refine awp_exit ?_ | with_reducible refine awp_ret ?_ | ((with_reducible refine q_block_exit ?_ ?_); rfl) | ((with_reducible refine w_region ?_ ?_); kernel_rfl))
    refine ret0_ct (by first | exact .inr rfl | exact .inl rfl) rfl rfl rfl rfl rfl rfl ?_
    repeat' (first | exact trivial | exact Ren.v _ | exact Ren.sl _ _ | exact Ren.ep _ | exact Ren.ptr _ _ _ _ rfl | exact Ren.bs _ _ _ _ _ rfl | exact Ren.nil _ | exact Ren.own _ _ _ _ ⟨_, rfl⟩ | refine ren_ag ?_ | refine ren_tu ?_ | refine ren_fn ?_ | refine ⟨?_, ?_⟩)
end Go.Proofs.YtgpglcccjkpmdaaDoor
namespace Go.Proofs.YtgpglcccjkpmdaaDoor
open Go Go.RowKit
set_option maxRecDepth 10000
variable {G : Nat → Option (List Value)}
def setD (V : List Dv) (r : Rp) (n : List UInt8) : Rp := ⟨devI n 0 V, r.p, r.s, r.t, r.b⟩
def zipD (V : List Dv) : List Rp → List (List UInt8) → List Rp
  | r :: R, n :: Ns => setD V r n :: zipD V R Ns
  | _, _ => []
def knB (V : List Dv) (Ns : List (List UInt8)) : Bool := Ns.all fun n => decide (devI n 0 V ≥ 0)
theorem zipD_snoc (V : List Dv) (r : Rp) (n : List UInt8) : ∀ {R : List Rp} {Ns : List (List UInt8)}, R.length = Ns.length → zipD V (R ++ [r]) (Ns ++ [n]) = zipD V R Ns ++ [setD V r n]
  | [], [], _ => rfl
  | x :: R, y :: Ns, h => by
    have := zipD_snoc V r n (R := R) (Ns := Ns) (by simpa using h)
    simp [zipD, this]
  | [], _ :: _, h => by simp at h
  | _ :: _, [], h => by simp at h
theorem zipD_len (V : List Dv) : ∀ {R : List Rp} {Ns : List (List UInt8)}, R.length = Ns.length → (zipD V R Ns).length = R.length
  | [], [], _ => rfl
  | x :: R, y :: Ns, h => by simp [zipD, zipD_len V (R := R) (Ns := Ns) (by simpa using h)]
  | [], _ :: _, h => by simp at h
  | _ :: _, [], h => by simp at h
theorem putD_zip (V : List Dv) : ∀ {R : List Rp} {Ns : List (List UInt8)}, R.length = Ns.length → putD V R Ns = if knB V Ns = true then some (zipD V R Ns) else none
  | [], [], _ => rfl
  | x :: R, y :: Ns, h => by
    have ih := putD_zip V (R := R) (Ns := Ns) (by simpa using h)
    rw [putD, ih]
    show _ = if (y :: Ns).all (fun n => decide (devI n 0 V ≥ 0)) = true then some (zipD V (x :: R) (y :: Ns)) else none
    unfold knB
    rw [List.all_cons]
    by_cases h1 : devI y 0 V < 0
    · rw [if_pos h1, if_neg (by simp; omega)]
    · rw [if_neg h1]
      have e : decide (devI y 0 V ≥ 0) = true := by simp; omega
      rw [e, Bool.true_and]
      cases hk : Ns.all fun n => decide (devI n 0 V ≥ 0) with
      | true => simp [zipD, setD]
      | false => simp
  | [], _ :: _, h => by simp at h
  | _ :: _, [], h => by simp at h
theorem rep_no {a b c : List UInt8} (h : nameB a = false ∨ (¬ b = openL ∧ ¬ b = closedL) ∨ (¬ c = seenL ∧ ¬ c = toldL)) : ¬ repOk a b c = true := by
  unfold repOk
  rcases h with h | h | h
  · rw [h]; simp
  · rw [decide_eq_false h.1, decide_eq_false h.2]; simp
  · rw [decide_eq_false h.1, decide_eq_false h.2]; simp
theorem rep_yes {a b c : List UInt8} (h1 : nameB a = true) (h2 : b = openL ∨ b = closedL) (h3 : c = seenL ∨ c = toldL) : repOk a b c = true := by
  unfold repOk
  simp [h1, h2, h3]
theorem bnot_t {b : Bool} (h : b = true) : (!b) = false := by rw [h]; rfl
theorem bnot_f {b : Bool} (h : b = false) : (!b) = true := by rw [h]; rfl
theorem last_idx {l : List UInt8} {c : UInt8} : ∀ w : World, (Instr.index 9 (.string (strL (l ++ [c]))) (.int .i64 (((strL (l ++ [c])).size : Int) - 1))).run Tryd.prog w = .ok (.int .u8 (c.toNat : Int)) w := fun w => by
  have hz : (strL (l ++ [c])).size = l.length + 1 := by rw [strL_size]; simp
  have hp : (((strL (l ++ [c])).size : Int) - 1) = ((l.length : Nat) : Int) := by omega
  rw [hp]
  exact nidxS _ l.length c (by rw [strL_data]; simp) w
set_option maxHeartbeats 16000000 in
theorem frparse_A (N : List Nd) (V : List Dv) (s : ByteArray) (ok : NwOk N V) (hs : s.size ≤ 90000) : ACalls Tryd.prog G 22 [nwAV N V, .v (.string s)] [] (.tu [(parseM N V s.data.toList).1.av, .v (.int .i64 (parseM N V s.data.toList).2)]) [] := by
  have hz := nsizeS s
  have hwl := wordsL_len s.data.toList
  have hwm : ∀ w ∈ wordsL s.data.toList, w.length ≤ 100000000 := fun w hw => by have := wordsL_mem hw; omega
  have hwo : ∀ w ∈ wordsL s.data.toList, w ≠ [] := fun w hw => (words_ok w hw).1
  refine acalls_of tbOk (enter_of Tryd.func22 (by kernel_rfl) rfl) Tryd.func22 rfl _ Tryd.ntmps22 (Nat.le_of_ble_eq_true rfl) fun X hX => ?_
  subst hX
  unfold parseM
  repeat (first | ((with_reducible refine k_assign ?_); refine m_assign rfl ?_) | ((with_reducible refine k_load ?_); refine x_load_agg tbOk rfl rfl rfl rfl (Nat.le_of_ble_eq_true rfl) ?_) | ((with_reducible refine k_alloc ?_); refine x_alloc tbOk rfl rfl ?_) | ((with_reducible refine k_box ?_); refine m_box rfl rfl rfl ?_)  | refine e_nrm ?_ | refine x_none rfl ?_ | with_reducible refine q_then ?_ | with_reducible refine awp_seq ?_ | ((with_reducible refine w_region ?_ ?_); kernel_rfl))
  refine x_call0 (rnet_A N V ok.n ok.v ok.l1 ok.l2) (by repeat' (first | exact trivial | exact Ren.v _ | exact Ren.sl _ _ | exact Ren.ep _ | exact Ren.ptr _ _ _ _ rfl | exact Ren.bs _ _ _ _ _ rfl | exact Ren.nil _ | exact Ren.own _ _ _ _ ⟨_, rfl⟩ | refine ren_ag ?_ | refine ren_tu ?_ | refine ren_fn ?_ | refine ⟨?_, ?_⟩)) (by repeat' (first | exact trivial | exact RenB.v _ | exact RenB.sl _ _ | exact RenB.ep _ | exact RenB.ptr _ _ _ _ rfl | refine renb_ag ?_ | refine renb_tu ?_ | refine ⟨?_, ?_⟩)) ?_
  repeat (first | ((with_reducible refine k_move ?_); refine m_move rfl ?_) | ((with_reducible refine k_assign ?_); refine m_assign rfl ?_) | ((with_reducible refine k_bin ?_); refine m_binI rfl rfl rfl ?_)  | refine e_nrm ?_ | refine x_none rfl ?_ | with_reducible refine q_then ?_ | with_reducible refine awp_seq ?_ | ((with_reducible refine w_region ?_ ?_); kernel_rfl))
  refine w_cond rfl (fun h => ?_) (fun h => ?_)
  · rw [if_pos (by simpa using h)]
    repeat (first | ((with_reducible refine k_move ?_); refine m_move rfl ?_) | ((with_reducible refine k_assign ?_); refine m_assign rfl ?_) | ((with_reducible refine k_store ?_); refine m_store tbOk rfl rfl rfl rfl rfl rfl rfl (Nat.le_of_ble_eq_true rfl) rfl ?_) | ((with_reducible refine k_build ?_); refine m_build tbOk rfl rfl rfl rfl rfl ?_)  | refine e_nrm ?_ | refine x_none rfl ?_ | with_reducible refine q_then ?_ | with_reducible refine q_then_ret ?_ | with_reducible refine awp_seq ?_ | with_reducible refine awp_ret ?_ | ((with_reducible refine w_region ?_ ?_); kernel_rfl))
    refine ret0_ct (by first | exact .inr rfl | exact .inl rfl) rfl rfl rfl rfl rfl rfl ?_
    repeat' (first | exact trivial | exact Ren.v _ | exact Ren.sl _ _ | exact Ren.ep _ | exact Ren.ptr _ _ _ _ rfl | exact Ren.bs _ _ _ _ _ rfl | exact Ren.nil _ | exact Ren.own _ _ _ _ ⟨_, rfl⟩ | refine ren_ag ?_ | refine ren_tu ?_ | refine ren_fn ?_ | refine ⟨?_, ?_⟩)
  have h0 : netE N V = 0 := by simpa using h
  rw [if_neg (by simp [h0])]
  repeat (first | ((with_reducible refine k_move ?_); refine m_move rfl ?_)  | refine x_none rfl ?_ | with_reducible refine q_then ?_ | with_reducible refine awp_seq ?_ | with_reducible refine awp_skip ?_ | ((with_reducible refine w_region ?_ ?_); kernel_rfl))
  refine x_call0 (rwords_A s (by omega)) (by repeat' (first | exact trivial | exact Ren.v _ | exact Ren.sl _ _ | exact Ren.ep _ | exact Ren.ptr _ _ _ _ rfl | exact Ren.bs _ _ _ _ _ rfl | exact Ren.nil _ | exact Ren.own _ _ _ _ ⟨_, rfl⟩ | refine ren_ag ?_ | refine ren_tu ?_ | refine ren_fn ?_ | refine ⟨?_, ?_⟩)) (by repeat' (first | exact trivial | exact RenB.v _ | exact RenB.sl _ _ | exact RenB.ep _ | exact RenB.ptr _ _ _ _ rfl | refine renb_ag ?_ | refine renb_tu ?_ | refine ⟨?_, ?_⟩)) ?_
  have hW : (wordsL s.data.toList).length ≤ 100000 := by omega
  generalize wordsL s.data.toList = W at hwl hwm hwo hW
  have hm9 : W.length ≤ 100000 := hW
  have hlen : (W.map svL).length = W.length := by simp
  repeat (first | ((with_reducible refine k_move ?_); refine m_move rfl ?_) | ((with_reducible refine k_assign ?_); refine m_assign rfl ?_) | ((with_reducible refine k_call ?_); refine x_len tbOk rfl rfl ?_) | ((with_reducible refine k_bin ?_); refine m_binI rfl rfl rfl ?_)  | refine e_nrm ?_ | refine x_none rfl ?_ | with_reducible refine q_then ?_ | with_reducible refine awp_seq ?_ | ((with_reducible refine w_draw mixd ?_ ?_); kernel_rfl))
  refine x_split rfl rfl (fun b1 => ?_) (fun b1 => ?_)
  · have hN : readW W = none := by unfold readW; rw [if_pos (.inl (by simp at b1; omega))]
    unfold parseW
    rw [hN]
    repeat (first | ((with_reducible refine k_move ?_); refine m_move rfl ?_) | ((with_reducible refine k_assign ?_); refine m_assign rfl ?_) | ((with_reducible refine k_store ?_); refine m_store tbOk rfl rfl rfl rfl rfl rfl rfl (Nat.le_of_ble_eq_true rfl) rfl ?_) | ((with_reducible refine k_pick ?_); refine m_pickt rfl (by first | rfl | assumption) rfl ?_) | ((with_reducible refine k_build ?_); refine m_build tbOk rfl rfl rfl rfl rfl ?_)  | refine e_nrm ?_ | refine e_drw (by kernel_rfl) ?_ | refine x_none rfl ?_ | refine x_skip_f rfl rfl (by first | rfl | assumption) ?_ | with_reducible refine q_then ?_ | with_reducible refine q_then_ret ?_ | with_reducible refine awp_seq ?_ | with_reducible refine awp_ret ?_ | ((with_reducible refine w_region ?_ ?_); kernel_rfl) | refine w_cond_t rfl (by first | rfl | assumption) ?_)
    refine ret0_ct (by first | exact .inr rfl | exact .inl rfl) rfl rfl rfl rfl rfl rfl ?_
    repeat' (first | exact trivial | exact Ren.v _ | exact Ren.sl _ _ | exact Ren.ep _ | exact Ren.ptr _ _ _ _ rfl | exact Ren.bs _ _ _ _ _ rfl | exact Ren.nil _ | exact Ren.own _ _ _ _ ⟨_, rfl⟩ | refine ren_ag ?_ | refine ren_tu ?_ | refine ren_fn ?_ | refine ⟨?_, ?_⟩)
  have c1 : ¬ W.length < 6 := by simp at b1; omega
  have e3 : (((W.map svL).length : Int) - 3).tmod 3 = ((W.length % 3 : Nat) : Int) := by rw [Int.tmod_eq_emod_of_nonneg (by omega), hlen]; omega
  have e4 : (((W.map svL).length : Int) - 3).tdiv 3 = (((W.length / 3 : Nat) : Int) - 1) := by rw [Int.tdiv_eq_ediv_of_nonneg (by omega), hlen]; omega
  have e5 : IntKind.i64.wrap ((((W.map svL).length : Int) - 3).tdiv 3) = (((W.length / 3 : Nat) : Int) - 1) := by rw [e4, wrap_i64_in (by omega)]
  repeat (first | ((with_reducible refine k_move ?_); refine m_move rfl ?_) | ((with_reducible refine k_pick ?_); refine m_pickf rfl (by first | rfl | assumption) rfl ?_) | ((with_reducible refine k_call ?_); refine x_len tbOk rfl rfl ?_) | ((with_reducible refine k_bin ?_); refine x_sub_in rfl rfl (by omega) ?_) | ((with_reducible refine k_bin ?_); refine m_binI rfl rfl rfl ?_) | ((with_reducible refine k_bin ?_); refine x_rem rfl rfl (by first | decide | assumption | omega) ?_)  | refine x_none rfl ?_ | refine x_run_f rfl rfl (by first | rfl | assumption) ?_  )
  refine x_split rfl rfl (fun b2 => ?_) (fun b2 => ?_)
  · have hN : readW W = none := by unfold readW; rw [if_pos (.inr (.inl (by rw [e3] at b2; simp at b2; omega)))]
    unfold parseW
    rw [hN]
    repeat (first | ((with_reducible refine k_move ?_); refine m_move rfl ?_) | ((with_reducible refine k_assign ?_); refine m_assign rfl ?_) | ((with_reducible refine k_store ?_); refine m_store tbOk rfl rfl rfl rfl rfl rfl rfl (Nat.le_of_ble_eq_true rfl) rfl ?_) | ((with_reducible refine k_pick ?_); refine m_pickt rfl (by first | rfl | assumption) rfl ?_) | ((with_reducible refine k_build ?_); refine m_build tbOk rfl rfl rfl rfl rfl ?_)  | refine e_nrm ?_ | refine e_drw (by kernel_rfl) ?_ | refine x_none rfl ?_ | refine x_skip_f rfl rfl (by first | rfl | assumption) ?_ | with_reducible refine q_then ?_ | with_reducible refine q_then_ret ?_ | with_reducible refine awp_seq ?_ | with_reducible refine awp_ret ?_ | ((with_reducible refine w_region ?_ ?_); kernel_rfl) | refine w_cond_t rfl (by first | rfl | assumption) ?_)
    refine ret0_ct (by first | exact .inr rfl | exact .inl rfl) rfl rfl rfl rfl rfl rfl ?_
    repeat' (first | exact trivial | exact Ren.v _ | exact Ren.sl _ _ | exact Ren.ep _ | exact Ren.ptr _ _ _ _ rfl | exact Ren.bs _ _ _ _ _ rfl | exact Ren.nil _ | exact Ren.own _ _ _ _ ⟨_, rfl⟩ | refine ren_ag ?_ | refine ren_tu ?_ | refine ren_fn ?_ | refine ⟨?_, ?_⟩)
  have c2 : W.length % 3 = 0 := by rw [e3] at b2; simp at b2; omega
  repeat (first | ((with_reducible refine k_move ?_); refine m_move rfl ?_) | ((with_reducible refine k_pick ?_); refine m_pickf rfl (by first | rfl | assumption) rfl ?_) | ((with_reducible refine k_call ?_); refine x_len tbOk rfl rfl ?_) | ((with_reducible refine k_bin ?_); refine x_sub_in rfl rfl (by omega) ?_) | ((with_reducible refine k_bin ?_); refine m_binI rfl rfl rfl ?_) | ((with_reducible refine k_bin ?_); refine x_quo rfl rfl (by first | decide | assumption | omega) ?_)  | refine x_none rfl ?_ | refine x_run_f rfl rfl (by first | rfl | assumption) ?_  )
  refine x_split rfl rfl (fun b3 => ?_) (fun b3 => ?_)
  · have hN : readW W = none := by unfold readW; rw [if_pos (.inr (.inr (.inl (by (first | rw [e5] at b3 | rw [e4] at b3); simp at b3; omega))))]
    unfold parseW
    rw [hN]
    repeat (first | ((with_reducible refine k_move ?_); refine m_move rfl ?_) | ((with_reducible refine k_assign ?_); refine m_assign rfl ?_) | ((with_reducible refine k_store ?_); refine m_store tbOk rfl rfl rfl rfl rfl rfl rfl (Nat.le_of_ble_eq_true rfl) rfl ?_) | ((with_reducible refine k_pick ?_); refine m_pickt rfl (by first | rfl | assumption) rfl ?_) | ((with_reducible refine k_build ?_); refine m_build tbOk rfl rfl rfl rfl rfl ?_)  | refine e_nrm ?_ | refine e_drw (by kernel_rfl) ?_ | refine x_none rfl ?_ | refine x_skip_f rfl rfl (by first | rfl | assumption) ?_ | with_reducible refine q_then ?_ | with_reducible refine q_then_ret ?_ | with_reducible refine awp_seq ?_ | with_reducible refine awp_ret ?_ | ((with_reducible refine w_region ?_ ?_); kernel_rfl) | refine w_cond_t rfl (by first | rfl | assumption) ?_)
    refine ret0_ct (by first | exact .inr rfl | exact .inl rfl) rfl rfl rfl rfl rfl rfl ?_
    repeat' (first | exact trivial | exact Ren.v _ | exact Ren.sl _ _ | exact Ren.ep _ | exact Ren.ptr _ _ _ _ rfl | exact Ren.bs _ _ _ _ _ rfl | exact Ren.nil _ | exact Ren.own _ _ _ _ ⟨_, rfl⟩ | refine ren_ag ?_ | refine ren_tu ?_ | refine ren_fn ?_ | refine ⟨?_, ?_⟩)
  have c3 : ¬ 33 < W.length / 3 := by (first | rw [e5] at b3 | rw [e4] at b3); simp at b3; omega
  obtain ⟨w0, hw0⟩ := some_at (L := W) (k := 0) (by omega)
  obtain ⟨w1, hw1⟩ := some_at (L := W) (k := 1) (by omega)
  obtain ⟨w2, hw2⟩ := some_at (L := W) (k := 2) (by omega)
  have y0 : (W.map svL)[(0 : Int).toNat]? = some (svL w0) := sv_at hw0
  have y1 : (W.map svL)[(1 : Int).toNat]? = some (svL w1) := sv_at hw1
  have y2 : (W.map svL)[(2 : Int).toNat]? = some (svL w2) := sv_at hw2
  have a0 : wAt W 0 = w0 := by unfold wAt; rw [hw0]; rfl
  have a1 : wAt W 1 = w1 := by unfold wAt; rw [hw1]; rfl
  have a2 : wAt W 2 = w2 := by unfold wAt; rw [hw2]; rfl
  have hl0 := hwm w0 (List.mem_of_getElem? hw0)
  have hl2 := hwm w2 (List.mem_of_getElem? hw2)
  have hn := rname_A (G := X.G) (strL w0) (by rw [strL_size]; unfold maxLen; omega)
  rw [strL_data] at hn
  repeat (first | ((with_reducible refine k_move ?_); refine m_move rfl ?_) | ((with_reducible refine k_load ?_); refine x_load_ep_one tbOk rfl rfl rfl ?_) | ((with_reducible refine k_indexAddr ?_); refine x_indexAddr_n tbOk rfl rfl rfl rfl (by assumption) ?_)  | refine x_run_f rfl rfl (by first | rfl | assumption) ?_  )
  refine x_call0 (hn) (by repeat' (first | exact trivial | exact Ren.v _ | exact Ren.sl _ _ | exact Ren.ep _ | exact Ren.ptr _ _ _ _ rfl | exact Ren.bs _ _ _ _ _ rfl | exact Ren.nil _ | exact Ren.own _ _ _ _ ⟨_, rfl⟩ | refine ren_ag ?_ | refine ren_tu ?_ | refine ren_fn ?_ | refine ⟨?_, ?_⟩)) (by repeat' (first | exact trivial | exact RenB.v _ | exact RenB.sl _ _ | exact RenB.ep _ | exact RenB.ptr _ _ _ _ rfl | refine renb_ag ?_ | refine renb_tu ?_ | refine ⟨?_, ?_⟩)) ?_
  repeat (first | ((with_reducible refine k_move ?_); refine m_move rfl ?_) | ((with_reducible refine k_un ?_); refine x_not rfl ?_) | ((with_reducible refine k_pick ?_); refine m_pickf rfl (by first | rfl | assumption) rfl ?_)  | refine x_none rfl ?_ | refine x_run_f rfl rfl (by first | rfl | assumption) ?_  )
  refine x_split rfl rfl (fun b4 => ?_) (fun b4 => ?_)
  · have hN : readW W = none := by unfold readW; rw [if_pos (.inr (.inr (.inr (.inl (by rw [a0]; simpa using b4)))))]
    unfold parseW
    rw [hN]
    repeat (first | ((with_reducible refine k_move ?_); refine m_move rfl ?_) | ((with_reducible refine k_assign ?_); refine m_assign rfl ?_) | ((with_reducible refine k_store ?_); refine m_store tbOk rfl rfl rfl rfl rfl rfl rfl (Nat.le_of_ble_eq_true rfl) rfl ?_) | ((with_reducible refine k_pick ?_); refine m_pickt rfl (by first | rfl | assumption) rfl ?_) | ((with_reducible refine k_build ?_); refine m_build tbOk rfl rfl rfl rfl rfl ?_)  | refine e_nrm ?_ | refine e_drw (by kernel_rfl) ?_ | refine x_none rfl ?_ | refine x_skip_f rfl rfl (by first | rfl | assumption) ?_ | with_reducible refine q_then ?_ | with_reducible refine q_then_ret ?_ | with_reducible refine awp_seq ?_ | with_reducible refine awp_ret ?_ | ((with_reducible refine w_region ?_ ?_); kernel_rfl) | refine w_cond_t rfl (by first | rfl | assumption) ?_)
    refine ret0_ct (by first | exact .inr rfl | exact .inl rfl) rfl rfl rfl rfl rfl rfl ?_
    repeat' (first | exact trivial | exact Ren.v _ | exact Ren.sl _ _ | exact Ren.ep _ | exact Ren.ptr _ _ _ _ rfl | exact Ren.bs _ _ _ _ _ rfl | exact Ren.nil _ | exact Ren.own _ _ _ _ ⟨_, rfl⟩ | refine ren_ag ?_ | refine ren_tu ?_ | refine ren_fn ?_ | refine ⟨?_, ?_⟩)
  have c4 : nameB w0 = true := by simpa using b4
  have k1 : strEq (strL w1) ⟨#[97, 116]⟩ = decide (w1 = atL) := strEq_c _ _
  repeat (first | ((with_reducible refine k_move ?_); refine m_move rfl ?_) | ((with_reducible refine k_load ?_); refine x_load_ep_one tbOk rfl rfl rfl ?_) | ((with_reducible refine k_pick ?_); refine m_pickf rfl (by first | rfl | assumption) rfl ?_) | ((with_reducible refine k_indexAddr ?_); refine x_indexAddr_n tbOk rfl rfl rfl rfl (by assumption) ?_) | ((with_reducible refine k_bin ?_); refine m_binS rfl rfl rfl ?_)  | refine x_none rfl ?_ | refine x_run_f rfl rfl (by first | rfl | assumption) ?_  )
  refine x_split rfl rfl (fun h => ?_) (fun h => ?_)
  · have h' : strEq (strL w1) ⟨#[97, 116]⟩ = false := by simpa using h
    have hN : readW W = none := by unfold readW; rw [if_pos (.inr (.inr (.inr (.inr (by rw [a1]; rw [k1] at h'; simpa using h')))))]
    unfold parseW
    rw [hN]
    repeat (first | ((with_reducible refine k_assign ?_); refine m_assign rfl ?_) | ((with_reducible refine k_store ?_); refine m_store tbOk rfl rfl rfl rfl rfl rfl rfl (Nat.le_of_ble_eq_true rfl) rfl ?_) | ((with_reducible refine k_pick ?_); refine m_pickt rfl (by first | rfl | assumption) rfl ?_) | ((with_reducible refine k_build ?_); refine m_build tbOk rfl rfl rfl rfl rfl ?_)  | refine e_nrm ?_ | refine e_drw (by kernel_rfl) ?_ | refine x_none rfl ?_ | refine x_skip_f rfl rfl (by first | rfl | assumption) ?_ | with_reducible refine q_then ?_ | with_reducible refine q_then_ret ?_ | with_reducible refine awp_seq ?_ | with_reducible refine awp_ret ?_ | ((with_reducible refine w_region ?_ ?_); kernel_rfl) | refine w_cond_t rfl (by first | rfl | assumption) ?_)
    refine ret0_ct (by first | exact .inr rfl | exact .inl rfl) rfl rfl rfl rfl rfl rfl ?_
    repeat' (first | exact trivial | exact Ren.v _ | exact Ren.sl _ _ | exact Ren.ep _ | exact Ren.ptr _ _ _ _ rfl | exact Ren.bs _ _ _ _ _ rfl | exact Ren.nil _ | exact Ren.own _ _ _ _ ⟨_, rfl⟩ | refine ren_ag ?_ | refine ren_tu ?_ | refine ren_fn ?_ | refine ⟨?_, ?_⟩)
  have h' : strEq (strL w1) ⟨#[97, 116]⟩ = true := by simpa using h
  have c5 : w1 = atL := by rw [k1] at h'; simpa using h'
  have hR : readW W = match timeW w2 with
    | none => none
    | some t => match readT t (W.drop 3) with
      | none => none
      | some q => some (⟨⟨w0.toArray⟩, t, q.1⟩, q.2) := by
    unfold readW
    rw [if_neg (by rw [a0, a1, c4, c5]; simp; omega), a2, a0]
    rfl
  obtain ⟨l2, ch, e2⟩ : ∃ l c, w2 = l ++ [c] := by
    rcases List.eq_nil_or_concat w2 with h0 | ⟨l, c, h0⟩
    · exact absurd h0 (hwo w2 (List.mem_of_getElem? hw2))
    · exact ⟨l, c, by rw [h0]; simp⟩
  subst e2
  have hidx := last_idx (l := l2) (c := ch)
  have hsz : (strL (l2 ++ [ch])).size = l2.length + 1 := by rw [strL_size]; simp
  have hl2' : l2.length ≤ 100000000 := by simp at hl2; omega
  repeat (first | ((with_reducible refine k_move ?_); refine m_move rfl ?_) | ((with_reducible refine k_load ?_); refine x_load_ep_one tbOk rfl rfl rfl ?_) | ((with_reducible refine k_pick ?_); refine m_pickf rfl (by first | rfl | assumption) rfl ?_) | ((with_reducible refine k_indexAddr ?_); refine x_indexAddr_n tbOk rfl rfl rfl rfl (by assumption) ?_) | ((with_reducible refine k_index ?_); refine x_index rfl rfl (by assumption) ?_) | ((with_reducible refine k_call ?_); refine x_len_str (by exact Tryd.underlying9) rfl ?_) | ((with_reducible refine k_bin ?_); refine x_sub_in rfl rfl (by omega) ?_) | ((with_reducible refine k_bin ?_); refine m_binI rfl rfl rfl ?_)  | refine e_drw (by kernel_rfl) ?_ | refine x_none rfl ?_ | refine x_run_f rfl rfl (by first | rfl | assumption) ?_ | with_reducible refine q_then ?_ )
  refine w_cond rfl (fun h => ?_) (fun h => ?_)
  · have hc : ¬ ch = 58 := by
      rintro rfl
      simp at h
    have hT : timeW (l2 ++ [ch]) = none := by unfold timeW; rw [if_neg (fun e => hc (by simpa using e.1))]
    have hN : readW W = none := by rw [hR, hT]
    unfold parseW
    rw [hN]
    repeat (first | ((with_reducible refine k_assign ?_); refine m_assign rfl ?_) | ((with_reducible refine k_store ?_); refine m_store tbOk rfl rfl rfl rfl rfl rfl rfl (Nat.le_of_ble_eq_true rfl) rfl ?_) | ((with_reducible refine k_build ?_); refine m_build tbOk rfl rfl rfl rfl rfl ?_)  | refine e_nrm ?_ | refine x_none rfl ?_ | with_reducible refine q_then ?_ | with_reducible refine q_then_ret ?_ | with_reducible refine awp_seq ?_ | with_reducible refine awp_ret ?_ | ((with_reducible refine w_region ?_ ?_); kernel_rfl))
    refine ret0_ct (by first | exact .inr rfl | exact .inl rfl) rfl rfl rfl rfl rfl rfl ?_
    repeat' (first | exact trivial | exact Ren.v _ | exact Ren.sl _ _ | exact Ren.ep _ | exact Ren.ptr _ _ _ _ rfl | exact Ren.bs _ _ _ _ _ rfl | exact Ren.nil _ | exact Ren.own _ _ _ _ ⟨_, rfl⟩ | refine ren_ag ?_ | refine ren_tu ?_ | refine ren_fn ?_ | refine ⟨?_, ?_⟩)
  have hc : ch = 58 := by
    have h1 : (ch.toNat : Int) = 58 := by simpa using h
    have h2 : ch.toNat = (58 : UInt8).toNat := by
      have : (58 : UInt8).toNat = 58 := rfl
      omega
    exact UInt8.toNat_inj.1 h2
  subst hc
  have hpa := rparse_A (G := X.G) (strL l2) (by rw [strL_size]; unfold maxLen; omega)
  rw [strL_data] at hpa
  have hext : (strL (l2 ++ [58])).extract (0 : Int).toNat (((strL (l2 ++ [58])).size : Int) - 1).toNat = strL l2 := by
    refine ba_ext2 ?_
    rw [ba_sub, hsz, show (((l2.length + 1 : Nat) : Int) - 1).toNat = l2.length by omega]
    simp [strL]
  rw [← hext] at hpa
  repeat (first | ((with_reducible refine k_move ?_); refine m_move rfl ?_) | ((with_reducible refine k_load ?_); refine x_load_ep_one tbOk rfl rfl rfl ?_) | ((with_reducible refine k_indexAddr ?_); refine x_indexAddr_n tbOk rfl rfl rfl rfl (by assumption) ?_) | ((with_reducible refine k_slice ?_); refine x_sliceS (by exact Tryd.underlying9) rfl rfl rfl (by refine ⟨?_, ?_, ?_⟩ <;> omega) ?_) | ((with_reducible refine k_call ?_); refine x_len_str (by exact Tryd.underlying9) rfl ?_) | ((with_reducible refine k_bin ?_); refine x_sub_in rfl rfl (by omega) ?_)  | refine x_none rfl ?_ | with_reducible refine q_then ?_ | with_reducible refine awp_seq ?_ | with_reducible refine awp_skip ?_ | ((with_reducible refine w_draw mixd ?_ ?_); kernel_rfl))
  refine x_call0 (hpa) (by repeat' (first | exact trivial | exact Ren.v _ | exact Ren.sl _ _ | exact Ren.ep _ | exact Ren.ptr _ _ _ _ rfl | exact Ren.bs _ _ _ _ _ rfl | exact Ren.nil _ | exact Ren.own _ _ _ _ ⟨_, rfl⟩ | refine ren_ag ?_ | refine ren_tu ?_ | refine ren_fn ?_ | refine ⟨?_, ?_⟩)) (by repeat' (first | exact trivial | exact RenB.v _ | exact RenB.sl _ _ | exact RenB.ep _ | exact RenB.ptr _ _ _ _ rfl | refine renb_ag ?_ | refine renb_tu ?_ | refine ⟨?_, ?_⟩)) ?_
  repeat (first | ((with_reducible refine k_move ?_); refine m_move rfl ?_) | ((with_reducible refine k_assign ?_); refine m_assign rfl ?_) | ((with_reducible refine k_extract ?_); refine x_extract rfl rfl ?_) | ((with_reducible refine k_bin ?_); refine m_binI rfl rfl rfl ?_)  | refine e_nrm ?_ | refine e_drw (by kernel_rfl) ?_ | refine x_none rfl ?_ | with_reducible refine q_then ?_ | with_reducible refine awp_seq ?_ | ((with_reducible refine w_region ?_ ?_); kernel_rfl))
  refine w_cond rfl (fun h => ?_) (fun h => ?_)
  · have h' : ¬ (parseP l2).2 = 0 := by simpa using h
    have hT : timeW (l2 ++ [58]) = none := by unfold timeW; rw [List.dropLast_concat, if_neg (fun e => h' e.2)]
    have hN : readW W = none := by rw [hR, hT]
    unfold parseW
    rw [hN]
    repeat (first | ((with_reducible refine k_assign ?_); refine m_assign rfl ?_) | ((with_reducible refine k_store ?_); refine m_store tbOk rfl rfl rfl rfl rfl rfl rfl (Nat.le_of_ble_eq_true rfl) rfl ?_) | ((with_reducible refine k_build ?_); refine m_build tbOk rfl rfl rfl rfl rfl ?_)  | refine e_nrm ?_ | refine x_none rfl ?_ | with_reducible refine q_then ?_ | with_reducible refine q_then_ret ?_ | with_reducible refine awp_seq ?_ | with_reducible refine awp_ret ?_ | ((with_reducible refine w_region ?_ ?_); kernel_rfl))
    refine ret0_ct (by first | exact .inr rfl | exact .inl rfl) rfl rfl rfl rfl rfl rfl ?_
    repeat' (first | exact trivial | exact Ren.v _ | exact Ren.sl _ _ | exact Ren.ep _ | exact Ren.ptr _ _ _ _ rfl | exact Ren.bs _ _ _ _ _ rfl | exact Ren.nil _ | exact Ren.own _ _ _ _ ⟨_, rfl⟩ | refine ren_ag ?_ | refine ren_tu ?_ | refine ren_fn ?_ | refine ⟨?_, ?_⟩)
  have c7 : (parseP l2).2 = 0 := by simpa using h
  have hT : timeW (l2 ++ [58]) = some (parseP l2).1 := by unfold timeW; rw [List.dropLast_concat, if_pos ⟨by simp, c7⟩]
  obtain ⟨t, ht⟩ : ∃ t, t = (parseP l2).1 := ⟨_, rfl⟩
  rw [← ht] at hT ⊢
  rw [hT] at hR
  simp only at hR
  repeat (first | ((with_reducible refine k_move ?_); refine m_move rfl ?_) | ((with_reducible refine k_assign ?_); refine m_assign rfl ?_) | ((with_reducible refine k_load ?_); refine x_load_ep_one tbOk rfl rfl rfl ?_) | ((with_reducible refine k_store ?_); refine m_store tbOk rfl rfl rfl rfl rfl rfl rfl (Nat.le_of_ble_eq_true rfl) rfl ?_) | ((with_reducible refine k_alloc ?_); refine x_alloc tbOk rfl rfl ?_) | ((with_reducible refine k_indexAddr ?_); refine x_indexAddr_n tbOk rfl rfl rfl rfl (by assumption) ?_) | ((with_reducible refine k_build ?_); refine m_build tbOk rfl rfl rfl rfl rfl ?_)  | refine e_nrm ?_ | refine x_none rfl ?_ | with_reducible refine q_then ?_ | with_reducible refine awp_seq ?_ | with_reducible refine awp_block ?_ | with_reducible refine awp_skip ?_ | ((with_reducible refine w_region ?_ ?_); kernel_rfl))
  refine awp_own_at (s := 162) 36 5 [] [(10, [.v (.string (strL w0)), .v (.int .i64 t), .own 162 1])] rfl trivial ⟨⟨_, _, rfl, .same (.same (.hit .nil))⟩, trivial⟩ ?_
  refine awp_loop (ι := Nat × List Rp × List (List UInt8)) (fun q => 3 + 3 * q.1 ≤ W.length ∧ q.2.1.length = q.1 ∧ q.2.2.length = q.1 ∧ readT t (W.drop 3) = (readT t (W.drop (3 + 3 * q.1))).map (fun z => (q.2.1 ++ z.1, q.2.2 ++ z.2))) (fun q => W.length - q.1) (fun v q => [(2, .ptr 2 (v 2) 0), (4, .ptr 4 (v 4) 0), (7, .sl 1 (W.map svL)), (8, .v (.int .i64 t)), (10, .ptr 10 (v 10) 0), (11, .v (.bool (knB V q.2.2))), (12, .v (.int .i64 ((3 + 3 * q.1 : Nat) : Int)))]) (fun v q => [(2, .box [.sl 3 (N.map Nd.av), .sl 5 (V.map Dv.av)]), (4, .box [.v (.string ByteArray.empty), .v (.int .i64 0), .v (.slice none 0 0)]), (10, .box [.v (.string (strL w0)), .v (.int .i64 t), .own 162 (v 162)]), (162, .buf 36 5 ((zipD V q.2.1 q.2.2).map Rp.av))]) ?_ ?_
  · exact ⟨(0, [], []), ⟨by simp; omega, rfl, rfl, by simp⟩, trivial, ⟨rfl, rfl, rfl, rfl, rfl, rfl, rfl, trivial⟩, ⟨rfl, rfl, rfl, rfl, trivial⟩⟩
  rintro v ⟨k, D, Ns⟩ ⟨hk, hD, hNs, hf⟩
  simp only at hk hD hNs hf
  dsimp only
  have hmD : ((zipD V D Ns).map Rp.av).length = k := by rw [List.length_map, zipD_len V (by omega), hD]
  repeat (first | ((with_reducible refine k_move ?_); refine m_move rfl ?_) | ((with_reducible refine k_call ?_); refine x_len tbOk rfl rfl ?_) | ((with_reducible refine k_bin ?_); refine m_binI rfl rfl rfl ?_)  | refine e_nrm ?_ | refine x_none rfl ?_ | with_reducible refine q_then ?_ | with_reducible refine awp_seq ?_ | ((with_reducible refine w_region ?_ ?_); kernel_rfl))
  refine w_cond rfl (fun h => ?_) (fun h => ?_)
  · have hlt : 3 + 3 * k < W.length := by simp at h; omega
    obtain ⟨a, ha⟩ := some_at (L := W) (k := 3 + 3 * k) (by omega)
    obtain ⟨b, hb⟩ := some_at (L := W) (k := 3 + 3 * k + 1) (by omega)
    obtain ⟨c, hc⟩ := some_at (L := W) (k := 3 + 3 * k + 2) (by omega)
    have hdr : W.drop (3 + 3 * k) = a :: b :: c :: W.drop (3 + 3 * (k + 1)) := by
      rw [drop_at ha, drop_at hb, drop_at hc]; rfl
    rw [hdr] at hf
    have ya : (W.map svL)[(((3 + 3 * k : Nat) : Int)).toNat]? = some (svL a) := by rw [Int.toNat_natCast]; exact sv_at ha
    have yb : (W.map svL)[(((3 + 3 * k : Nat) : Int) + 1).toNat]? = some (svL b) := by rw [show (((3 + 3 * k : Nat) : Int) + 1).toNat = 3 + 3 * k + 1 by omega]; exact sv_at hb
    have yc : (W.map svL)[(((3 + 3 * k : Nat) : Int) + 2).toNat]? = some (svL c) := by rw [show (((3 + 3 * k : Nat) : Int) + 2).toNat = 3 + 3 * k + 2 by omega]; exact sv_at hc
    have ya2 : (W.map svL)[3 + 3 * k]? = some (svL a) := sv_at ha
    have hna := rname_A (G := X.G) (strL a) (by rw [strL_size]; have := hwm a (List.mem_of_getElem? ha); unfold maxLen; omega)
    rw [strL_data] at hna
    have hd : devF N V (strL a) = devI a 0 V := by unfold devF; rw [if_neg (by simp [h0]), strL_data]
    have hrd := rdev_A (G := X.G) N V (strL a) ok
    rw [hd] at hrd
    have k1 : strEq (strL b) ⟨#[99, 108, 111, 115, 101, 100]⟩ = decide (b = closedL) := strEq_c _ _
    have k2 : strEq (strL b) ⟨#[111, 112, 101, 110]⟩ = decide (b = openL) := strEq_c _ _
    have k3 : strEq (strL c) ⟨#[115, 101, 101, 110, 59]⟩ = decide (c = seenL) := strEq_c _ _
    have k4 : strEq (strL c) ⟨#[116, 111, 108, 100, 59]⟩ = decide (c = toldL) := strEq_c _ _
    repeat (first | ((with_reducible refine k_move ?_); refine m_move rfl ?_) | ((with_reducible refine k_load ?_); refine x_load_ep_one tbOk rfl rfl rfl ?_) | ((with_reducible refine k_indexAddr ?_); refine x_indexAddr_n tbOk rfl rfl rfl rfl (by assumption) ?_)  | refine x_none rfl ?_ | with_reducible refine q_then ?_ | with_reducible refine awp_seq ?_ | with_reducible refine awp_block ?_ | with_reducible refine awp_skip ?_ | ((with_reducible refine w_region ?_ ?_); kernel_rfl))
    refine x_call0 (hna) (by repeat' (first | exact trivial | exact Ren.v _ | exact Ren.sl _ _ | exact Ren.ep _ | exact Ren.ptr _ _ _ _ rfl | exact Ren.bs _ _ _ _ _ rfl | exact Ren.nil _ | exact Ren.own _ _ _ _ ⟨_, rfl⟩ | refine ren_ag ?_ | refine ren_tu ?_ | refine ren_fn ?_ | refine ⟨?_, ?_⟩)) (by repeat' (first | exact trivial | exact RenB.v _ | exact RenB.sl _ _ | exact RenB.ep _ | exact RenB.ptr _ _ _ _ rfl | refine renb_ag ?_ | refine renb_tu ?_ | refine ⟨?_, ?_⟩)) ?_
    by_cases na : nameB a = true
    · have na' := bnot_t na
      have hb3 : (b = openL ∨ b = closedL) ∨ (¬ b = openL ∧ ¬ b = closedL) := by by_cases p : b = openL <;> by_cases q : b = closedL <;> simp [p, q]
      have hc3 : (c = seenL ∨ c = toldL) ∨ (¬ c = seenL ∧ ¬ c = toldL) := by by_cases p : c = seenL <;> by_cases q : c = toldL <;> simp [p, q]
      rcases hb3 with (hb1 | hb1) | hb1
      · have f1 : strEq (strL b) ⟨#[99, 108, 111, 115, 101, 100]⟩ = false := by rw [k1, hb1]; decide
        have f2 : strEq (strL b) ⟨#[111, 112, 101, 110]⟩ = true := by rw [k2, hb1]; decide
        have f1' := bnot_f f1
        have f2' := bnot_t f2
        rcases hc3 with (hc1 | hc1) | hc1
        · have f3 : strEq (strL c) ⟨#[115, 101, 101, 110, 59]⟩ = true := by rw [k3, hc1]; decide
          have f4 : strEq (strL c) ⟨#[116, 111, 108, 100, 59]⟩ = false := by rw [k4, hc1]; decide
          have f3' := bnot_t f3
          have f4' := bnot_f f4
          have hyes : repOk a b c = true := rep_yes na (.inl hb1) (.inl hc1)
          have eR : (setD V (rpOf t b c) a).av = .ag [.v (.int .i64 (devI a 0 V)), .v (.int .i64 1), .v (.int .i64 2), .v (.int .i64 t), .v (.bool (strEq (strL c) ⟨#[116, 111, 108, 100, 59]⟩))] := by
            rw [k4]
            unfold setD rpOf
            rw [if_neg (by rw [hb1]; decide)]; rfl
          repeat (first | ((with_reducible refine k_move ?_); refine m_move rfl ?_) | ((with_reducible refine k_load ?_); refine x_load_agg tbOk rfl rfl rfl rfl (Nat.le_of_ble_eq_true rfl) ?_) | ((with_reducible refine k_load ?_); refine x_load_ep_one tbOk rfl rfl rfl ?_) | ((with_reducible refine k_un ?_); refine x_not rfl ?_) | ((with_reducible refine k_pick ?_); refine m_pickf rfl (by first | rfl | assumption) rfl ?_) | ((with_reducible refine k_indexAddr ?_); refine x_indexAddr_n tbOk rfl rfl rfl rfl (by assumption) ?_) | ((with_reducible refine k_bin ?_); refine x_add_in rfl rfl (by omega) ?_) | ((with_reducible refine k_bin ?_); refine m_binS rfl rfl rfl ?_)  | refine e_nrm ?_ | refine x_none rfl ?_ | refine x_skip_t rfl rfl (by first | rfl | assumption) ?_ | refine x_run_f rfl rfl (by first | rfl | assumption) ?_ | with_reducible refine q_then ?_ | with_reducible refine awp_seq ?_ | with_reducible refine awp_skip ?_ | ((with_reducible refine w_draw mixd ?_ ?_); kernel_rfl) | refine w_cond_f rfl (by first | rfl | assumption) ?_)
          refine x_call0 (hrd) (by repeat' (first | exact trivial | exact Ren.v _ | exact Ren.sl _ _ | exact Ren.ep _ | exact Ren.ptr _ _ _ _ rfl | exact Ren.bs _ _ _ _ _ rfl | exact Ren.nil _ | exact Ren.own _ _ _ _ ⟨_, rfl⟩ | refine ren_ag ?_ | refine ren_tu ?_ | refine ren_fn ?_ | refine ⟨?_, ?_⟩)) (by repeat' (first | exact trivial | exact RenB.v _ | exact RenB.sl _ _ | exact RenB.ep _ | exact RenB.ptr _ _ _ _ rfl | refine renb_ag ?_ | refine renb_tu ?_ | refine ⟨?_, ?_⟩)) ?_
          repeat (first | ((with_reducible refine k_move ?_); refine m_move rfl ?_) | ((with_reducible refine k_load ?_); refine x_load_ep_one tbOk rfl rfl rfl ?_) | ((with_reducible refine k_store ?_); refine m_store tbOk rfl rfl rfl rfl rfl rfl rfl (Nat.le_of_ble_eq_true rfl) rfl ?_) | ((with_reducible refine k_alloc ?_); refine x_alloc tbOk rfl rfl ?_) | ((with_reducible refine k_indexAddr ?_); refine x_indexAddr_n tbOk rfl rfl rfl rfl (by assumption) ?_) | ((with_reducible refine k_build ?_); refine m_build tbOk rfl rfl rfl rfl rfl ?_) | ((with_reducible refine k_bin ?_); refine x_add_in rfl rfl (by omega) ?_) | ((with_reducible refine k_bin ?_); refine m_binS rfl rfl rfl ?_)  | refine e_nrm ?_ | refine e_drw (by kernel_rfl) ?_ | refine x_none rfl ?_ | with_reducible refine q_then ?_ | with_reducible refine awp_seq ?_ | with_reducible refine awp_skip ?_ | ((with_reducible refine w_region ?_ ?_); kernel_rfl) | refine w_cond_f rfl (by first | rfl | assumption) ?_)
          refine x_split rfl rfl (fun q1 => ?_) (fun q1 => ?_)
          · repeat (first | ((with_reducible refine k_assign ?_); refine m_assign rfl ?_) | ((with_reducible refine k_fieldAddr ?_); refine x_fieldAddr_ptr tbOk rfl rfl rfl rfl ?_) | ((with_reducible refine k_load ?_); refine x_load_one tbOk rfl rfl rfl rfl rfl ?_) | ((with_reducible refine k_load ?_); refine x_load_agg tbOk rfl rfl rfl rfl (Nat.le_of_ble_eq_true rfl) ?_) | ((with_reducible refine k_pick ?_); refine m_pickt rfl (by first | rfl | assumption) rfl ?_) | ((with_reducible refine k_bin ?_); refine m_binI rfl rfl rfl ?_) | ((with_reducible refine k_buildSlice ?_); refine m_buildSlice tbOk rfl rfl rfl rfl rfl (by omega) rfl rfl rfl ?_) | refine e_nrm ?_ | refine x_none rfl ?_ | refine x_run_t rfl rfl (by first | rfl | assumption) ?_ | with_reducible refine q_then ?_ | ((with_reducible refine w_region ?_ ?_); kernel_rfl))
            refine x_append_own tbOk rfl rfl rfl rfl rfl (by decide) rfl rfl rfl rfl rfl (fun x hx => by simp at hx; subst hx; rfl) (by rw [hmD]; simp only [List.length_map, List.length_cons, List.length_nil]; omega) (by rw [hmD]; simp only [List.length_map, List.length_cons, List.length_nil]; omega) ?_
            repeat (first | ((with_reducible refine k_move ?_); refine m_move rfl ?_) | ((with_reducible refine k_assign ?_); refine m_assign rfl ?_) | ((with_reducible refine k_fieldAddr ?_); refine x_fieldAddr_ptr tbOk rfl rfl rfl rfl ?_) | ((with_reducible refine k_store ?_); refine m_store tbOk rfl rfl rfl rfl rfl rfl rfl (Nat.le_of_ble_eq_true rfl) rfl ?_) | ((with_reducible refine k_bin ?_); refine x_add_in rfl rfl (by omega) ?_)  | refine e_nrm ?_ | refine x_none rfl ?_ | with_reducible refine q_then ?_ | with_reducible refine q_block ?_ | ((with_reducible refine w_region ?_ ?_); kernel_rfl))
            exact ⟨(k + 1, D ++ [rpOf t b c], Ns ++ [a]), ⟨by simp only; omega, by simp [hD], by simp [hNs], readT_map t hyes hf⟩, by simp only; omega, ⟨rfl, rfl, rfl, rfl, rfl, congrArg (fun z : Bool => AV.v (.bool z)) (by unfold knB at q1 ⊢; rw [List.all_append, q1]; simp), congrArg (fun z : Int => AV.v (.int .i64 z)) (by simp only; omega), trivial⟩, ⟨rfl, rfl, rfl, hc_buf (Eq.trans (congrArg (fun x => (zipD V D Ns).map Rp.av ++ [x]) eR.symm) (by simp only; rw [zipD_snoc V _ _ (by omega), List.map_append]; rfl)), trivial⟩⟩
          · repeat (first | ((with_reducible refine k_assign ?_); refine m_assign rfl ?_) | ((with_reducible refine k_fieldAddr ?_); refine x_fieldAddr_ptr tbOk rfl rfl rfl rfl ?_) | ((with_reducible refine k_load ?_); refine x_load_one tbOk rfl rfl rfl rfl rfl ?_) | ((with_reducible refine k_load ?_); refine x_load_agg tbOk rfl rfl rfl rfl (Nat.le_of_ble_eq_true rfl) ?_) | ((with_reducible refine k_pick ?_); refine m_pickf rfl (by first | rfl | assumption) rfl ?_) | ((with_reducible refine k_buildSlice ?_); refine m_buildSlice tbOk rfl rfl rfl rfl rfl (by omega) rfl rfl rfl ?_) | refine e_nrm ?_ | refine x_none rfl ?_ | refine x_skip_t rfl rfl (by first | rfl | assumption) ?_ | with_reducible refine q_then ?_ | ((with_reducible refine w_region ?_ ?_); kernel_rfl))
            refine x_append_own tbOk rfl rfl rfl rfl rfl (by decide) rfl rfl rfl rfl rfl (fun x hx => by simp at hx; subst hx; rfl) (by rw [hmD]; simp only [List.length_map, List.length_cons, List.length_nil]; omega) (by rw [hmD]; simp only [List.length_map, List.length_cons, List.length_nil]; omega) ?_
            repeat (first | ((with_reducible refine k_move ?_); refine m_move rfl ?_) | ((with_reducible refine k_assign ?_); refine m_assign rfl ?_) | ((with_reducible refine k_fieldAddr ?_); refine x_fieldAddr_ptr tbOk rfl rfl rfl rfl ?_) | ((with_reducible refine k_store ?_); refine m_store tbOk rfl rfl rfl rfl rfl rfl rfl (Nat.le_of_ble_eq_true rfl) rfl ?_) | ((with_reducible refine k_bin ?_); refine x_add_in rfl rfl (by omega) ?_)  | refine e_nrm ?_ | refine x_none rfl ?_ | with_reducible refine q_then ?_ | with_reducible refine q_block ?_ | ((with_reducible refine w_region ?_ ?_); kernel_rfl))
            exact ⟨(k + 1, D ++ [rpOf t b c], Ns ++ [a]), ⟨by simp only; omega, by simp [hD], by simp [hNs], readT_map t hyes hf⟩, by simp only; omega, ⟨rfl, rfl, rfl, rfl, rfl, congrArg (fun z : Bool => AV.v (.bool z)) (by unfold knB at q1 ⊢; rw [List.all_append, q1]; simp), congrArg (fun z : Int => AV.v (.int .i64 z)) (by simp only; omega), trivial⟩, ⟨rfl, rfl, rfl, hc_buf (Eq.trans (congrArg (fun x => (zipD V D Ns).map Rp.av ++ [x]) eR.symm) (by simp only; rw [zipD_snoc V _ _ (by omega), List.map_append]; rfl)), trivial⟩⟩
        · have f3 : strEq (strL c) ⟨#[115, 101, 101, 110, 59]⟩ = false := by rw [k3, hc1]; decide
          have f4 : strEq (strL c) ⟨#[116, 111, 108, 100, 59]⟩ = true := by rw [k4, hc1]; decide
          have f3' := bnot_f f3
          have f4' := bnot_t f4
          have hyes : repOk a b c = true := rep_yes na (.inl hb1) (.inr hc1)
          have eR : (setD V (rpOf t b c) a).av = .ag [.v (.int .i64 (devI a 0 V)), .v (.int .i64 1), .v (.int .i64 2), .v (.int .i64 t), .v (.bool (strEq (strL c) ⟨#[116, 111, 108, 100, 59]⟩))] := by
            rw [k4]
            unfold setD rpOf
            rw [if_neg (by rw [hb1]; decide)]; rfl
          repeat (first | ((with_reducible refine k_move ?_); refine m_move rfl ?_) | ((with_reducible refine k_load ?_); refine x_load_agg tbOk rfl rfl rfl rfl (Nat.le_of_ble_eq_true rfl) ?_) | ((with_reducible refine k_load ?_); refine x_load_ep_one tbOk rfl rfl rfl ?_) | ((with_reducible refine k_un ?_); refine x_not rfl ?_) | ((with_reducible refine k_pick ?_); refine m_pickt rfl (by first | rfl | assumption) rfl ?_) | ((with_reducible refine k_pick ?_); refine m_pickf rfl (by first | rfl | assumption) rfl ?_) | ((with_reducible refine k_indexAddr ?_); refine x_indexAddr_n tbOk rfl rfl rfl rfl (by assumption) ?_) | ((with_reducible refine k_bin ?_); refine x_add_in rfl rfl (by omega) ?_) | ((with_reducible refine k_bin ?_); refine m_binS rfl rfl rfl ?_)  | refine e_nrm ?_ | refine x_none rfl ?_ | refine x_run_t rfl rfl (by first | rfl | assumption) ?_ | refine x_skip_t rfl rfl (by first | rfl | assumption) ?_ | refine x_run_f rfl rfl (by first | rfl | assumption) ?_ | with_reducible refine q_then ?_ | with_reducible refine awp_seq ?_ | with_reducible refine awp_skip ?_ | ((with_reducible refine w_draw mixd ?_ ?_); kernel_rfl) | refine w_cond_f rfl (by first | rfl | assumption) ?_)
          refine x_call0 (hrd) (by repeat' (first | exact trivial | exact Ren.v _ | exact Ren.sl _ _ | exact Ren.ep _ | exact Ren.ptr _ _ _ _ rfl | exact Ren.bs _ _ _ _ _ rfl | exact Ren.nil _ | exact Ren.own _ _ _ _ ⟨_, rfl⟩ | refine ren_ag ?_ | refine ren_tu ?_ | refine ren_fn ?_ | refine ⟨?_, ?_⟩)) (by repeat' (first | exact trivial | exact RenB.v _ | exact RenB.sl _ _ | exact RenB.ep _ | exact RenB.ptr _ _ _ _ rfl | refine renb_ag ?_ | refine renb_tu ?_ | refine ⟨?_, ?_⟩)) ?_
          repeat (first | ((with_reducible refine k_move ?_); refine m_move rfl ?_) | ((with_reducible refine k_load ?_); refine x_load_ep_one tbOk rfl rfl rfl ?_) | ((with_reducible refine k_store ?_); refine m_store tbOk rfl rfl rfl rfl rfl rfl rfl (Nat.le_of_ble_eq_true rfl) rfl ?_) | ((with_reducible refine k_alloc ?_); refine x_alloc tbOk rfl rfl ?_) | ((with_reducible refine k_indexAddr ?_); refine x_indexAddr_n tbOk rfl rfl rfl rfl (by assumption) ?_) | ((with_reducible refine k_build ?_); refine m_build tbOk rfl rfl rfl rfl rfl ?_) | ((with_reducible refine k_bin ?_); refine x_add_in rfl rfl (by omega) ?_) | ((with_reducible refine k_bin ?_); refine m_binS rfl rfl rfl ?_)  | refine e_nrm ?_ | refine e_drw (by kernel_rfl) ?_ | refine x_none rfl ?_ | with_reducible refine q_then ?_ | with_reducible refine awp_seq ?_ | with_reducible refine awp_skip ?_ | ((with_reducible refine w_region ?_ ?_); kernel_rfl) | refine w_cond_f rfl (by first | rfl | assumption) ?_)
          refine x_split rfl rfl (fun q1 => ?_) (fun q1 => ?_)
          · repeat (first | ((with_reducible refine k_assign ?_); refine m_assign rfl ?_) | ((with_reducible refine k_fieldAddr ?_); refine x_fieldAddr_ptr tbOk rfl rfl rfl rfl ?_) | ((with_reducible refine k_load ?_); refine x_load_one tbOk rfl rfl rfl rfl rfl ?_) | ((with_reducible refine k_load ?_); refine x_load_agg tbOk rfl rfl rfl rfl (Nat.le_of_ble_eq_true rfl) ?_) | ((with_reducible refine k_pick ?_); refine m_pickt rfl (by first | rfl | assumption) rfl ?_) | ((with_reducible refine k_bin ?_); refine m_binI rfl rfl rfl ?_) | ((with_reducible refine k_buildSlice ?_); refine m_buildSlice tbOk rfl rfl rfl rfl rfl (by omega) rfl rfl rfl ?_) | refine e_nrm ?_ | refine x_none rfl ?_ | refine x_run_t rfl rfl (by first | rfl | assumption) ?_ | with_reducible refine q_then ?_ | ((with_reducible refine w_region ?_ ?_); kernel_rfl))
            refine x_append_own tbOk rfl rfl rfl rfl rfl (by decide) rfl rfl rfl rfl rfl (fun x hx => by simp at hx; subst hx; rfl) (by rw [hmD]; simp only [List.length_map, List.length_cons, List.length_nil]; omega) (by rw [hmD]; simp only [List.length_map, List.length_cons, List.length_nil]; omega) ?_
            repeat (first | ((with_reducible refine k_move ?_); refine m_move rfl ?_) | ((with_reducible refine k_assign ?_); refine m_assign rfl ?_) | ((with_reducible refine k_fieldAddr ?_); refine x_fieldAddr_ptr tbOk rfl rfl rfl rfl ?_) | ((with_reducible refine k_store ?_); refine m_store tbOk rfl rfl rfl rfl rfl rfl rfl (Nat.le_of_ble_eq_true rfl) rfl ?_) | ((with_reducible refine k_bin ?_); refine x_add_in rfl rfl (by omega) ?_)  | refine e_nrm ?_ | refine x_none rfl ?_ | with_reducible refine q_then ?_ | with_reducible refine q_block ?_ | ((with_reducible refine w_region ?_ ?_); kernel_rfl))
            exact ⟨(k + 1, D ++ [rpOf t b c], Ns ++ [a]), ⟨by simp only; omega, by simp [hD], by simp [hNs], readT_map t hyes hf⟩, by simp only; omega, ⟨rfl, rfl, rfl, rfl, rfl, congrArg (fun z : Bool => AV.v (.bool z)) (by unfold knB at q1 ⊢; rw [List.all_append, q1]; simp), congrArg (fun z : Int => AV.v (.int .i64 z)) (by simp only; omega), trivial⟩, ⟨rfl, rfl, rfl, hc_buf (Eq.trans (congrArg (fun x => (zipD V D Ns).map Rp.av ++ [x]) eR.symm) (by simp only; rw [zipD_snoc V _ _ (by omega), List.map_append]; rfl)), trivial⟩⟩
          · repeat (first | ((with_reducible refine k_assign ?_); refine m_assign rfl ?_) | ((with_reducible refine k_fieldAddr ?_); refine x_fieldAddr_ptr tbOk rfl rfl rfl rfl ?_) | ((with_reducible refine k_load ?_); refine x_load_one tbOk rfl rfl rfl rfl rfl ?_) | ((with_reducible refine k_load ?_); refine x_load_agg tbOk rfl rfl rfl rfl (Nat.le_of_ble_eq_true rfl) ?_) | ((with_reducible refine k_pick ?_); refine m_pickf rfl (by first | rfl | assumption) rfl ?_) | ((with_reducible refine k_buildSlice ?_); refine m_buildSlice tbOk rfl rfl rfl rfl rfl (by omega) rfl rfl rfl ?_) | refine e_nrm ?_ | refine x_none rfl ?_ | refine x_skip_t rfl rfl (by first | rfl | assumption) ?_ | with_reducible refine q_then ?_ | ((with_reducible refine w_region ?_ ?_); kernel_rfl))
            refine x_append_own tbOk rfl rfl rfl rfl rfl (by decide) rfl rfl rfl rfl rfl (fun x hx => by simp at hx; subst hx; rfl) (by rw [hmD]; simp only [List.length_map, List.length_cons, List.length_nil]; omega) (by rw [hmD]; simp only [List.length_map, List.length_cons, List.length_nil]; omega) ?_
            repeat (first | ((with_reducible refine k_move ?_); refine m_move rfl ?_) | ((with_reducible refine k_assign ?_); refine m_assign rfl ?_) | ((with_reducible refine k_fieldAddr ?_); refine x_fieldAddr_ptr tbOk rfl rfl rfl rfl ?_) | ((with_reducible refine k_store ?_); refine m_store tbOk rfl rfl rfl rfl rfl rfl rfl (Nat.le_of_ble_eq_true rfl) rfl ?_) | ((with_reducible refine k_bin ?_); refine x_add_in rfl rfl (by omega) ?_)  | refine e_nrm ?_ | refine x_none rfl ?_ | with_reducible refine q_then ?_ | with_reducible refine q_block ?_ | ((with_reducible refine w_region ?_ ?_); kernel_rfl))
            exact ⟨(k + 1, D ++ [rpOf t b c], Ns ++ [a]), ⟨by simp only; omega, by simp [hD], by simp [hNs], readT_map t hyes hf⟩, by simp only; omega, ⟨rfl, rfl, rfl, rfl, rfl, congrArg (fun z : Bool => AV.v (.bool z)) (by unfold knB at q1 ⊢; rw [List.all_append, q1]; simp), congrArg (fun z : Int => AV.v (.int .i64 z)) (by simp only; omega), trivial⟩, ⟨rfl, rfl, rfl, hc_buf (Eq.trans (congrArg (fun x => (zipD V D Ns).map Rp.av ++ [x]) eR.symm) (by simp only; rw [zipD_snoc V _ _ (by omega), List.map_append]; rfl)), trivial⟩⟩
        · have f3 : strEq (strL c) ⟨#[115, 101, 101, 110, 59]⟩ = false := by rw [k3]; simpa using hc1.1
          have f4 : strEq (strL c) ⟨#[116, 111, 108, 100, 59]⟩ = false := by rw [k4]; simpa using hc1.2
          have f3' := bnot_f f3
          have f4' := bnot_f f4
          have hN : readW W = none := by rw [hR, readT_bad t (rep_no (.inr (.inr hc1))) hf]
          unfold parseW
          rw [hN]
          repeat (first | ((with_reducible refine k_move ?_); refine m_move rfl ?_) | ((with_reducible refine k_assign ?_); refine m_assign rfl ?_) | ((with_reducible refine k_load ?_); refine x_load_ep_one tbOk rfl rfl rfl ?_) | ((with_reducible refine k_store ?_); refine m_store tbOk rfl rfl rfl rfl rfl rfl rfl (Nat.le_of_ble_eq_true rfl) rfl ?_) | ((with_reducible refine k_un ?_); refine x_not rfl ?_) | ((with_reducible refine k_pick ?_); refine m_pickt rfl (by first | rfl | assumption) rfl ?_) | ((with_reducible refine k_pick ?_); refine m_pickf rfl (by first | rfl | assumption) rfl ?_) | ((with_reducible refine k_indexAddr ?_); refine x_indexAddr_n tbOk rfl rfl rfl rfl (by assumption) ?_) | ((with_reducible refine k_build ?_); refine m_build tbOk rfl rfl rfl rfl rfl ?_) | ((with_reducible refine k_bin ?_); refine x_add_in rfl rfl (by omega) ?_) | ((with_reducible refine k_bin ?_); refine m_binS rfl rfl rfl ?_)  | refine e_nrm ?_ | refine x_none rfl ?_ | refine x_run_t rfl rfl (by first | rfl | assumption) ?_ | refine x_skip_t rfl rfl (by first | rfl | assumption) ?_ | refine x_run_f rfl rfl (by first | rfl | assumption) ?_ | with_reducible refine q_then ?_ | with_reducible refine q_then_ret ?_ | with_reducible refine q_block_ret ?_ | with_reducible refine awp_seq ?_ | with_reducible refine awp_ret ?_ | ((with_reducible refine w_region ?_ ?_); kernel_rfl) | refine w_cond_t rfl (by first | rfl | assumption) ?_)
          refine ret0_ct (by first | exact .inr rfl | exact .inl rfl) rfl rfl rfl rfl rfl rfl ?_
          repeat' (first | exact trivial | exact Ren.v _ | exact Ren.sl _ _ | exact Ren.ep _ | exact Ren.ptr _ _ _ _ rfl | exact Ren.bs _ _ _ _ _ rfl | exact Ren.nil _ | exact Ren.own _ _ _ _ ⟨_, rfl⟩ | refine ren_ag ?_ | refine ren_tu ?_ | refine ren_fn ?_ | refine ⟨?_, ?_⟩)
      · have f1 : strEq (strL b) ⟨#[99, 108, 111, 115, 101, 100]⟩ = true := by rw [k1, hb1]; decide
        have f2 : strEq (strL b) ⟨#[111, 112, 101, 110]⟩ = false := by rw [k2, hb1]; decide
        have f1' := bnot_t f1
        have f2' := bnot_f f2
        rcases hc3 with (hc1 | hc1) | hc1
        · have f3 : strEq (strL c) ⟨#[115, 101, 101, 110, 59]⟩ = true := by rw [k3, hc1]; decide
          have f4 : strEq (strL c) ⟨#[116, 111, 108, 100, 59]⟩ = false := by rw [k4, hc1]; decide
          have f3' := bnot_t f3
          have f4' := bnot_f f4
          have hyes : repOk a b c = true := rep_yes na (.inr hb1) (.inl hc1)
          have eR : (setD V (rpOf t b c) a).av = .ag [.v (.int .i64 (devI a 0 V)), .v (.int .i64 2), .v (.int .i64 2), .v (.int .i64 t), .v (.bool (strEq (strL c) ⟨#[116, 111, 108, 100, 59]⟩))] := by
            rw [k4]
            unfold setD rpOf
            rw [if_pos hb1]; rfl
          repeat (first | ((with_reducible refine k_move ?_); refine m_move rfl ?_) | ((with_reducible refine k_load ?_); refine x_load_agg tbOk rfl rfl rfl rfl (Nat.le_of_ble_eq_true rfl) ?_) | ((with_reducible refine k_load ?_); refine x_load_ep_one tbOk rfl rfl rfl ?_) | ((with_reducible refine k_un ?_); refine x_not rfl ?_) | ((with_reducible refine k_pick ?_); refine m_pickt rfl (by first | rfl | assumption) rfl ?_) | ((with_reducible refine k_pick ?_); refine m_pickf rfl (by first | rfl | assumption) rfl ?_) | ((with_reducible refine k_indexAddr ?_); refine x_indexAddr_n tbOk rfl rfl rfl rfl (by assumption) ?_) | ((with_reducible refine k_bin ?_); refine x_add_in rfl rfl (by omega) ?_) | ((with_reducible refine k_bin ?_); refine m_binS rfl rfl rfl ?_)  | refine e_nrm ?_ | refine x_none rfl ?_ | refine x_run_t rfl rfl (by first | rfl | assumption) ?_ | refine x_skip_t rfl rfl (by first | rfl | assumption) ?_ | refine x_run_f rfl rfl (by first | rfl | assumption) ?_ | with_reducible refine q_then ?_ | with_reducible refine awp_seq ?_ | with_reducible refine awp_skip ?_ | ((with_reducible refine w_draw mixd ?_ ?_); kernel_rfl) | refine w_cond_f rfl (by first | rfl | assumption) ?_)
          refine x_call0 (hrd) (by repeat' (first | exact trivial | exact Ren.v _ | exact Ren.sl _ _ | exact Ren.ep _ | exact Ren.ptr _ _ _ _ rfl | exact Ren.bs _ _ _ _ _ rfl | exact Ren.nil _ | exact Ren.own _ _ _ _ ⟨_, rfl⟩ | refine ren_ag ?_ | refine ren_tu ?_ | refine ren_fn ?_ | refine ⟨?_, ?_⟩)) (by repeat' (first | exact trivial | exact RenB.v _ | exact RenB.sl _ _ | exact RenB.ep _ | exact RenB.ptr _ _ _ _ rfl | refine renb_ag ?_ | refine renb_tu ?_ | refine ⟨?_, ?_⟩)) ?_
          repeat (first | ((with_reducible refine k_move ?_); refine m_move rfl ?_) | ((with_reducible refine k_fieldAddr ?_); refine x_fieldAddr_ptr tbOk rfl rfl rfl rfl ?_) | ((with_reducible refine k_load ?_); refine x_load_ep_one tbOk rfl rfl rfl ?_) | ((with_reducible refine k_store ?_); refine m_store tbOk rfl rfl rfl rfl rfl rfl rfl (Nat.le_of_ble_eq_true rfl) rfl ?_) | ((with_reducible refine k_alloc ?_); refine x_alloc tbOk rfl rfl ?_) | ((with_reducible refine k_indexAddr ?_); refine x_indexAddr_n tbOk rfl rfl rfl rfl (by assumption) ?_) | ((with_reducible refine k_build ?_); refine m_build tbOk rfl rfl rfl rfl rfl ?_) | ((with_reducible refine k_bin ?_); refine x_add_in rfl rfl (by omega) ?_) | ((with_reducible refine k_bin ?_); refine m_binS rfl rfl rfl ?_)  | refine e_nrm ?_ | refine e_drw (by kernel_rfl) ?_ | refine x_none rfl ?_ | with_reducible refine q_then ?_ | with_reducible refine awp_seq ?_ | ((with_reducible refine w_region ?_ ?_); kernel_rfl) | refine w_cond_t rfl (by first | rfl | assumption) ?_)
          refine x_split rfl rfl (fun q1 => ?_) (fun q1 => ?_)
          · repeat (first | ((with_reducible refine k_assign ?_); refine m_assign rfl ?_) | ((with_reducible refine k_fieldAddr ?_); refine x_fieldAddr_ptr tbOk rfl rfl rfl rfl ?_) | ((with_reducible refine k_load ?_); refine x_load_one tbOk rfl rfl rfl rfl rfl ?_) | ((with_reducible refine k_load ?_); refine x_load_agg tbOk rfl rfl rfl rfl (Nat.le_of_ble_eq_true rfl) ?_) | ((with_reducible refine k_pick ?_); refine m_pickt rfl (by first | rfl | assumption) rfl ?_) | ((with_reducible refine k_bin ?_); refine m_binI rfl rfl rfl ?_) | ((with_reducible refine k_buildSlice ?_); refine m_buildSlice tbOk rfl rfl rfl rfl rfl (by omega) rfl rfl rfl ?_) | refine e_nrm ?_ | refine x_none rfl ?_ | refine x_run_t rfl rfl (by first | rfl | assumption) ?_ | with_reducible refine q_then ?_ | ((with_reducible refine w_region ?_ ?_); kernel_rfl))
            refine x_append_own tbOk rfl rfl rfl rfl rfl (by decide) rfl rfl rfl rfl rfl (fun x hx => by simp at hx; subst hx; rfl) (by rw [hmD]; simp only [List.length_map, List.length_cons, List.length_nil]; omega) (by rw [hmD]; simp only [List.length_map, List.length_cons, List.length_nil]; omega) ?_
            repeat (first | ((with_reducible refine k_move ?_); refine m_move rfl ?_) | ((with_reducible refine k_assign ?_); refine m_assign rfl ?_) | ((with_reducible refine k_fieldAddr ?_); refine x_fieldAddr_ptr tbOk rfl rfl rfl rfl ?_) | ((with_reducible refine k_store ?_); refine m_store tbOk rfl rfl rfl rfl rfl rfl rfl (Nat.le_of_ble_eq_true rfl) rfl ?_) | ((with_reducible refine k_bin ?_); refine x_add_in rfl rfl (by omega) ?_)  | refine e_nrm ?_ | refine x_none rfl ?_ | with_reducible refine q_then ?_ | with_reducible refine q_block ?_ | ((with_reducible refine w_region ?_ ?_); kernel_rfl))
            exact ⟨(k + 1, D ++ [rpOf t b c], Ns ++ [a]), ⟨by simp only; omega, by simp [hD], by simp [hNs], readT_map t hyes hf⟩, by simp only; omega, ⟨rfl, rfl, rfl, rfl, rfl, congrArg (fun z : Bool => AV.v (.bool z)) (by unfold knB at q1 ⊢; rw [List.all_append, q1]; simp), congrArg (fun z : Int => AV.v (.int .i64 z)) (by simp only; omega), trivial⟩, ⟨rfl, rfl, rfl, hc_buf (Eq.trans (congrArg (fun x => (zipD V D Ns).map Rp.av ++ [x]) eR.symm) (by simp only; rw [zipD_snoc V _ _ (by omega), List.map_append]; rfl)), trivial⟩⟩
          · repeat (first | ((with_reducible refine k_assign ?_); refine m_assign rfl ?_) | ((with_reducible refine k_fieldAddr ?_); refine x_fieldAddr_ptr tbOk rfl rfl rfl rfl ?_) | ((with_reducible refine k_load ?_); refine x_load_one tbOk rfl rfl rfl rfl rfl ?_) | ((with_reducible refine k_load ?_); refine x_load_agg tbOk rfl rfl rfl rfl (Nat.le_of_ble_eq_true rfl) ?_) | ((with_reducible refine k_pick ?_); refine m_pickf rfl (by first | rfl | assumption) rfl ?_) | ((with_reducible refine k_buildSlice ?_); refine m_buildSlice tbOk rfl rfl rfl rfl rfl (by omega) rfl rfl rfl ?_) | refine e_nrm ?_ | refine x_none rfl ?_ | refine x_skip_t rfl rfl (by first | rfl | assumption) ?_ | with_reducible refine q_then ?_ | ((with_reducible refine w_region ?_ ?_); kernel_rfl))
            refine x_append_own tbOk rfl rfl rfl rfl rfl (by decide) rfl rfl rfl rfl rfl (fun x hx => by simp at hx; subst hx; rfl) (by rw [hmD]; simp only [List.length_map, List.length_cons, List.length_nil]; omega) (by rw [hmD]; simp only [List.length_map, List.length_cons, List.length_nil]; omega) ?_
            repeat (first | ((with_reducible refine k_move ?_); refine m_move rfl ?_) | ((with_reducible refine k_assign ?_); refine m_assign rfl ?_) | ((with_reducible refine k_fieldAddr ?_); refine x_fieldAddr_ptr tbOk rfl rfl rfl rfl ?_) | ((with_reducible refine k_store ?_); refine m_store tbOk rfl rfl rfl rfl rfl rfl rfl (Nat.le_of_ble_eq_true rfl) rfl ?_) | ((with_reducible refine k_bin ?_); refine x_add_in rfl rfl (by omega) ?_)  | refine e_nrm ?_ | refine x_none rfl ?_ | with_reducible refine q_then ?_ | with_reducible refine q_block ?_ | ((with_reducible refine w_region ?_ ?_); kernel_rfl))
            exact ⟨(k + 1, D ++ [rpOf t b c], Ns ++ [a]), ⟨by simp only; omega, by simp [hD], by simp [hNs], readT_map t hyes hf⟩, by simp only; omega, ⟨rfl, rfl, rfl, rfl, rfl, congrArg (fun z : Bool => AV.v (.bool z)) (by unfold knB at q1 ⊢; rw [List.all_append, q1]; simp), congrArg (fun z : Int => AV.v (.int .i64 z)) (by simp only; omega), trivial⟩, ⟨rfl, rfl, rfl, hc_buf (Eq.trans (congrArg (fun x => (zipD V D Ns).map Rp.av ++ [x]) eR.symm) (by simp only; rw [zipD_snoc V _ _ (by omega), List.map_append]; rfl)), trivial⟩⟩
        · have f3 : strEq (strL c) ⟨#[115, 101, 101, 110, 59]⟩ = false := by rw [k3, hc1]; decide
          have f4 : strEq (strL c) ⟨#[116, 111, 108, 100, 59]⟩ = true := by rw [k4, hc1]; decide
          have f3' := bnot_f f3
          have f4' := bnot_t f4
          have hyes : repOk a b c = true := rep_yes na (.inr hb1) (.inr hc1)
          have eR : (setD V (rpOf t b c) a).av = .ag [.v (.int .i64 (devI a 0 V)), .v (.int .i64 2), .v (.int .i64 2), .v (.int .i64 t), .v (.bool (strEq (strL c) ⟨#[116, 111, 108, 100, 59]⟩))] := by
            rw [k4]
            unfold setD rpOf
            rw [if_pos hb1]; rfl
          repeat (first | ((with_reducible refine k_move ?_); refine m_move rfl ?_) | ((with_reducible refine k_load ?_); refine x_load_agg tbOk rfl rfl rfl rfl (Nat.le_of_ble_eq_true rfl) ?_) | ((with_reducible refine k_load ?_); refine x_load_ep_one tbOk rfl rfl rfl ?_) | ((with_reducible refine k_un ?_); refine x_not rfl ?_) | ((with_reducible refine k_pick ?_); refine m_pickt rfl (by first | rfl | assumption) rfl ?_) | ((with_reducible refine k_pick ?_); refine m_pickf rfl (by first | rfl | assumption) rfl ?_) | ((with_reducible refine k_indexAddr ?_); refine x_indexAddr_n tbOk rfl rfl rfl rfl (by assumption) ?_) | ((with_reducible refine k_bin ?_); refine x_add_in rfl rfl (by omega) ?_) | ((with_reducible refine k_bin ?_); refine m_binS rfl rfl rfl ?_)  | refine e_nrm ?_ | refine x_none rfl ?_ | refine x_run_t rfl rfl (by first | rfl | assumption) ?_ | refine x_run_f rfl rfl (by first | rfl | assumption) ?_ | with_reducible refine q_then ?_ | with_reducible refine awp_seq ?_ | with_reducible refine awp_skip ?_ | ((with_reducible refine w_draw mixd ?_ ?_); kernel_rfl) | refine w_cond_f rfl (by first | rfl | assumption) ?_)
          refine x_call0 (hrd) (by repeat' (first | exact trivial | exact Ren.v _ | exact Ren.sl _ _ | exact Ren.ep _ | exact Ren.ptr _ _ _ _ rfl | exact Ren.bs _ _ _ _ _ rfl | exact Ren.nil _ | exact Ren.own _ _ _ _ ⟨_, rfl⟩ | refine ren_ag ?_ | refine ren_tu ?_ | refine ren_fn ?_ | refine ⟨?_, ?_⟩)) (by repeat' (first | exact trivial | exact RenB.v _ | exact RenB.sl _ _ | exact RenB.ep _ | exact RenB.ptr _ _ _ _ rfl | refine renb_ag ?_ | refine renb_tu ?_ | refine ⟨?_, ?_⟩)) ?_
          repeat (first | ((with_reducible refine k_move ?_); refine m_move rfl ?_) | ((with_reducible refine k_fieldAddr ?_); refine x_fieldAddr_ptr tbOk rfl rfl rfl rfl ?_) | ((with_reducible refine k_load ?_); refine x_load_ep_one tbOk rfl rfl rfl ?_) | ((with_reducible refine k_store ?_); refine m_store tbOk rfl rfl rfl rfl rfl rfl rfl (Nat.le_of_ble_eq_true rfl) rfl ?_) | ((with_reducible refine k_alloc ?_); refine x_alloc tbOk rfl rfl ?_) | ((with_reducible refine k_indexAddr ?_); refine x_indexAddr_n tbOk rfl rfl rfl rfl (by assumption) ?_) | ((with_reducible refine k_build ?_); refine m_build tbOk rfl rfl rfl rfl rfl ?_) | ((with_reducible refine k_bin ?_); refine x_add_in rfl rfl (by omega) ?_) | ((with_reducible refine k_bin ?_); refine m_binS rfl rfl rfl ?_)  | refine e_nrm ?_ | refine e_drw (by kernel_rfl) ?_ | refine x_none rfl ?_ | with_reducible refine q_then ?_ | with_reducible refine awp_seq ?_ | ((with_reducible refine w_region ?_ ?_); kernel_rfl) | refine w_cond_t rfl (by first | rfl | assumption) ?_)
          refine x_split rfl rfl (fun q1 => ?_) (fun q1 => ?_)
          · repeat (first | ((with_reducible refine k_assign ?_); refine m_assign rfl ?_) | ((with_reducible refine k_fieldAddr ?_); refine x_fieldAddr_ptr tbOk rfl rfl rfl rfl ?_) | ((with_reducible refine k_load ?_); refine x_load_one tbOk rfl rfl rfl rfl rfl ?_) | ((with_reducible refine k_load ?_); refine x_load_agg tbOk rfl rfl rfl rfl (Nat.le_of_ble_eq_true rfl) ?_) | ((with_reducible refine k_pick ?_); refine m_pickt rfl (by first | rfl | assumption) rfl ?_) | ((with_reducible refine k_bin ?_); refine m_binI rfl rfl rfl ?_) | ((with_reducible refine k_buildSlice ?_); refine m_buildSlice tbOk rfl rfl rfl rfl rfl (by omega) rfl rfl rfl ?_) | refine e_nrm ?_ | refine x_none rfl ?_ | refine x_run_t rfl rfl (by first | rfl | assumption) ?_ | with_reducible refine q_then ?_ | ((with_reducible refine w_region ?_ ?_); kernel_rfl))
            refine x_append_own tbOk rfl rfl rfl rfl rfl (by decide) rfl rfl rfl rfl rfl (fun x hx => by simp at hx; subst hx; rfl) (by rw [hmD]; simp only [List.length_map, List.length_cons, List.length_nil]; omega) (by rw [hmD]; simp only [List.length_map, List.length_cons, List.length_nil]; omega) ?_
            repeat (first | ((with_reducible refine k_move ?_); refine m_move rfl ?_) | ((with_reducible refine k_assign ?_); refine m_assign rfl ?_) | ((with_reducible refine k_fieldAddr ?_); refine x_fieldAddr_ptr tbOk rfl rfl rfl rfl ?_) | ((with_reducible refine k_store ?_); refine m_store tbOk rfl rfl rfl rfl rfl rfl rfl (Nat.le_of_ble_eq_true rfl) rfl ?_) | ((with_reducible refine k_bin ?_); refine x_add_in rfl rfl (by omega) ?_)  | refine e_nrm ?_ | refine x_none rfl ?_ | with_reducible refine q_then ?_ | with_reducible refine q_block ?_ | ((with_reducible refine w_region ?_ ?_); kernel_rfl))
            exact ⟨(k + 1, D ++ [rpOf t b c], Ns ++ [a]), ⟨by simp only; omega, by simp [hD], by simp [hNs], readT_map t hyes hf⟩, by simp only; omega, ⟨rfl, rfl, rfl, rfl, rfl, congrArg (fun z : Bool => AV.v (.bool z)) (by unfold knB at q1 ⊢; rw [List.all_append, q1]; simp), congrArg (fun z : Int => AV.v (.int .i64 z)) (by simp only; omega), trivial⟩, ⟨rfl, rfl, rfl, hc_buf (Eq.trans (congrArg (fun x => (zipD V D Ns).map Rp.av ++ [x]) eR.symm) (by simp only; rw [zipD_snoc V _ _ (by omega), List.map_append]; rfl)), trivial⟩⟩
          · repeat (first | ((with_reducible refine k_assign ?_); refine m_assign rfl ?_) | ((with_reducible refine k_fieldAddr ?_); refine x_fieldAddr_ptr tbOk rfl rfl rfl rfl ?_) | ((with_reducible refine k_load ?_); refine x_load_one tbOk rfl rfl rfl rfl rfl ?_) | ((with_reducible refine k_load ?_); refine x_load_agg tbOk rfl rfl rfl rfl (Nat.le_of_ble_eq_true rfl) ?_) | ((with_reducible refine k_pick ?_); refine m_pickf rfl (by first | rfl | assumption) rfl ?_) | ((with_reducible refine k_buildSlice ?_); refine m_buildSlice tbOk rfl rfl rfl rfl rfl (by omega) rfl rfl rfl ?_) | refine e_nrm ?_ | refine x_none rfl ?_ | refine x_skip_t rfl rfl (by first | rfl | assumption) ?_ | with_reducible refine q_then ?_ | ((with_reducible refine w_region ?_ ?_); kernel_rfl))
            refine x_append_own tbOk rfl rfl rfl rfl rfl (by decide) rfl rfl rfl rfl rfl (fun x hx => by simp at hx; subst hx; rfl) (by rw [hmD]; simp only [List.length_map, List.length_cons, List.length_nil]; omega) (by rw [hmD]; simp only [List.length_map, List.length_cons, List.length_nil]; omega) ?_
            repeat (first | ((with_reducible refine k_move ?_); refine m_move rfl ?_) | ((with_reducible refine k_assign ?_); refine m_assign rfl ?_) | ((with_reducible refine k_fieldAddr ?_); refine x_fieldAddr_ptr tbOk rfl rfl rfl rfl ?_) | ((with_reducible refine k_store ?_); refine m_store tbOk rfl rfl rfl rfl rfl rfl rfl (Nat.le_of_ble_eq_true rfl) rfl ?_) | ((with_reducible refine k_bin ?_); refine x_add_in rfl rfl (by omega) ?_)  | refine e_nrm ?_ | refine x_none rfl ?_ | with_reducible refine q_then ?_ | with_reducible refine q_block ?_ | ((with_reducible refine w_region ?_ ?_); kernel_rfl))
            exact ⟨(k + 1, D ++ [rpOf t b c], Ns ++ [a]), ⟨by simp only; omega, by simp [hD], by simp [hNs], readT_map t hyes hf⟩, by simp only; omega, ⟨rfl, rfl, rfl, rfl, rfl, congrArg (fun z : Bool => AV.v (.bool z)) (by unfold knB at q1 ⊢; rw [List.all_append, q1]; simp), congrArg (fun z : Int => AV.v (.int .i64 z)) (by simp only; omega), trivial⟩, ⟨rfl, rfl, rfl, hc_buf (Eq.trans (congrArg (fun x => (zipD V D Ns).map Rp.av ++ [x]) eR.symm) (by simp only; rw [zipD_snoc V _ _ (by omega), List.map_append]; rfl)), trivial⟩⟩
        · have f3 : strEq (strL c) ⟨#[115, 101, 101, 110, 59]⟩ = false := by rw [k3]; simpa using hc1.1
          have f4 : strEq (strL c) ⟨#[116, 111, 108, 100, 59]⟩ = false := by rw [k4]; simpa using hc1.2
          have f3' := bnot_f f3
          have f4' := bnot_f f4
          have hN : readW W = none := by rw [hR, readT_bad t (rep_no (.inr (.inr hc1))) hf]
          unfold parseW
          rw [hN]
          repeat (first | ((with_reducible refine k_move ?_); refine m_move rfl ?_) | ((with_reducible refine k_assign ?_); refine m_assign rfl ?_) | ((with_reducible refine k_load ?_); refine x_load_ep_one tbOk rfl rfl rfl ?_) | ((with_reducible refine k_store ?_); refine m_store tbOk rfl rfl rfl rfl rfl rfl rfl (Nat.le_of_ble_eq_true rfl) rfl ?_) | ((with_reducible refine k_un ?_); refine x_not rfl ?_) | ((with_reducible refine k_pick ?_); refine m_pickt rfl (by first | rfl | assumption) rfl ?_) | ((with_reducible refine k_pick ?_); refine m_pickf rfl (by first | rfl | assumption) rfl ?_) | ((with_reducible refine k_indexAddr ?_); refine x_indexAddr_n tbOk rfl rfl rfl rfl (by assumption) ?_) | ((with_reducible refine k_build ?_); refine m_build tbOk rfl rfl rfl rfl rfl ?_) | ((with_reducible refine k_bin ?_); refine x_add_in rfl rfl (by omega) ?_) | ((with_reducible refine k_bin ?_); refine m_binS rfl rfl rfl ?_)  | refine e_nrm ?_ | refine x_none rfl ?_ | refine x_run_t rfl rfl (by first | rfl | assumption) ?_ | refine x_run_f rfl rfl (by first | rfl | assumption) ?_ | with_reducible refine q_then ?_ | with_reducible refine q_then_ret ?_ | with_reducible refine q_block_ret ?_ | with_reducible refine awp_seq ?_ | with_reducible refine awp_ret ?_ | ((with_reducible refine w_region ?_ ?_); kernel_rfl) | refine w_cond_t rfl (by first | rfl | assumption) ?_)
          refine ret0_ct (by first | exact .inr rfl | exact .inl rfl) rfl rfl rfl rfl rfl rfl ?_
          repeat' (first | exact trivial | exact Ren.v _ | exact Ren.sl _ _ | exact Ren.ep _ | exact Ren.ptr _ _ _ _ rfl | exact Ren.bs _ _ _ _ _ rfl | exact Ren.nil _ | exact Ren.own _ _ _ _ ⟨_, rfl⟩ | refine ren_ag ?_ | refine ren_tu ?_ | refine ren_fn ?_ | refine ⟨?_, ?_⟩)
      · have f1 : strEq (strL b) ⟨#[99, 108, 111, 115, 101, 100]⟩ = false := by rw [k1]; simpa using hb1.2
        have f2 : strEq (strL b) ⟨#[111, 112, 101, 110]⟩ = false := by rw [k2]; simpa using hb1.1
        have f1' := bnot_f f1
        have f2' := bnot_f f2
        have hN : readW W = none := by rw [hR, readT_bad t (rep_no (.inr (.inl hb1))) hf]
        unfold parseW
        rw [hN]
        repeat (first | ((with_reducible refine k_move ?_); refine m_move rfl ?_) | ((with_reducible refine k_assign ?_); refine m_assign rfl ?_) | ((with_reducible refine k_load ?_); refine x_load_ep_one tbOk rfl rfl rfl ?_) | ((with_reducible refine k_store ?_); refine m_store tbOk rfl rfl rfl rfl rfl rfl rfl (Nat.le_of_ble_eq_true rfl) rfl ?_) | ((with_reducible refine k_un ?_); refine x_not rfl ?_) | ((with_reducible refine k_pick ?_); refine m_pickt rfl (by first | rfl | assumption) rfl ?_) | ((with_reducible refine k_pick ?_); refine m_pickf rfl (by first | rfl | assumption) rfl ?_) | ((with_reducible refine k_indexAddr ?_); refine x_indexAddr_n tbOk rfl rfl rfl rfl (by assumption) ?_) | ((with_reducible refine k_build ?_); refine m_build tbOk rfl rfl rfl rfl rfl ?_) | ((with_reducible refine k_bin ?_); refine x_add_in rfl rfl (by omega) ?_) | ((with_reducible refine k_bin ?_); refine m_binS rfl rfl rfl ?_)  | refine e_nrm ?_ | refine x_none rfl ?_ | refine x_run_t rfl rfl (by first | rfl | assumption) ?_ | refine x_run_f rfl rfl (by first | rfl | assumption) ?_ | refine x_skip_f rfl rfl (by first | rfl | assumption) ?_ | refine x_skip' rfl rfl rfl ?_ | with_reducible refine q_then ?_ | with_reducible refine q_then_ret ?_ | with_reducible refine q_block_ret ?_ | with_reducible refine awp_seq ?_ | with_reducible refine awp_ret ?_ | ((with_reducible refine w_region ?_ ?_); kernel_rfl) | refine w_cond_t rfl (by first | rfl | assumption) ?_)
        refine ret0_ct (by first | exact .inr rfl | exact .inl rfl) rfl rfl rfl rfl rfl rfl ?_
        repeat' (first | exact trivial | exact Ren.v _ | exact Ren.sl _ _ | exact Ren.ep _ | exact Ren.ptr _ _ _ _ rfl | exact Ren.bs _ _ _ _ _ rfl | exact Ren.nil _ | exact Ren.own _ _ _ _ ⟨_, rfl⟩ | refine ren_ag ?_ | refine ren_tu ?_ | refine ren_fn ?_ | refine ⟨?_, ?_⟩)
    · have na1 : nameB a = false := by simpa using na
      have na' := bnot_f na1
      have hN : readW W = none := by rw [hR, readT_bad t (rep_no (.inl na1)) hf]
      unfold parseW
      rw [hN]
      repeat (first | ((with_reducible refine k_move ?_); refine m_move rfl ?_) | ((with_reducible refine k_assign ?_); refine m_assign rfl ?_) | ((with_reducible refine k_store ?_); refine m_store tbOk rfl rfl rfl rfl rfl rfl rfl (Nat.le_of_ble_eq_true rfl) rfl ?_) | ((with_reducible refine k_un ?_); refine x_not rfl ?_) | ((with_reducible refine k_pick ?_); refine m_pickt rfl (by first | rfl | assumption) rfl ?_) | ((with_reducible refine k_build ?_); refine m_build tbOk rfl rfl rfl rfl rfl ?_)  | refine e_nrm ?_ | refine x_none rfl ?_ | refine x_skip_f rfl rfl (by first | rfl | assumption) ?_ | refine x_skip' rfl rfl rfl ?_ | with_reducible refine q_then ?_ | with_reducible refine q_then_ret ?_ | with_reducible refine q_block_ret ?_ | with_reducible refine awp_seq ?_ | with_reducible refine awp_ret ?_ | ((with_reducible refine w_region ?_ ?_); kernel_rfl) | refine w_cond_t rfl (by first | rfl | assumption) ?_)
      refine ret0_ct (by first | exact .inr rfl | exact .inl rfl) rfl rfl rfl rfl rfl rfl ?_
      repeat' (first | exact trivial | exact Ren.v _ | exact Ren.sl _ _ | exact Ren.ep _ | exact Ren.ptr _ _ _ _ rfl | exact Ren.bs _ _ _ _ _ rfl | exact Ren.nil _ | exact Ren.own _ _ _ _ ⟨_, rfl⟩ | refine ren_ag ?_ | refine ren_tu ?_ | refine ren_fn ?_ | refine ⟨?_, ?_⟩)
  have hge : 3 + 3 * k = W.length := by simp at h; omega
  have hfin : readT t (W.drop 3) = some (D, Ns) := by rw [hf, List.drop_of_length_le (by omega)]; simp [readT]
  have hS : readW W = some (⟨strL w0, t, D⟩, Ns) := by rw [hR, hfin]; rfl
  unfold parseW
  rw [hS]
  simp only
  rw [putD_zip V (by omega)]
  repeat (first | ((with_reducible refine k_move ?_); refine m_move rfl ?_) | ((with_reducible refine k_un ?_); refine x_not rfl ?_)  | refine e_nrm ?_ | refine x_none rfl ?_ | with_reducible refine q_then ?_ | with_reducible refine q_then_exit ?_ | with_reducible refine awp_seq ?_ | with_reducible refine awp_exit ?_ | ((with_reducible refine q_block_exit ?_ ?_); rfl) | ((with_reducible refine w_region ?_ ?_); kernel_rfl))
  refine w_cond rfl (fun h => ?_) (fun h => ?_)
  · rw [if_neg (by simpa using h)]
    repeat (first | ((with_reducible refine k_assign ?_); refine m_assign rfl ?_) | ((with_reducible refine k_store ?_); refine m_store tbOk rfl rfl rfl rfl rfl rfl rfl (Nat.le_of_ble_eq_true rfl) rfl ?_) | ((with_reducible refine k_build ?_); refine m_build tbOk rfl rfl rfl rfl rfl ?_)  | refine e_nrm ?_ | refine x_none rfl ?_ | with_reducible refine q_then ?_ | with_reducible refine q_then_ret ?_ | with_reducible refine awp_seq ?_ | with_reducible refine awp_ret ?_ | ((with_reducible refine w_region ?_ ?_); kernel_rfl))
    refine ret0_ct (by first | exact .inr rfl | exact .inl rfl) rfl rfl rfl rfl rfl rfl ?_
    repeat' (first | exact trivial | exact Ren.v _ | exact Ren.sl _ _ | exact Ren.ep _ | exact Ren.ptr _ _ _ _ rfl | exact Ren.bs _ _ _ _ _ rfl | exact Ren.nil _ | exact Ren.own _ _ _ _ ⟨_, rfl⟩ | refine ren_ag ?_ | refine ren_tu ?_ | refine ren_fn ?_ | refine ⟨?_, ?_⟩)
  rw [if_pos (by simpa using h)]
  refine awp_freeze_at (s := 162) [] [(10, [.v (.string (strL w0)), .v (.int .i64 t), .sl 5 ((zipD V D Ns).map Rp.av)])] rfl trivial ⟨⟨_, _, rfl, .same (.same (.hit .nil))⟩, trivial⟩ ?_
  repeat (first | ((with_reducible refine k_assign ?_); refine m_assign rfl ?_) | ((with_reducible refine k_load ?_); refine x_load_agg tbOk rfl rfl rfl rfl (Nat.le_of_ble_eq_true rfl) ?_) | ((with_reducible refine k_store ?_); refine m_store tbOk rfl rfl rfl rfl rfl rfl rfl (Nat.le_of_ble_eq_true rfl) rfl ?_)  | refine e_nrm ?_ | refine x_none rfl ?_ | with_reducible refine q_then ?_ | with_reducible refine awp_seq ?_ | with_reducible refine awp_skip ?_ | with_reducible refine awp_ret ?_ | ((with_reducible refine w_region ?_ ?_); kernel_rfl))
  refine ret0_ct (by first | exact .inr rfl | exact .inl rfl) rfl rfl rfl rfl rfl rfl ?_
  repeat' (first | exact trivial | exact Ren.v _ | exact Ren.sl _ _ | exact Ren.ep _ | exact Ren.ptr _ _ _ _ rfl | exact Ren.bs _ _ _ _ _ rfl | exact Ren.nil _ | exact Ren.own _ _ _ _ ⟨_, rfl⟩ | refine ren_ag ?_ | refine ren_tu ?_ | refine ren_fn ?_ | refine ⟨?_, ?_⟩)
end Go.Proofs.YtgpglcccjkpmdaaDoor
