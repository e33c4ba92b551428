/- permitofficeref14: fault, before, Check, Locked, by the abstract machine; conditions: none. -/
import Derived.Test.YtnafokinifbfhaaGreatDoorNetA
import Derived.Test.YtnafokinifbfhaaGreatDoorNetB
import Derived.Test.YtnafokinifbfhaaGreatDoorNetC
import Derived.Test.YtnafokinifbfhaaGreatDoorDkA
set_option linter.unusedVariables false
set_option linter.unusedSimpArgs false
namespace Go.Proofs.YtnafokinifbfhaaGreatDoor
open Go Go.RowKit
set_option maxRecDepth 10000
variable {G : Nat → Option (List Value)}
def Lk.av (k : Lk) : AV := .ag [.v (.int .i64 k.d), .v (.int .i64 k.p), .v (.int .i64 k.k)]
def qE (N : List Nd) (V : List Dv) : AV := .ag [.sl 3 (N.map Nd.av), .sl 5 (V.map Dv.av)]
theorem fW {V : List Dv} {k : Nat} {x : Dv} (h : V[k]? = some x) : (V.map Dv.av)[k]? = some x.av := by rw [List.getElem?_map, h]; rfl
theorem cO {L : List Lk} {k : Nat} {x : Lk} (h : L[k]? = some x) : (L.map Lk.av)[k]? = some x.av := by rw [List.getElem?_map, h]; rfl
set_option maxHeartbeats 1000000 in
theorem vO (N : List Nd) (V : List Dv) (k : Lk) : zu Tryz.prog G 58 [qE N V, k.av] [] (.v (.int .i64 (yl V k))) [] := by
  refine zf tbOk (zM Tryz.func58 (by kernel_rfl) rfl) Tryz.func58 rfl _ Tryz.ntmps58 (Nat.le_of_ble_eq_true rfl) fun X hX => ?_
  subst hX
  repeat (first | ((with_reducible refine zI ?_); refine zH rfl ?_) | ((with_reducible refine zE ?_); refine zD rfl ?_) | ((with_reducible refine zK ?_); refine zG tbOk rfl rfl rfl rfl ?_) | ((with_reducible refine zO ?_); refine zL tbOk rfl rfl rfl rfl rfl ?_) | ((with_reducible refine yw ?_); refine yv rfl rfl rfl ?_) | ((with_reducible refine zP ?_); refine zS rfl rfl rfl ?_)  | refine zJ ?_ | refine zB rfl ?_ | with_reducible (first | refine zC ?_ | refine zF ?_) | ((with_reducible refine zA ?_ ?_); kernel_rfl))
  refine yD rfl rfl (fun h => ?_) (fun h => ?_)
  · have h0 : k.d < 0 := by simpa using h
    have e : yl V k = 8 := by unfold yl; rw [if_pos (.inl h0)]
    rw [e]
    repeat (first | ((with_reducible refine zE ?_); refine zD rfl ?_) | ((with_reducible refine zZ ?_); refine zh rfl (by first | rfl | assumption) rfl ?_)  | refine zJ ?_ | refine zB rfl ?_ | refine yF rfl rfl (by first | rfl | assumption) ?_ | with_reducible (first | refine zC ?_ | refine zR ?_ | refine zF ?_ | refine zQ ?_) | ((with_reducible refine zA ?_ ?_); kernel_rfl) | refine yJ rfl (by first | rfl | assumption) ?_)
    refine zj (by first | exact .inr rfl | exact .inl rfl) rfl rfl ?_
    rfl
  have h0 : ¬ k.d < 0 := by simpa using h
  repeat (first | ((with_reducible refine zK ?_); refine zG tbOk rfl rfl rfl rfl ?_) | ((with_reducible refine zO ?_); refine zL tbOk rfl rfl rfl rfl rfl ?_) | ((with_reducible refine zZ ?_); refine zi rfl (by first | rfl | assumption) rfl ?_) | ((with_reducible refine zp ?_); refine yU tbOk rfl rfl ?_) | ((with_reducible refine zP ?_); refine zS rfl rfl rfl ?_)  | refine zJ ?_ | refine zB rfl ?_ | refine zt rfl rfl (by first | rfl | assumption) ?_ | with_reducible refine zC ?_ )
  refine zX rfl (fun h => ?_) (fun h => ?_)
  · have h1 : (V.length : Int) ≤ k.d := by simpa using h
    have e : yl V k = 8 := by unfold yl; rw [if_pos (.inr h1)]
    rw [e]
    repeat (first | ((with_reducible refine zE ?_); refine zD rfl ?_)  | refine zJ ?_ | refine zB rfl ?_ | with_reducible (first | refine zC ?_ | refine zR ?_ | refine zF ?_ | refine zQ ?_) | ((with_reducible refine zA ?_ ?_); kernel_rfl))
    refine zj (by first | exact .inr rfl | exact .inl rfl) rfl rfl ?_
    rfl
  · have h1 : ¬ (V.length : Int) ≤ k.d := by simpa using h
    obtain ⟨x, hx⟩ := zT (L := V) (k := k.d.toNat) (by omega)
    have hy := fW hx
    have eK : mI V k.d = x.k := by unfold mI; rw [hx]
    have e : yl V k = if x.k = 5 then 6 else if k.p ≠ 1 ∧ k.p ≠ 2 then 10 else if k.k < 0 ∨ 65536 < k.k then 5 else 0 := by unfold yl; rw [if_neg (by omega), eK]
    rw [e]
    repeat (first | ((with_reducible refine zK ?_); (first | refine zG tbOk rfl rfl rfl rfl ?_ | refine yX tbOk rfl rfl rfl rfl ?_)) | ((with_reducible refine zO ?_); (first | refine zL tbOk rfl rfl rfl rfl rfl ?_ | refine zm tbOk rfl rfl rfl ?_)) | ((with_reducible refine zW ?_); refine jU tbOk rfl rfl rfl rfl (by omega) (by assumption) ?_) | ((with_reducible refine zP ?_); refine zS rfl rfl rfl ?_)  | refine zJ ?_ | refine zB rfl ?_ | with_reducible (first | refine zC ?_ | refine zF ?_ | refine zN ?_) | ((with_reducible refine zA ?_ ?_); kernel_rfl))
    refine zX rfl (fun h => ?_) (fun h => ?_)
    · rw [if_pos (by simpa using h)]
      repeat (first | ((with_reducible refine zE ?_); refine zD rfl ?_)  | refine zJ ?_ | refine zB rfl ?_ | with_reducible (first | refine zC ?_ | refine zR ?_ | refine zF ?_ | refine zQ ?_) | ((with_reducible refine zA ?_ ?_); kernel_rfl))
      refine zj (by first | exact .inr rfl | exact .inl rfl) rfl rfl ?_
      rfl
    · rw [if_neg (by simpa using h)]
      by_cases p1 : k.p = 1
      · have b1 : (k.p != 1) = false := by simpa using p1
        rw [if_neg (by omega)]
        repeat (first | ((with_reducible refine zI ?_); refine zH rfl ?_) | ((with_reducible refine zK ?_); refine zG tbOk rfl rfl rfl rfl ?_) | ((with_reducible refine zO ?_); refine zL tbOk rfl rfl rfl rfl rfl ?_) | ((with_reducible refine zZ ?_); refine zi rfl (by first | rfl | assumption) rfl ?_) | ((with_reducible refine zP ?_); refine zS rfl rfl rfl ?_)  | refine zJ ?_ | refine zB rfl ?_ | refine yH rfl rfl (by first | rfl | assumption) ?_ | with_reducible (first | refine zC ?_ | refine zF ?_ | refine zN ?_) | ((with_reducible refine zA ?_ ?_); kernel_rfl) | refine zy rfl (by first | rfl | assumption) ?_)
        by_cases k0 : k.k < 0
        · have b2 : decide (k.k < 0) = true := by simpa using k0
          rw [if_pos (.inl k0)]
          repeat (first | ((with_reducible refine zE ?_); refine zD rfl ?_) | ((with_reducible refine zZ ?_); refine zh rfl (by first | rfl | assumption) rfl ?_)  | refine zJ ?_ | refine zB rfl ?_ | refine yF rfl rfl (by first | rfl | assumption) ?_ | with_reducible (first | refine zC ?_ | refine zR ?_ | refine zF ?_ | refine zQ ?_) | ((with_reducible refine zA ?_ ?_); kernel_rfl) | refine yJ rfl (by first | rfl | assumption) ?_)
          refine zj (by first | exact .inr rfl | exact .inl rfl) rfl rfl ?_
          rfl
        · have b2 : decide (k.k < 0) = false := by simpa using k0
          repeat (first | ((with_reducible refine zK ?_); refine zG tbOk rfl rfl rfl rfl ?_) | ((with_reducible refine zO ?_); refine zL tbOk rfl rfl rfl rfl rfl ?_) | ((with_reducible refine zZ ?_); refine zi rfl (by first | rfl | assumption) rfl ?_) | ((with_reducible refine zP ?_); refine zS rfl rfl rfl ?_)  | refine zJ ?_ | refine zB rfl ?_ | refine zt rfl rfl (by first | rfl | assumption) ?_ | with_reducible refine zC ?_ )
          refine zX rfl (fun h => ?_) (fun h => ?_)
          · rw [if_pos (.inr (by simpa using h))]
            repeat (first | ((with_reducible refine zE ?_); refine zD rfl ?_)  | refine zJ ?_ | refine zB rfl ?_ | with_reducible (first | refine zC ?_ | refine zR ?_ | refine zF ?_ | refine zQ ?_) | ((with_reducible refine zA ?_ ?_); kernel_rfl))
            refine zj (by first | exact .inr rfl | exact .inl rfl) rfl rfl ?_
            rfl
          · have h' : ¬ 65536 < k.k := by simpa using h
            rw [if_neg (by omega)]
            repeat (first | ((with_reducible refine zE ?_); refine zD rfl ?_)  | refine zJ ?_ | refine zB rfl ?_ | with_reducible (first | refine zC ?_ | refine zF ?_ | refine zN ?_ | refine zQ ?_) | ((with_reducible refine zA ?_ ?_); kernel_rfl))
            refine zj (by first | exact .inr rfl | exact .inl rfl) rfl rfl ?_
            rfl
      · have b1 : (k.p != 1) = true := by simpa using p1
        repeat (first | ((with_reducible refine zI ?_); refine zH rfl ?_) | ((with_reducible refine zK ?_); refine zG tbOk rfl rfl rfl rfl ?_) | ((with_reducible refine zO ?_); refine zL tbOk rfl rfl rfl rfl rfl ?_) | ((with_reducible refine zZ ?_); refine zh rfl (by first | rfl | assumption) rfl ?_) | ((with_reducible refine zP ?_); refine zS rfl rfl rfl ?_)  | refine zJ ?_ | refine zB rfl ?_ | refine zq rfl rfl (by first | rfl | assumption) ?_ | with_reducible (first | refine zC ?_ | refine zF ?_ | refine zN ?_) | ((with_reducible refine zA ?_ ?_); kernel_rfl))
        refine zX rfl (fun h => ?_) (fun h => ?_)
        · have p2 : k.p ≠ 2 := by simpa using h
          rw [if_pos ⟨p1, p2⟩]
          repeat (first | ((with_reducible refine zE ?_); refine zD rfl ?_)  | refine zJ ?_ | refine zB rfl ?_ | with_reducible (first | refine zC ?_ | refine zR ?_ | refine zF ?_ | refine zQ ?_) | ((with_reducible refine zA ?_ ?_); kernel_rfl))
          refine zj (by first | exact .inr rfl | exact .inl rfl) rfl rfl ?_
          rfl
        · have p2 : k.p = 2 := by simpa using h
          rw [if_neg (by omega)]
          by_cases k0 : k.k < 0
          · have b2 : decide (k.k < 0) = true := by simpa using k0
            rw [if_pos (.inl k0)]
            repeat (first | ((with_reducible refine zI ?_); refine zH rfl ?_) | ((with_reducible refine zE ?_); refine zD rfl ?_) | ((with_reducible refine zK ?_); refine zG tbOk rfl rfl rfl rfl ?_) | ((with_reducible refine zO ?_); refine zL tbOk rfl rfl rfl rfl rfl ?_) | ((with_reducible refine zZ ?_); refine zh rfl (by first | rfl | assumption) rfl ?_) | ((with_reducible refine zP ?_); refine zS rfl rfl rfl ?_)  | refine zJ ?_ | refine zB rfl ?_ | refine yF rfl rfl (by first | rfl | assumption) ?_ | with_reducible (first | refine zC ?_ | refine zR ?_ | refine zF ?_ | refine zN ?_ | refine zQ ?_) | ((with_reducible refine zA ?_ ?_); kernel_rfl) | refine yJ rfl (by first | rfl | assumption) ?_)
            refine zj (by first | exact .inr rfl | exact .inl rfl) rfl rfl ?_
            rfl
          · have b2 : decide (k.k < 0) = false := by simpa using k0
            repeat (first | ((with_reducible refine zI ?_); refine zH rfl ?_) | ((with_reducible refine zK ?_); refine zG tbOk rfl rfl rfl rfl ?_) | ((with_reducible refine zO ?_); refine zL tbOk rfl rfl rfl rfl rfl ?_) | ((with_reducible refine zZ ?_); refine zi rfl (by first | rfl | assumption) rfl ?_) | ((with_reducible refine zP ?_); refine zS rfl rfl rfl ?_)  | refine zJ ?_ | refine zB rfl ?_ | refine zt rfl rfl (by first | rfl | assumption) ?_ | with_reducible (first | refine zC ?_ | refine zF ?_ | refine zN ?_) | ((with_reducible refine zA ?_ ?_); kernel_rfl))
            refine zX rfl (fun h => ?_) (fun h => ?_)
            · rw [if_pos (.inr (by simpa using h))]
              repeat (first | ((with_reducible refine zE ?_); refine zD rfl ?_)  | refine zJ ?_ | refine zB rfl ?_ | with_reducible (first | refine zC ?_ | refine zR ?_ | refine zF ?_ | refine zQ ?_) | ((with_reducible refine zA ?_ ?_); kernel_rfl))
              refine zj (by first | exact .inr rfl | exact .inl rfl) rfl rfl ?_
              rfl
            · have h' : ¬ 65536 < k.k := by simpa using h
              rw [if_neg (by omega)]
              repeat (first | ((with_reducible refine zE ?_); refine zD rfl ?_)  | refine zJ ?_ | refine zB rfl ?_ | with_reducible (first | refine zC ?_ | refine zF ?_ | refine zN ?_ | refine zQ ?_) | ((with_reducible refine zA ?_ ?_); kernel_rfl))
              refine zj (by first | exact .inr rfl | exact .inl rfl) rfl rfl ?_
              rfl
theorem rH (a b : Lk) : zu Tryz.prog G 59 [a.av, b.av] [] (.v (.bool (befB a b))) [] := by
  unfold befB
  refine zf tbOk (zM Tryz.func59 (by kernel_rfl) rfl) Tryz.func59 rfl _ Tryz.ntmps59 (Nat.le_of_ble_eq_true rfl) fun X hX => ?_
  subst hX
  repeat' (first | ((with_reducible refine zI ?_); refine zH rfl ?_) | ((with_reducible refine zE ?_); refine zD rfl ?_) | ((with_reducible refine zK ?_); refine zG tbOk rfl rfl rfl rfl ?_) | ((with_reducible refine zO ?_); refine zL tbOk rfl rfl rfl rfl rfl ?_) | ((with_reducible refine yw ?_); refine yv rfl rfl rfl ?_) | ((with_reducible refine zZ ?_); (first | refine zh rfl (by first | rfl | assumption) rfl ?_ | refine zi rfl (by first | rfl | assumption) rfl ?_)) | ((with_reducible refine zP ?_); refine zS rfl rfl rfl ?_)  | refine zJ ?_ | refine zB rfl ?_ | refine zq rfl rfl (by first | rfl | assumption) ?_ | refine yH rfl rfl (by first | rfl | assumption) ?_ | refine zt rfl rfl (by first | rfl | assumption) ?_ | refine yF rfl rfl (by first | rfl | assumption) ?_ | refine qF rfl rfl rfl ?_ | with_reducible (first | refine zC ?_ | refine zF ?_ | refine zQ ?_) | ((with_reducible refine zA ?_ ?_); kernel_rfl) | refine yD rfl rfl (fun _ => ?_) (fun _ => ?_) | refine zX rfl (fun _ => ?_) (fun _ => ?_))
  all_goals refine zj (by first | exact .inr rfl | exact .inl rfl) rfl rfl ?_
  all_goals refine congrArg (fun b => AV.v (.bool b)) ?_
  all_goals simp_all
  all_goals (by_cases h9 : a.d = b.d <;> simp_all)
set_option maxHeartbeats 4000000 in
theorem rlocks_A (N : List Nd) (V : List Dv) (L : List Lk) (hN : ∀ x ∈ N, x.n.size ≤ maxLen) (hV : ∀ x ∈ V, x.n.size ≤ maxLen) (h1 : N.length ≤ maxLen) (h2 : V.length ≤ maxLen) :
    zu Tryz.prog G 26 [qE N V, .sl 3 (L.map Lk.av)] [] (.v (.int .i64 (lksE N V L))) [] := by
  refine zf tbOk (zM Tryz.func26 (by kernel_rfl) rfl) Tryz.func26 rfl _ Tryz.ntmps26 (Nat.le_of_ble_eq_true rfl) fun X hX => ?_
  subst hX
  unfold lksE
  repeat (first | ((with_reducible refine zE ?_); refine zD rfl ?_) | ((with_reducible refine zO ?_); refine zk tbOk rfl rfl rfl rfl (Nat.le_of_ble_eq_true rfl) ?_) | ((with_reducible refine yw ?_); refine yv rfl rfl rfl ?_)  | refine zJ ?_ | refine zB rfl ?_ | with_reducible (first | refine zC ?_ | refine zF ?_) | ((with_reducible refine zA ?_ ?_); kernel_rfl))
  refine zl (rnet_A N V hN hV h1 h2) (by repeat' (first | exact trivial | exact Ren.v _ | exact Ren.sl _ _ | exact Ren.ep _ | exact Ren.ptr _ _ _ _ rfl | exact Ren.bs _ _ _ _ _ rfl | exact Ren.nil _ | exact Ren.own _ _ _ _ ⟨_, rfl⟩ | refine zn ?_ | refine zz ?_ | refine yG ?_ | refine ⟨?_, ?_⟩)) (by repeat' (first | exact trivial | exact RenB.v _ | exact RenB.sl _ _ | exact RenB.ep _ | exact RenB.ptr _ _ _ _ rfl | refine yi ?_ | refine yM ?_ | refine ⟨?_, ?_⟩)) ?_
  repeat (first | ((with_reducible refine zI ?_); refine zH rfl ?_) | ((with_reducible refine zE ?_); refine zD rfl ?_) | ((with_reducible refine zP ?_); refine zS rfl rfl rfl ?_)  | refine zJ ?_ | refine zB rfl ?_ | with_reducible (first | refine zC ?_ | refine zF ?_) | ((with_reducible refine zA ?_ ?_); kernel_rfl))
  refine zX rfl (fun h => ?_) (fun h => ?_)
  · rw [if_pos (by simpa using h)]
    repeat (first | ((with_reducible refine zI ?_); refine zH rfl ?_) | ((with_reducible refine zE ?_); refine zD rfl ?_)  | refine zJ ?_ | refine zB rfl ?_ | with_reducible (first | refine zC ?_ | refine zR ?_ | refine zF ?_ | refine zQ ?_) | ((with_reducible refine zA ?_ ?_); kernel_rfl))
    refine zj (by first | exact .inr rfl | exact .inl rfl) rfl rfl ?_
    rfl
  rw [if_neg (by simpa using h)]
  repeat (first | ((with_reducible refine zI ?_); refine zH rfl ?_) | ((with_reducible refine zp ?_); refine yU tbOk rfl rfl ?_) | ((with_reducible refine zP ?_); refine zS rfl rfl rfl ?_)  | refine zJ ?_ | refine zB rfl ?_ | with_reducible (first | refine zC ?_ | refine zF ?_ | refine zN ?_) | ((with_reducible refine zA ?_ ?_); kernel_rfl))
  refine zX rfl (fun h => ?_) (fun h => ?_)
  · have h128 : 128 < L.length := by simp at h; omega
    rw [if_pos h128]
    repeat (first | ((with_reducible refine zE ?_); refine zD rfl ?_)  | refine zJ ?_ | refine zB rfl ?_ | with_reducible (first | refine zC ?_ | refine zR ?_ | refine zF ?_ | refine zQ ?_) | ((with_reducible refine zA ?_ ?_); kernel_rfl))
    refine zj (by first | exact .inr rfl | exact .inl rfl) rfl rfl ?_
    rfl
  have h128 : ¬ 128 < L.length := by simp at h; omega
  rw [if_neg h128]
  repeat (first | ((with_reducible refine zE ?_); refine zD rfl ?_)  | refine zJ ?_ | refine zB rfl ?_ | with_reducible (first | refine zC ?_ | refine zF ?_ | refine zU ?_ | refine zN ?_) | ((with_reducible refine zA ?_ ?_); kernel_rfl))
  refine yL (ι := Nat) (fun i => i ≤ L.length ∧ lkGo V (L.take i) (L.drop i) = lkGo V [] L) (fun i => L.length - i) (fun v i => [(1, .sl 3 (L.map Lk.av)), (2, .ptr 2 (v 2) 0), (6, .v (.int .i64 i))]) (fun v i => [(2, .box [.sl 3 (N.map Nd.av), .sl 5 (V.map Dv.av)])]) ?_ ?_
  · exact ⟨0, ⟨Nat.zero_le _, rfl⟩, trivial, ⟨rfl, rfl, rfl, trivial⟩, ⟨rfl, trivial⟩⟩
  · rintro v i ⟨hi, hf⟩
    repeat (first | ((with_reducible refine zI ?_); refine zH rfl ?_) | ((with_reducible refine zp ?_); refine yU tbOk rfl rfl ?_) | ((with_reducible refine zP ?_); refine zS rfl rfl rfl ?_)  | refine zJ ?_ | refine zB rfl ?_ | with_reducible (first | refine zC ?_ | refine zF ?_) | ((with_reducible refine zA ?_ ?_); kernel_rfl))
    refine zX rfl (fun h => ?_) (fun h => ?_)
    · have hlt : i < L.length := by simpa using h
      obtain ⟨k, hx⟩ := zT hlt
      have hy := cO hx
      rw [uZ hx] at hf
      repeat (first | ((with_reducible refine zI ?_); refine zH rfl ?_) | ((with_reducible refine zO ?_); (first | refine zk tbOk rfl rfl rfl rfl (Nat.le_of_ble_eq_true rfl) ?_ | refine yQ tbOk rfl rfl (Nat.le_of_ble_eq_true rfl) ?_)) | ((with_reducible refine zW ?_); refine zb tbOk rfl rfl rfl rfl (by assumption) ?_)  | refine zB rfl ?_ | with_reducible (first | refine zC ?_ | refine zF ?_ | refine zU ?_ | refine zN ?_) | ((with_reducible refine yz mixd ?_ ?_); kernel_rfl))
      refine zl (vO N V k) (by repeat' (first | exact trivial | exact Ren.v _ | exact Ren.sl _ _ | exact Ren.ep _ | exact Ren.ptr _ _ _ _ rfl | exact Ren.bs _ _ _ _ _ rfl | exact Ren.nil _ | exact Ren.own _ _ _ _ ⟨_, rfl⟩ | refine zn ?_ | refine zz ?_ | refine yG ?_ | refine ⟨?_, ?_⟩)) (by repeat' (first | exact trivial | exact RenB.v _ | exact RenB.sl _ _ | exact RenB.ep _ | exact RenB.ptr _ _ _ _ rfl | refine yi ?_ | refine yM ?_ | refine ⟨?_, ?_⟩)) ?_
      repeat (first | ((with_reducible refine zI ?_); refine zH rfl ?_) | ((with_reducible refine zE ?_); refine zD rfl ?_) | ((with_reducible refine zP ?_); refine zS rfl rfl rfl ?_)  | refine zJ ?_ | refine jD (by kernel_rfl) ?_ | refine zB rfl ?_ | with_reducible (first | refine zC ?_ | refine zF ?_) | ((with_reducible refine zA ?_ ?_); kernel_rfl))
      refine zX rfl (fun h => ?_) (fun h => ?_)
      · have hF : yl V k ≠ 0 := by simpa using h
        rw [lkE_f hF, if_pos hF] at hf
        repeat (first | ((with_reducible refine zI ?_); refine zH rfl ?_) | ((with_reducible refine zE ?_); refine zD rfl ?_)  | refine zJ ?_ | refine zB rfl ?_ | with_reducible (first | refine zC ?_ | refine zR ?_ | refine zV ?_ | refine zF ?_ | refine zQ ?_) | ((with_reducible refine zA ?_ ?_); kernel_rfl))
        refine zj (by first | exact .inr rfl | exact .inl rfl) rfl rfl ?_
        rw [hf]
      have hF : yl V k = 0 := by simpa using h
      rcases Nat.eq_zero_or_pos i with i0 | i0
      rotate_left
      obtain ⟨q, hq⟩ := zT (L := L) (k := i - 1) (by omega)
      have hqy := cO hq
      have ei : ((i : Nat) : Int) - 1 = ((i - 1 : Nat) : Int) := by omega
      have b0 : decide ((i : Int) > 0) = true := by simpa using i0
      repeat (first | ((with_reducible refine zI ?_); refine zH rfl ?_) | ((with_reducible refine zP ?_); (first | refine jb rfl rfl (by omega) ?_ | refine zS rfl rfl rfl ?_))  | refine zB rfl ?_ | refine zq rfl rfl (by first | rfl | assumption) ?_ | with_reducible (first | refine zC ?_ | refine zF ?_ | refine zN ?_) | ((with_reducible refine yz mixd ?_ ?_); kernel_rfl))
      with_reducible refine zW ?_
      refine jU tbOk rfl rfl rfl rfl (by omega) (by rw [ei, Int.toNat_natCast]; exact hqy) ?_
      repeat (first | ((with_reducible refine zI ?_); refine zH rfl ?_) | ((with_reducible refine zO ?_); refine yQ tbOk rfl rfl (Nat.le_of_ble_eq_true rfl) ?_) | ((with_reducible refine zW ?_); refine zb tbOk rfl rfl rfl rfl (by assumption) ?_)  | refine zq rfl rfl (by first | rfl | assumption) ?_  )
      refine zl (rH q k) (by repeat' (first | exact trivial | exact Ren.v _ | exact Ren.sl _ _ | exact Ren.ep _ | exact Ren.ptr _ _ _ _ rfl | exact Ren.bs _ _ _ _ _ rfl | exact Ren.nil _ | exact Ren.own _ _ _ _ ⟨_, rfl⟩ | refine zn ?_ | refine zz ?_ | refine yG ?_ | refine ⟨?_, ?_⟩)) (by repeat' (first | exact trivial | exact RenB.v _ | exact RenB.sl _ _ | exact RenB.ep _ | exact RenB.ptr _ _ _ _ rfl | refine yi ?_ | refine yM ?_ | refine ⟨?_, ?_⟩)) ?_
      repeat (first | ((with_reducible refine k_un ?_); refine jL rfl ?_) | ((with_reducible refine zZ ?_); refine zh rfl (by first | rfl | assumption) rfl ?_)  | refine jD (by kernel_rfl) ?_ | refine zB rfl ?_ | refine zq rfl rfl (by first | rfl | assumption) ?_ | with_reducible refine zC ?_ )
      refine zX rfl (fun h => ?_) (fun h => ?_)
      · have hP : qa (L.take i) k = false := by unfold qa; rw [dL i0 hq]; simpa using h
        rw [lkE_14 hF hP, if_pos (by decide)] at hf
        repeat (first | ((with_reducible refine zE ?_); refine zD rfl ?_)  | refine zJ ?_ | refine zB rfl ?_ | with_reducible (first | refine zC ?_ | refine zR ?_ | refine zV ?_ | refine zF ?_ | refine zQ ?_) | ((with_reducible refine zA ?_ ?_); kernel_rfl))
        refine zj (by first | exact .inr rfl | exact .inl rfl) rfl rfl ?_
        rw [← hf]
      have hP : qa (L.take i) k = true := by unfold qa; rw [dL i0 hq]; simpa using h
      repeat (first | ((with_reducible refine zE ?_); refine zD rfl ?_)  | refine zJ ?_ | refine zB rfl ?_ | with_reducible (first | refine zC ?_ | refine zF ?_ | refine zU ?_ | refine zN ?_) | ((with_reducible refine zA ?_ ?_); kernel_rfl))
      rotate_left
      have b0 : decide ((i : Int) > 0) = false := by simp [i0]
      have hP : qa (L.take i) k = true := by subst i0; rfl
      repeat (first | ((with_reducible refine zI ?_); refine zH rfl ?_) | ((with_reducible refine zE ?_); refine zD rfl ?_) | ((with_reducible refine zZ ?_); refine zi rfl (by first | rfl | assumption) rfl ?_) | ((with_reducible refine zP ?_); refine zS rfl rfl rfl ?_)  | refine zJ ?_ | refine jD (by kernel_rfl) ?_ | refine zB rfl ?_ | refine yH rfl rfl (by first | rfl | assumption) ?_ | with_reducible (first | refine zC ?_ | refine zF ?_ | refine zU ?_ | refine zN ?_) | ((with_reducible refine zA ?_ ?_); kernel_rfl) | ((with_reducible refine yz mixd ?_ ?_); kernel_rfl) | refine zy rfl (by first | rfl | assumption) ?_)
      all_goals
        refine yL (ι := Nat) (fun j => j ≤ i ∧ qP (L.take j) k = false) (fun j => i - j) (fun v j => [(1, .sl 3 (L.map Lk.av)), (2, .ptr 2 (v 2) 0), (6, .v (.int .i64 i)), (8, .v (.int .i64 j))]) (fun v j => [(2, .box [.sl 3 (N.map Nd.av), .sl 5 (V.map Dv.av)])]) ?_ ?_
        · exact ⟨0, ⟨Nat.zero_le _, rfl⟩, trivial, ⟨rfl, rfl, rfl, rfl, trivial⟩, ⟨rfl, trivial⟩⟩
        · rintro v j ⟨hj, hu⟩
          repeat (first | ((with_reducible refine zI ?_); refine zH rfl ?_) | ((with_reducible refine zP ?_); refine zS rfl rfl rfl ?_)  | refine zJ ?_ | refine zB rfl ?_ | with_reducible (first | refine zC ?_ | refine zF ?_) | ((with_reducible refine zA ?_ ?_); kernel_rfl))
          refine zX rfl (fun h => ?_) (fun h => ?_)
          · have hji : j < i := by simpa using h
            obtain ⟨y, hjy⟩ := zT (L := L) (k := j) (by omega)
            have hz := cO hjy
            repeat (first | ((with_reducible refine zI ?_); refine zH rfl ?_) | ((with_reducible refine zK ?_); refine yX tbOk rfl rfl rfl rfl ?_) | ((with_reducible refine zO ?_); refine zm tbOk rfl rfl rfl ?_) | ((with_reducible refine zW ?_); refine zb tbOk rfl rfl rfl rfl (by assumption) ?_) | ((with_reducible refine zP ?_); refine zS rfl rfl rfl ?_)  | refine zB rfl ?_ | with_reducible (first | refine zC ?_ | refine zF ?_ | refine zU ?_ | refine zN ?_) | ((with_reducible refine yz mixd ?_ ?_); kernel_rfl))
            refine yD rfl rfl (fun c1 => ?_) (fun c1 => ?_)
            · have c1' : y.d = k.d := by simpa using c1
              repeat (first | ((with_reducible refine zI ?_); refine zH rfl ?_) | ((with_reducible refine zK ?_); refine yX tbOk rfl rfl rfl rfl ?_) | ((with_reducible refine zO ?_); refine zm tbOk rfl rfl rfl ?_) | ((with_reducible refine zZ ?_); refine zh rfl (by first | rfl | assumption) rfl ?_) | ((with_reducible refine zW ?_); refine zb tbOk rfl rfl rfl rfl (by assumption) ?_) | ((with_reducible refine zP ?_); refine zS rfl rfl rfl ?_)  | refine jD (by kernel_rfl) ?_ | refine zB rfl ?_ | refine zq rfl rfl (by first | rfl | assumption) ?_ | with_reducible refine zC ?_ )
              refine zX rfl (fun c2 => ?_) (fun c2 => ?_)
              · have c2' : ¬ y.p = k.p := by simpa using c2
                rw [lkE_18 hF hP (tE hjy hji c1' c2'), if_pos (by decide)] at hf
                repeat (first | ((with_reducible refine zE ?_); refine zD rfl ?_)  | refine zJ ?_ | refine zB rfl ?_ | with_reducible (first | refine zC ?_ | refine zR ?_ | refine zV ?_ | refine zF ?_ | refine zQ ?_) | ((with_reducible refine zA ?_ ?_); kernel_rfl))
                refine zj (by first | exact .inr rfl | exact .inl rfl) rfl rfl ?_
                rw [← hf]
              · have c2' : y.p = k.p := by simpa using c2
                repeat (first | ((with_reducible refine zI ?_); refine zH rfl ?_) | ((with_reducible refine zE ?_); refine zD rfl ?_) | ((with_reducible refine zP ?_); refine zY rfl rfl (by omega) ?_)  | refine zJ ?_ | refine zB rfl ?_ | with_reducible (first | refine zC ?_ | refine zd ?_ | refine zN ?_) | ((with_reducible refine zA ?_ ?_); kernel_rfl))
                exact ⟨j + 1, ⟨by omega, by rw [iU hjy, hu, decide_eq_true c2']; simp⟩, by omega, ⟨rfl, rfl, rfl, rfl, trivial⟩, ⟨rfl, trivial⟩⟩
            · have c1' : ¬ y.d = k.d := by simpa using c1
              repeat (first | ((with_reducible refine zI ?_); refine zH rfl ?_) | ((with_reducible refine zE ?_); refine zD rfl ?_) | ((with_reducible refine zZ ?_); refine zi rfl (by first | rfl | assumption) rfl ?_) | ((with_reducible refine zP ?_); refine zY rfl rfl (by omega) ?_)  | refine zJ ?_ | refine jD (by kernel_rfl) ?_ | refine zB rfl ?_ | refine yH rfl rfl (by first | rfl | assumption) ?_ | with_reducible (first | refine zC ?_ | refine zd ?_ | refine zN ?_) | ((with_reducible refine zA ?_ ?_); kernel_rfl) | refine zy rfl (by first | rfl | assumption) ?_)
              exact ⟨j + 1, ⟨by omega, by rw [iU hjy, hu, decide_eq_false c1']; simp⟩, by omega, ⟨rfl, rfl, rfl, rfl, trivial⟩, ⟨rfl, trivial⟩⟩
          · obtain rfl : j = i := by simp at h; omega
            have hO := hu
            repeat (first | ((with_reducible refine zE ?_); refine zD rfl ?_)  | refine zJ ?_ | refine zB rfl ?_ | with_reducible (first | refine zC ?_ | refine ze ?_ | refine zF ?_ | refine zU ?_ | refine zr ?_) | ((with_reducible refine za ?_ ?_); rfl) | ((with_reducible refine zA ?_ ?_); kernel_rfl))
            refine yL (ι := Nat) (fun m => m ≤ j ∧ keyB (L.take m) k.k = false) (fun m => j - m) (fun v m => [(1, .sl 3 (L.map Lk.av)), (2, .ptr 2 (v 2) 0), (6, .v (.int .i64 j)), (9, .v (.int .i64 m))]) (fun v m => [(2, .box [.sl 3 (N.map Nd.av), .sl 5 (V.map Dv.av)])]) ?_ ?_
            · exact ⟨0, ⟨Nat.zero_le _, rfl⟩, trivial, ⟨rfl, rfl, rfl, rfl, trivial⟩, ⟨rfl, trivial⟩⟩
            · rintro v m ⟨hm, hw⟩
              repeat (first | ((with_reducible refine zI ?_); refine zH rfl ?_) | ((with_reducible refine zP ?_); refine zS rfl rfl rfl ?_)  | refine zJ ?_ | refine zB rfl ?_ | with_reducible (first | refine zC ?_ | refine zF ?_) | ((with_reducible refine zA ?_ ?_); kernel_rfl))
              refine zX rfl (fun h => ?_) (fun h => ?_)
              · have hmj : m < j := by simpa using h
                obtain ⟨y, hjy⟩ := zT (L := L) (k := m) (by omega)
                have hz := cO hjy
                repeat (first | ((with_reducible refine zI ?_); refine zH rfl ?_) | ((with_reducible refine zK ?_); refine yX tbOk rfl rfl rfl rfl ?_) | ((with_reducible refine zO ?_); refine zm tbOk rfl rfl rfl ?_) | ((with_reducible refine zW ?_); refine zb tbOk rfl rfl rfl rfl (by assumption) ?_) | ((with_reducible refine zP ?_); refine zS rfl rfl rfl ?_)  | refine jD (by kernel_rfl) ?_ | refine zB rfl ?_ | with_reducible (first | refine zC ?_ | refine zF ?_ | refine zU ?_ | refine zN ?_) | ((with_reducible refine yz mixd ?_ ?_); kernel_rfl))
                refine zX rfl (fun c1 => ?_) (fun c1 => ?_)
                · have c1' : y.k = k.k := by simpa using c1
                  rw [lkE_4 hF hP hO (sY hjy hmj c1'), if_pos (by decide)] at hf
                  repeat (first | ((with_reducible refine zE ?_); refine zD rfl ?_)  | refine zJ ?_ | refine zB rfl ?_ | with_reducible (first | refine zC ?_ | refine zR ?_ | refine zV ?_ | refine zF ?_ | refine zQ ?_) | ((with_reducible refine zA ?_ ?_); kernel_rfl))
                  refine zj (by first | exact .inr rfl | exact .inl rfl) rfl rfl ?_
                  rw [← hf]
                · have c1' : ¬ y.k = k.k := by simpa using c1
                  repeat (first | ((with_reducible refine zI ?_); refine zH rfl ?_) | ((with_reducible refine zE ?_); refine zD rfl ?_) | ((with_reducible refine zP ?_); refine zY rfl rfl (by omega) ?_)  | refine zJ ?_ | refine zB rfl ?_ | with_reducible (first | refine zC ?_ | refine zd ?_ | refine zN ?_) | ((with_reducible refine zA ?_ ?_); kernel_rfl))
                  exact ⟨m + 1, ⟨by omega, by rw [nS hjy, hw, decide_eq_false c1']; rfl⟩, by omega, ⟨rfl, rfl, rfl, rfl, trivial⟩, ⟨rfl, trivial⟩⟩
              · obtain rfl : m = j := by simp at h; omega
                rw [lkE_0 hF hP hO hw, if_neg (by decide)] at hf
                repeat (first | ((with_reducible refine zI ?_); refine zH rfl ?_) | ((with_reducible refine zE ?_); refine zD rfl ?_) | ((with_reducible refine zP ?_); refine zY rfl rfl (by omega) ?_)  | refine zJ ?_ | refine zB rfl ?_ | with_reducible (first | refine zC ?_ | refine ze ?_ | refine zd ?_ | refine zr ?_) | ((with_reducible refine za ?_ ?_); rfl) | ((with_reducible refine zA ?_ ?_); kernel_rfl))
                exact ⟨m + 1, ⟨by omega, hf⟩, by omega, ⟨rfl, rfl, rfl, trivial⟩, ⟨rfl, trivial⟩⟩
    · have hlt : ¬ i < L.length := by simpa using h
      rw [List.drop_of_length_le (by omega)] at hf
      repeat (first | ((with_reducible refine zE ?_); refine zD rfl ?_)  | refine zJ ?_ | refine zB rfl ?_ | with_reducible (first | refine zC ?_ | refine ze ?_ | refine zF ?_ | refine zr ?_ | refine zQ ?_) | ((with_reducible refine za ?_ ?_); rfl) | ((with_reducible refine zA ?_ ?_); kernel_rfl))
      refine zj (by first | exact .inr rfl | exact .inl rfl) rfl rfl ?_
      rw [← hf]; rfl
theorem iM {L : List Lk} {d : Int} {j : Nat} {x : Lk} (h : L[j]? = some x) (h1 : ¬ x.d = d) : yZ (L.drop j) d = yZ (L.drop (j + 1)) d := by
  rw [yq h]; unfold yZ; rw [List.find?_cons_of_neg (by simpa using h1)]
theorem lA {L : List Lk} {d : Int} {j : Nat} {x : Lk} (h : L[j]? = some x) (h1 : x.d = d) : yZ (L.drop j) d = (x.p, true) := by
  rw [yq h]; unfold yZ; rw [List.find?_cons_of_pos (by simpa using h1)]
theorem locked_A (L : List Lk) (d : Int) (hm : L.length ≤ maxLen) : zu Tryz.prog G 100 [.sl 3 (L.map Lk.av), .v (.int .i64 d)] [] (.tu [.v (.int .i64 (yZ L d).1), .v (.bool (yZ L d).2)]) [] := by
  have hml : L.length ≤ 9223372036854775807 := by unfold maxLen at hm; omega
  refine zf tbOk (zM Tryz.func100 (by kernel_rfl) rfl) Tryz.func100 rfl _ Tryz.ntmps100 (Nat.le_of_ble_eq_true rfl) fun X hX => ?_
  subst hX
  repeat (first | ((with_reducible refine zE ?_); refine zD rfl ?_)  | refine zJ ?_ | refine zB rfl ?_ | with_reducible (first | refine zC ?_ | refine zF ?_ | refine zU ?_) | ((with_reducible refine zA ?_ ?_); kernel_rfl))
  refine yL (ι := Nat) (fun j => j ≤ L.length ∧ yZ (L.drop j) d = yZ L d) (fun j => L.length - j) (fun v j => [(0, .sl 3 (L.map Lk.av)), (1, .v (.int .i64 d)), (6, .v (.int .i64 j))]) (fun v j => []) ?_ ?_
  · exact ⟨0, ⟨Nat.zero_le _, rfl⟩, trivial, ⟨rfl, rfl, rfl, trivial⟩, trivial⟩
  · rintro v j ⟨hj, hf⟩
    repeat (first | ((with_reducible refine zI ?_); refine zH rfl ?_) | ((with_reducible refine zp ?_); refine yU tbOk rfl rfl ?_) | ((with_reducible refine zP ?_); refine zS rfl rfl rfl ?_)  | refine zJ ?_ | refine zB rfl ?_ | with_reducible (first | refine zC ?_ | refine zF ?_) | ((with_reducible refine zA ?_ ?_); kernel_rfl))
    refine zX rfl (fun h => ?_) (fun h => ?_)
    · have hlt : j < L.length := by simpa using h
      obtain ⟨x, hx⟩ := zT hlt
      have hy := cO hx
      repeat (first | ((with_reducible refine zI ?_); refine zH rfl ?_) | ((with_reducible refine zK ?_); refine yX tbOk rfl rfl rfl rfl ?_) | ((with_reducible refine zO ?_); refine zm tbOk rfl rfl rfl ?_) | ((with_reducible refine zW ?_); refine zb tbOk rfl rfl rfl rfl (by assumption) ?_) | ((with_reducible refine zP ?_); refine zS rfl rfl rfl ?_)  | refine zJ ?_ | refine zB rfl ?_ | with_reducible (first | refine zC ?_ | refine zF ?_ | refine zU ?_ | refine zN ?_) | ((with_reducible refine zA ?_ ?_); kernel_rfl))
      refine zX rfl (fun h => ?_) (fun h => ?_)
      · have h1 : x.d = d := by simpa using h
        rw [← hf, lA hx h1]
        repeat (first | ((with_reducible refine zI ?_); refine zH rfl ?_) | ((with_reducible refine zE ?_); refine zD rfl ?_) | ((with_reducible refine zK ?_); refine yX tbOk rfl rfl rfl rfl ?_) | ((with_reducible refine zO ?_); refine zm tbOk rfl rfl rfl ?_) | ((with_reducible refine zW ?_); refine zb tbOk rfl rfl rfl rfl (by assumption) ?_)  | refine zJ ?_ | refine zB rfl ?_ | with_reducible (first | refine zC ?_ | refine zR ?_ | refine zV ?_ | refine zF ?_ | refine zQ ?_) | ((with_reducible refine zA ?_ ?_); kernel_rfl))
        refine jx (by first | exact .inr rfl | exact .inl rfl) rfl rfl rfl ?_
        repeat' (first | exact trivial | exact Ren.v _ | exact Ren.sl _ _ | exact Ren.ep _ | exact Ren.ptr _ _ _ _ rfl | exact Ren.bs _ _ _ _ _ rfl | exact Ren.nil _ | exact Ren.own _ _ _ _ ⟨_, rfl⟩ | refine zn ?_ | refine zz ?_ | refine yG ?_ | refine ⟨?_, ?_⟩)
      · have h1 : ¬ x.d = d := by simpa using h
        rw [iM hx h1] at hf
        repeat (first | ((with_reducible refine zI ?_); refine zH rfl ?_) | ((with_reducible refine zE ?_); refine zD rfl ?_) | ((with_reducible refine zP ?_); refine zY rfl rfl (by omega) ?_)  | refine zJ ?_ | refine zB rfl ?_ | with_reducible (first | refine zC ?_ | refine zd ?_ | refine zN ?_) | ((with_reducible refine zA ?_ ?_); kernel_rfl))
        exact ⟨j + 1, ⟨by omega, hf⟩, by omega, ⟨rfl, rfl, rfl, trivial⟩, trivial⟩
    · have hlt : ¬ j < L.length := by simpa using h
      rw [← hf, List.drop_of_length_le (by omega)]
      repeat (first | ((with_reducible refine zE ?_); refine zD rfl ?_)  | refine zJ ?_ | refine zB rfl ?_ | with_reducible (first | refine zC ?_ | refine ze ?_ | refine zF ?_ | refine zr ?_ | refine zQ ?_) | ((with_reducible refine za ?_ ?_); rfl) | ((with_reducible refine zA ?_ ?_); kernel_rfl))
      refine jx (by first | exact .inr rfl | exact .inl rfl) rfl rfl rfl ?_
      repeat' (first | exact trivial | exact Ren.v _ | exact Ren.sl _ _ | exact Ren.ep _ | exact Ren.ptr _ _ _ _ rfl | exact Ren.bs _ _ _ _ _ rfl | exact Ren.nil _ | exact Ren.own _ _ _ _ ⟨_, rfl⟩ | refine zn ?_ | refine zz ?_ | refine yG ?_ | refine ⟨?_, ?_⟩)
end Go.Proofs.YtnafokinifbfhaaGreatDoor
