/- document.Check, All, Find, Active and their references, by the abstract machine; conditions: the table of classes stands. -/
import Derived.Test.YtjamibeffalhaaaGreatDoorDcA
set_option linter.unusedVariables false
set_option linter.unusedSimpArgs false
namespace Go.Proofs.YtjamibeffalhaaaGreatDoor
open Go Go.RowKit
set_option maxRecDepth 10000
variable {G : Nat → Option (List Value)}
/-- A document that the machine can hold. -/
structure DcSz (d : Dc) : Prop where
  z : d.zone.length ≤ maxLen
  l : d.lk.length ≤ maxLen
  i : d.iss.size ≤ maxLen
  h : d.hol.size ≤ maxLen
  c : d.ce.length ≤ maxLen
set_option maxHeartbeats 4000000 in
theorem kS (N : List Nd) (V : List Dv) (d : Dc) (hG : GCls G) (ok : NwOk N V) (od : DcSz d) : zz Tryz.prog G 24 [jo N V, d.av] [] (.v (.int .i64 (docE N V d))) [] := by
  unfold docE
  refine zb tbOk (zc Tryz.func24 (by kernel_rfl) rfl) Tryz.func24 rfl _ Tryz.ntmps24 (Nat.le_of_ble_eq_true rfl) fun X hX => ?_
  subst hX
  repeat (first | ((with_reducible refine zE ?_); refine zF rfl ?_) | ((with_reducible refine zR ?_); refine zk tbOk rfl rfl rfl rfl (Nat.le_of_ble_eq_true rfl) ?_) | ((with_reducible refine yr ?_); refine yu rfl rfl rfl ?_)  | refine zL ?_ | refine zB rfl ?_ | with_reducible (first | refine zG ?_ | refine zH ?_) | ((with_reducible refine zA ?_ ?_); kernel_rfl))
  refine zC (jx N V hG ok.n ok.v ok.l1 ok.l2) ?_
  repeat (first | ((with_reducible refine zK ?_); refine zJ rfl ?_) | ((with_reducible refine zE ?_); refine zF rfl ?_) | ((with_reducible refine zQ ?_); refine zT rfl rfl rfl ?_)  | refine zL ?_ | refine zB rfl ?_ | with_reducible (first | refine zG ?_ | refine zH ?_) | ((with_reducible refine zA ?_ ?_); kernel_rfl))
  refine zZ rfl (fun h => ?_) (fun h => ?_)
  · rw [if_pos (by simpa using h)]
    repeat (first | ((with_reducible refine zK ?_); refine zJ rfl ?_) | ((with_reducible refine zE ?_); refine zF rfl ?_)  | refine zL ?_ | refine zB rfl ?_ | with_reducible (first | refine zG ?_ | refine zO ?_ | refine zH ?_ | refine zN ?_) | ((with_reducible refine zA ?_ ?_); kernel_rfl))
    refine zm (by first | exact .inr rfl | exact .inl rfl) rfl rfl ?_
    rfl
  rw [if_neg (by simpa using h)]
  repeat (first | ((with_reducible refine zM ?_); refine zI tbOk rfl rfl rfl rfl ?_) | ((with_reducible refine zR ?_); refine zP tbOk rfl rfl rfl rfl rfl ?_)  | refine zB rfl ?_ | with_reducible (first | refine zG ?_ | refine zH ?_ | refine zY ?_ | refine zS ?_) | ((with_reducible refine zA ?_ ?_); kernel_rfl))
  refine zC (dnum_A d.num) ?_
  repeat (first | ((with_reducible refine zE ?_); refine zF rfl ?_) | ((with_reducible refine k_un ?_); refine jF rfl ?_)  | refine zL ?_ | refine zB rfl ?_ | with_reducible refine zG ?_ )
  refine zZ rfl (fun h => ?_) (fun h => ?_)
  · rw [if_pos (by simp at h; omega)]
    repeat (first | ((with_reducible refine zE ?_); refine zF rfl ?_)  | refine zL ?_ | refine zB rfl ?_ | with_reducible (first | refine zG ?_ | refine zO ?_ | refine zV ?_ | refine zH ?_ | refine zN ?_) | ((with_reducible refine zA ?_ ?_); kernel_rfl))
    refine zm (by first | exact .inr rfl | exact .inl rfl) rfl rfl ?_
    rfl
  rw [if_neg (by simp at h; omega)]
  repeat (first | ((with_reducible refine zK ?_); refine zJ rfl ?_) | ((with_reducible refine zM ?_); refine zI tbOk rfl rfl rfl rfl ?_) | ((with_reducible refine zR ?_); refine zP tbOk rfl rfl rfl rfl rfl ?_) | ((with_reducible refine zQ ?_); refine zT rfl rfl rfl ?_)  | refine zB rfl ?_ | with_reducible refine zH ?_ | ((with_reducible refine zA ?_ ?_); kernel_rfl))
  refine zv rfl rfl (fun b => ?_) (fun b => ?_)
  · rw [if_pos (by simp at b; omega)]
    repeat (first | ((with_reducible refine zE ?_); refine zF rfl ?_) | ((with_reducible refine za ?_); refine zh rfl (by first | rfl | assumption) rfl ?_)  | refine zL ?_ | refine zB rfl ?_ | refine yA rfl rfl (by first | rfl | assumption) ?_ | with_reducible (first | refine zG ?_ | refine zO ?_ | refine zV ?_ | refine zH ?_ | refine zN ?_) | ((with_reducible refine zA ?_ ?_); kernel_rfl) | refine zn rfl (by first | rfl | assumption) ?_)
    refine zm (by first | exact .inr rfl | exact .inl rfl) rfl rfl ?_
    rfl
  repeat (first | ((with_reducible refine zE ?_); refine zF rfl ?_) | ((with_reducible refine zM ?_); refine zI tbOk rfl rfl rfl rfl ?_) | ((with_reducible refine zR ?_); refine zP tbOk rfl rfl rfl rfl rfl ?_) | ((with_reducible refine za ?_); refine zf rfl (by first | rfl | assumption) rfl ?_) | ((with_reducible refine zQ ?_); refine zT rfl rfl rfl ?_)  | refine zL ?_ | refine zB rfl ?_ | refine zw rfl rfl (by first | rfl | assumption) ?_ | with_reducible refine zG ?_ )
  refine zZ rfl (fun c => ?_) (fun c => ?_)
  · rw [if_pos (by simp at c; omega)]
    repeat (first | ((with_reducible refine zE ?_); refine zF rfl ?_)  | refine zL ?_ | refine zB rfl ?_ | with_reducible (first | refine zG ?_ | refine zO ?_ | refine zV ?_ | refine zH ?_ | refine zN ?_) | ((with_reducible refine zA ?_ ?_); kernel_rfl))
    refine zm (by first | exact .inr rfl | exact .inl rfl) rfl rfl ?_
    rfl
  rw [if_neg (by simp at b c; omega)]
  clear b c
  repeat (first | ((with_reducible refine zK ?_); refine zJ rfl ?_) | ((with_reducible refine zM ?_); refine zI tbOk rfl rfl rfl rfl ?_) | ((with_reducible refine zR ?_); refine zP tbOk rfl rfl rfl rfl rfl ?_) | ((with_reducible refine zQ ?_); refine zT rfl rfl rfl ?_)  | refine zB rfl ?_ | with_reducible refine zH ?_ | ((with_reducible refine zA ?_ ?_); kernel_rfl))
  refine zv rfl rfl (fun b => ?_) (fun b => ?_)
  · rw [if_pos (by simp at b; omega)]
    repeat (first | ((with_reducible refine zE ?_); refine zF rfl ?_) | ((with_reducible refine za ?_); refine zh rfl (by first | rfl | assumption) rfl ?_)  | refine zL ?_ | refine zB rfl ?_ | refine yA rfl rfl (by first | rfl | assumption) ?_ | with_reducible (first | refine zG ?_ | refine zO ?_ | refine zV ?_ | refine zH ?_ | refine zN ?_) | ((with_reducible refine zA ?_ ?_); kernel_rfl) | refine zn rfl (by first | rfl | assumption) ?_)
    refine zm (by first | exact .inr rfl | exact .inl rfl) rfl rfl ?_
    rfl
  repeat (first | ((with_reducible refine zE ?_); refine zF rfl ?_) | ((with_reducible refine zM ?_); refine zI tbOk rfl rfl rfl rfl ?_) | ((with_reducible refine zR ?_); refine zP tbOk rfl rfl rfl rfl rfl ?_) | ((with_reducible refine za ?_); refine zf rfl (by first | rfl | assumption) rfl ?_) | ((with_reducible refine zQ ?_); refine zT rfl rfl rfl ?_)  | refine zL ?_ | refine zB rfl ?_ | refine zw rfl rfl (by first | rfl | assumption) ?_ | with_reducible refine zG ?_ )
  refine zZ rfl (fun c => ?_) (fun c => ?_)
  · rw [if_pos (by simp at c; omega)]
    repeat (first | ((with_reducible refine zE ?_); refine zF rfl ?_)  | refine zL ?_ | refine zB rfl ?_ | with_reducible (first | refine zG ?_ | refine zO ?_ | refine zV ?_ | refine zH ?_ | refine zN ?_) | ((with_reducible refine zA ?_ ?_); kernel_rfl))
    refine zm (by first | exact .inr rfl | exact .inl rfl) rfl rfl ?_
    rfl
  rw [if_neg (by simp at b c; omega)]
  clear b c
  repeat (first | ((with_reducible refine zK ?_); refine zJ rfl ?_) | ((with_reducible refine zM ?_); refine zI tbOk rfl rfl rfl rfl ?_) | ((with_reducible refine zR ?_); refine zP tbOk rfl rfl rfl rfl rfl ?_) | ((with_reducible refine zQ ?_); refine zT rfl rfl rfl ?_)  | refine zB rfl ?_ | with_reducible refine zH ?_ | ((with_reducible refine zA ?_ ?_); kernel_rfl))
  refine zv rfl rfl (fun b => ?_) (fun b => ?_)
  · rw [if_pos (by simp at b; omega)]
    repeat (first | ((with_reducible refine zE ?_); refine zF rfl ?_) | ((with_reducible refine za ?_); refine zh rfl (by first | rfl | assumption) rfl ?_)  | refine zL ?_ | refine zB rfl ?_ | refine yA rfl rfl (by first | rfl | assumption) ?_ | with_reducible (first | refine zG ?_ | refine zO ?_ | refine zV ?_ | refine zH ?_ | refine zN ?_) | ((with_reducible refine zA ?_ ?_); kernel_rfl) | refine zn rfl (by first | rfl | assumption) ?_)
    refine zm (by first | exact .inr rfl | exact .inl rfl) rfl rfl ?_
    rfl
  repeat (first | ((with_reducible refine zE ?_); refine zF rfl ?_) | ((with_reducible refine zM ?_); refine zI tbOk rfl rfl rfl rfl ?_) | ((with_reducible refine zR ?_); refine zP tbOk rfl rfl rfl rfl rfl ?_) | ((with_reducible refine za ?_); refine zf rfl (by first | rfl | assumption) rfl ?_) | ((with_reducible refine zQ ?_); refine zT rfl rfl rfl ?_)  | refine zL ?_ | refine zB rfl ?_ | refine zw rfl rfl (by first | rfl | assumption) ?_ | with_reducible refine zG ?_ )
  refine zZ rfl (fun c => ?_) (fun c => ?_)
  · rw [if_pos (by simp at c; omega)]
    repeat (first | ((with_reducible refine zE ?_); refine zF rfl ?_)  | refine zL ?_ | refine zB rfl ?_ | with_reducible (first | refine zG ?_ | refine zO ?_ | refine zV ?_ | refine zH ?_ | refine zN ?_) | ((with_reducible refine zA ?_ ?_); kernel_rfl))
    refine zm (by first | exact .inr rfl | exact .inl rfl) rfl rfl ?_
    rfl
  rw [if_neg (by simp at b c; omega)]
  clear b c
  repeat (first | ((with_reducible refine zM ?_); refine zI tbOk rfl rfl rfl rfl ?_) | ((with_reducible refine zR ?_); (first | refine zP tbOk rfl rfl rfl rfl rfl ?_ | refine zk tbOk rfl rfl rfl rfl (Nat.le_of_ble_eq_true rfl) ?_))  | refine zB rfl ?_ | with_reducible (first | refine zG ?_ | refine zu ?_ | refine zH ?_ | refine zS ?_) | ((with_reducible refine zA ?_ ?_); kernel_rfl))
  refine zC (zcheck_A N V d.zone hG ok od.z) ?_
  repeat (first | ((with_reducible refine zK ?_); refine zJ rfl ?_) | ((with_reducible refine zE ?_); refine zF rfl ?_) | ((with_reducible refine zQ ?_); refine zT rfl rfl rfl ?_)  | refine zL ?_ | refine zB rfl ?_ | with_reducible (first | refine zG ?_ | refine zH ?_) | ((with_reducible refine zA ?_ ?_); kernel_rfl))
  refine zZ rfl (fun h => ?_) (fun h => ?_)
  · rw [if_pos (by simpa using h)]
    repeat (first | ((with_reducible refine zK ?_); refine zJ rfl ?_) | ((with_reducible refine zE ?_); refine zF rfl ?_)  | refine zL ?_ | refine zB rfl ?_ | with_reducible (first | refine zG ?_ | refine zO ?_ | refine zH ?_ | refine zN ?_) | ((with_reducible refine zA ?_ ?_); kernel_rfl))
    refine zm (by first | exact .inr rfl | exact .inl rfl) rfl rfl ?_
    rfl
  rw [if_neg (by simpa using h)]
  repeat (first | ((with_reducible refine zK ?_); refine zJ rfl ?_) | ((with_reducible refine zM ?_); refine zI tbOk rfl rfl rfl rfl ?_) | ((with_reducible refine zR ?_); refine zP tbOk rfl rfl rfl rfl rfl ?_) | ((with_reducible refine zQ ?_); refine zT rfl rfl rfl ?_)  | refine zB rfl ?_ | with_reducible (first | refine zG ?_ | refine zH ?_ | refine zS ?_) | ((with_reducible refine zA ?_ ?_); kernel_rfl))
  refine zv rfl rfl (fun b => ?_) (fun b => ?_)
  · rw [if_pos (by simp at b; omega)]
    repeat (first | ((with_reducible refine zE ?_); refine zF rfl ?_) | ((with_reducible refine za ?_); refine zh rfl (by first | rfl | assumption) rfl ?_)  | refine zL ?_ | refine zB rfl ?_ | refine yA rfl rfl (by first | rfl | assumption) ?_ | with_reducible (first | refine zG ?_ | refine zO ?_ | refine zH ?_ | refine zN ?_) | ((with_reducible refine zA ?_ ?_); kernel_rfl) | refine zn rfl (by first | rfl | assumption) ?_)
    refine zm (by first | exact .inr rfl | exact .inl rfl) rfl rfl ?_
    rfl
  repeat (first | ((with_reducible refine zM ?_); refine zI tbOk rfl rfl rfl rfl ?_) | ((with_reducible refine zR ?_); refine zP tbOk rfl rfl rfl rfl rfl ?_) | ((with_reducible refine za ?_); refine zf rfl (by first | rfl | assumption) rfl ?_) | ((with_reducible refine zQ ?_); refine zT rfl rfl rfl ?_)  | refine zL ?_ | refine zB rfl ?_ | refine zw rfl rfl (by first | rfl | assumption) ?_ | with_reducible refine zG ?_ )
  refine zZ rfl (fun c => ?_) (fun c => ?_)
  · rw [if_pos (by simp at c; omega)]
    repeat (first | ((with_reducible refine zE ?_); refine zF rfl ?_)  | refine zL ?_ | refine zB rfl ?_ | with_reducible (first | refine zG ?_ | refine zO ?_ | refine zH ?_ | refine zN ?_) | ((with_reducible refine zA ?_ ?_); kernel_rfl))
    refine zm (by first | exact .inr rfl | exact .inl rfl) rfl rfl ?_
    rfl
  rw [if_neg (by simp at b c; omega)]
  clear b c
  repeat (first | ((with_reducible refine zM ?_); refine zI tbOk rfl rfl rfl rfl ?_) | ((with_reducible refine zR ?_); (first | refine zP tbOk rfl rfl rfl rfl rfl ?_ | refine zk tbOk rfl rfl rfl rfl (Nat.le_of_ble_eq_true rfl) ?_))  | refine zB rfl ?_ | with_reducible (first | refine zG ?_ | refine zH ?_ | refine zS ?_) | ((with_reducible refine zA ?_ ?_); kernel_rfl))
  refine zC (xV N V d.lk hG ok.n ok.v ok.l1 ok.l2) ?_
  repeat (first | ((with_reducible refine zK ?_); refine zJ rfl ?_) | ((with_reducible refine zE ?_); refine zF rfl ?_) | ((with_reducible refine zQ ?_); refine zT rfl rfl rfl ?_)  | refine zL ?_ | refine zB rfl ?_ | with_reducible (first | refine zG ?_ | refine zH ?_) | ((with_reducible refine zA ?_ ?_); kernel_rfl))
  refine zZ rfl (fun h => ?_) (fun h => ?_)
  · rw [if_pos (by simpa using h)]
    repeat (first | ((with_reducible refine zK ?_); refine zJ rfl ?_) | ((with_reducible refine zE ?_); refine zF rfl ?_)  | refine zL ?_ | refine zB rfl ?_ | with_reducible (first | refine zG ?_ | refine zO ?_ | refine zH ?_ | refine zN ?_) | ((with_reducible refine zA ?_ ?_); kernel_rfl))
    refine zm (by first | exact .inr rfl | exact .inl rfl) rfl rfl ?_
    rfl
  rw [if_neg (by simpa using h)]
  repeat (first | ((with_reducible refine zM ?_); refine zI tbOk rfl rfl rfl rfl ?_) | ((with_reducible refine zR ?_); refine zP tbOk rfl rfl rfl rfl rfl ?_)  | refine zB rfl ?_ | with_reducible (first | refine zG ?_ | refine zH ?_ | refine zY ?_ | refine zS ?_) | ((with_reducible refine zA ?_ ?_); kernel_rfl))
  refine zC (nJ d.iss hG od.i) ?_
  repeat (first | ((with_reducible refine zK ?_); refine zJ rfl ?_) | ((with_reducible refine k_un ?_); refine jF rfl ?_)  | refine zB rfl ?_  )
  refine zv rfl rfl (fun b => ?_) (fun b => ?_)
  · rw [if_pos (.inl (by simpa using b))]
    repeat (first | ((with_reducible refine zE ?_); refine zF rfl ?_) | ((with_reducible refine za ?_); refine zh rfl (by first | rfl | assumption) rfl ?_)  | refine zL ?_ | refine zB rfl ?_ | refine yA rfl rfl (by first | rfl | assumption) ?_ | with_reducible (first | refine zG ?_ | refine zO ?_ | refine zV ?_ | refine zH ?_ | refine zN ?_) | ((with_reducible refine zA ?_ ?_); kernel_rfl) | refine zn rfl (by first | rfl | assumption) ?_)
    refine zm (by first | exact .inr rfl | exact .inl rfl) rfl rfl ?_
    rfl
  repeat (first | ((with_reducible refine zM ?_); refine zI tbOk rfl rfl rfl rfl ?_) | ((with_reducible refine zR ?_); refine zP tbOk rfl rfl rfl rfl rfl ?_)  | refine zw rfl rfl (by first | rfl | assumption) ?_  )
  refine zC (nJ d.hol hG od.h) ?_
  repeat (first | ((with_reducible refine zE ?_); refine zF rfl ?_) | ((with_reducible refine k_un ?_); refine jF rfl ?_) | ((with_reducible refine za ?_); refine zf rfl (by first | rfl | assumption) rfl ?_)  | refine zL ?_ | refine zB rfl ?_ | refine zw rfl rfl (by first | rfl | assumption) ?_ | with_reducible refine zG ?_ )
  refine zZ rfl (fun c => ?_) (fun c => ?_)
  · rw [if_pos (.inr (by simpa using c))]
    repeat (first | ((with_reducible refine zE ?_); refine zF rfl ?_)  | refine zL ?_ | refine zB rfl ?_ | with_reducible (first | refine zG ?_ | refine zO ?_ | refine zV ?_ | refine zH ?_ | refine zN ?_) | ((with_reducible refine zA ?_ ?_); kernel_rfl))
    refine zm (by first | exact .inr rfl | exact .inl rfl) rfl rfl ?_
    rfl
  rw [if_neg (by simp at b c; rw [b, c]; simp)]
  clear b c
  repeat (first | ((with_reducible refine zE ?_); refine zF rfl ?_) | ((with_reducible refine zM ?_); refine zI tbOk rfl rfl rfl rfl ?_) | ((with_reducible refine zR ?_); refine zP tbOk rfl rfl rfl rfl rfl ?_) | ((with_reducible refine zQ ?_); refine yh rfl rfl rfl ?_)  | refine zL ?_ | refine zB rfl ?_ | with_reducible (first | refine zG ?_ | refine zH ?_) | ((with_reducible refine zA ?_ ?_); kernel_rfl))
  refine zZ rfl (fun h => ?_) (fun h => ?_)
  · rw [if_pos (yz.1 h)]
    repeat (first | ((with_reducible refine zE ?_); refine zF rfl ?_)  | refine zL ?_ | refine zB rfl ?_ | with_reducible (first | refine zG ?_ | refine zO ?_ | refine zV ?_ | refine zH ?_ | refine zN ?_) | ((with_reducible refine zA ?_ ?_); kernel_rfl))
    refine zm (by first | exact .inr rfl | exact .inl rfl) rfl rfl ?_
    rfl
  rw [if_neg (fun e => by have h' : yI d.iss d.hol = false := h; rw [yz.2 e] at h'; cases h')]
  repeat (first | ((with_reducible refine zM ?_); refine zI tbOk rfl rfl rfl rfl ?_) | ((with_reducible refine zR ?_); refine zk tbOk rfl rfl rfl rfl (Nat.le_of_ble_eq_true rfl) ?_)  | refine zB rfl ?_ | with_reducible refine zH ?_ | ((with_reducible refine zA ?_ ?_); kernel_rfl))
  refine zC (wH d.f d.u) ?_
  repeat (first | ((with_reducible refine zE ?_); refine zF rfl ?_) | ((with_reducible refine k_un ?_); refine jF rfl ?_)  | refine zL ?_ | refine zB rfl ?_ | with_reducible refine zG ?_ )
  refine zZ rfl (fun h => ?_) (fun h => ?_)
  · rw [if_pos (by simpa using h)]
    repeat (first | ((with_reducible refine zE ?_); refine zF rfl ?_)  | refine zL ?_ | refine zB rfl ?_ | with_reducible (first | refine zG ?_ | refine zO ?_ | refine zV ?_ | refine zH ?_ | refine zN ?_) | ((with_reducible refine zA ?_ ?_); kernel_rfl))
    refine zm (by first | exact .inr rfl | exact .inl rfl) rfl rfl ?_
    rfl
  rw [if_neg (by simpa using h)]
  repeat (first | ((with_reducible refine zM ?_); refine zI tbOk rfl rfl rfl rfl ?_) | ((with_reducible refine zR ?_); refine zP tbOk rfl rfl rfl rfl rfl ?_)  | refine zB rfl ?_ | with_reducible (first | refine zG ?_ | refine zu ?_ | refine zH ?_ | refine zS ?_) | ((with_reducible refine zA ?_ ?_); kernel_rfl))
  refine zC (certs_A d.ce od.c) ?_
  repeat (first | ((with_reducible refine zE ?_); refine zF rfl ?_)  | refine zL ?_ | refine zB rfl ?_ | with_reducible (first | refine zG ?_ | refine zN ?_) )
  refine zm (by first | exact .inr rfl | exact .inl rfl) rfl rfl ?_
  rfl
set_option maxHeartbeats 4000000 in
theorem gN (N : List Nd) (V : List Dv) (d : Dc) (hG : GCls G) (ok : NwOk N V) (od : DcSz d) : zz Tryz.prog G 25 [jo N V, d.av] [] (.v (.int .i64 (docE N V d))) [] := by
  have hml : d.ce.length ≤ 9223372036854775807 := by have := od.c; unfold maxLen at this; omega
  unfold docE
  refine zb tbOk (zc Tryz.func25 (by kernel_rfl) rfl) Tryz.func25 rfl _ Tryz.ntmps25 (Nat.le_of_ble_eq_true rfl) fun X hX => ?_
  subst hX
  repeat (first | ((with_reducible refine zE ?_); refine zF rfl ?_) | ((with_reducible refine zR ?_); refine zk tbOk rfl rfl rfl rfl (Nat.le_of_ble_eq_true rfl) ?_) | ((with_reducible refine yr ?_); refine yu rfl rfl rfl ?_)  | refine zL ?_ | refine zB rfl ?_ | with_reducible (first | refine zG ?_ | refine zH ?_) | ((with_reducible refine zA ?_ ?_); kernel_rfl))
  refine zC (cP N V ok.n ok.v ok.l1 ok.l2) ?_
  repeat (first | ((with_reducible refine zK ?_); refine zJ rfl ?_) | ((with_reducible refine zE ?_); refine zF rfl ?_) | ((with_reducible refine zQ ?_); refine zT rfl rfl rfl ?_)  | refine zL ?_ | refine zB rfl ?_ | with_reducible (first | refine zG ?_ | refine zH ?_) | ((with_reducible refine zA ?_ ?_); kernel_rfl))
  refine zZ rfl (fun h => ?_) (fun h => ?_)
  · rw [if_pos (by simpa using h)]
    repeat (first | ((with_reducible refine zK ?_); refine zJ rfl ?_) | ((with_reducible refine zE ?_); refine zF rfl ?_)  | refine zL ?_ | refine zB rfl ?_ | with_reducible (first | refine zG ?_ | refine zO ?_ | refine zH ?_ | refine zN ?_) | ((with_reducible refine zA ?_ ?_); kernel_rfl))
    refine zm (by first | exact .inr rfl | exact .inl rfl) rfl rfl ?_
    rfl
  rw [if_neg (by simpa using h)]
  repeat (first | ((with_reducible refine zK ?_); refine zJ rfl ?_) | ((with_reducible refine zM ?_); refine zI tbOk rfl rfl rfl rfl ?_) | ((with_reducible refine zR ?_); refine zP tbOk rfl rfl rfl rfl rfl ?_) | ((with_reducible refine zQ ?_); refine zT rfl rfl rfl ?_)  | refine zB rfl ?_ | with_reducible (first | refine zG ?_ | refine zH ?_ | refine zY ?_ | refine zS ?_) | ((with_reducible refine zA ?_ ?_); kernel_rfl))
  refine zv rfl rfl (fun b => ?_) (fun b => ?_)
  · rw [if_pos (by simp at b; omega)]
    repeat (first | ((with_reducible refine zE ?_); refine zF rfl ?_) | ((with_reducible refine za ?_); refine zh rfl (by first | rfl | assumption) rfl ?_)  | refine zL ?_ | refine zB rfl ?_ | refine yA rfl rfl (by first | rfl | assumption) ?_ | with_reducible (first | refine zG ?_ | refine zO ?_ | refine zV ?_ | refine zH ?_ | refine zN ?_) | ((with_reducible refine zA ?_ ?_); kernel_rfl) | refine zn rfl (by first | rfl | assumption) ?_)
    refine zm (by first | exact .inr rfl | exact .inl rfl) rfl rfl ?_
    rfl
  repeat (first | ((with_reducible refine zE ?_); refine zF rfl ?_) | ((with_reducible refine zM ?_); refine zI tbOk rfl rfl rfl rfl ?_) | ((with_reducible refine zR ?_); refine zP tbOk rfl rfl rfl rfl rfl ?_) | ((with_reducible refine za ?_); refine zf rfl (by first | rfl | assumption) rfl ?_) | ((with_reducible refine zQ ?_); refine zT rfl rfl rfl ?_)  | refine zL ?_ | refine zB rfl ?_ | refine zw rfl rfl (by first | rfl | assumption) ?_ | with_reducible refine zG ?_ )
  refine zZ rfl (fun c => ?_) (fun c => ?_)
  · rw [if_pos (by simp at c; omega)]
    repeat (first | ((with_reducible refine zE ?_); refine zF rfl ?_)  | refine zL ?_ | refine zB rfl ?_ | with_reducible (first | refine zG ?_ | refine zO ?_ | refine zV ?_ | refine zH ?_ | refine zN ?_) | ((with_reducible refine zA ?_ ?_); kernel_rfl))
    refine zm (by first | exact .inr rfl | exact .inl rfl) rfl rfl ?_
    rfl
  rw [if_neg (by simp at b c; omega)]
  clear b c
  repeat (first | ((with_reducible refine zK ?_); refine zJ rfl ?_) | ((with_reducible refine zM ?_); refine zI tbOk rfl rfl rfl rfl ?_) | ((with_reducible refine zR ?_); refine zP tbOk rfl rfl rfl rfl rfl ?_) | ((with_reducible refine zQ ?_); refine zT rfl rfl rfl ?_)  | refine zB rfl ?_ | with_reducible refine zH ?_ | ((with_reducible refine zA ?_ ?_); kernel_rfl))
  refine zv rfl rfl (fun b => ?_) (fun b => ?_)
  · rw [if_pos (by simp at b; omega)]
    repeat (first | ((with_reducible refine zE ?_); refine zF rfl ?_) | ((with_reducible refine za ?_); refine zh rfl (by first | rfl | assumption) rfl ?_)  | refine zL ?_ | refine zB rfl ?_ | refine yA rfl rfl (by first | rfl | assumption) ?_ | with_reducible (first | refine zG ?_ | refine zO ?_ | refine zV ?_ | refine zH ?_ | refine zN ?_) | ((with_reducible refine zA ?_ ?_); kernel_rfl) | refine zn rfl (by first | rfl | assumption) ?_)
    refine zm (by first | exact .inr rfl | exact .inl rfl) rfl rfl ?_
    rfl
  repeat (first | ((with_reducible refine zE ?_); refine zF rfl ?_) | ((with_reducible refine zM ?_); refine zI tbOk rfl rfl rfl rfl ?_) | ((with_reducible refine zR ?_); refine zP tbOk rfl rfl rfl rfl rfl ?_) | ((with_reducible refine za ?_); refine zf rfl (by first | rfl | assumption) rfl ?_) | ((with_reducible refine zQ ?_); refine zT rfl rfl rfl ?_)  | refine zL ?_ | refine zB rfl ?_ | refine zw rfl rfl (by first | rfl | assumption) ?_ | with_reducible refine zG ?_ )
  refine zZ rfl (fun c => ?_) (fun c => ?_)
  · rw [if_pos (by simp at c; omega)]
    repeat (first | ((with_reducible refine zE ?_); refine zF rfl ?_)  | refine zL ?_ | refine zB rfl ?_ | with_reducible (first | refine zG ?_ | refine zO ?_ | refine zV ?_ | refine zH ?_ | refine zN ?_) | ((with_reducible refine zA ?_ ?_); kernel_rfl))
    refine zm (by first | exact .inr rfl | exact .inl rfl) rfl rfl ?_
    rfl
  rw [if_neg (by simp at b c; omega)]
  clear b c
  repeat (first | ((with_reducible refine zK ?_); refine zJ rfl ?_) | ((with_reducible refine zM ?_); refine zI tbOk rfl rfl rfl rfl ?_) | ((with_reducible refine zR ?_); refine zP tbOk rfl rfl rfl rfl rfl ?_) | ((with_reducible refine zQ ?_); refine zT rfl rfl rfl ?_)  | refine zB rfl ?_ | with_reducible refine zH ?_ | ((with_reducible refine zA ?_ ?_); kernel_rfl))
  refine zv rfl rfl (fun b => ?_) (fun b => ?_)
  · rw [if_pos (by simp at b; omega)]
    repeat (first | ((with_reducible refine zE ?_); refine zF rfl ?_) | ((with_reducible refine za ?_); refine zh rfl (by first | rfl | assumption) rfl ?_)  | refine zL ?_ | refine zB rfl ?_ | refine yA rfl rfl (by first | rfl | assumption) ?_ | with_reducible (first | refine zG ?_ | refine zO ?_ | refine zV ?_ | refine zH ?_ | refine zN ?_) | ((with_reducible refine zA ?_ ?_); kernel_rfl) | refine zn rfl (by first | rfl | assumption) ?_)
    refine zm (by first | exact .inr rfl | exact .inl rfl) rfl rfl ?_
    rfl
  repeat (first | ((with_reducible refine zE ?_); refine zF rfl ?_) | ((with_reducible refine zM ?_); refine zI tbOk rfl rfl rfl rfl ?_) | ((with_reducible refine zR ?_); refine zP tbOk rfl rfl rfl rfl rfl ?_) | ((with_reducible refine za ?_); refine zf rfl (by first | rfl | assumption) rfl ?_) | ((with_reducible refine zQ ?_); refine zT rfl rfl rfl ?_)  | refine zL ?_ | refine zB rfl ?_ | refine zw rfl rfl (by first | rfl | assumption) ?_ | with_reducible refine zG ?_ )
  refine zZ rfl (fun c => ?_) (fun c => ?_)
  · rw [if_pos (by simp at c; omega)]
    repeat (first | ((with_reducible refine zE ?_); refine zF rfl ?_)  | refine zL ?_ | refine zB rfl ?_ | with_reducible (first | refine zG ?_ | refine zO ?_ | refine zV ?_ | refine zH ?_ | refine zN ?_) | ((with_reducible refine zA ?_ ?_); kernel_rfl))
    refine zm (by first | exact .inr rfl | exact .inl rfl) rfl rfl ?_
    rfl
  rw [if_neg (by simp at b c; omega)]
  clear b c
  repeat (first | ((with_reducible refine zK ?_); refine zJ rfl ?_) | ((with_reducible refine zM ?_); refine zI tbOk rfl rfl rfl rfl ?_) | ((with_reducible refine zR ?_); refine zP tbOk rfl rfl rfl rfl rfl ?_) | ((with_reducible refine zQ ?_); refine zT rfl rfl rfl ?_)  | refine zB rfl ?_ | with_reducible refine zH ?_ | ((with_reducible refine zA ?_ ?_); kernel_rfl))
  refine zv rfl rfl (fun b => ?_) (fun b => ?_)
  · rw [if_pos (by simp at b; omega)]
    repeat (first | ((with_reducible refine zE ?_); refine zF rfl ?_) | ((with_reducible refine za ?_); refine zh rfl (by first | rfl | assumption) rfl ?_)  | refine zL ?_ | refine zB rfl ?_ | refine yA rfl rfl (by first | rfl | assumption) ?_ | with_reducible (first | refine zG ?_ | refine zO ?_ | refine zV ?_ | refine zH ?_ | refine zN ?_) | ((with_reducible refine zA ?_ ?_); kernel_rfl) | refine zn rfl (by first | rfl | assumption) ?_)
    refine zm (by first | exact .inr rfl | exact .inl rfl) rfl rfl ?_
    rfl
  repeat (first | ((with_reducible refine zE ?_); refine zF rfl ?_) | ((with_reducible refine zM ?_); refine zI tbOk rfl rfl rfl rfl ?_) | ((with_reducible refine zR ?_); refine zP tbOk rfl rfl rfl rfl rfl ?_) | ((with_reducible refine za ?_); refine zf rfl (by first | rfl | assumption) rfl ?_) | ((with_reducible refine zQ ?_); refine zT rfl rfl rfl ?_)  | refine zL ?_ | refine zB rfl ?_ | refine zw rfl rfl (by first | rfl | assumption) ?_ | with_reducible refine zG ?_ )
  refine zZ rfl (fun c => ?_) (fun c => ?_)
  · rw [if_pos (by simp at c; omega)]
    repeat (first | ((with_reducible refine zE ?_); refine zF rfl ?_)  | refine zL ?_ | refine zB rfl ?_ | with_reducible (first | refine zG ?_ | refine zO ?_ | refine zV ?_ | refine zH ?_ | refine zN ?_) | ((with_reducible refine zA ?_ ?_); kernel_rfl))
    refine zm (by first | exact .inr rfl | exact .inl rfl) rfl rfl ?_
    rfl
  rw [if_neg (by simp at b c; omega)]
  clear b c
  repeat (first | ((with_reducible refine zM ?_); refine zI tbOk rfl rfl rfl rfl ?_) | ((with_reducible refine zR ?_); (first | refine zP tbOk rfl rfl rfl rfl rfl ?_ | refine zk tbOk rfl rfl rfl rfl (Nat.le_of_ble_eq_true rfl) ?_))  | refine zB rfl ?_ | with_reducible (first | refine zG ?_ | refine zu ?_ | refine zH ?_ | refine zS ?_) | ((with_reducible refine zA ?_ ?_); kernel_rfl))
  refine zC (rzone_A N V d.zone hG ok od.z) ?_
  repeat (first | ((with_reducible refine zK ?_); refine zJ rfl ?_) | ((with_reducible refine zE ?_); refine zF rfl ?_) | ((with_reducible refine zQ ?_); refine zT rfl rfl rfl ?_)  | refine zL ?_ | refine zB rfl ?_ | with_reducible (first | refine zG ?_ | refine zH ?_) | ((with_reducible refine zA ?_ ?_); kernel_rfl))
  refine zZ rfl (fun h => ?_) (fun h => ?_)
  · rw [if_pos (by simpa using h)]
    repeat (first | ((with_reducible refine zK ?_); refine zJ rfl ?_) | ((with_reducible refine zE ?_); refine zF rfl ?_)  | refine zL ?_ | refine zB rfl ?_ | with_reducible (first | refine zG ?_ | refine zO ?_ | refine zH ?_ | refine zN ?_) | ((with_reducible refine zA ?_ ?_); kernel_rfl))
    refine zm (by first | exact .inr rfl | exact .inl rfl) rfl rfl ?_
    rfl
  rw [if_neg (by simpa using h)]
  repeat (first | ((with_reducible refine zK ?_); refine zJ rfl ?_) | ((with_reducible refine zM ?_); refine zI tbOk rfl rfl rfl rfl ?_) | ((with_reducible refine zR ?_); refine zP tbOk rfl rfl rfl rfl rfl ?_) | ((with_reducible refine zQ ?_); refine zT rfl rfl rfl ?_)  | refine zB rfl ?_ | with_reducible (first | refine zG ?_ | refine zH ?_ | refine zS ?_) | ((with_reducible refine zA ?_ ?_); kernel_rfl))
  refine zv rfl rfl (fun b => ?_) (fun b => ?_)
  · rw [if_pos (by simp at b; omega)]
    repeat (first | ((with_reducible refine zE ?_); refine zF rfl ?_) | ((with_reducible refine za ?_); refine zh rfl (by first | rfl | assumption) rfl ?_)  | refine zL ?_ | refine zB rfl ?_ | refine yA rfl rfl (by first | rfl | assumption) ?_ | with_reducible (first | refine zG ?_ | refine zO ?_ | refine zH ?_ | refine zN ?_) | ((with_reducible refine zA ?_ ?_); kernel_rfl) | refine zn rfl (by first | rfl | assumption) ?_)
    refine zm (by first | exact .inr rfl | exact .inl rfl) rfl rfl ?_
    rfl
  repeat (first | ((with_reducible refine zM ?_); refine zI tbOk rfl rfl rfl rfl ?_) | ((with_reducible refine zR ?_); refine zP tbOk rfl rfl rfl rfl rfl ?_) | ((with_reducible refine za ?_); refine zf rfl (by first | rfl | assumption) rfl ?_) | ((with_reducible refine zQ ?_); refine zT rfl rfl rfl ?_)  | refine zL ?_ | refine zB rfl ?_ | refine zw rfl rfl (by first | rfl | assumption) ?_ | with_reducible refine zG ?_ )
  refine zZ rfl (fun c => ?_) (fun c => ?_)
  · rw [if_pos (by simp at c; omega)]
    repeat (first | ((with_reducible refine zE ?_); refine zF rfl ?_)  | refine zL ?_ | refine zB rfl ?_ | with_reducible (first | refine zG ?_ | refine zO ?_ | refine zH ?_ | refine zN ?_) | ((with_reducible refine zA ?_ ?_); kernel_rfl))
    refine zm (by first | exact .inr rfl | exact .inl rfl) rfl rfl ?_
    rfl
  rw [if_neg (by simp at b c; omega)]
  clear b c
  repeat (first | ((with_reducible refine zM ?_); refine zI tbOk rfl rfl rfl rfl ?_) | ((with_reducible refine zR ?_); (first | refine zP tbOk rfl rfl rfl rfl rfl ?_ | refine zk tbOk rfl rfl rfl rfl (Nat.le_of_ble_eq_true rfl) ?_))  | refine zB rfl ?_ | with_reducible (first | refine zG ?_ | refine zH ?_ | refine zS ?_) | ((with_reducible refine zA ?_ ?_); kernel_rfl))
  refine zC (oU N V d.lk ok.n ok.v ok.l1 ok.l2) ?_
  repeat (first | ((with_reducible refine zK ?_); refine zJ rfl ?_) | ((with_reducible refine zE ?_); refine zF rfl ?_) | ((with_reducible refine zQ ?_); refine zT rfl rfl rfl ?_)  | refine zL ?_ | refine zB rfl ?_ | with_reducible (first | refine zG ?_ | refine zH ?_) | ((with_reducible refine zA ?_ ?_); kernel_rfl))
  refine zZ rfl (fun h => ?_) (fun h => ?_)
  · rw [if_pos (by simpa using h)]
    repeat (first | ((with_reducible refine zK ?_); refine zJ rfl ?_) | ((with_reducible refine zE ?_); refine zF rfl ?_)  | refine zL ?_ | refine zB rfl ?_ | with_reducible (first | refine zG ?_ | refine zO ?_ | refine zH ?_ | refine zN ?_) | ((with_reducible refine zA ?_ ?_); kernel_rfl))
    refine zm (by first | exact .inr rfl | exact .inl rfl) rfl rfl ?_
    rfl
  rw [if_neg (by simpa using h)]
  repeat (first | ((with_reducible refine zM ?_); refine zI tbOk rfl rfl rfl rfl ?_) | ((with_reducible refine zR ?_); refine zP tbOk rfl rfl rfl rfl rfl ?_)  | refine zB rfl ?_ | with_reducible (first | refine zG ?_ | refine zH ?_ | refine zY ?_ | refine zS ?_) | ((with_reducible refine zA ?_ ?_); kernel_rfl))
  refine zC (iD d.iss od.i) ?_
  repeat (first | ((with_reducible refine zK ?_); refine zJ rfl ?_) | ((with_reducible refine k_un ?_); refine jF rfl ?_)  | refine zB rfl ?_  )
  refine zv rfl rfl (fun b => ?_) (fun b => ?_)
  · rw [if_pos (.inl (by simpa using b))]
    repeat (first | ((with_reducible refine zE ?_); refine zF rfl ?_) | ((with_reducible refine za ?_); refine zh rfl (by first | rfl | assumption) rfl ?_)  | refine zL ?_ | refine zB rfl ?_ | refine yA rfl rfl (by first | rfl | assumption) ?_ | with_reducible (first | refine zG ?_ | refine zO ?_ | refine zV ?_ | refine zH ?_ | refine zN ?_) | ((with_reducible refine zA ?_ ?_); kernel_rfl) | refine zn rfl (by first | rfl | assumption) ?_)
    refine zm (by first | exact .inr rfl | exact .inl rfl) rfl rfl ?_
    rfl
  repeat (first | ((with_reducible refine zM ?_); refine zI tbOk rfl rfl rfl rfl ?_) | ((with_reducible refine zR ?_); refine zP tbOk rfl rfl rfl rfl rfl ?_)  | refine zw rfl rfl (by first | rfl | assumption) ?_  )
  refine zC (iD d.hol od.h) ?_
  repeat (first | ((with_reducible refine zE ?_); refine zF rfl ?_) | ((with_reducible refine k_un ?_); refine jF rfl ?_) | ((with_reducible refine za ?_); refine zf rfl (by first | rfl | assumption) rfl ?_)  | refine zL ?_ | refine zB rfl ?_ | refine zw rfl rfl (by first | rfl | assumption) ?_ | with_reducible refine zG ?_ )
  refine zZ rfl (fun c => ?_) (fun c => ?_)
  · rw [if_pos (.inr (by simpa using c))]
    repeat (first | ((with_reducible refine zE ?_); refine zF rfl ?_)  | refine zL ?_ | refine zB rfl ?_ | with_reducible (first | refine zG ?_ | refine zO ?_ | refine zV ?_ | refine zH ?_ | refine zN ?_) | ((with_reducible refine zA ?_ ?_); kernel_rfl))
    refine zm (by first | exact .inr rfl | exact .inl rfl) rfl rfl ?_
    rfl
  rw [if_neg (by simp at b c; rw [b, c]; simp)]
  clear b c
  repeat (first | ((with_reducible refine zE ?_); refine zF rfl ?_) | ((with_reducible refine zM ?_); refine zI tbOk rfl rfl rfl rfl ?_) | ((with_reducible refine zR ?_); refine zP tbOk rfl rfl rfl rfl rfl ?_) | ((with_reducible refine zQ ?_); refine yh rfl rfl rfl ?_)  | refine zL ?_ | refine zB rfl ?_ | with_reducible (first | refine zG ?_ | refine zH ?_) | ((with_reducible refine zA ?_ ?_); kernel_rfl))
  refine zZ rfl (fun h => ?_) (fun h => ?_)
  · rw [if_pos (yz.1 h)]
    repeat (first | ((with_reducible refine zE ?_); refine zF rfl ?_)  | refine zL ?_ | refine zB rfl ?_ | with_reducible (first | refine zG ?_ | refine zO ?_ | refine zV ?_ | refine zH ?_ | refine zN ?_) | ((with_reducible refine zA ?_ ?_); kernel_rfl))
    refine zm (by first | exact .inr rfl | exact .inl rfl) rfl rfl ?_
    rfl
  rw [if_neg (fun e => by have h' : yI d.iss d.hol = false := h; rw [yz.2 e] at h'; cases h')]
  repeat (first | ((with_reducible refine zM ?_); refine zI tbOk rfl rfl rfl rfl ?_) | ((with_reducible refine zR ?_); refine zk tbOk rfl rfl rfl rfl (Nat.le_of_ble_eq_true rfl) ?_)  | refine zB rfl ?_ | with_reducible refine zH ?_ | ((with_reducible refine zA ?_ ?_); kernel_rfl))
  refine zC (rspan_A d.f d.u) ?_
  repeat (first | ((with_reducible refine zE ?_); refine zF rfl ?_) | ((with_reducible refine k_un ?_); refine jF rfl ?_)  | refine zL ?_ | refine zB rfl ?_ | with_reducible refine zG ?_ )
  refine zZ rfl (fun h => ?_) (fun h => ?_)
  · rw [if_pos (by simpa using h)]
    repeat (first | ((with_reducible refine zE ?_); refine zF rfl ?_)  | refine zL ?_ | refine zB rfl ?_ | with_reducible (first | refine zG ?_ | refine zO ?_ | refine zV ?_ | refine zH ?_ | refine zN ?_) | ((with_reducible refine zA ?_ ?_); kernel_rfl))
    refine zm (by first | exact .inr rfl | exact .inl rfl) rfl rfl ?_
    rfl
  rw [if_neg (by simpa using h)]
  repeat (first | ((with_reducible refine zE ?_); refine zF rfl ?_) | ((with_reducible refine zM ?_); refine zI tbOk rfl rfl rfl rfl ?_) | ((with_reducible refine zR ?_); refine zP tbOk rfl rfl rfl rfl rfl ?_) | ((with_reducible refine zt ?_); refine yH tbOk rfl rfl ?_) | ((with_reducible refine zQ ?_); refine zT rfl rfl rfl ?_)  | refine zL ?_ | refine zB rfl ?_ | with_reducible (first | refine zG ?_ | refine zH ?_) | ((with_reducible refine zA ?_ ?_); kernel_rfl))
  unfold cesE
  refine zZ rfl (fun h => ?_) (fun h => ?_)
  · rw [if_pos (by simp at h; omega)]
    repeat (first | ((with_reducible refine zE ?_); refine zF rfl ?_)  | refine zL ?_ | refine zB rfl ?_ | with_reducible (first | refine zG ?_ | refine zO ?_ | refine zV ?_ | refine zH ?_ | refine zN ?_) | ((with_reducible refine zA ?_ ?_); kernel_rfl))
    refine zm (by first | exact .inr rfl | exact .inl rfl) rfl rfl ?_
    rfl
  rw [if_neg (by simp at h; omega)]
  repeat (first | ((with_reducible refine zE ?_); refine zF rfl ?_)  | refine zL ?_ | refine zB rfl ?_ | with_reducible (first | refine zG ?_ | refine zu ?_ | refine zH ?_ | refine zY ?_ | refine zS ?_) | ((with_reducible refine zA ?_ ?_); kernel_rfl))
  refine yL (ι := Nat) (fun i => i ≤ d.ce.length ∧ 0 ≤ ju 0 d.ce i ∧ risB 65537 (ju 0 d.ce i) (d.ce.drop i) = risB 65537 0 d.ce) (fun i => d.ce.length - i) (fun v i => [(3, .ptr 3 (v 3) 0), (8, .v (.int .i64 (i : Nat)))]) (fun v i => [(3, .box d.cells)]) ?_ ?_
  · exact ⟨0, ⟨Nat.zero_le _, by unfold ju; simp, rfl⟩, trivial, ⟨rfl, rfl, trivial⟩, ⟨rfl, trivial⟩⟩
  rintro v k ⟨hk, hp, hi⟩
  repeat (first | ((with_reducible refine zK ?_); refine zJ rfl ?_) | ((with_reducible refine zM ?_); refine zI tbOk rfl rfl rfl rfl ?_) | ((with_reducible refine zR ?_); refine zP tbOk rfl rfl rfl rfl rfl ?_) | ((with_reducible refine zt ?_); refine yH tbOk rfl rfl ?_) | ((with_reducible refine zQ ?_); refine zT rfl rfl rfl ?_)  | refine zL ?_ | refine zB rfl ?_ | with_reducible (first | refine zG ?_ | refine zH ?_) | ((with_reducible refine zA ?_ ?_); kernel_rfl))
  refine zZ rfl (fun h => ?_) (fun h => ?_)
  · have hlt : k < d.ce.length := by simpa using h
    obtain ⟨x, hx⟩ := zd hlt
    have hy := aG hx
    rw [fI hx] at hi
    repeat (first | ((with_reducible refine zK ?_); refine zJ rfl ?_) | ((with_reducible refine zE ?_); refine zF rfl ?_) | ((with_reducible refine zM ?_); refine zI tbOk rfl rfl rfl rfl ?_) | ((with_reducible refine zR ?_); (first | refine zP tbOk rfl rfl rfl rfl rfl ?_ | refine zW tbOk rfl rfl rfl ?_)) | ((with_reducible refine zU ?_); refine zX tbOk rfl rfl rfl rfl (by assumption) ?_) | ((with_reducible refine zQ ?_); refine zT rfl rfl rfl ?_)  | refine zL ?_ | refine zB rfl ?_ | with_reducible (first | refine zG ?_ | refine zH ?_ | refine zY ?_ | refine zS ?_) | ((with_reducible refine zA ?_ ?_); kernel_rfl))
    refine zv rfl rfl (fun b => ?_) (fun b => ?_)
    · rw [if_pos (by simp at b; omega)] at hi
      rw [if_pos hi.symm]
      repeat (first | ((with_reducible refine zK ?_); refine zJ rfl ?_) | ((with_reducible refine zE ?_); refine zF rfl ?_) | ((with_reducible refine za ?_); refine zh rfl (by first | rfl | assumption) rfl ?_)  | refine zL ?_ | refine zB rfl ?_ | refine yA rfl rfl (by first | rfl | assumption) ?_ | refine jT rfl rfl rfl ?_ | with_reducible (first | refine zG ?_ | refine zO ?_ | refine zV ?_ | refine zH ?_ | refine zN ?_) | ((with_reducible refine zA ?_ ?_); kernel_rfl) | refine zn rfl (by first | rfl | assumption) ?_)
      refine zm (by first | exact .inr rfl | exact .inl rfl) rfl rfl ?_
      rfl
    repeat (first | ((with_reducible refine zK ?_); refine zJ rfl ?_) | ((with_reducible refine za ?_); refine zf rfl (by first | rfl | assumption) rfl ?_) | ((with_reducible refine zQ ?_); refine zT rfl rfl rfl ?_)  | refine zB rfl ?_ | refine zw rfl rfl (by first | rfl | assumption) ?_  )
    refine zv rfl rfl (fun b2 => ?_) (fun b2 => ?_)
    · rw [if_pos (by simp at b2; omega)] at hi
      rw [if_pos hi.symm]
      repeat (first | ((with_reducible refine zE ?_); refine zF rfl ?_) | ((with_reducible refine za ?_); refine zh rfl (by first | rfl | assumption) rfl ?_)  | refine zL ?_ | refine zB rfl ?_ | refine yA rfl rfl (by first | rfl | assumption) ?_ | refine jT rfl rfl rfl ?_ | with_reducible (first | refine zG ?_ | refine zO ?_ | refine zV ?_ | refine zH ?_ | refine zN ?_) | ((with_reducible refine zA ?_ ?_); kernel_rfl) | refine zn rfl (by first | rfl | assumption) ?_)
      refine zm (by first | exact .inr rfl | exact .inl rfl) rfl rfl ?_
      rfl
    rcases Nat.eq_zero_or_pos k with k0 | k0
    · have b0 : decide ((k : Int) > 0) = false := by simp [k0]
      have hp0 : ju 0 d.ce k = 0 := by unfold ju; rw [if_pos k0]
      rw [if_neg (by rw [hp0]; simp at b b2; omega), ← jP (d := 0) hx] at hi
      repeat (first | ((with_reducible refine zK ?_); refine zJ rfl ?_) | ((with_reducible refine zE ?_); refine zF rfl ?_) | ((with_reducible refine za ?_); refine zf rfl (by first | rfl | assumption) rfl ?_) | ((with_reducible refine zQ ?_); (first | refine zg rfl rfl (by omega) ?_ | refine zT rfl rfl rfl ?_))  | refine zL ?_ | refine zB rfl ?_ | refine yE rfl rfl (by first | rfl | assumption) ?_ | refine zw rfl rfl (by first | rfl | assumption) ?_ | with_reducible (first | refine zG ?_ | refine zu ?_ | refine zS ?_) | ((with_reducible refine zA ?_ ?_); kernel_rfl) | refine yF rfl (by first | rfl | assumption) ?_)
      exact ⟨k + 1, ⟨by omega, by rw [jP hx]; simp at b; omega, hi⟩, by omega, ⟨rfl, rfl, trivial⟩, ⟨rfl, trivial⟩⟩
    · obtain ⟨q, hq⟩ := zd (L := d.ce) (k := k - 1) (by omega)
      have hqy := aG hq
      have ei : ((k : Nat) : Int) - 1 = ((k - 1 : Nat) : Int) := by omega
      have b0 : decide ((k : Int) > 0) = true := by simpa using k0
      have hp0 : ju 0 d.ce k = q := by unfold ju; rw [if_neg (by omega), hq]; rfl
      rw [hp0] at hi hp
      repeat (first | ((with_reducible refine zK ?_); refine zJ rfl ?_) | ((with_reducible refine zM ?_); refine zI tbOk rfl rfl rfl rfl ?_) | ((with_reducible refine zR ?_); refine zP tbOk rfl rfl rfl rfl rfl ?_) | ((with_reducible refine zQ ?_); (first | refine jm rfl rfl (by omega) ?_ | refine zT rfl rfl rfl ?_))  | refine yC rfl rfl (by first | rfl | assumption) ?_ | refine zw rfl rfl (by first | rfl | assumption) ?_  )
      with_reducible refine zU ?_
      refine yY tbOk rfl rfl rfl rfl (by omega) (by rw [ei, Int.toNat_natCast]; exact hqy) ?_
      repeat (first | ((with_reducible refine zR ?_); refine zW tbOk rfl rfl rfl ?_) | ((with_reducible refine za ?_); (first | refine zh rfl (by first | rfl | assumption) rfl ?_ | refine zf rfl (by first | rfl | assumption) rfl ?_)) | ((with_reducible refine zQ ?_); refine zT rfl rfl rfl ?_)  | refine zL ?_ | refine zB rfl ?_ | refine yC rfl rfl (by first | rfl | assumption) ?_ | refine zw rfl rfl (by first | rfl | assumption) ?_ | with_reducible refine zG ?_ )
      refine zZ rfl (fun c => ?_) (fun c => ?_)
      · rw [if_pos (.inl (by simpa using c))] at hi
        rw [if_pos hi.symm]
        repeat (first | ((with_reducible refine zE ?_); refine zF rfl ?_)  | refine zL ?_ | refine zB rfl ?_ | with_reducible (first | refine zG ?_ | refine zO ?_ | refine zV ?_ | refine zH ?_ | refine zN ?_) | ((with_reducible refine zA ?_ ?_); kernel_rfl))
        refine zm (by first | exact .inr rfl | exact .inl rfl) rfl rfl ?_
        rfl
      · rw [if_neg (by simp at b b2 c; omega), ← jP (d := 0) hx] at hi
        repeat (first | ((with_reducible refine zK ?_); refine zJ rfl ?_) | ((with_reducible refine zE ?_); refine zF rfl ?_) | ((with_reducible refine zQ ?_); refine zg rfl rfl (by omega) ?_)  | refine zL ?_ | refine zB rfl ?_ | with_reducible (first | refine zG ?_ | refine zu ?_ | refine zS ?_) | ((with_reducible refine zA ?_ ?_); kernel_rfl))
        exact ⟨k + 1, ⟨by omega, by rw [jP hx]; simp at b; omega, hi⟩, by omega, ⟨rfl, rfl, trivial⟩, ⟨rfl, trivial⟩⟩
  · have hge : d.ce.length ≤ k := by simpa using h
    rw [List.drop_of_length_le hge] at hi
    have hi' : risB 65537 0 d.ce = true := hi.symm
    rw [if_neg (by rw [hi']; simp)]
    repeat (first | ((with_reducible refine zE ?_); refine zF rfl ?_)  | refine zL ?_ | refine zB rfl ?_ | with_reducible (first | refine zG ?_ | refine zo ?_ | refine zH ?_ | refine yB ?_ | refine zN ?_) | ((with_reducible refine ze ?_ ?_); rfl) | ((with_reducible refine zA ?_ ?_); kernel_rfl))
    refine zm (by first | exact .inr rfl | exact .inl rfl) rfl rfl ?_
    rfl
end Go.Proofs.YtjamibeffalhaaaGreatDoor
