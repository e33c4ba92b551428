/- document.Check, All, Find, Active and their references, by the abstract machine; conditions: the table of classes stands. -/
import Derived.Test.YtjamibeffalhaaaGreatDoorDcA
set_option linter.unusedVariables false
set_option linter.unusedSimpArgs false
namespace Go.Proofs.YtjamibeffalhaaaGreatDoor
open Go Go.RowKit
set_option maxRecDepth 10000
variable {G : Nat → Option (List Value)}
/-- A document that the machine can hold. -/
structure DcSz (d : Dc) : Prop where
  z : d.zone.length ≤ maxLen
  l : d.lk.length ≤ maxLen
  i : d.iss.size ≤ maxLen
  h : d.hol.size ≤ maxLen
  c : d.ce.length ≤ maxLen
set_option maxHeartbeats 4000000 in
theorem qk (N : List Nd) (V : List Dv) (d : Dc) (hG : GCls G) (ok : NwOk N V) (od : DcSz d) : zy Tryz.prog G 24 [jW N V, d.av] [] (.v (.int .i64 (docE N V d))) [] := by
  unfold docE
  refine zd tbOk (zf Tryz.func24 (by kernel_rfl) rfl) Tryz.func24 rfl _ Tryz.ntmps24 (Nat.le_of_ble_eq_true rfl) fun X hX => ?_
  subst hX
  repeat (first | ((with_reducible refine zF ?_); refine zE rfl ?_) | ((with_reducible refine zQ ?_); refine za tbOk rfl rfl rfl rfl (Nat.le_of_ble_eq_true rfl) ?_) | ((with_reducible refine yl ?_); refine yj rfl rfl rfl ?_)  | refine zL ?_ | refine zB rfl ?_ | with_reducible (first | refine zG ?_ | refine zH ?_) | ((with_reducible refine zA ?_ ?_); kernel_rfl))
  refine zC (jZ N V hG ok.n ok.v ok.l1 ok.l2) ?_
  repeat (first | ((with_reducible refine zJ ?_); refine zK rfl ?_) | ((with_reducible refine zF ?_); refine zE rfl ?_) | ((with_reducible refine zR ?_); refine zS rfl rfl rfl ?_)  | refine zL ?_ | refine zB rfl ?_ | with_reducible (first | refine zG ?_ | refine zH ?_) | ((with_reducible refine zA ?_ ?_); kernel_rfl))
  refine zX rfl (fun h => ?_) (fun h => ?_)
  · rw [if_pos (by simpa using h)]
    repeat (first | ((with_reducible refine zJ ?_); refine zK rfl ?_) | ((with_reducible refine zF ?_); refine zE rfl ?_)  | refine zL ?_ | refine zB rfl ?_ | with_reducible (first | refine zG ?_ | refine zP ?_ | refine zH ?_ | refine zN ?_) | ((with_reducible refine zA ?_ ?_); kernel_rfl))
    refine ze (by first | exact .inr rfl | exact .inl rfl) rfl rfl ?_
    rfl
  rw [if_neg (by simpa using h)]
  repeat (first | ((with_reducible refine zM ?_); refine zI tbOk rfl rfl rfl rfl ?_) | ((with_reducible refine zQ ?_); refine zO tbOk rfl rfl rfl rfl rfl ?_)  | refine zB rfl ?_ | with_reducible (first | refine zG ?_ | refine zH ?_ | refine zV ?_ | refine zT ?_) | ((with_reducible refine zA ?_ ?_); kernel_rfl))
  refine zC (vP d.num) ?_
  repeat (first | ((with_reducible refine zF ?_); refine zE rfl ?_) | ((with_reducible refine k_un ?_); refine yz rfl ?_)  | refine zL ?_ | refine zB rfl ?_ | with_reducible refine zG ?_ )
  refine zX rfl (fun h => ?_) (fun h => ?_)
  · rw [if_pos (by simp at h; omega)]
    repeat (first | ((with_reducible refine zF ?_); refine zE rfl ?_)  | refine zL ?_ | refine zB rfl ?_ | with_reducible (first | refine zG ?_ | refine zP ?_ | refine zU ?_ | refine zH ?_ | refine zN ?_) | ((with_reducible refine zA ?_ ?_); kernel_rfl))
    refine ze (by first | exact .inr rfl | exact .inl rfl) rfl rfl ?_
    rfl
  rw [if_neg (by simp at h; omega)]
  repeat (first | ((with_reducible refine zJ ?_); refine zK rfl ?_) | ((with_reducible refine zM ?_); refine zI tbOk rfl rfl rfl rfl ?_) | ((with_reducible refine zQ ?_); refine zO tbOk rfl rfl rfl rfl rfl ?_) | ((with_reducible refine zR ?_); refine zS rfl rfl rfl ?_)  | refine zB rfl ?_ | with_reducible refine zH ?_ | ((with_reducible refine zA ?_ ?_); kernel_rfl))
  refine zn rfl rfl (fun b => ?_) (fun b => ?_)
  · rw [if_pos (by simp at b; omega)]
    repeat (first | ((with_reducible refine zF ?_); refine zE rfl ?_) | ((with_reducible refine zW ?_); refine zi rfl (by first | rfl | assumption) rfl ?_)  | refine zL ?_ | refine zB rfl ?_ | refine yC rfl rfl (by first | rfl | assumption) ?_ | with_reducible (first | refine zG ?_ | refine zP ?_ | refine zU ?_ | refine zH ?_ | refine zN ?_) | ((with_reducible refine zA ?_ ?_); kernel_rfl) | refine zr rfl (by first | rfl | assumption) ?_)
    refine ze (by first | exact .inr rfl | exact .inl rfl) rfl rfl ?_
    rfl
  repeat (first | ((with_reducible refine zF ?_); refine zE rfl ?_) | ((with_reducible refine zM ?_); refine zI tbOk rfl rfl rfl rfl ?_) | ((with_reducible refine zQ ?_); refine zO tbOk rfl rfl rfl rfl rfl ?_) | ((with_reducible refine zW ?_); refine zh rfl (by first | rfl | assumption) rfl ?_) | ((with_reducible refine zR ?_); refine zS rfl rfl rfl ?_)  | refine zL ?_ | refine zB rfl ?_ | refine zm rfl rfl (by first | rfl | assumption) ?_ | with_reducible refine zG ?_ )
  refine zX rfl (fun c => ?_) (fun c => ?_)
  · rw [if_pos (by simp at c; omega)]
    repeat (first | ((with_reducible refine zF ?_); refine zE rfl ?_)  | refine zL ?_ | refine zB rfl ?_ | with_reducible (first | refine zG ?_ | refine zP ?_ | refine zU ?_ | refine zH ?_ | refine zN ?_) | ((with_reducible refine zA ?_ ?_); kernel_rfl))
    refine ze (by first | exact .inr rfl | exact .inl rfl) rfl rfl ?_
    rfl
  rw [if_neg (by simp at b c; omega)]
  clear b c
  repeat (first | ((with_reducible refine zJ ?_); refine zK rfl ?_) | ((with_reducible refine zM ?_); refine zI tbOk rfl rfl rfl rfl ?_) | ((with_reducible refine zQ ?_); refine zO tbOk rfl rfl rfl rfl rfl ?_) | ((with_reducible refine zR ?_); refine zS rfl rfl rfl ?_)  | refine zB rfl ?_ | with_reducible refine zH ?_ | ((with_reducible refine zA ?_ ?_); kernel_rfl))
  refine zn rfl rfl (fun b => ?_) (fun b => ?_)
  · rw [if_pos (by simp at b; omega)]
    repeat (first | ((with_reducible refine zF ?_); refine zE rfl ?_) | ((with_reducible refine zW ?_); refine zi rfl (by first | rfl | assumption) rfl ?_)  | refine zL ?_ | refine zB rfl ?_ | refine yC rfl rfl (by first | rfl | assumption) ?_ | with_reducible (first | refine zG ?_ | refine zP ?_ | refine zU ?_ | refine zH ?_ | refine zN ?_) | ((with_reducible refine zA ?_ ?_); kernel_rfl) | refine zr rfl (by first | rfl | assumption) ?_)
    refine ze (by first | exact .inr rfl | exact .inl rfl) rfl rfl ?_
    rfl
  repeat (first | ((with_reducible refine zF ?_); refine zE rfl ?_) | ((with_reducible refine zM ?_); refine zI tbOk rfl rfl rfl rfl ?_) | ((with_reducible refine zQ ?_); refine zO tbOk rfl rfl rfl rfl rfl ?_) | ((with_reducible refine zW ?_); refine zh rfl (by first | rfl | assumption) rfl ?_) | ((with_reducible refine zR ?_); refine zS rfl rfl rfl ?_)  | refine zL ?_ | refine zB rfl ?_ | refine zm rfl rfl (by first | rfl | assumption) ?_ | with_reducible refine zG ?_ )
  refine zX rfl (fun c => ?_) (fun c => ?_)
  · rw [if_pos (by simp at c; omega)]
    repeat (first | ((with_reducible refine zF ?_); refine zE rfl ?_)  | refine zL ?_ | refine zB rfl ?_ | with_reducible (first | refine zG ?_ | refine zP ?_ | refine zU ?_ | refine zH ?_ | refine zN ?_) | ((with_reducible refine zA ?_ ?_); kernel_rfl))
    refine ze (by first | exact .inr rfl | exact .inl rfl) rfl rfl ?_
    rfl
  rw [if_neg (by simp at b c; omega)]
  clear b c
  repeat (first | ((with_reducible refine zJ ?_); refine zK rfl ?_) | ((with_reducible refine zM ?_); refine zI tbOk rfl rfl rfl rfl ?_) | ((with_reducible refine zQ ?_); refine zO tbOk rfl rfl rfl rfl rfl ?_) | ((with_reducible refine zR ?_); refine zS rfl rfl rfl ?_)  | refine zB rfl ?_ | with_reducible refine zH ?_ | ((with_reducible refine zA ?_ ?_); kernel_rfl))
  refine zn rfl rfl (fun b => ?_) (fun b => ?_)
  · rw [if_pos (by simp at b; omega)]
    repeat (first | ((with_reducible refine zF ?_); refine zE rfl ?_) | ((with_reducible refine zW ?_); refine zi rfl (by first | rfl | assumption) rfl ?_)  | refine zL ?_ | refine zB rfl ?_ | refine yC rfl rfl (by first | rfl | assumption) ?_ | with_reducible (first | refine zG ?_ | refine zP ?_ | refine zU ?_ | refine zH ?_ | refine zN ?_) | ((with_reducible refine zA ?_ ?_); kernel_rfl) | refine zr rfl (by first | rfl | assumption) ?_)
    refine ze (by first | exact .inr rfl | exact .inl rfl) rfl rfl ?_
    rfl
  repeat (first | ((with_reducible refine zF ?_); refine zE rfl ?_) | ((with_reducible refine zM ?_); refine zI tbOk rfl rfl rfl rfl ?_) | ((with_reducible refine zQ ?_); refine zO tbOk rfl rfl rfl rfl rfl ?_) | ((with_reducible refine zW ?_); refine zh rfl (by first | rfl | assumption) rfl ?_) | ((with_reducible refine zR ?_); refine zS rfl rfl rfl ?_)  | refine zL ?_ | refine zB rfl ?_ | refine zm rfl rfl (by first | rfl | assumption) ?_ | with_reducible refine zG ?_ )
  refine zX rfl (fun c => ?_) (fun c => ?_)
  · rw [if_pos (by simp at c; omega)]
    repeat (first | ((with_reducible refine zF ?_); refine zE rfl ?_)  | refine zL ?_ | refine zB rfl ?_ | with_reducible (first | refine zG ?_ | refine zP ?_ | refine zU ?_ | refine zH ?_ | refine zN ?_) | ((with_reducible refine zA ?_ ?_); kernel_rfl))
    refine ze (by first | exact .inr rfl | exact .inl rfl) rfl rfl ?_
    rfl
  rw [if_neg (by simp at b c; omega)]
  clear b c
  repeat (first | ((with_reducible refine zM ?_); refine zI tbOk rfl rfl rfl rfl ?_) | ((with_reducible refine zQ ?_); (first | refine zO tbOk rfl rfl rfl rfl rfl ?_ | refine za tbOk rfl rfl rfl rfl (Nat.le_of_ble_eq_true rfl) ?_))  | refine zB rfl ?_ | with_reducible (first | refine zG ?_ | refine zo ?_ | refine zH ?_ | refine zT ?_) | ((with_reducible refine zA ?_ ?_); kernel_rfl))
  refine zC (vQ N V d.zone hG ok od.z) ?_
  repeat (first | ((with_reducible refine zJ ?_); refine zK rfl ?_) | ((with_reducible refine zF ?_); refine zE rfl ?_) | ((with_reducible refine zR ?_); refine zS rfl rfl rfl ?_)  | refine zL ?_ | refine zB rfl ?_ | with_reducible (first | refine zG ?_ | refine zH ?_) | ((with_reducible refine zA ?_ ?_); kernel_rfl))
  refine zX rfl (fun h => ?_) (fun h => ?_)
  · rw [if_pos (by simpa using h)]
    repeat (first | ((with_reducible refine zJ ?_); refine zK rfl ?_) | ((with_reducible refine zF ?_); refine zE rfl ?_)  | refine zL ?_ | refine zB rfl ?_ | with_reducible (first | refine zG ?_ | refine zP ?_ | refine zH ?_ | refine zN ?_) | ((with_reducible refine zA ?_ ?_); kernel_rfl))
    refine ze (by first | exact .inr rfl | exact .inl rfl) rfl rfl ?_
    rfl
  rw [if_neg (by simpa using h)]
  repeat (first | ((with_reducible refine zJ ?_); refine zK rfl ?_) | ((with_reducible refine zM ?_); refine zI tbOk rfl rfl rfl rfl ?_) | ((with_reducible refine zQ ?_); refine zO tbOk rfl rfl rfl rfl rfl ?_) | ((with_reducible refine zR ?_); refine zS rfl rfl rfl ?_)  | refine zB rfl ?_ | with_reducible (first | refine zG ?_ | refine zH ?_ | refine zT ?_) | ((with_reducible refine zA ?_ ?_); kernel_rfl))
  refine zn rfl rfl (fun b => ?_) (fun b => ?_)
  · rw [if_pos (by simp at b; omega)]
    repeat (first | ((with_reducible refine zF ?_); refine zE rfl ?_) | ((with_reducible refine zW ?_); refine zi rfl (by first | rfl | assumption) rfl ?_)  | refine zL ?_ | refine zB rfl ?_ | refine yC rfl rfl (by first | rfl | assumption) ?_ | with_reducible (first | refine zG ?_ | refine zP ?_ | refine zH ?_ | refine zN ?_) | ((with_reducible refine zA ?_ ?_); kernel_rfl) | refine zr rfl (by first | rfl | assumption) ?_)
    refine ze (by first | exact .inr rfl | exact .inl rfl) rfl rfl ?_
    rfl
  repeat (first | ((with_reducible refine zM ?_); refine zI tbOk rfl rfl rfl rfl ?_) | ((with_reducible refine zQ ?_); refine zO tbOk rfl rfl rfl rfl rfl ?_) | ((with_reducible refine zW ?_); refine zh rfl (by first | rfl | assumption) rfl ?_) | ((with_reducible refine zR ?_); refine zS rfl rfl rfl ?_)  | refine zL ?_ | refine zB rfl ?_ | refine zm rfl rfl (by first | rfl | assumption) ?_ | with_reducible refine zG ?_ )
  refine zX rfl (fun c => ?_) (fun c => ?_)
  · rw [if_pos (by simp at c; omega)]
    repeat (first | ((with_reducible refine zF ?_); refine zE rfl ?_)  | refine zL ?_ | refine zB rfl ?_ | with_reducible (first | refine zG ?_ | refine zP ?_ | refine zH ?_ | refine zN ?_) | ((with_reducible refine zA ?_ ?_); kernel_rfl))
    refine ze (by first | exact .inr rfl | exact .inl rfl) rfl rfl ?_
    rfl
  rw [if_neg (by simp at b c; omega)]
  clear b c
  repeat (first | ((with_reducible refine zM ?_); refine zI tbOk rfl rfl rfl rfl ?_) | ((with_reducible refine zQ ?_); (first | refine zO tbOk rfl rfl rfl rfl rfl ?_ | refine za tbOk rfl rfl rfl rfl (Nat.le_of_ble_eq_true rfl) ?_))  | refine zB rfl ?_ | with_reducible (first | refine zG ?_ | refine zH ?_ | refine zT ?_) | ((with_reducible refine zA ?_ ?_); kernel_rfl))
  refine zC (wS N V d.lk hG ok.n ok.v ok.l1 ok.l2) ?_
  repeat (first | ((with_reducible refine zJ ?_); refine zK rfl ?_) | ((with_reducible refine zF ?_); refine zE rfl ?_) | ((with_reducible refine zR ?_); refine zS rfl rfl rfl ?_)  | refine zL ?_ | refine zB rfl ?_ | with_reducible (first | refine zG ?_ | refine zH ?_) | ((with_reducible refine zA ?_ ?_); kernel_rfl))
  refine zX rfl (fun h => ?_) (fun h => ?_)
  · rw [if_pos (by simpa using h)]
    repeat (first | ((with_reducible refine zJ ?_); refine zK rfl ?_) | ((with_reducible refine zF ?_); refine zE rfl ?_)  | refine zL ?_ | refine zB rfl ?_ | with_reducible (first | refine zG ?_ | refine zP ?_ | refine zH ?_ | refine zN ?_) | ((with_reducible refine zA ?_ ?_); kernel_rfl))
    refine ze (by first | exact .inr rfl | exact .inl rfl) rfl rfl ?_
    rfl
  rw [if_neg (by simpa using h)]
  repeat (first | ((with_reducible refine zM ?_); refine zI tbOk rfl rfl rfl rfl ?_) | ((with_reducible refine zQ ?_); refine zO tbOk rfl rfl rfl rfl rfl ?_)  | refine zB rfl ?_ | with_reducible (first | refine zG ?_ | refine zH ?_ | refine zV ?_ | refine zT ?_) | ((with_reducible refine zA ?_ ?_); kernel_rfl))
  refine zC (nA d.iss hG od.i) ?_
  repeat (first | ((with_reducible refine zJ ?_); refine zK rfl ?_) | ((with_reducible refine k_un ?_); refine yz rfl ?_)  | refine zB rfl ?_  )
  refine zn rfl rfl (fun b => ?_) (fun b => ?_)
  · rw [if_pos (.inl (by simpa using b))]
    repeat (first | ((with_reducible refine zF ?_); refine zE rfl ?_) | ((with_reducible refine zW ?_); refine zi rfl (by first | rfl | assumption) rfl ?_)  | refine zL ?_ | refine zB rfl ?_ | refine yC rfl rfl (by first | rfl | assumption) ?_ | with_reducible (first | refine zG ?_ | refine zP ?_ | refine zU ?_ | refine zH ?_ | refine zN ?_) | ((with_reducible refine zA ?_ ?_); kernel_rfl) | refine zr rfl (by first | rfl | assumption) ?_)
    refine ze (by first | exact .inr rfl | exact .inl rfl) rfl rfl ?_
    rfl
  repeat (first | ((with_reducible refine zM ?_); refine zI tbOk rfl rfl rfl rfl ?_) | ((with_reducible refine zQ ?_); refine zO tbOk rfl rfl rfl rfl rfl ?_)  | refine zm rfl rfl (by first | rfl | assumption) ?_  )
  refine zC (nA d.hol hG od.h) ?_
  repeat (first | ((with_reducible refine zF ?_); refine zE rfl ?_) | ((with_reducible refine k_un ?_); refine yz rfl ?_) | ((with_reducible refine zW ?_); refine zh rfl (by first | rfl | assumption) rfl ?_)  | refine zL ?_ | refine zB rfl ?_ | refine zm rfl rfl (by first | rfl | assumption) ?_ | with_reducible refine zG ?_ )
  refine zX rfl (fun c => ?_) (fun c => ?_)
  · rw [if_pos (.inr (by simpa using c))]
    repeat (first | ((with_reducible refine zF ?_); refine zE rfl ?_)  | refine zL ?_ | refine zB rfl ?_ | with_reducible (first | refine zG ?_ | refine zP ?_ | refine zU ?_ | refine zH ?_ | refine zN ?_) | ((with_reducible refine zA ?_ ?_); kernel_rfl))
    refine ze (by first | exact .inr rfl | exact .inl rfl) rfl rfl ?_
    rfl
  rw [if_neg (by simp at b c; rw [b, c]; simp)]
  clear b c
  repeat (first | ((with_reducible refine zF ?_); refine zE rfl ?_) | ((with_reducible refine zM ?_); refine zI tbOk rfl rfl rfl rfl ?_) | ((with_reducible refine zQ ?_); refine zO tbOk rfl rfl rfl rfl rfl ?_) | ((with_reducible refine zR ?_); refine jI rfl rfl rfl ?_)  | refine zL ?_ | refine zB rfl ?_ | with_reducible (first | refine zG ?_ | refine zH ?_) | ((with_reducible refine zA ?_ ?_); kernel_rfl))
  refine zX rfl (fun h => ?_) (fun h => ?_)
  · rw [if_pos (yd.1 h)]
    repeat (first | ((with_reducible refine zF ?_); refine zE rfl ?_)  | refine zL ?_ | refine zB rfl ?_ | with_reducible (first | refine zG ?_ | refine zP ?_ | refine zU ?_ | refine zH ?_ | refine zN ?_) | ((with_reducible refine zA ?_ ?_); kernel_rfl))
    refine ze (by first | exact .inr rfl | exact .inl rfl) rfl rfl ?_
    rfl
  rw [if_neg (fun e => by have h' : yg d.iss d.hol = false := h; rw [yd.2 e] at h'; cases h')]
  repeat (first | ((with_reducible refine zM ?_); refine zI tbOk rfl rfl rfl rfl ?_) | ((with_reducible refine zQ ?_); refine za tbOk rfl rfl rfl rfl (Nat.le_of_ble_eq_true rfl) ?_)  | refine zB rfl ?_ | with_reducible refine zH ?_ | ((with_reducible refine zA ?_ ?_); kernel_rfl))
  refine zC (vE d.f d.u) ?_
  repeat (first | ((with_reducible refine zF ?_); refine zE rfl ?_) | ((with_reducible refine k_un ?_); refine yz rfl ?_)  | refine zL ?_ | refine zB rfl ?_ | with_reducible refine zG ?_ )
  refine zX rfl (fun h => ?_) (fun h => ?_)
  · rw [if_pos (by simpa using h)]
    repeat (first | ((with_reducible refine zF ?_); refine zE rfl ?_)  | refine zL ?_ | refine zB rfl ?_ | with_reducible (first | refine zG ?_ | refine zP ?_ | refine zU ?_ | refine zH ?_ | refine zN ?_) | ((with_reducible refine zA ?_ ?_); kernel_rfl))
    refine ze (by first | exact .inr rfl | exact .inl rfl) rfl rfl ?_
    rfl
  rw [if_neg (by simpa using h)]
  repeat (first | ((with_reducible refine zM ?_); refine zI tbOk rfl rfl rfl rfl ?_) | ((with_reducible refine zQ ?_); refine zO tbOk rfl rfl rfl rfl rfl ?_)  | refine zB rfl ?_ | with_reducible (first | refine zG ?_ | refine zo ?_ | refine zH ?_ | refine zT ?_) | ((with_reducible refine zA ?_ ?_); kernel_rfl))
  refine zC (certs_A d.ce od.c) ?_
  repeat (first | ((with_reducible refine zF ?_); refine zE rfl ?_)  | refine zL ?_ | refine zB rfl ?_ | with_reducible (first | refine zG ?_ | refine zN ?_) )
  refine ze (by first | exact .inr rfl | exact .inl rfl) rfl rfl ?_
  rfl
set_option maxHeartbeats 4000000 in
theorem dA (N : List Nd) (V : List Dv) (d : Dc) (hG : GCls G) (ok : NwOk N V) (od : DcSz d) : zy Tryz.prog G 25 [jW N V, d.av] [] (.v (.int .i64 (docE N V d))) [] := by
  have hml : d.ce.length ≤ 9223372036854775807 := by have := od.c; unfold maxLen at this; omega
  unfold docE
  refine zd tbOk (zf Tryz.func25 (by kernel_rfl) rfl) Tryz.func25 rfl _ Tryz.ntmps25 (Nat.le_of_ble_eq_true rfl) fun X hX => ?_
  subst hX
  repeat (first | ((with_reducible refine zF ?_); refine zE rfl ?_) | ((with_reducible refine zQ ?_); refine za tbOk rfl rfl rfl rfl (Nat.le_of_ble_eq_true rfl) ?_) | ((with_reducible refine yl ?_); refine yj rfl rfl rfl ?_)  | refine zL ?_ | refine zB rfl ?_ | with_reducible (first | refine zG ?_ | refine zH ?_) | ((with_reducible refine zA ?_ ?_); kernel_rfl))
  refine zC (fG N V ok.n ok.v ok.l1 ok.l2) ?_
  repeat (first | ((with_reducible refine zJ ?_); refine zK rfl ?_) | ((with_reducible refine zF ?_); refine zE rfl ?_) | ((with_reducible refine zR ?_); refine zS rfl rfl rfl ?_)  | refine zL ?_ | refine zB rfl ?_ | with_reducible (first | refine zG ?_ | refine zH ?_) | ((with_reducible refine zA ?_ ?_); kernel_rfl))
  refine zX rfl (fun h => ?_) (fun h => ?_)
  · rw [if_pos (by simpa using h)]
    repeat (first | ((with_reducible refine zJ ?_); refine zK rfl ?_) | ((with_reducible refine zF ?_); refine zE rfl ?_)  | refine zL ?_ | refine zB rfl ?_ | with_reducible (first | refine zG ?_ | refine zP ?_ | refine zH ?_ | refine zN ?_) | ((with_reducible refine zA ?_ ?_); kernel_rfl))
    refine ze (by first | exact .inr rfl | exact .inl rfl) rfl rfl ?_
    rfl
  rw [if_neg (by simpa using h)]
  repeat (first | ((with_reducible refine zJ ?_); refine zK rfl ?_) | ((with_reducible refine zM ?_); refine zI tbOk rfl rfl rfl rfl ?_) | ((with_reducible refine zQ ?_); refine zO tbOk rfl rfl rfl rfl rfl ?_) | ((with_reducible refine zR ?_); refine zS rfl rfl rfl ?_)  | refine zB rfl ?_ | with_reducible (first | refine zG ?_ | refine zH ?_ | refine zV ?_ | refine zT ?_) | ((with_reducible refine zA ?_ ?_); kernel_rfl))
  refine zn rfl rfl (fun b => ?_) (fun b => ?_)
  · rw [if_pos (by simp at b; omega)]
    repeat (first | ((with_reducible refine zF ?_); refine zE rfl ?_) | ((with_reducible refine zW ?_); refine zi rfl (by first | rfl | assumption) rfl ?_)  | refine zL ?_ | refine zB rfl ?_ | refine yC rfl rfl (by first | rfl | assumption) ?_ | with_reducible (first | refine zG ?_ | refine zP ?_ | refine zU ?_ | refine zH ?_ | refine zN ?_) | ((with_reducible refine zA ?_ ?_); kernel_rfl) | refine zr rfl (by first | rfl | assumption) ?_)
    refine ze (by first | exact .inr rfl | exact .inl rfl) rfl rfl ?_
    rfl
  repeat (first | ((with_reducible refine zF ?_); refine zE rfl ?_) | ((with_reducible refine zM ?_); refine zI tbOk rfl rfl rfl rfl ?_) | ((with_reducible refine zQ ?_); refine zO tbOk rfl rfl rfl rfl rfl ?_) | ((with_reducible refine zW ?_); refine zh rfl (by first | rfl | assumption) rfl ?_) | ((with_reducible refine zR ?_); refine zS rfl rfl rfl ?_)  | refine zL ?_ | refine zB rfl ?_ | refine zm rfl rfl (by first | rfl | assumption) ?_ | with_reducible refine zG ?_ )
  refine zX rfl (fun c => ?_) (fun c => ?_)
  · rw [if_pos (by simp at c; omega)]
    repeat (first | ((with_reducible refine zF ?_); refine zE rfl ?_)  | refine zL ?_ | refine zB rfl ?_ | with_reducible (first | refine zG ?_ | refine zP ?_ | refine zU ?_ | refine zH ?_ | refine zN ?_) | ((with_reducible refine zA ?_ ?_); kernel_rfl))
    refine ze (by first | exact .inr rfl | exact .inl rfl) rfl rfl ?_
    rfl
  rw [if_neg (by simp at b c; omega)]
  clear b c
  repeat (first | ((with_reducible refine zJ ?_); refine zK rfl ?_) | ((with_reducible refine zM ?_); refine zI tbOk rfl rfl rfl rfl ?_) | ((with_reducible refine zQ ?_); refine zO tbOk rfl rfl rfl rfl rfl ?_) | ((with_reducible refine zR ?_); refine zS rfl rfl rfl ?_)  | refine zB rfl ?_ | with_reducible refine zH ?_ | ((with_reducible refine zA ?_ ?_); kernel_rfl))
  refine zn rfl rfl (fun b => ?_) (fun b => ?_)
  · rw [if_pos (by simp at b; omega)]
    repeat (first | ((with_reducible refine zF ?_); refine zE rfl ?_) | ((with_reducible refine zW ?_); refine zi rfl (by first | rfl | assumption) rfl ?_)  | refine zL ?_ | refine zB rfl ?_ | refine yC rfl rfl (by first | rfl | assumption) ?_ | with_reducible (first | refine zG ?_ | refine zP ?_ | refine zU ?_ | refine zH ?_ | refine zN ?_) | ((with_reducible refine zA ?_ ?_); kernel_rfl) | refine zr rfl (by first | rfl | assumption) ?_)
    refine ze (by first | exact .inr rfl | exact .inl rfl) rfl rfl ?_
    rfl
  repeat (first | ((with_reducible refine zF ?_); refine zE rfl ?_) | ((with_reducible refine zM ?_); refine zI tbOk rfl rfl rfl rfl ?_) | ((with_reducible refine zQ ?_); refine zO tbOk rfl rfl rfl rfl rfl ?_) | ((with_reducible refine zW ?_); refine zh rfl (by first | rfl | assumption) rfl ?_) | ((with_reducible refine zR ?_); refine zS rfl rfl rfl ?_)  | refine zL ?_ | refine zB rfl ?_ | refine zm rfl rfl (by first | rfl | assumption) ?_ | with_reducible refine zG ?_ )
  refine zX rfl (fun c => ?_) (fun c => ?_)
  · rw [if_pos (by simp at c; omega)]
    repeat (first | ((with_reducible refine zF ?_); refine zE rfl ?_)  | refine zL ?_ | refine zB rfl ?_ | with_reducible (first | refine zG ?_ | refine zP ?_ | refine zU ?_ | refine zH ?_ | refine zN ?_) | ((with_reducible refine zA ?_ ?_); kernel_rfl))
    refine ze (by first | exact .inr rfl | exact .inl rfl) rfl rfl ?_
    rfl
  rw [if_neg (by simp at b c; omega)]
  clear b c
  repeat (first | ((with_reducible refine zJ ?_); refine zK rfl ?_) | ((with_reducible refine zM ?_); refine zI tbOk rfl rfl rfl rfl ?_) | ((with_reducible refine zQ ?_); refine zO tbOk rfl rfl rfl rfl rfl ?_) | ((with_reducible refine zR ?_); refine zS rfl rfl rfl ?_)  | refine zB rfl ?_ | with_reducible refine zH ?_ | ((with_reducible refine zA ?_ ?_); kernel_rfl))
  refine zn rfl rfl (fun b => ?_) (fun b => ?_)
  · rw [if_pos (by simp at b; omega)]
    repeat (first | ((with_reducible refine zF ?_); refine zE rfl ?_) | ((with_reducible refine zW ?_); refine zi rfl (by first | rfl | assumption) rfl ?_)  | refine zL ?_ | refine zB rfl ?_ | refine yC rfl rfl (by first | rfl | assumption) ?_ | with_reducible (first | refine zG ?_ | refine zP ?_ | refine zU ?_ | refine zH ?_ | refine zN ?_) | ((with_reducible refine zA ?_ ?_); kernel_rfl) | refine zr rfl (by first | rfl | assumption) ?_)
    refine ze (by first | exact .inr rfl | exact .inl rfl) rfl rfl ?_
    rfl
  repeat (first | ((with_reducible refine zF ?_); refine zE rfl ?_) | ((with_reducible refine zM ?_); refine zI tbOk rfl rfl rfl rfl ?_) | ((with_reducible refine zQ ?_); refine zO tbOk rfl rfl rfl rfl rfl ?_) | ((with_reducible refine zW ?_); refine zh rfl (by first | rfl | assumption) rfl ?_) | ((with_reducible refine zR ?_); refine zS rfl rfl rfl ?_)  | refine zL ?_ | refine zB rfl ?_ | refine zm rfl rfl (by first | rfl | assumption) ?_ | with_reducible refine zG ?_ )
  refine zX rfl (fun c => ?_) (fun c => ?_)
  · rw [if_pos (by simp at c; omega)]
    repeat (first | ((with_reducible refine zF ?_); refine zE rfl ?_)  | refine zL ?_ | refine zB rfl ?_ | with_reducible (first | refine zG ?_ | refine zP ?_ | refine zU ?_ | refine zH ?_ | refine zN ?_) | ((with_reducible refine zA ?_ ?_); kernel_rfl))
    refine ze (by first | exact .inr rfl | exact .inl rfl) rfl rfl ?_
    rfl
  rw [if_neg (by simp at b c; omega)]
  clear b c
  repeat (first | ((with_reducible refine zJ ?_); refine zK rfl ?_) | ((with_reducible refine zM ?_); refine zI tbOk rfl rfl rfl rfl ?_) | ((with_reducible refine zQ ?_); refine zO tbOk rfl rfl rfl rfl rfl ?_) | ((with_reducible refine zR ?_); refine zS rfl rfl rfl ?_)  | refine zB rfl ?_ | with_reducible refine zH ?_ | ((with_reducible refine zA ?_ ?_); kernel_rfl))
  refine zn rfl rfl (fun b => ?_) (fun b => ?_)
  · rw [if_pos (by simp at b; omega)]
    repeat (first | ((with_reducible refine zF ?_); refine zE rfl ?_) | ((with_reducible refine zW ?_); refine zi rfl (by first | rfl | assumption) rfl ?_)  | refine zL ?_ | refine zB rfl ?_ | refine yC rfl rfl (by first | rfl | assumption) ?_ | with_reducible (first | refine zG ?_ | refine zP ?_ | refine zU ?_ | refine zH ?_ | refine zN ?_) | ((with_reducible refine zA ?_ ?_); kernel_rfl) | refine zr rfl (by first | rfl | assumption) ?_)
    refine ze (by first | exact .inr rfl | exact .inl rfl) rfl rfl ?_
    rfl
  repeat (first | ((with_reducible refine zF ?_); refine zE rfl ?_) | ((with_reducible refine zM ?_); refine zI tbOk rfl rfl rfl rfl ?_) | ((with_reducible refine zQ ?_); refine zO tbOk rfl rfl rfl rfl rfl ?_) | ((with_reducible refine zW ?_); refine zh rfl (by first | rfl | assumption) rfl ?_) | ((with_reducible refine zR ?_); refine zS rfl rfl rfl ?_)  | refine zL ?_ | refine zB rfl ?_ | refine zm rfl rfl (by first | rfl | assumption) ?_ | with_reducible refine zG ?_ )
  refine zX rfl (fun c => ?_) (fun c => ?_)
  · rw [if_pos (by simp at c; omega)]
    repeat (first | ((with_reducible refine zF ?_); refine zE rfl ?_)  | refine zL ?_ | refine zB rfl ?_ | with_reducible (first | refine zG ?_ | refine zP ?_ | refine zU ?_ | refine zH ?_ | refine zN ?_) | ((with_reducible refine zA ?_ ?_); kernel_rfl))
    refine ze (by first | exact .inr rfl | exact .inl rfl) rfl rfl ?_
    rfl
  rw [if_neg (by simp at b c; omega)]
  clear b c
  repeat (first | ((with_reducible refine zM ?_); refine zI tbOk rfl rfl rfl rfl ?_) | ((with_reducible refine zQ ?_); (first | refine zO tbOk rfl rfl rfl rfl rfl ?_ | refine za tbOk rfl rfl rfl rfl (Nat.le_of_ble_eq_true rfl) ?_))  | refine zB rfl ?_ | with_reducible (first | refine zG ?_ | refine zo ?_ | refine zH ?_ | refine zT ?_) | ((with_reducible refine zA ?_ ?_); kernel_rfl))
  refine zC (rzone_A N V d.zone hG ok od.z) ?_
  repeat (first | ((with_reducible refine zJ ?_); refine zK rfl ?_) | ((with_reducible refine zF ?_); refine zE rfl ?_) | ((with_reducible refine zR ?_); refine zS rfl rfl rfl ?_)  | refine zL ?_ | refine zB rfl ?_ | with_reducible (first | refine zG ?_ | refine zH ?_) | ((with_reducible refine zA ?_ ?_); kernel_rfl))
  refine zX rfl (fun h => ?_) (fun h => ?_)
  · rw [if_pos (by simpa using h)]
    repeat (first | ((with_reducible refine zJ ?_); refine zK rfl ?_) | ((with_reducible refine zF ?_); refine zE rfl ?_)  | refine zL ?_ | refine zB rfl ?_ | with_reducible (first | refine zG ?_ | refine zP ?_ | refine zH ?_ | refine zN ?_) | ((with_reducible refine zA ?_ ?_); kernel_rfl))
    refine ze (by first | exact .inr rfl | exact .inl rfl) rfl rfl ?_
    rfl
  rw [if_neg (by simpa using h)]
  repeat (first | ((with_reducible refine zJ ?_); refine zK rfl ?_) | ((with_reducible refine zM ?_); refine zI tbOk rfl rfl rfl rfl ?_) | ((with_reducible refine zQ ?_); refine zO tbOk rfl rfl rfl rfl rfl ?_) | ((with_reducible refine zR ?_); refine zS rfl rfl rfl ?_)  | refine zB rfl ?_ | with_reducible (first | refine zG ?_ | refine zH ?_ | refine zT ?_) | ((with_reducible refine zA ?_ ?_); kernel_rfl))
  refine zn rfl rfl (fun b => ?_) (fun b => ?_)
  · rw [if_pos (by simp at b; omega)]
    repeat (first | ((with_reducible refine zF ?_); refine zE rfl ?_) | ((with_reducible refine zW ?_); refine zi rfl (by first | rfl | assumption) rfl ?_)  | refine zL ?_ | refine zB rfl ?_ | refine yC rfl rfl (by first | rfl | assumption) ?_ | with_reducible (first | refine zG ?_ | refine zP ?_ | refine zH ?_ | refine zN ?_) | ((with_reducible refine zA ?_ ?_); kernel_rfl) | refine zr rfl (by first | rfl | assumption) ?_)
    refine ze (by first | exact .inr rfl | exact .inl rfl) rfl rfl ?_
    rfl
  repeat (first | ((with_reducible refine zM ?_); refine zI tbOk rfl rfl rfl rfl ?_) | ((with_reducible refine zQ ?_); refine zO tbOk rfl rfl rfl rfl rfl ?_) | ((with_reducible refine zW ?_); refine zh rfl (by first | rfl | assumption) rfl ?_) | ((with_reducible refine zR ?_); refine zS rfl rfl rfl ?_)  | refine zL ?_ | refine zB rfl ?_ | refine zm rfl rfl (by first | rfl | assumption) ?_ | with_reducible refine zG ?_ )
  refine zX rfl (fun c => ?_) (fun c => ?_)
  · rw [if_pos (by simp at c; omega)]
    repeat (first | ((with_reducible refine zF ?_); refine zE rfl ?_)  | refine zL ?_ | refine zB rfl ?_ | with_reducible (first | refine zG ?_ | refine zP ?_ | refine zH ?_ | refine zN ?_) | ((with_reducible refine zA ?_ ?_); kernel_rfl))
    refine ze (by first | exact .inr rfl | exact .inl rfl) rfl rfl ?_
    rfl
  rw [if_neg (by simp at b c; omega)]
  clear b c
  repeat (first | ((with_reducible refine zM ?_); refine zI tbOk rfl rfl rfl rfl ?_) | ((with_reducible refine zQ ?_); (first | refine zO tbOk rfl rfl rfl rfl rfl ?_ | refine za tbOk rfl rfl rfl rfl (Nat.le_of_ble_eq_true rfl) ?_))  | refine zB rfl ?_ | with_reducible (first | refine zG ?_ | refine zH ?_ | refine zT ?_) | ((with_reducible refine zA ?_ ?_); kernel_rfl))
  refine zC (pU N V d.lk ok.n ok.v ok.l1 ok.l2) ?_
  repeat (first | ((with_reducible refine zJ ?_); refine zK rfl ?_) | ((with_reducible refine zF ?_); refine zE rfl ?_) | ((with_reducible refine zR ?_); refine zS rfl rfl rfl ?_)  | refine zL ?_ | refine zB rfl ?_ | with_reducible (first | refine zG ?_ | refine zH ?_) | ((with_reducible refine zA ?_ ?_); kernel_rfl))
  refine zX rfl (fun h => ?_) (fun h => ?_)
  · rw [if_pos (by simpa using h)]
    repeat (first | ((with_reducible refine zJ ?_); refine zK rfl ?_) | ((with_reducible refine zF ?_); refine zE rfl ?_)  | refine zL ?_ | refine zB rfl ?_ | with_reducible (first | refine zG ?_ | refine zP ?_ | refine zH ?_ | refine zN ?_) | ((with_reducible refine zA ?_ ?_); kernel_rfl))
    refine ze (by first | exact .inr rfl | exact .inl rfl) rfl rfl ?_
    rfl
  rw [if_neg (by simpa using h)]
  repeat (first | ((with_reducible refine zM ?_); refine zI tbOk rfl rfl rfl rfl ?_) | ((with_reducible refine zQ ?_); refine zO tbOk rfl rfl rfl rfl rfl ?_)  | refine zB rfl ?_ | with_reducible (first | refine zG ?_ | refine zH ?_ | refine zV ?_ | refine zT ?_) | ((with_reducible refine zA ?_ ?_); kernel_rfl))
  refine zC (gP d.iss od.i) ?_
  repeat (first | ((with_reducible refine zJ ?_); refine zK rfl ?_) | ((with_reducible refine k_un ?_); refine yz rfl ?_)  | refine zB rfl ?_  )
  refine zn rfl rfl (fun b => ?_) (fun b => ?_)
  · rw [if_pos (.inl (by simpa using b))]
    repeat (first | ((with_reducible refine zF ?_); refine zE rfl ?_) | ((with_reducible refine zW ?_); refine zi rfl (by first | rfl | assumption) rfl ?_)  | refine zL ?_ | refine zB rfl ?_ | refine yC rfl rfl (by first | rfl | assumption) ?_ | with_reducible (first | refine zG ?_ | refine zP ?_ | refine zU ?_ | refine zH ?_ | refine zN ?_) | ((with_reducible refine zA ?_ ?_); kernel_rfl) | refine zr rfl (by first | rfl | assumption) ?_)
    refine ze (by first | exact .inr rfl | exact .inl rfl) rfl rfl ?_
    rfl
  repeat (first | ((with_reducible refine zM ?_); refine zI tbOk rfl rfl rfl rfl ?_) | ((with_reducible refine zQ ?_); refine zO tbOk rfl rfl rfl rfl rfl ?_)  | refine zm rfl rfl (by first | rfl | assumption) ?_  )
  refine zC (gP d.hol od.h) ?_
  repeat (first | ((with_reducible refine zF ?_); refine zE rfl ?_) | ((with_reducible refine k_un ?_); refine yz rfl ?_) | ((with_reducible refine zW ?_); refine zh rfl (by first | rfl | assumption) rfl ?_)  | refine zL ?_ | refine zB rfl ?_ | refine zm rfl rfl (by first | rfl | assumption) ?_ | with_reducible refine zG ?_ )
  refine zX rfl (fun c => ?_) (fun c => ?_)
  · rw [if_pos (.inr (by simpa using c))]
    repeat (first | ((with_reducible refine zF ?_); refine zE rfl ?_)  | refine zL ?_ | refine zB rfl ?_ | with_reducible (first | refine zG ?_ | refine zP ?_ | refine zU ?_ | refine zH ?_ | refine zN ?_) | ((with_reducible refine zA ?_ ?_); kernel_rfl))
    refine ze (by first | exact .inr rfl | exact .inl rfl) rfl rfl ?_
    rfl
  rw [if_neg (by simp at b c; rw [b, c]; simp)]
  clear b c
  repeat (first | ((with_reducible refine zF ?_); refine zE rfl ?_) | ((with_reducible refine zM ?_); refine zI tbOk rfl rfl rfl rfl ?_) | ((with_reducible refine zQ ?_); refine zO tbOk rfl rfl rfl rfl rfl ?_) | ((with_reducible refine zR ?_); refine jI rfl rfl rfl ?_)  | refine zL ?_ | refine zB rfl ?_ | with_reducible (first | refine zG ?_ | refine zH ?_) | ((with_reducible refine zA ?_ ?_); kernel_rfl))
  refine zX rfl (fun h => ?_) (fun h => ?_)
  · rw [if_pos (yd.1 h)]
    repeat (first | ((with_reducible refine zF ?_); refine zE rfl ?_)  | refine zL ?_ | refine zB rfl ?_ | with_reducible (first | refine zG ?_ | refine zP ?_ | refine zU ?_ | refine zH ?_ | refine zN ?_) | ((with_reducible refine zA ?_ ?_); kernel_rfl))
    refine ze (by first | exact .inr rfl | exact .inl rfl) rfl rfl ?_
    rfl
  rw [if_neg (fun e => by have h' : yg d.iss d.hol = false := h; rw [yd.2 e] at h'; cases h')]
  repeat (first | ((with_reducible refine zM ?_); refine zI tbOk rfl rfl rfl rfl ?_) | ((with_reducible refine zQ ?_); refine za tbOk rfl rfl rfl rfl (Nat.le_of_ble_eq_true rfl) ?_)  | refine zB rfl ?_ | with_reducible refine zH ?_ | ((with_reducible refine zA ?_ ?_); kernel_rfl))
  refine zC (rspan_A d.f d.u) ?_
  repeat (first | ((with_reducible refine zF ?_); refine zE rfl ?_) | ((with_reducible refine k_un ?_); refine yz rfl ?_)  | refine zL ?_ | refine zB rfl ?_ | with_reducible refine zG ?_ )
  refine zX rfl (fun h => ?_) (fun h => ?_)
  · rw [if_pos (by simpa using h)]
    repeat (first | ((with_reducible refine zF ?_); refine zE rfl ?_)  | refine zL ?_ | refine zB rfl ?_ | with_reducible (first | refine zG ?_ | refine zP ?_ | refine zU ?_ | refine zH ?_ | refine zN ?_) | ((with_reducible refine zA ?_ ?_); kernel_rfl))
    refine ze (by first | exact .inr rfl | exact .inl rfl) rfl rfl ?_
    rfl
  rw [if_neg (by simpa using h)]
  repeat (first | ((with_reducible refine zF ?_); refine zE rfl ?_) | ((with_reducible refine zM ?_); refine zI tbOk rfl rfl rfl rfl ?_) | ((with_reducible refine zQ ?_); refine zO tbOk rfl rfl rfl rfl rfl ?_) | ((with_reducible refine zq ?_); refine yI tbOk rfl rfl ?_) | ((with_reducible refine zR ?_); refine zS rfl rfl rfl ?_)  | refine zL ?_ | refine zB rfl ?_ | with_reducible (first | refine zG ?_ | refine zH ?_) | ((with_reducible refine zA ?_ ?_); kernel_rfl))
  unfold cesE
  refine zX rfl (fun h => ?_) (fun h => ?_)
  · rw [if_pos (by simp at h; omega)]
    repeat (first | ((with_reducible refine zF ?_); refine zE rfl ?_)  | refine zL ?_ | refine zB rfl ?_ | with_reducible (first | refine zG ?_ | refine zP ?_ | refine zU ?_ | refine zH ?_ | refine zN ?_) | ((with_reducible refine zA ?_ ?_); kernel_rfl))
    refine ze (by first | exact .inr rfl | exact .inl rfl) rfl rfl ?_
    rfl
  rw [if_neg (by simp at h; omega)]
  repeat (first | ((with_reducible refine zF ?_); refine zE rfl ?_)  | refine zL ?_ | refine zB rfl ?_ | with_reducible (first | refine zG ?_ | refine zo ?_ | refine zH ?_ | refine zV ?_ | refine zT ?_) | ((with_reducible refine zA ?_ ?_); kernel_rfl))
  refine yJ (ι := Nat) (fun i => i ≤ d.ce.length ∧ 0 ≤ ji 0 d.ce i ∧ risB 65537 (ji 0 d.ce i) (d.ce.drop i) = risB 65537 0 d.ce) (fun i => d.ce.length - i) (fun v i => [(3, .ptr 3 (v 3) 0), (8, .v (.int .i64 (i : Nat)))]) (fun v i => [(3, .box d.cells)]) ?_ ?_
  · exact ⟨0, ⟨Nat.zero_le _, by unfold ji; simp, rfl⟩, trivial, ⟨rfl, rfl, trivial⟩, ⟨rfl, trivial⟩⟩
  rintro v k ⟨hk, hp, hi⟩
  repeat (first | ((with_reducible refine zJ ?_); refine zK rfl ?_) | ((with_reducible refine zM ?_); refine zI tbOk rfl rfl rfl rfl ?_) | ((with_reducible refine zQ ?_); refine zO tbOk rfl rfl rfl rfl rfl ?_) | ((with_reducible refine zq ?_); refine yI tbOk rfl rfl ?_) | ((with_reducible refine zR ?_); refine zS rfl rfl rfl ?_)  | refine zL ?_ | refine zB rfl ?_ | with_reducible (first | refine zG ?_ | refine zH ?_) | ((with_reducible refine zA ?_ ?_); kernel_rfl))
  refine zX rfl (fun h => ?_) (fun h => ?_)
  · have hlt : k < d.ce.length := by simpa using h
    obtain ⟨x, hx⟩ := zc hlt
    have hy := aM hx
    rw [eP hx] at hi
    repeat (first | ((with_reducible refine zJ ?_); refine zK rfl ?_) | ((with_reducible refine zF ?_); refine zE rfl ?_) | ((with_reducible refine zM ?_); refine zI tbOk rfl rfl rfl rfl ?_) | ((with_reducible refine zQ ?_); (first | refine zO tbOk rfl rfl rfl rfl rfl ?_ | refine zb tbOk rfl rfl rfl ?_)) | ((with_reducible refine zY ?_); refine zZ tbOk rfl rfl rfl rfl (by assumption) ?_) | ((with_reducible refine zR ?_); refine zS rfl rfl rfl ?_)  | refine zL ?_ | refine zB rfl ?_ | with_reducible (first | refine zG ?_ | refine zH ?_ | refine zV ?_ | refine zT ?_) | ((with_reducible refine zA ?_ ?_); kernel_rfl))
    refine zn rfl rfl (fun b => ?_) (fun b => ?_)
    · rw [if_pos (by simp at b; omega)] at hi
      rw [if_pos hi.symm]
      repeat (first | ((with_reducible refine zJ ?_); refine zK rfl ?_) | ((with_reducible refine zF ?_); refine zE rfl ?_) | ((with_reducible refine zW ?_); refine zi rfl (by first | rfl | assumption) rfl ?_)  | refine zL ?_ | refine zB rfl ?_ | refine yC rfl rfl (by first | rfl | assumption) ?_ | refine jA rfl rfl rfl ?_ | with_reducible (first | refine zG ?_ | refine zP ?_ | refine zU ?_ | refine zH ?_ | refine zN ?_) | ((with_reducible refine zA ?_ ?_); kernel_rfl) | refine zr rfl (by first | rfl | assumption) ?_)
      refine ze (by first | exact .inr rfl | exact .inl rfl) rfl rfl ?_
      rfl
    repeat (first | ((with_reducible refine zJ ?_); refine zK rfl ?_) | ((with_reducible refine zW ?_); refine zh rfl (by first | rfl | assumption) rfl ?_) | ((with_reducible refine zR ?_); refine zS rfl rfl rfl ?_)  | refine zB rfl ?_ | refine zm rfl rfl (by first | rfl | assumption) ?_  )
    refine zn rfl rfl (fun b2 => ?_) (fun b2 => ?_)
    · rw [if_pos (by simp at b2; omega)] at hi
      rw [if_pos hi.symm]
      repeat (first | ((with_reducible refine zF ?_); refine zE rfl ?_) | ((with_reducible refine zW ?_); refine zi rfl (by first | rfl | assumption) rfl ?_)  | refine zL ?_ | refine zB rfl ?_ | refine yC rfl rfl (by first | rfl | assumption) ?_ | refine jA rfl rfl rfl ?_ | with_reducible (first | refine zG ?_ | refine zP ?_ | refine zU ?_ | refine zH ?_ | refine zN ?_) | ((with_reducible refine zA ?_ ?_); kernel_rfl) | refine zr rfl (by first | rfl | assumption) ?_)
      refine ze (by first | exact .inr rfl | exact .inl rfl) rfl rfl ?_
      rfl
    rcases Nat.eq_zero_or_pos k with k0 | k0
    · have b0 : decide ((k : Int) > 0) = false := by simp [k0]
      have hp0 : ji 0 d.ce k = 0 := by unfold ji; rw [if_pos k0]
      rw [if_neg (by rw [hp0]; simp at b b2; omega), ← jF (d := 0) hx] at hi
      repeat (first | ((with_reducible refine zJ ?_); refine zK rfl ?_) | ((with_reducible refine zF ?_); refine zE rfl ?_) | ((with_reducible refine zW ?_); refine zh rfl (by first | rfl | assumption) rfl ?_) | ((with_reducible refine zR ?_); (first | refine zk rfl rfl (by omega) ?_ | refine zS rfl rfl rfl ?_))  | refine zL ?_ | refine zB rfl ?_ | refine yB rfl rfl (by first | rfl | assumption) ?_ | refine zm rfl rfl (by first | rfl | assumption) ?_ | with_reducible (first | refine zG ?_ | refine zo ?_ | refine zT ?_) | ((with_reducible refine zA ?_ ?_); kernel_rfl) | refine yH rfl (by first | rfl | assumption) ?_)
      exact ⟨k + 1, ⟨by omega, by rw [jF hx]; simp at b; omega, hi⟩, by omega, ⟨rfl, rfl, trivial⟩, ⟨rfl, trivial⟩⟩
    · obtain ⟨q, hq⟩ := zc (L := d.ce) (k := k - 1) (by omega)
      have hqy := aM hq
      have ei : ((k : Nat) : Int) - 1 = ((k - 1 : Nat) : Int) := by omega
      have b0 : decide ((k : Int) > 0) = true := by simpa using k0
      have hp0 : ji 0 d.ce k = q := by unfold ji; rw [if_neg (by omega), hq]; rfl
      rw [hp0] at hi hp
      repeat (first | ((with_reducible refine zJ ?_); refine zK rfl ?_) | ((with_reducible refine zM ?_); refine zI tbOk rfl rfl rfl rfl ?_) | ((with_reducible refine zQ ?_); refine zO tbOk rfl rfl rfl rfl rfl ?_) | ((with_reducible refine zR ?_); (first | refine yi rfl rfl (by omega) ?_ | refine zS rfl rfl rfl ?_))  | refine zu rfl rfl (by first | rfl | assumption) ?_ | refine zm rfl rfl (by first | rfl | assumption) ?_  )
      with_reducible refine zY ?_
      refine yQ tbOk rfl rfl rfl rfl (by omega) (by rw [ei, Int.toNat_natCast]; exact hqy) ?_
      repeat (first | ((with_reducible refine zQ ?_); refine zb tbOk rfl rfl rfl ?_) | ((with_reducible refine zW ?_); (first | refine zi rfl (by first | rfl | assumption) rfl ?_ | refine zh rfl (by first | rfl | assumption) rfl ?_)) | ((with_reducible refine zR ?_); refine zS rfl rfl rfl ?_)  | refine zL ?_ | refine zB rfl ?_ | refine zu rfl rfl (by first | rfl | assumption) ?_ | refine zm rfl rfl (by first | rfl | assumption) ?_ | with_reducible refine zG ?_ )
      refine zX rfl (fun c => ?_) (fun c => ?_)
      · rw [if_pos (.inl (by simpa using c))] at hi
        rw [if_pos hi.symm]
        repeat (first | ((with_reducible refine zF ?_); refine zE rfl ?_)  | refine zL ?_ | refine zB rfl ?_ | with_reducible (first | refine zG ?_ | refine zP ?_ | refine zU ?_ | refine zH ?_ | refine zN ?_) | ((with_reducible refine zA ?_ ?_); kernel_rfl))
        refine ze (by first | exact .inr rfl | exact .inl rfl) rfl rfl ?_
        rfl
      · rw [if_neg (by simp at b b2 c; omega), ← jF (d := 0) hx] at hi
        repeat (first | ((with_reducible refine zJ ?_); refine zK rfl ?_) | ((with_reducible refine zF ?_); refine zE rfl ?_) | ((with_reducible refine zR ?_); refine zk rfl rfl (by omega) ?_)  | refine zL ?_ | refine zB rfl ?_ | with_reducible (first | refine zG ?_ | refine zo ?_ | refine zT ?_) | ((with_reducible refine zA ?_ ?_); kernel_rfl))
        exact ⟨k + 1, ⟨by omega, by rw [jF hx]; simp at b; omega, hi⟩, by omega, ⟨rfl, rfl, trivial⟩, ⟨rfl, trivial⟩⟩
  · have hge : d.ce.length ≤ k := by simpa using h
    rw [List.drop_of_length_le hge] at hi
    have hi' : risB 65537 0 d.ce = true := hi.symm
    rw [if_neg (by rw [hi']; simp)]
    repeat (first | ((with_reducible refine zF ?_); refine zE rfl ?_)  | refine zL ?_ | refine zB rfl ?_ | with_reducible (first | refine zG ?_ | refine zj ?_ | refine zH ?_ | refine zz ?_ | refine zN ?_) | ((with_reducible refine zg ?_ ?_); rfl) | ((with_reducible refine zA ?_ ?_); kernel_rfl))
    refine ze (by first | exact .inr rfl | exact .inl rfl) rfl rfl ?_
    rfl
end Go.Proofs.YtjamibeffalhaaaGreatDoor
