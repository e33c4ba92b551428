/- document.Check, All, Find, Active and their references, by the abstract machine; conditions: the table of classes stands. -/
import Derived.Test.YtjamibeffalhaaaGreatDoorDcA
set_option linter.unusedVariables false
set_option linter.unusedSimpArgs false
namespace Go.Proofs.YtjamibeffalhaaaGreatDoor
open Go Go.RowKit
set_option maxRecDepth 10000
variable {G : Nat → Option (List Value)}
/-- A document that the machine can hold. -/
structure DcSz (d : Dc) : Prop where
  z : d.zone.length ≤ maxLen
  l : d.lk.length ≤ maxLen
  i : d.iss.size ≤ maxLen
  h : d.hol.size ≤ maxLen
  c : d.ce.length ≤ maxLen
set_option maxHeartbeats 4000000 in
theorem dcheck_A (N : List Nd) (V : List Dv) (d : Dc) (hG : GCls G) (ok : NwOk N V) (od : DcSz d) : zy Tryz.prog G 24 [qH N V, d.av] [] (.v (.int .i64 (docE N V d))) [] := by
  unfold docE
  refine zf tbOk (zg Tryz.func24 (by kernel_rfl) rfl) Tryz.func24 rfl _ Tryz.ntmps24 (Nat.le_of_ble_eq_true rfl) fun X hX => ?_
  subst hX
  repeat (first | ((with_reducible refine zD ?_); refine zC rfl ?_) | ((with_reducible refine zO ?_); refine zi tbOk rfl rfl rfl rfl (Nat.le_of_ble_eq_true rfl) ?_) | ((with_reducible refine yy ?_); refine yz rfl rfl rfl ?_)  | refine zH ?_ | refine zB rfl ?_ | with_reducible refine zE ?_ | with_reducible refine zF ?_ | ((with_reducible refine zA ?_ ?_); kernel_rfl))
  refine zj (jT N V hG ok.n ok.v ok.l1 ok.l2) (by repeat' (first | exact trivial | exact Ren.v _ | exact Ren.sl _ _ | exact Ren.ep _ | exact Ren.ptr _ _ _ _ rfl | exact Ren.bs _ _ _ _ _ rfl | exact Ren.nil _ | exact Ren.own _ _ _ _ ⟨_, rfl⟩ | refine zP ?_ | refine zQ ?_ | refine zR ?_ | refine ⟨?_, ?_⟩)) (by repeat' (first | exact trivial | exact RenB.v _ | exact RenB.sl _ _ | exact RenB.ep _ | exact RenB.ptr _ _ _ _ rfl | refine zW ?_ | refine zV ?_ | refine ⟨?_, ?_⟩)) ?_
  repeat (first | ((with_reducible refine zJ ?_); refine zI rfl ?_) | ((with_reducible refine zD ?_); refine zC rfl ?_) | ((with_reducible refine zS ?_); refine zT rfl rfl rfl ?_)  | refine zH ?_ | refine zB rfl ?_ | with_reducible refine zE ?_ | with_reducible refine zF ?_ | ((with_reducible refine zA ?_ ?_); kernel_rfl))
  refine zZ rfl (fun h => ?_) (fun h => ?_)
  · rw [if_pos (by simpa using h)]
    repeat (first | ((with_reducible refine zJ ?_); refine zI rfl ?_) | ((with_reducible refine zD ?_); refine zC rfl ?_)  | refine zH ?_ | refine zB rfl ?_ | with_reducible refine zE ?_ | with_reducible refine zM ?_ | with_reducible refine zF ?_ | with_reducible refine zL ?_ | ((with_reducible refine zA ?_ ?_); kernel_rfl))
    refine zk (by first | exact .inr rfl | exact .inl rfl) rfl rfl ?_
    rfl
  rw [if_neg (by simpa using h)]
  repeat (first | ((with_reducible refine zK ?_); refine zG tbOk rfl rfl rfl rfl ?_) | ((with_reducible refine zO ?_); refine zN tbOk rfl rfl rfl rfl rfl ?_)  | refine zB rfl ?_ | with_reducible refine zE ?_ | with_reducible refine zF ?_ | with_reducible refine zY ?_ | with_reducible refine zU ?_ | ((with_reducible refine zA ?_ ?_); kernel_rfl))
  refine zj (dnum_A d.num) (by repeat' (first | exact trivial | exact Ren.v _ | exact Ren.sl _ _ | exact Ren.ep _ | exact Ren.ptr _ _ _ _ rfl | exact Ren.bs _ _ _ _ _ rfl | exact Ren.nil _ | exact Ren.own _ _ _ _ ⟨_, rfl⟩ | refine zP ?_ | refine zQ ?_ | refine zR ?_ | refine ⟨?_, ?_⟩)) (by repeat' (first | exact trivial | exact RenB.v _ | exact RenB.sl _ _ | exact RenB.ep _ | exact RenB.ptr _ _ _ _ rfl | refine zW ?_ | refine zV ?_ | refine ⟨?_, ?_⟩)) ?_
  repeat (first | ((with_reducible refine zD ?_); refine zC rfl ?_) | ((with_reducible refine k_un ?_); refine jC rfl ?_)  | refine zH ?_ | refine zB rfl ?_ | with_reducible refine zE ?_ )
  refine zZ rfl (fun h => ?_) (fun h => ?_)
  · rw [if_pos (by simp at h; omega)]
    repeat (first | ((with_reducible refine zD ?_); refine zC rfl ?_)  | refine zH ?_ | refine zB rfl ?_ | with_reducible refine zE ?_ | with_reducible refine zM ?_ | with_reducible refine zX ?_ | with_reducible refine zF ?_ | with_reducible refine zL ?_ | ((with_reducible refine zA ?_ ?_); kernel_rfl))
    refine zk (by first | exact .inr rfl | exact .inl rfl) rfl rfl ?_
    rfl
  rw [if_neg (by simp at h; omega)]
  repeat (first | ((with_reducible refine zJ ?_); refine zI rfl ?_) | ((with_reducible refine zK ?_); refine zG tbOk rfl rfl rfl rfl ?_) | ((with_reducible refine zO ?_); refine zN tbOk rfl rfl rfl rfl rfl ?_) | ((with_reducible refine zS ?_); refine zT rfl rfl rfl ?_)  | refine zB rfl ?_ | with_reducible refine zF ?_ | ((with_reducible refine zA ?_ ?_); kernel_rfl))
  refine zw rfl rfl (fun b => ?_) (fun b => ?_)
  · rw [if_pos (by simp at b; omega)]
    repeat (first | ((with_reducible refine zD ?_); refine zC rfl ?_) | ((with_reducible refine za ?_); refine zp rfl (by first | rfl | assumption) rfl ?_)  | refine zH ?_ | refine zB rfl ?_ | refine yD rfl rfl (by first | rfl | assumption) ?_ | with_reducible refine zE ?_ | with_reducible refine zM ?_ | with_reducible refine zX ?_ | with_reducible refine zF ?_ | with_reducible refine zL ?_ | ((with_reducible refine zA ?_ ?_); kernel_rfl) | refine zv rfl (by first | rfl | assumption) ?_)
    refine zk (by first | exact .inr rfl | exact .inl rfl) rfl rfl ?_
    rfl
  repeat (first | ((with_reducible refine zD ?_); refine zC rfl ?_) | ((with_reducible refine zK ?_); refine zG tbOk rfl rfl rfl rfl ?_) | ((with_reducible refine zO ?_); refine zN tbOk rfl rfl rfl rfl rfl ?_) | ((with_reducible refine za ?_); refine zn rfl (by first | rfl | assumption) rfl ?_) | ((with_reducible refine zS ?_); refine zT rfl rfl rfl ?_)  | refine zH ?_ | refine zB rfl ?_ | refine zz rfl rfl (by first | rfl | assumption) ?_ | with_reducible refine zE ?_ )
  refine zZ rfl (fun c => ?_) (fun c => ?_)
  · rw [if_pos (by simp at c; omega)]
    repeat (first | ((with_reducible refine zD ?_); refine zC rfl ?_)  | refine zH ?_ | refine zB rfl ?_ | with_reducible refine zE ?_ | with_reducible refine zM ?_ | with_reducible refine zX ?_ | with_reducible refine zF ?_ | with_reducible refine zL ?_ | ((with_reducible refine zA ?_ ?_); kernel_rfl))
    refine zk (by first | exact .inr rfl | exact .inl rfl) rfl rfl ?_
    rfl
  rw [if_neg (by simp at b c; omega)]
  clear b c
  repeat (first | ((with_reducible refine zJ ?_); refine zI rfl ?_) | ((with_reducible refine zK ?_); refine zG tbOk rfl rfl rfl rfl ?_) | ((with_reducible refine zO ?_); refine zN tbOk rfl rfl rfl rfl rfl ?_) | ((with_reducible refine zS ?_); refine zT rfl rfl rfl ?_)  | refine zB rfl ?_ | with_reducible refine zF ?_ | ((with_reducible refine zA ?_ ?_); kernel_rfl))
  refine zw rfl rfl (fun b => ?_) (fun b => ?_)
  · rw [if_pos (by simp at b; omega)]
    repeat (first | ((with_reducible refine zD ?_); refine zC rfl ?_) | ((with_reducible refine za ?_); refine zp rfl (by first | rfl | assumption) rfl ?_)  | refine zH ?_ | refine zB rfl ?_ | refine yD rfl rfl (by first | rfl | assumption) ?_ | with_reducible refine zE ?_ | with_reducible refine zM ?_ | with_reducible refine zX ?_ | with_reducible refine zF ?_ | with_reducible refine zL ?_ | ((with_reducible refine zA ?_ ?_); kernel_rfl) | refine zv rfl (by first | rfl | assumption) ?_)
    refine zk (by first | exact .inr rfl | exact .inl rfl) rfl rfl ?_
    rfl
  repeat (first | ((with_reducible refine zD ?_); refine zC rfl ?_) | ((with_reducible refine zK ?_); refine zG tbOk rfl rfl rfl rfl ?_) | ((with_reducible refine zO ?_); refine zN tbOk rfl rfl rfl rfl rfl ?_) | ((with_reducible refine za ?_); refine zn rfl (by first | rfl | assumption) rfl ?_) | ((with_reducible refine zS ?_); refine zT rfl rfl rfl ?_)  | refine zH ?_ | refine zB rfl ?_ | refine zz rfl rfl (by first | rfl | assumption) ?_ | with_reducible refine zE ?_ )
  refine zZ rfl (fun c => ?_) (fun c => ?_)
  · rw [if_pos (by simp at c; omega)]
    repeat (first | ((with_reducible refine zD ?_); refine zC rfl ?_)  | refine zH ?_ | refine zB rfl ?_ | with_reducible refine zE ?_ | with_reducible refine zM ?_ | with_reducible refine zX ?_ | with_reducible refine zF ?_ | with_reducible refine zL ?_ | ((with_reducible refine zA ?_ ?_); kernel_rfl))
    refine zk (by first | exact .inr rfl | exact .inl rfl) rfl rfl ?_
    rfl
  rw [if_neg (by simp at b c; omega)]
  clear b c
  repeat (first | ((with_reducible refine zJ ?_); refine zI rfl ?_) | ((with_reducible refine zK ?_); refine zG tbOk rfl rfl rfl rfl ?_) | ((with_reducible refine zO ?_); refine zN tbOk rfl rfl rfl rfl rfl ?_) | ((with_reducible refine zS ?_); refine zT rfl rfl rfl ?_)  | refine zB rfl ?_ | with_reducible refine zF ?_ | ((with_reducible refine zA ?_ ?_); kernel_rfl))
  refine zw rfl rfl (fun b => ?_) (fun b => ?_)
  · rw [if_pos (by simp at b; omega)]
    repeat (first | ((with_reducible refine zD ?_); refine zC rfl ?_) | ((with_reducible refine za ?_); refine zp rfl (by first | rfl | assumption) rfl ?_)  | refine zH ?_ | refine zB rfl ?_ | refine yD rfl rfl (by first | rfl | assumption) ?_ | with_reducible refine zE ?_ | with_reducible refine zM ?_ | with_reducible refine zX ?_ | with_reducible refine zF ?_ | with_reducible refine zL ?_ | ((with_reducible refine zA ?_ ?_); kernel_rfl) | refine zv rfl (by first | rfl | assumption) ?_)
    refine zk (by first | exact .inr rfl | exact .inl rfl) rfl rfl ?_
    rfl
  repeat (first | ((with_reducible refine zD ?_); refine zC rfl ?_) | ((with_reducible refine zK ?_); refine zG tbOk rfl rfl rfl rfl ?_) | ((with_reducible refine zO ?_); refine zN tbOk rfl rfl rfl rfl rfl ?_) | ((with_reducible refine za ?_); refine zn rfl (by first | rfl | assumption) rfl ?_) | ((with_reducible refine zS ?_); refine zT rfl rfl rfl ?_)  | refine zH ?_ | refine zB rfl ?_ | refine zz rfl rfl (by first | rfl | assumption) ?_ | with_reducible refine zE ?_ )
  refine zZ rfl (fun c => ?_) (fun c => ?_)
  · rw [if_pos (by simp at c; omega)]
    repeat (first | ((with_reducible refine zD ?_); refine zC rfl ?_)  | refine zH ?_ | refine zB rfl ?_ | with_reducible refine zE ?_ | with_reducible refine zM ?_ | with_reducible refine zX ?_ | with_reducible refine zF ?_ | with_reducible refine zL ?_ | ((with_reducible refine zA ?_ ?_); kernel_rfl))
    refine zk (by first | exact .inr rfl | exact .inl rfl) rfl rfl ?_
    rfl
  rw [if_neg (by simp at b c; omega)]
  clear b c
  repeat (first | ((with_reducible refine zK ?_); refine zG tbOk rfl rfl rfl rfl ?_) | ((with_reducible refine zO ?_); refine zN tbOk rfl rfl rfl rfl rfl ?_) | ((with_reducible refine zO ?_); refine zi tbOk rfl rfl rfl rfl (Nat.le_of_ble_eq_true rfl) ?_)  | refine zB rfl ?_ | with_reducible refine zE ?_ | with_reducible refine zq ?_ | with_reducible refine zF ?_ | with_reducible refine zU ?_ | ((with_reducible refine zA ?_ ?_); kernel_rfl))
  refine zj (zcheck_A N V d.zone hG ok od.z) (by repeat' (first | exact trivial | exact Ren.v _ | exact Ren.sl _ _ | exact Ren.ep _ | exact Ren.ptr _ _ _ _ rfl | exact Ren.bs _ _ _ _ _ rfl | exact Ren.nil _ | exact Ren.own _ _ _ _ ⟨_, rfl⟩ | refine zP ?_ | refine zQ ?_ | refine zR ?_ | refine ⟨?_, ?_⟩)) (by repeat' (first | exact trivial | exact RenB.v _ | exact RenB.sl _ _ | exact RenB.ep _ | exact RenB.ptr _ _ _ _ rfl | refine zW ?_ | refine zV ?_ | refine ⟨?_, ?_⟩)) ?_
  repeat (first | ((with_reducible refine zJ ?_); refine zI rfl ?_) | ((with_reducible refine zD ?_); refine zC rfl ?_) | ((with_reducible refine zS ?_); refine zT rfl rfl rfl ?_)  | refine zH ?_ | refine zB rfl ?_ | with_reducible refine zE ?_ | with_reducible refine zF ?_ | ((with_reducible refine zA ?_ ?_); kernel_rfl))
  refine zZ rfl (fun h => ?_) (fun h => ?_)
  · rw [if_pos (by simpa using h)]
    repeat (first | ((with_reducible refine zJ ?_); refine zI rfl ?_) | ((with_reducible refine zD ?_); refine zC rfl ?_)  | refine zH ?_ | refine zB rfl ?_ | with_reducible refine zE ?_ | with_reducible refine zM ?_ | with_reducible refine zF ?_ | with_reducible refine zL ?_ | ((with_reducible refine zA ?_ ?_); kernel_rfl))
    refine zk (by first | exact .inr rfl | exact .inl rfl) rfl rfl ?_
    rfl
  rw [if_neg (by simpa using h)]
  repeat (first | ((with_reducible refine zJ ?_); refine zI rfl ?_) | ((with_reducible refine zK ?_); refine zG tbOk rfl rfl rfl rfl ?_) | ((with_reducible refine zO ?_); refine zN tbOk rfl rfl rfl rfl rfl ?_) | ((with_reducible refine zS ?_); refine zT rfl rfl rfl ?_)  | refine zB rfl ?_ | with_reducible refine zE ?_ | with_reducible refine zF ?_ | with_reducible refine zU ?_ | ((with_reducible refine zA ?_ ?_); kernel_rfl))
  refine zw rfl rfl (fun b => ?_) (fun b => ?_)
  · rw [if_pos (by simp at b; omega)]
    repeat (first | ((with_reducible refine zD ?_); refine zC rfl ?_) | ((with_reducible refine za ?_); refine zp rfl (by first | rfl | assumption) rfl ?_)  | refine zH ?_ | refine zB rfl ?_ | refine yD rfl rfl (by first | rfl | assumption) ?_ | with_reducible refine zE ?_ | with_reducible refine zM ?_ | with_reducible refine zF ?_ | with_reducible refine zL ?_ | ((with_reducible refine zA ?_ ?_); kernel_rfl) | refine zv rfl (by first | rfl | assumption) ?_)
    refine zk (by first | exact .inr rfl | exact .inl rfl) rfl rfl ?_
    rfl
  repeat (first | ((with_reducible refine zK ?_); refine zG tbOk rfl rfl rfl rfl ?_) | ((with_reducible refine zO ?_); refine zN tbOk rfl rfl rfl rfl rfl ?_) | ((with_reducible refine za ?_); refine zn rfl (by first | rfl | assumption) rfl ?_) | ((with_reducible refine zS ?_); refine zT rfl rfl rfl ?_)  | refine zH ?_ | refine zB rfl ?_ | refine zz rfl rfl (by first | rfl | assumption) ?_ | with_reducible refine zE ?_ )
  refine zZ rfl (fun c => ?_) (fun c => ?_)
  · rw [if_pos (by simp at c; omega)]
    repeat (first | ((with_reducible refine zD ?_); refine zC rfl ?_)  | refine zH ?_ | refine zB rfl ?_ | with_reducible refine zE ?_ | with_reducible refine zM ?_ | with_reducible refine zF ?_ | with_reducible refine zL ?_ | ((with_reducible refine zA ?_ ?_); kernel_rfl))
    refine zk (by first | exact .inr rfl | exact .inl rfl) rfl rfl ?_
    rfl
  rw [if_neg (by simp at b c; omega)]
  clear b c
  repeat (first | ((with_reducible refine zK ?_); refine zG tbOk rfl rfl rfl rfl ?_) | ((with_reducible refine zO ?_); refine zN tbOk rfl rfl rfl rfl rfl ?_) | ((with_reducible refine zO ?_); refine zi tbOk rfl rfl rfl rfl (Nat.le_of_ble_eq_true rfl) ?_)  | refine zB rfl ?_ | with_reducible refine zE ?_ | with_reducible refine zF ?_ | with_reducible refine zU ?_ | ((with_reducible refine zA ?_ ?_); kernel_rfl))
  refine zj (lcheck_A N V d.lk hG ok.n ok.v ok.l1 ok.l2) (by repeat' (first | exact trivial | exact Ren.v _ | exact Ren.sl _ _ | exact Ren.ep _ | exact Ren.ptr _ _ _ _ rfl | exact Ren.bs _ _ _ _ _ rfl | exact Ren.nil _ | exact Ren.own _ _ _ _ ⟨_, rfl⟩ | refine zP ?_ | refine zQ ?_ | refine zR ?_ | refine ⟨?_, ?_⟩)) (by repeat' (first | exact trivial | exact RenB.v _ | exact RenB.sl _ _ | exact RenB.ep _ | exact RenB.ptr _ _ _ _ rfl | refine zW ?_ | refine zV ?_ | refine ⟨?_, ?_⟩)) ?_
  repeat (first | ((with_reducible refine zJ ?_); refine zI rfl ?_) | ((with_reducible refine zD ?_); refine zC rfl ?_) | ((with_reducible refine zS ?_); refine zT rfl rfl rfl ?_)  | refine zH ?_ | refine zB rfl ?_ | with_reducible refine zE ?_ | with_reducible refine zF ?_ | ((with_reducible refine zA ?_ ?_); kernel_rfl))
  refine zZ rfl (fun h => ?_) (fun h => ?_)
  · rw [if_pos (by simpa using h)]
    repeat (first | ((with_reducible refine zJ ?_); refine zI rfl ?_) | ((with_reducible refine zD ?_); refine zC rfl ?_)  | refine zH ?_ | refine zB rfl ?_ | with_reducible refine zE ?_ | with_reducible refine zM ?_ | with_reducible refine zF ?_ | with_reducible refine zL ?_ | ((with_reducible refine zA ?_ ?_); kernel_rfl))
    refine zk (by first | exact .inr rfl | exact .inl rfl) rfl rfl ?_
    rfl
  rw [if_neg (by simpa using h)]
  repeat (first | ((with_reducible refine zK ?_); refine zG tbOk rfl rfl rfl rfl ?_) | ((with_reducible refine zO ?_); refine zN tbOk rfl rfl rfl rfl rfl ?_)  | refine zB rfl ?_ | with_reducible refine zE ?_ | with_reducible refine zF ?_ | with_reducible refine zY ?_ | with_reducible refine zU ?_ | ((with_reducible refine zA ?_ ?_); kernel_rfl))
  refine zj (name_A d.iss hG od.i) (by repeat' (first | exact trivial | exact Ren.v _ | exact Ren.sl _ _ | exact Ren.ep _ | exact Ren.ptr _ _ _ _ rfl | exact Ren.bs _ _ _ _ _ rfl | exact Ren.nil _ | exact Ren.own _ _ _ _ ⟨_, rfl⟩ | refine zP ?_ | refine zQ ?_ | refine zR ?_ | refine ⟨?_, ?_⟩)) (by repeat' (first | exact trivial | exact RenB.v _ | exact RenB.sl _ _ | exact RenB.ep _ | exact RenB.ptr _ _ _ _ rfl | refine zW ?_ | refine zV ?_ | refine ⟨?_, ?_⟩)) ?_
  repeat (first | ((with_reducible refine zJ ?_); refine zI rfl ?_) | ((with_reducible refine k_un ?_); refine jC rfl ?_)  | refine zB rfl ?_  )
  refine zw rfl rfl (fun b => ?_) (fun b => ?_)
  · rw [if_pos (.inl (by simpa using b))]
    repeat (first | ((with_reducible refine zD ?_); refine zC rfl ?_) | ((with_reducible refine za ?_); refine zp rfl (by first | rfl | assumption) rfl ?_)  | refine zH ?_ | refine zB rfl ?_ | refine yD rfl rfl (by first | rfl | assumption) ?_ | with_reducible refine zE ?_ | with_reducible refine zM ?_ | with_reducible refine zX ?_ | with_reducible refine zF ?_ | with_reducible refine zL ?_ | ((with_reducible refine zA ?_ ?_); kernel_rfl) | refine zv rfl (by first | rfl | assumption) ?_)
    refine zk (by first | exact .inr rfl | exact .inl rfl) rfl rfl ?_
    rfl
  repeat (first | ((with_reducible refine zK ?_); refine zG tbOk rfl rfl rfl rfl ?_) | ((with_reducible refine zO ?_); refine zN tbOk rfl rfl rfl rfl rfl ?_)  | refine zz rfl rfl (by first | rfl | assumption) ?_  )
  refine zj (name_A d.hol hG od.h) (by repeat' (first | exact trivial | exact Ren.v _ | exact Ren.sl _ _ | exact Ren.ep _ | exact Ren.ptr _ _ _ _ rfl | exact Ren.bs _ _ _ _ _ rfl | exact Ren.nil _ | exact Ren.own _ _ _ _ ⟨_, rfl⟩ | refine zP ?_ | refine zQ ?_ | refine zR ?_ | refine ⟨?_, ?_⟩)) (by repeat' (first | exact trivial | exact RenB.v _ | exact RenB.sl _ _ | exact RenB.ep _ | exact RenB.ptr _ _ _ _ rfl | refine zW ?_ | refine zV ?_ | refine ⟨?_, ?_⟩)) ?_
  repeat (first | ((with_reducible refine zD ?_); refine zC rfl ?_) | ((with_reducible refine k_un ?_); refine jC rfl ?_) | ((with_reducible refine za ?_); refine zn rfl (by first | rfl | assumption) rfl ?_)  | refine zH ?_ | refine zB rfl ?_ | refine zz rfl rfl (by first | rfl | assumption) ?_ | with_reducible refine zE ?_ )
  refine zZ rfl (fun c => ?_) (fun c => ?_)
  · rw [if_pos (.inr (by simpa using c))]
    repeat (first | ((with_reducible refine zD ?_); refine zC rfl ?_)  | refine zH ?_ | refine zB rfl ?_ | with_reducible refine zE ?_ | with_reducible refine zM ?_ | with_reducible refine zX ?_ | with_reducible refine zF ?_ | with_reducible refine zL ?_ | ((with_reducible refine zA ?_ ?_); kernel_rfl))
    refine zk (by first | exact .inr rfl | exact .inl rfl) rfl rfl ?_
    rfl
  rw [if_neg (by simp at b c; rw [b, c]; simp)]
  clear b c
  repeat (first | ((with_reducible refine zD ?_); refine zC rfl ?_) | ((with_reducible refine zK ?_); refine zG tbOk rfl rfl rfl rfl ?_) | ((with_reducible refine zO ?_); refine zN tbOk rfl rfl rfl rfl rfl ?_) | ((with_reducible refine zS ?_); refine jB rfl rfl rfl ?_)  | refine zH ?_ | refine zB rfl ?_ | with_reducible refine zE ?_ | with_reducible refine zF ?_ | ((with_reducible refine zA ?_ ?_); kernel_rfl))
  refine zZ rfl (fun h => ?_) (fun h => ?_)
  · rw [if_pos (ye.1 h)]
    repeat (first | ((with_reducible refine zD ?_); refine zC rfl ?_)  | refine zH ?_ | refine zB rfl ?_ | with_reducible refine zE ?_ | with_reducible refine zM ?_ | with_reducible refine zX ?_ | with_reducible refine zF ?_ | with_reducible refine zL ?_ | ((with_reducible refine zA ?_ ?_); kernel_rfl))
    refine zk (by first | exact .inr rfl | exact .inl rfl) rfl rfl ?_
    rfl
  rw [if_neg (fun e => by have h' : yS d.iss d.hol = false := h; rw [ye.2 e] at h'; cases h')]
  repeat (first | ((with_reducible refine zK ?_); refine zG tbOk rfl rfl rfl rfl ?_) | ((with_reducible refine zO ?_); refine zi tbOk rfl rfl rfl rfl (Nat.le_of_ble_eq_true rfl) ?_)  | refine zB rfl ?_ | with_reducible refine zF ?_ | ((with_reducible refine zA ?_ ?_); kernel_rfl))
  refine zj (cvalid_A d.f d.u) (by repeat' (first | exact trivial | exact Ren.v _ | exact Ren.sl _ _ | exact Ren.ep _ | exact Ren.ptr _ _ _ _ rfl | exact Ren.bs _ _ _ _ _ rfl | exact Ren.nil _ | exact Ren.own _ _ _ _ ⟨_, rfl⟩ | refine zP ?_ | refine zQ ?_ | refine zR ?_ | refine ⟨?_, ?_⟩)) (by repeat' (first | exact trivial | exact RenB.v _ | exact RenB.sl _ _ | exact RenB.ep _ | exact RenB.ptr _ _ _ _ rfl | refine zW ?_ | refine zV ?_ | refine ⟨?_, ?_⟩)) ?_
  repeat (first | ((with_reducible refine zD ?_); refine zC rfl ?_) | ((with_reducible refine k_un ?_); refine jC rfl ?_)  | refine zH ?_ | refine zB rfl ?_ | with_reducible refine zE ?_ )
  refine zZ rfl (fun h => ?_) (fun h => ?_)
  · rw [if_pos (by simpa using h)]
    repeat (first | ((with_reducible refine zD ?_); refine zC rfl ?_)  | refine zH ?_ | refine zB rfl ?_ | with_reducible refine zE ?_ | with_reducible refine zM ?_ | with_reducible refine zX ?_ | with_reducible refine zF ?_ | with_reducible refine zL ?_ | ((with_reducible refine zA ?_ ?_); kernel_rfl))
    refine zk (by first | exact .inr rfl | exact .inl rfl) rfl rfl ?_
    rfl
  rw [if_neg (by simpa using h)]
  repeat (first | ((with_reducible refine zK ?_); refine zG tbOk rfl rfl rfl rfl ?_) | ((with_reducible refine zO ?_); refine zN tbOk rfl rfl rfl rfl rfl ?_)  | refine zB rfl ?_ | with_reducible refine zE ?_ | with_reducible refine zq ?_ | with_reducible refine zF ?_ | with_reducible refine zU ?_ | ((with_reducible refine zA ?_ ?_); kernel_rfl))
  refine zj (certs_A d.ce od.c) (by repeat' (first | exact trivial | exact Ren.v _ | exact Ren.sl _ _ | exact Ren.ep _ | exact Ren.ptr _ _ _ _ rfl | exact Ren.bs _ _ _ _ _ rfl | exact Ren.nil _ | exact Ren.own _ _ _ _ ⟨_, rfl⟩ | refine zP ?_ | refine zQ ?_ | refine zR ?_ | refine ⟨?_, ?_⟩)) (by repeat' (first | exact trivial | exact RenB.v _ | exact RenB.sl _ _ | exact RenB.ep _ | exact RenB.ptr _ _ _ _ rfl | refine zW ?_ | refine zV ?_ | refine ⟨?_, ?_⟩)) ?_
  repeat (first | ((with_reducible refine zD ?_); refine zC rfl ?_)  | refine zH ?_ | refine zB rfl ?_ | with_reducible refine zE ?_ | with_reducible refine zL ?_ )
  refine zk (by first | exact .inr rfl | exact .inl rfl) rfl rfl ?_
  rfl
end Go.Proofs.YtjamibeffalhaaaGreatDoor
