/- document: the reader's line, by the abstract machine; conditions: the table of classes stands. -/
import Derived.Test.YtjamibeffalhaaaGreatDoorDxE
set_option linter.unusedVariables false
set_option linter.unusedSimpArgs false
namespace Go.Proofs.YtjamibeffalhaaaGreatDoor
open Go Go.RowKit
set_option maxRecDepth 10000
variable {G : Nat → Option (List Value)}
set_option maxHeartbeats 4000000 in
theorem line0_A (N : List Nd) (V : List Dv) (W : List (List UInt8)) (hW : W.length ≤ 1000000) (hw : ∀ w ∈ W, w.length ≤ 1000000) :
    zz Tryz.prog G 40 [.ptr (refB + 0) 0 0, .v (.int .i64 (0 : Nat)), .sl 1 (W.map svL)] [rdC N V Dc.zer nilA nilA nilA] (.v (.int .i64 (jI W).2)) [rdC N V (jI W).1 nilA nilA nilA] := by
  unfold jI
  refine zb tbOk (zc Tryz.func40 (by kernel_rfl) rfl) Tryz.func40 rfl _ Tryz.ntmps40 (Nat.le_of_ble_eq_true rfl) fun X hX => ?_
  subst hX
  repeat (first | ((with_reducible refine zK ?_); refine zJ rfl ?_) | ((with_reducible refine zE ?_); refine zF rfl ?_) | ((with_reducible refine zt ?_); refine yH tbOk rfl rfl ?_) | ((with_reducible refine zQ ?_); refine zT rfl rfl rfl ?_)  | refine zL ?_ | refine zB rfl ?_ | with_reducible (first | refine zG ?_ | refine zH ?_ | refine zY ?_) | ((with_reducible refine zA ?_ ?_); kernel_rfl))
  refine zZ rfl (fun h => ?_) (fun h => ?_)
  · rw [if_pos (by simp at h; simpa using h)]
    repeat (first | ((with_reducible refine zE ?_); refine zF rfl ?_)  | refine zL ?_ | refine zB rfl ?_ | with_reducible (first | refine zG ?_ | refine zO ?_ | refine zV ?_ | refine zH ?_ | refine zN ?_) | ((with_reducible refine zA ?_ ?_); kernel_rfl))
    refine jG (by first | exact .inr rfl | exact .inl rfl) rfl rfl rfl (by first | rfl | assumption) ?_ ?_ (by repeat' (first | exact trivial | exact Ren.v _ | exact Ren.sl _ _ | exact Ren.ep _ | exact Ren.ptr _ _ _ _ rfl | exact Ren.bs _ _ _ _ _ rfl | exact Ren.nil _ | exact Ren.own _ _ _ _ ⟨_, rfl⟩ | refine zi ?_ | refine zj ?_ | refine zl ?_ | refine ⟨?_, ?_⟩)) <;> rfl
  rw [if_neg (by simp at h; simpa using h)]
  repeat (first | ((with_reducible refine zK ?_); refine zJ rfl ?_) | ((with_reducible refine zE ?_); refine zF rfl ?_) | ((with_reducible refine zQ ?_); refine zT rfl rfl rfl ?_)  | refine zL ?_ | refine zB rfl ?_ | with_reducible (first | refine zG ?_ | refine zH ?_) | ((with_reducible refine zA ?_ ?_); kernel_rfl) | refine zn rfl (by first | rfl | assumption) ?_)
  refine zD (ss := [(refB + 0, 0)]) (first_A N V Dc.zer W hW hw) (by simp) (in1 rfl rfl) rfl (ya rfl) ?_
  repeat (first | ((with_reducible refine zE ?_); refine zF rfl ?_)  | refine zL ?_ | refine zB rfl ?_ | with_reducible (first | refine zG ?_ | refine zO ?_ | refine zV ?_ | refine zN ?_) )
  refine jG (by first | exact .inr rfl | exact .inl rfl) rfl rfl rfl (by first | rfl | assumption) ?_ ?_ (by repeat' (first | exact trivial | exact Ren.v _ | exact Ren.sl _ _ | exact Ren.ep _ | exact Ren.ptr _ _ _ _ rfl | exact Ren.bs _ _ _ _ _ rfl | exact Ren.nil _ | exact Ren.own _ _ _ _ ⟨_, rfl⟩ | refine zi ?_ | refine zj ?_ | refine zl ?_ | refine ⟨?_, ?_⟩)) <;> rfl
set_option maxHeartbeats 4000000 in
theorem line1_A (N : List Nd) (V : List Dv) (d : Dc) (W : List (List UInt8)) (hG : GCls G) (ok : NwOk N V) (hn : netE N V = 0) (hW : W.length ≤ 1000000) (hw : ∀ w ∈ W, w.length ≤ 1000000) :
    zz Tryz.prog G 40 [.ptr (refB + 0) 0 0, .v (.int .i64 (1 : Nat)), .sl 1 (W.map svL)] [rdC N V d nilA nilA nilA] (.v (.int .i64 (qD N W).2)) [rdC N V d (.sl 1 ((qD N W).1.map iv)) nilA nilA] := by
  unfold qD
  cases W with
  | nil =>
    rw [if_pos (show ([] : List (List UInt8)).length = 0 from rfl)]
    refine zb tbOk (zc Tryz.func40 (by kernel_rfl) rfl) Tryz.func40 rfl _ Tryz.ntmps40 (Nat.le_of_ble_eq_true rfl) fun X hX => ?_
    subst hX
    refine gX (s := 900) (b := refB + 0) 3 1 (rdC N V d (.own 900 1) nilA nilA) rfl rfl (.same (.same (.same (.same (.same (.same (.hit (.same (.same (.same (.same (.same (.same (.same .nil)))))))))))))) ?_
    refine qP (s := 900) (b := refB + 0) (L := []) (rdC N V d (.sl 1 []) nilA nilA) rfl rfl (.same (.same (.same (.same (.same (.same (.hit (.same (.same (.same (.same (.same (.same (.same .nil)))))))))))))) ?_
    repeat (first | ((with_reducible refine zK ?_); refine zJ rfl ?_) | ((with_reducible refine zE ?_); refine zF rfl ?_) | ((with_reducible refine zt ?_); refine yH tbOk rfl rfl ?_) | ((with_reducible refine zQ ?_); refine zT rfl rfl rfl ?_)  | refine zL ?_ | refine zB rfl ?_ | with_reducible (first | refine zG ?_ | refine zO ?_ | refine zV ?_ | refine zH ?_ | refine zY ?_ | refine zN ?_) | ((with_reducible refine zA ?_ ?_); kernel_rfl) | refine zn rfl (by first | rfl | assumption) ?_)
    refine jG (by first | exact .inr rfl | exact .inl rfl) rfl rfl rfl (by first | rfl | assumption) ?_ ?_ (by repeat' (first | exact trivial | exact Ren.v _ | exact Ren.sl _ _ | exact Ren.ep _ | exact Ren.ptr _ _ _ _ rfl | exact Ren.bs _ _ _ _ _ rfl | exact Ren.nil _ | exact Ren.own _ _ _ _ ⟨_, rfl⟩ | refine zi ?_ | refine zj ?_ | refine zl ?_ | refine ⟨?_, ?_⟩)) <;> rfl
  | cons w W =>
    rw [if_neg (by simp)]
    refine zb tbOk (zc Tryz.func40 (by kernel_rfl) rfl) Tryz.func40 rfl _ Tryz.ntmps40 (Nat.le_of_ble_eq_true rfl) fun X hX => ?_
    subst hX
    repeat (first | ((with_reducible refine zK ?_); refine zJ rfl ?_) | ((with_reducible refine zE ?_); refine zF rfl ?_) | ((with_reducible refine zt ?_); refine yH tbOk rfl rfl ?_) | ((with_reducible refine zQ ?_); refine zT rfl rfl rfl ?_)  | refine zL ?_ | refine zB rfl ?_ | with_reducible (first | refine zG ?_ | refine zH ?_ | refine zY ?_) | ((with_reducible refine zA ?_ ?_); kernel_rfl) | refine zn rfl (by first | rfl | assumption) ?_ | refine yF rfl (by first | rfl | assumption) ?_)
    refine zD (ss := [(refB + 0, 0)]) (zone_A N V d w W hG ok hn (by simp at hW; omega) (fun x hx => hw x (by simp [hx]))) (by simp) (in1 rfl rfl) rfl (ya rfl) ?_
    repeat (first | ((with_reducible refine zE ?_); refine zF rfl ?_)  | refine zL ?_ | refine zB rfl ?_ | with_reducible (first | refine zG ?_ | refine zO ?_ | refine zV ?_ | refine zN ?_) )
    refine jG (by first | exact .inr rfl | exact .inl rfl) rfl rfl rfl (by first | rfl | assumption) ?_ ?_ (by repeat' (first | exact trivial | exact Ren.v _ | exact Ren.sl _ _ | exact Ren.ep _ | exact Ren.ptr _ _ _ _ rfl | exact Ren.bs _ _ _ _ _ rfl | exact Ren.nil _ | exact Ren.own _ _ _ _ ⟨_, rfl⟩ | refine zi ?_ | refine zj ?_ | refine zl ?_ | refine ⟨?_, ?_⟩)) <;> rfl
set_option maxHeartbeats 4000000 in
theorem line_J (N : List Nd) (V : List Dv) (d : Dc) (Z : List Int) (K : List Lk) (C : List Int) (i : Nat) (W : List (List UInt8)) (hi : 2 ≤ i) (hG : GCls G) (ok : NwOk N V) (hn : netE N V = 0) (hK : K.length ≤ 1000000) (hC : C.length ≤ 1000000) (hW : W.length ≤ 1000000) (hw : ∀ w ∈ W, w.length ≤ 1000000) :
    qw Tryz.prog G 40 [.ptr (refB + 0) 0 0, .v (.int .i64 (i : Nat)), .sl 1 (W.map svL)] (rfs N V d Z K C) (.v (.int .i64 (jN V K C W).2.2)) (rfs N V d Z (jN V K C W).1 (jN V K C W).2.1) := by
  have c0 : (((i : Nat) : Int) == 0) = false := by simp; omega
  have c1 : (((i : Nat) : Int) == 1) = false := by simp; omega
  have hlk := lock_J (G := G) N V d Z K C W hG ok hn hK hC hW hw
  have hce := cert_J (G := G) N V d Z K C W hK hC hW hw
  obtain ⟨⟨K2, e2⟩, hL⟩ : ∃ q, q = jU V K C W := ⟨_, rfl⟩
  obtain ⟨⟨C2, e3⟩, hCc⟩ : ∃ q, q = cE C W := ⟨_, rfl⟩
  rw [← hL] at hlk
  rw [← hCc] at hce
  dsimp only at hlk hce
  have e : jN V K C W = if W.length = 0 then (K, C, 2) else if wAt W 0 = bC then (K2, C, e2) else if wAt W 0 = bI then (K, C2, e3) else (K, C, 2) := by unfold jN; rw [← hL, ← hCc]
  rw [e]
  refine qe tbOk (zc Tryz.func40 (by kernel_rfl) rfl) Tryz.func40 rfl _ Tryz.ntmps40 (Nat.le_of_ble_eq_true rfl) fun X hX => ?_
  subst hX
  repeat (first | ((with_reducible refine zK ?_); refine zJ rfl ?_) | ((with_reducible refine zE ?_); refine zF rfl ?_) | ((with_reducible refine zt ?_); refine yH tbOk rfl rfl ?_) | ((with_reducible refine zQ ?_); refine zT rfl rfl rfl ?_)  | refine zL ?_ | refine zB rfl ?_ | with_reducible (first | refine zG ?_ | refine zH ?_ | refine zY ?_) | ((with_reducible refine zA ?_ ?_); kernel_rfl))
  refine zZ rfl (fun h => ?_) (fun h => ?_)
  · rw [if_pos (by simp at h; simpa using h)]
    repeat (first | ((with_reducible refine zE ?_); refine zF rfl ?_)  | refine zL ?_ | refine zB rfl ?_ | with_reducible (first | refine zG ?_ | refine zO ?_ | refine zV ?_ | refine zH ?_ | refine zN ?_) | ((with_reducible refine zA ?_ ?_); kernel_rfl))
    refine retJ (by first | exact .inr rfl | exact .inl rfl) (xs := [.v (.int .i64 (2))]) (fs := [(refB + 0, 0), (refB + 1, 0), (refB + 2, 0)]) ⟨.tmp _, trivial⟩ (by simp [refB]) (Ren.v _) ?_
    exact ⟨⟨⟨_, rfl, by repeat' (first | exact trivial | exact Ren.v _ | exact Ren.sl _ _ | exact Ren.ep _ | exact Ren.ptr _ _ _ _ rfl | exact Ren.ownr _ _ _ rfl | exact Ren.bs _ _ _ _ _ rfl | refine zi ?_ | refine zj ?_ | refine zl ?_ | refine ⟨?_, ?_⟩)⟩, fun _ => ⟨rfl, rfl⟩⟩, rfl, rfl, trivial⟩
  have h0 : ¬ W.length = 0 := by simp at h; simpa using h
  rw [if_neg h0]
  have z0 : (W.map svL)[(0 : Int).toNat]? = some (svL (wAt W 0)) := jH (by show 0 < _; omega)
  repeat (first | ((with_reducible refine zK ?_); refine zJ rfl ?_) | ((with_reducible refine zE ?_); refine zF rfl ?_) | ((with_reducible refine zR ?_); refine zW tbOk rfl rfl rfl ?_) | ((with_reducible refine zU ?_); refine zX tbOk rfl rfl rfl rfl (by assumption) ?_) | ((with_reducible refine zQ ?_); (first | refine zT rfl rfl rfl ?_ | refine yh rfl rfl rfl ?_))  | refine zL ?_ | refine zB rfl ?_ | with_reducible (first | refine zG ?_ | refine zH ?_) | ((with_reducible refine zA ?_ ?_); kernel_rfl) | refine yF rfl (by first | rfl | assumption) ?_)
  refine zZ rfl (fun q => ?_) (fun q => ?_)
  · rw [if_pos ((jZ (wAt W 0) bC).1 q)]
    repeat (first | ((with_reducible refine zK ?_); refine zJ rfl ?_)  | refine zB rfl ?_ | with_reducible refine zH ?_ | ((with_reducible refine zA ?_ ?_); kernel_rfl))
    refine dW (ss := [(refB + 0, 0), (refB + 1, 0), (refB + 2, 0)]) (ss' := [(refB + 0, 0), (refB + 1, 1), (refB + 2, 1)]) (cs' := [.box (rdC N V d (.sl 1 (Z.map iv)) (.own (refB + 1) 1) (.own (refB + 2) 1)), .buf 65 3 (K2.map Lk.av), .buf 3 1 (C.map iv)]) (y := .v (.int .i64 e2)) hlk (by repeat' (first | exact trivial | exact Ren.v _ | exact Ren.sl _ _ | exact Ren.ep _ | exact Ren.ptr _ _ _ _ rfl | exact Ren.ownr _ _ _ rfl | exact Ren.bs _ _ _ _ _ rfl | refine zi ?_ | refine zj ?_ | refine zl ?_ | refine ⟨?_, ?_⟩)) (by simp [refB]) ⟨⟨_, rfl, by repeat' (first | exact trivial | exact Ren.v _ | exact Ren.sl _ _ | exact Ren.ep _ | exact Ren.ptr _ _ _ _ rfl | exact Ren.ownr _ _ _ rfl | exact Ren.bs _ _ _ _ _ rfl | refine zi ?_ | refine zj ?_ | refine zl ?_ | refine ⟨?_, ?_⟩)⟩, rfl, rfl, trivial⟩ ⟨⟨⟨rfl, rfl⟩, _, rfl, by repeat' (first | exact trivial | exact RenB.v _ | exact RenB.sl _ _ | exact RenB.ep _ | exact RenB.ptr _ _ _ _ rfl | exact RenB.own _ _ _ rfl | refine jX ?_ | refine jW ?_ | refine ⟨?_, ?_⟩)⟩, ⟨⟨rfl, rfl⟩, rfl⟩, ⟨⟨rfl, rfl⟩, rfl⟩, trivial⟩ (by repeat' (first | exact trivial | exact RenB.v _ | exact RenB.sl _ _ | exact RenB.ep _ | exact RenB.ptr _ _ _ _ rfl | exact RenB.own _ _ _ rfl | refine jX ?_ | refine jW ?_ | refine ⟨?_, ?_⟩)) ?_
    repeat (first | ((with_reducible refine zE ?_); refine zF rfl ?_)  | refine zL ?_ | refine zB rfl ?_ | with_reducible (first | refine zG ?_ | refine zO ?_ | refine zV ?_ | refine zN ?_) )
    refine retJ (by first | exact .inr rfl | exact .inl rfl) (xs := [.v (.int .i64 (e2))]) (fs := [(refB + 0, 0), (refB + 1, 1), (refB + 2, 1)]) ⟨.tmp _, trivial⟩ (by simp [refB]) (Ren.v _) ?_
    exact ⟨⟨⟨_, rfl, by repeat' (first | exact trivial | exact Ren.v _ | exact Ren.sl _ _ | exact Ren.ep _ | exact Ren.ptr _ _ _ _ rfl | exact Ren.ownr _ _ _ rfl | exact Ren.bs _ _ _ _ _ rfl | refine zi ?_ | refine zj ?_ | refine zl ?_ | refine ⟨?_, ?_⟩)⟩, fun _ => ⟨rfl, rfl⟩⟩, rfl, rfl, trivial⟩
  rw [if_neg (fun e => by have q2 : yI (strL (wAt W 0)) (strL bC) = false := q; rw [(jZ _ _).2 e] at q2; cases q2)]
  repeat (first | ((with_reducible refine zK ?_); refine zJ rfl ?_) | ((with_reducible refine zE ?_); refine zF rfl ?_) | ((with_reducible refine zR ?_); refine zW tbOk rfl rfl rfl ?_) | ((with_reducible refine zU ?_); refine zX tbOk rfl rfl rfl rfl (by assumption) ?_) | ((with_reducible refine zQ ?_); refine yh rfl rfl rfl ?_)  | refine zL ?_ | refine zB rfl ?_ | with_reducible (first | refine zG ?_ | refine zH ?_) | ((with_reducible refine zA ?_ ?_); kernel_rfl))
  refine zZ rfl (fun q => ?_) (fun q => ?_)
  · rw [if_pos ((jZ (wAt W 0) bI).1 q)]
    repeat (first | ((with_reducible refine zK ?_); refine zJ rfl ?_)  | refine zB rfl ?_ | with_reducible refine zH ?_ | ((with_reducible refine zA ?_ ?_); kernel_rfl))
    refine dW (ss := [(refB + 0, 0), (refB + 1, 0), (refB + 2, 0)]) (ss' := [(refB + 0, 0), (refB + 1, 1), (refB + 2, 1)]) (cs' := [.box (rdC N V d (.sl 1 (Z.map iv)) (.own (refB + 1) 1) (.own (refB + 2) 1)), .buf 65 3 (K.map Lk.av), .buf 3 1 (C2.map iv)]) (y := .v (.int .i64 e3)) hce (by repeat' (first | exact trivial | exact Ren.v _ | exact Ren.sl _ _ | exact Ren.ep _ | exact Ren.ptr _ _ _ _ rfl | exact Ren.ownr _ _ _ rfl | exact Ren.bs _ _ _ _ _ rfl | refine zi ?_ | refine zj ?_ | refine zl ?_ | refine ⟨?_, ?_⟩)) (by simp [refB]) ⟨⟨_, rfl, by repeat' (first | exact trivial | exact Ren.v _ | exact Ren.sl _ _ | exact Ren.ep _ | exact Ren.ptr _ _ _ _ rfl | exact Ren.ownr _ _ _ rfl | exact Ren.bs _ _ _ _ _ rfl | refine zi ?_ | refine zj ?_ | refine zl ?_ | refine ⟨?_, ?_⟩)⟩, rfl, rfl, trivial⟩ ⟨⟨⟨rfl, rfl⟩, _, rfl, by repeat' (first | exact trivial | exact RenB.v _ | exact RenB.sl _ _ | exact RenB.ep _ | exact RenB.ptr _ _ _ _ rfl | exact RenB.own _ _ _ rfl | refine jX ?_ | refine jW ?_ | refine ⟨?_, ?_⟩)⟩, ⟨⟨rfl, rfl⟩, rfl⟩, ⟨⟨rfl, rfl⟩, rfl⟩, trivial⟩ (by repeat' (first | exact trivial | exact RenB.v _ | exact RenB.sl _ _ | exact RenB.ep _ | exact RenB.ptr _ _ _ _ rfl | exact RenB.own _ _ _ rfl | refine jX ?_ | refine jW ?_ | refine ⟨?_, ?_⟩)) ?_
    repeat (first | ((with_reducible refine zE ?_); refine zF rfl ?_)  | refine zL ?_ | refine zB rfl ?_ | with_reducible (first | refine zG ?_ | refine zO ?_ | refine zV ?_ | refine zN ?_) )
    refine retJ (by first | exact .inr rfl | exact .inl rfl) (xs := [.v (.int .i64 (e3))]) (fs := [(refB + 0, 0), (refB + 1, 1), (refB + 2, 1)]) ⟨.tmp _, trivial⟩ (by simp [refB]) (Ren.v _) ?_
    exact ⟨⟨⟨_, rfl, by repeat' (first | exact trivial | exact Ren.v _ | exact Ren.sl _ _ | exact Ren.ep _ | exact Ren.ptr _ _ _ _ rfl | exact Ren.ownr _ _ _ rfl | exact Ren.bs _ _ _ _ _ rfl | refine zi ?_ | refine zj ?_ | refine zl ?_ | refine ⟨?_, ?_⟩)⟩, fun _ => ⟨rfl, rfl⟩⟩, rfl, rfl, trivial⟩
  rw [if_neg (fun e => by have q2 : yI (strL (wAt W 0)) (strL bI) = false := q; rw [(jZ _ _).2 e] at q2; cases q2)]
  repeat (first | ((with_reducible refine zE ?_); refine zF rfl ?_)  | refine zL ?_ | refine zB rfl ?_ | with_reducible (first | refine zG ?_ | refine zu ?_ | refine zH ?_ | refine zS ?_ | refine zN ?_) | ((with_reducible refine zA ?_ ?_); kernel_rfl))
  refine retJ (by first | exact .inr rfl | exact .inl rfl) (xs := [.v (.int .i64 (2))]) (fs := [(refB + 0, 0), (refB + 1, 0), (refB + 2, 0)]) ⟨.tmp _, trivial⟩ (by simp [refB]) (Ren.v _) ?_
  exact ⟨⟨⟨_, rfl, by repeat' (first | exact trivial | exact Ren.v _ | exact Ren.sl _ _ | exact Ren.ep _ | exact Ren.ptr _ _ _ _ rfl | exact Ren.ownr _ _ _ rfl | exact Ren.bs _ _ _ _ _ rfl | refine zi ?_ | refine zj ?_ | refine zl ?_ | refine ⟨?_, ?_⟩)⟩, fun _ => ⟨rfl, rfl⟩⟩, rfl, rfl, trivial⟩
end Go.Proofs.YtjamibeffalhaaaGreatDoor
