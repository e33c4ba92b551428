/- document: the reader's line, by the abstract machine; conditions: the table of classes stands. -/
import Derived.Test.YtjamibeffalhaaaGreatDoorDxE
set_option linter.unusedVariables false
set_option linter.unusedSimpArgs false
namespace Go.Proofs.YtjamibeffalhaaaGreatDoor
open Go Go.RowKit
set_option maxRecDepth 10000
variable {G : Nat → Option (List Value)}
set_option maxHeartbeats 4000000 in
theorem line0_A (N : List Nd) (V : List Dv) (W : List (List UInt8)) (hW : W.length ≤ 1000000) (hw : ∀ w ∈ W, w.length ≤ 1000000) :
    zy Tryz.prog G 40 [.ptr (refB + 0) 0 0, .v (.int .i64 (0 : Nat)), .sl 1 (W.map svL)] [rdC N V Dc.zer nilA nilA nilA] (.v (.int .i64 (je W).2)) [rdC N V (je W).1 nilA nilA nilA] := by
  unfold je
  refine zd tbOk (zf Tryz.func40 (by kernel_rfl) rfl) Tryz.func40 rfl _ Tryz.ntmps40 (Nat.le_of_ble_eq_true rfl) fun X hX => ?_
  subst hX
  repeat (first | ((with_reducible refine zJ ?_); refine zK rfl ?_) | ((with_reducible refine zF ?_); refine zE rfl ?_) | ((with_reducible refine zq ?_); refine yI tbOk rfl rfl ?_) | ((with_reducible refine zR ?_); refine zS rfl rfl rfl ?_)  | refine zL ?_ | refine zB rfl ?_ | with_reducible (first | refine zG ?_ | refine zH ?_ | refine zV ?_) | ((with_reducible refine zA ?_ ?_); kernel_rfl))
  refine zX rfl (fun h => ?_) (fun h => ?_)
  · rw [if_pos (by simp at h; simpa using h)]
    repeat (first | ((with_reducible refine zF ?_); refine zE rfl ?_)  | refine zL ?_ | refine zB rfl ?_ | with_reducible (first | refine zG ?_ | refine zP ?_ | refine zU ?_ | refine zH ?_ | refine zN ?_) | ((with_reducible refine zA ?_ ?_); kernel_rfl))
    refine yo (by first | exact .inr rfl | exact .inl rfl) rfl rfl rfl (by first | rfl | assumption) ?_ ?_ (by repeat' (first | exact trivial | exact Ren.v _ | exact Ren.sl _ _ | exact Ren.ep _ | exact Ren.ptr _ _ _ _ rfl | exact Ren.bs _ _ _ _ _ rfl | exact Ren.nil _ | exact Ren.own _ _ _ _ ⟨_, rfl⟩ | refine zv ?_ | refine zx ?_ | refine zw ?_ | refine ⟨?_, ?_⟩)) <;> rfl
  rw [if_neg (by simp at h; simpa using h)]
  repeat (first | ((with_reducible refine zJ ?_); refine zK rfl ?_) | ((with_reducible refine zF ?_); refine zE rfl ?_) | ((with_reducible refine zR ?_); refine zS rfl rfl rfl ?_)  | refine zL ?_ | refine zB rfl ?_ | with_reducible (first | refine zG ?_ | refine zH ?_) | ((with_reducible refine zA ?_ ?_); kernel_rfl) | refine zr rfl (by first | rfl | assumption) ?_)
  refine zD (ss := [(refB + 0, 0)]) (first_A N V Dc.zer W hW hw) (by simp) (in1 rfl rfl) rfl (yP rfl) ?_
  repeat (first | ((with_reducible refine zF ?_); refine zE rfl ?_)  | refine zL ?_ | refine zB rfl ?_ | with_reducible (first | refine zG ?_ | refine zP ?_ | refine zU ?_ | refine zN ?_) )
  refine yo (by first | exact .inr rfl | exact .inl rfl) rfl rfl rfl (by first | rfl | assumption) ?_ ?_ (by repeat' (first | exact trivial | exact Ren.v _ | exact Ren.sl _ _ | exact Ren.ep _ | exact Ren.ptr _ _ _ _ rfl | exact Ren.bs _ _ _ _ _ rfl | exact Ren.nil _ | exact Ren.own _ _ _ _ ⟨_, rfl⟩ | refine zv ?_ | refine zx ?_ | refine zw ?_ | refine ⟨?_, ?_⟩)) <;> rfl
set_option maxHeartbeats 4000000 in
theorem line1_A (N : List Nd) (V : List Dv) (d : Dc) (W : List (List UInt8)) (hG : GCls G) (ok : NwOk N V) (hn : netE N V = 0) (hW : W.length ≤ 1000000) (hw : ∀ w ∈ W, w.length ≤ 1000000) :
    zy Tryz.prog G 40 [.ptr (refB + 0) 0 0, .v (.int .i64 (1 : Nat)), .sl 1 (W.map svL)] [rdC N V d nilA nilA nilA] (.v (.int .i64 (aC N W).2)) [rdC N V d (.sl 1 ((aC N W).1.map iv)) nilA nilA] := by
  unfold aC
  cases W with
  | nil =>
    rw [if_pos (show ([] : List (List UInt8)).length = 0 from rfl)]
    refine zd tbOk (zf Tryz.func40 (by kernel_rfl) rfl) Tryz.func40 rfl _ Tryz.ntmps40 (Nat.le_of_ble_eq_true rfl) fun X hX => ?_
    subst hX
    refine fW (s := 900) (b := refB + 0) 3 1 (rdC N V d (.own 900 1) nilA nilA) rfl rfl (.same (.same (.same (.same (.same (.same (.hit (.same (.same (.same (.same (.same (.same (.same .nil)))))))))))))) ?_
    refine qJ (s := 900) (b := refB + 0) (L := []) (rdC N V d (.sl 1 []) nilA nilA) rfl rfl (.same (.same (.same (.same (.same (.same (.hit (.same (.same (.same (.same (.same (.same (.same .nil)))))))))))))) ?_
    repeat (first | ((with_reducible refine zJ ?_); refine zK rfl ?_) | ((with_reducible refine zF ?_); refine zE rfl ?_) | ((with_reducible refine zq ?_); refine yI tbOk rfl rfl ?_) | ((with_reducible refine zR ?_); refine zS rfl rfl rfl ?_)  | refine zL ?_ | refine zB rfl ?_ | with_reducible (first | refine zG ?_ | refine zP ?_ | refine zU ?_ | refine zH ?_ | refine zV ?_ | refine zN ?_) | ((with_reducible refine zA ?_ ?_); kernel_rfl) | refine zr rfl (by first | rfl | assumption) ?_)
    refine yo (by first | exact .inr rfl | exact .inl rfl) rfl rfl rfl (by first | rfl | assumption) ?_ ?_ (by repeat' (first | exact trivial | exact Ren.v _ | exact Ren.sl _ _ | exact Ren.ep _ | exact Ren.ptr _ _ _ _ rfl | exact Ren.bs _ _ _ _ _ rfl | exact Ren.nil _ | exact Ren.own _ _ _ _ ⟨_, rfl⟩ | refine zv ?_ | refine zx ?_ | refine zw ?_ | refine ⟨?_, ?_⟩)) <;> rfl
  | cons w W =>
    rw [if_neg (by simp)]
    refine zd tbOk (zf Tryz.func40 (by kernel_rfl) rfl) Tryz.func40 rfl _ Tryz.ntmps40 (Nat.le_of_ble_eq_true rfl) fun X hX => ?_
    subst hX
    repeat (first | ((with_reducible refine zJ ?_); refine zK rfl ?_) | ((with_reducible refine zF ?_); refine zE rfl ?_) | ((with_reducible refine zq ?_); refine yI tbOk rfl rfl ?_) | ((with_reducible refine zR ?_); refine zS rfl rfl rfl ?_)  | refine zL ?_ | refine zB rfl ?_ | with_reducible (first | refine zG ?_ | refine zH ?_ | refine zV ?_) | ((with_reducible refine zA ?_ ?_); kernel_rfl) | refine zr rfl (by first | rfl | assumption) ?_ | refine yH rfl (by first | rfl | assumption) ?_)
    refine zD (ss := [(refB + 0, 0)]) (zone_A N V d w W hG ok hn (by simp at hW; omega) (fun x hx => hw x (by simp [hx]))) (by simp) (in1 rfl rfl) rfl (yP rfl) ?_
    repeat (first | ((with_reducible refine zF ?_); refine zE rfl ?_)  | refine zL ?_ | refine zB rfl ?_ | with_reducible (first | refine zG ?_ | refine zP ?_ | refine zU ?_ | refine zN ?_) )
    refine yo (by first | exact .inr rfl | exact .inl rfl) rfl rfl rfl (by first | rfl | assumption) ?_ ?_ (by repeat' (first | exact trivial | exact Ren.v _ | exact Ren.sl _ _ | exact Ren.ep _ | exact Ren.ptr _ _ _ _ rfl | exact Ren.bs _ _ _ _ _ rfl | exact Ren.nil _ | exact Ren.own _ _ _ _ ⟨_, rfl⟩ | refine zv ?_ | refine zx ?_ | refine zw ?_ | refine ⟨?_, ?_⟩)) <;> rfl
set_option maxHeartbeats 4000000 in
theorem line_J (N : List Nd) (V : List Dv) (d : Dc) (Z : List Int) (K : List Lk) (C : List Int) (i : Nat) (W : List (List UInt8)) (hi : 2 ≤ i) (hG : GCls G) (ok : NwOk N V) (hn : netE N V = 0) (hK : K.length ≤ 1000000) (hC : C.length ≤ 1000000) (hW : W.length ≤ 1000000) (hw : ∀ w ∈ W, w.length ≤ 1000000) :
    qu Tryz.prog G 40 [.ptr (refB + 0) 0 0, .v (.int .i64 (i : Nat)), .sl 1 (W.map svL)] (rfs N V d Z K C) (.v (.int .i64 (qf V K C W).2.2)) (rfs N V d Z (qf V K C W).1 (qf V K C W).2.1) := by
  have c0 : (((i : Nat) : Int) == 0) = false := by simp; omega
  have c1 : (((i : Nat) : Int) == 1) = false := by simp; omega
  have hlk := lock_J (G := G) N V d Z K C W hG ok hn hK hC hW hw
  have hce := cert_J (G := G) N V d Z K C W hK hC hW hw
  obtain ⟨⟨K2, e2⟩, hL⟩ : ∃ q, q = qD V K C W := ⟨_, rfl⟩
  obtain ⟨⟨C2, e3⟩, hCc⟩ : ∃ q, q = dL C W := ⟨_, rfl⟩
  rw [← hL] at hlk
  rw [← hCc] at hce
  dsimp only at hlk hce
  have e : qf V K C W = if W.length = 0 then (K, C, 2) else if wAt W 0 = lU then (K2, C, e2) else if wAt W 0 = nG then (K, C2, e3) else (K, C, 2) := by unfold qf; rw [← hL, ← hCc]
  rw [e]
  refine qY tbOk (zf Tryz.func40 (by kernel_rfl) rfl) Tryz.func40 rfl _ Tryz.ntmps40 (Nat.le_of_ble_eq_true rfl) fun X hX => ?_
  subst hX
  repeat (first | ((with_reducible refine zJ ?_); refine zK rfl ?_) | ((with_reducible refine zF ?_); refine zE rfl ?_) | ((with_reducible refine zq ?_); refine yI tbOk rfl rfl ?_) | ((with_reducible refine zR ?_); refine zS rfl rfl rfl ?_)  | refine zL ?_ | refine zB rfl ?_ | with_reducible (first | refine zG ?_ | refine zH ?_ | refine zV ?_) | ((with_reducible refine zA ?_ ?_); kernel_rfl))
  refine zX rfl (fun h => ?_) (fun h => ?_)
  · rw [if_pos (by simp at h; simpa using h)]
    repeat (first | ((with_reducible refine zF ?_); refine zE rfl ?_)  | refine zL ?_ | refine zB rfl ?_ | with_reducible (first | refine zG ?_ | refine zP ?_ | refine zU ?_ | refine zH ?_ | refine zN ?_) | ((with_reducible refine zA ?_ ?_); kernel_rfl))
    refine retJ (by first | exact .inr rfl | exact .inl rfl) (xs := [.v (.int .i64 (2))]) (fs := [(refB + 0, 0), (refB + 1, 0), (refB + 2, 0)]) ⟨.tmp _, trivial⟩ (by simp [refB]) (Ren.v _) ?_
    exact ⟨⟨⟨_, rfl, by repeat' (first | exact trivial | exact Ren.v _ | exact Ren.sl _ _ | exact Ren.ep _ | exact Ren.ptr _ _ _ _ rfl | exact Ren.ownr _ _ _ rfl | exact Ren.bs _ _ _ _ _ rfl | refine zv ?_ | refine zx ?_ | refine zw ?_ | refine ⟨?_, ?_⟩)⟩, fun _ => ⟨rfl, rfl⟩⟩, rfl, rfl, trivial⟩
  have h0 : ¬ W.length = 0 := by simp at h; simpa using h
  rw [if_neg h0]
  have z0 : (W.map svL)[(0 : Int).toNat]? = some (svL (wAt W 0)) := jV (by show 0 < _; omega)
  repeat (first | ((with_reducible refine zJ ?_); refine zK rfl ?_) | ((with_reducible refine zF ?_); refine zE rfl ?_) | ((with_reducible refine zQ ?_); refine zb tbOk rfl rfl rfl ?_) | ((with_reducible refine zY ?_); refine zZ tbOk rfl rfl rfl rfl (by assumption) ?_) | ((with_reducible refine zR ?_); (first | refine zS rfl rfl rfl ?_ | refine jI rfl rfl rfl ?_))  | refine zL ?_ | refine zB rfl ?_ | with_reducible (first | refine zG ?_ | refine zH ?_) | ((with_reducible refine zA ?_ ?_); kernel_rfl) | refine yH rfl (by first | rfl | assumption) ?_)
  refine zX rfl (fun q => ?_) (fun q => ?_)
  · rw [if_pos ((jo (wAt W 0) lU).1 q)]
    repeat (first | ((with_reducible refine zJ ?_); refine zK rfl ?_)  | refine zB rfl ?_ | with_reducible refine zH ?_ | ((with_reducible refine zA ?_ ?_); kernel_rfl))
    refine dG (ss := [(refB + 0, 0), (refB + 1, 0), (refB + 2, 0)]) (ss' := [(refB + 0, 0), (refB + 1, 1), (refB + 2, 1)]) (cs' := [.box (rdC N V d (.sl 1 (Z.map iv)) (.own (refB + 1) 1) (.own (refB + 2) 1)), .buf 65 3 (K2.map Lk.av), .buf 3 1 (C.map iv)]) (y := .v (.int .i64 e2)) hlk (by repeat' (first | exact trivial | exact Ren.v _ | exact Ren.sl _ _ | exact Ren.ep _ | exact Ren.ptr _ _ _ _ rfl | exact Ren.ownr _ _ _ rfl | exact Ren.bs _ _ _ _ _ rfl | refine zv ?_ | refine zx ?_ | refine zw ?_ | refine ⟨?_, ?_⟩)) (by simp [refB]) ⟨⟨_, rfl, by repeat' (first | exact trivial | exact Ren.v _ | exact Ren.sl _ _ | exact Ren.ep _ | exact Ren.ptr _ _ _ _ rfl | exact Ren.ownr _ _ _ rfl | exact Ren.bs _ _ _ _ _ rfl | refine zv ?_ | refine zx ?_ | refine zw ?_ | refine ⟨?_, ?_⟩)⟩, rfl, rfl, trivial⟩ ⟨⟨⟨rfl, rfl⟩, _, rfl, by repeat' (first | exact trivial | exact RenB.v _ | exact RenB.sl _ _ | exact RenB.ep _ | exact RenB.ptr _ _ _ _ rfl | exact RenB.own _ _ _ rfl | refine jG ?_ | refine jH ?_ | refine ⟨?_, ?_⟩)⟩, ⟨⟨rfl, rfl⟩, rfl⟩, ⟨⟨rfl, rfl⟩, rfl⟩, trivial⟩ (by repeat' (first | exact trivial | exact RenB.v _ | exact RenB.sl _ _ | exact RenB.ep _ | exact RenB.ptr _ _ _ _ rfl | exact RenB.own _ _ _ rfl | refine jG ?_ | refine jH ?_ | refine ⟨?_, ?_⟩)) ?_
    repeat (first | ((with_reducible refine zF ?_); refine zE rfl ?_)  | refine zL ?_ | refine zB rfl ?_ | with_reducible (first | refine zG ?_ | refine zP ?_ | refine zU ?_ | refine zN ?_) )
    refine retJ (by first | exact .inr rfl | exact .inl rfl) (xs := [.v (.int .i64 (e2))]) (fs := [(refB + 0, 0), (refB + 1, 1), (refB + 2, 1)]) ⟨.tmp _, trivial⟩ (by simp [refB]) (Ren.v _) ?_
    exact ⟨⟨⟨_, rfl, by repeat' (first | exact trivial | exact Ren.v _ | exact Ren.sl _ _ | exact Ren.ep _ | exact Ren.ptr _ _ _ _ rfl | exact Ren.ownr _ _ _ rfl | exact Ren.bs _ _ _ _ _ rfl | refine zv ?_ | refine zx ?_ | refine zw ?_ | refine ⟨?_, ?_⟩)⟩, fun _ => ⟨rfl, rfl⟩⟩, rfl, rfl, trivial⟩
  rw [if_neg (fun e => by have q2 : yg (strL (wAt W 0)) (strL lU) = false := q; rw [(jo _ _).2 e] at q2; cases q2)]
  repeat (first | ((with_reducible refine zJ ?_); refine zK rfl ?_) | ((with_reducible refine zF ?_); refine zE rfl ?_) | ((with_reducible refine zQ ?_); refine zb tbOk rfl rfl rfl ?_) | ((with_reducible refine zY ?_); refine zZ tbOk rfl rfl rfl rfl (by assumption) ?_) | ((with_reducible refine zR ?_); refine jI rfl rfl rfl ?_)  | refine zL ?_ | refine zB rfl ?_ | with_reducible (first | refine zG ?_ | refine zH ?_) | ((with_reducible refine zA ?_ ?_); kernel_rfl))
  refine zX rfl (fun q => ?_) (fun q => ?_)
  · rw [if_pos ((jo (wAt W 0) nG).1 q)]
    repeat (first | ((with_reducible refine zJ ?_); refine zK rfl ?_)  | refine zB rfl ?_ | with_reducible refine zH ?_ | ((with_reducible refine zA ?_ ?_); kernel_rfl))
    refine dG (ss := [(refB + 0, 0), (refB + 1, 0), (refB + 2, 0)]) (ss' := [(refB + 0, 0), (refB + 1, 1), (refB + 2, 1)]) (cs' := [.box (rdC N V d (.sl 1 (Z.map iv)) (.own (refB + 1) 1) (.own (refB + 2) 1)), .buf 65 3 (K.map Lk.av), .buf 3 1 (C2.map iv)]) (y := .v (.int .i64 e3)) hce (by repeat' (first | exact trivial | exact Ren.v _ | exact Ren.sl _ _ | exact Ren.ep _ | exact Ren.ptr _ _ _ _ rfl | exact Ren.ownr _ _ _ rfl | exact Ren.bs _ _ _ _ _ rfl | refine zv ?_ | refine zx ?_ | refine zw ?_ | refine ⟨?_, ?_⟩)) (by simp [refB]) ⟨⟨_, rfl, by repeat' (first | exact trivial | exact Ren.v _ | exact Ren.sl _ _ | exact Ren.ep _ | exact Ren.ptr _ _ _ _ rfl | exact Ren.ownr _ _ _ rfl | exact Ren.bs _ _ _ _ _ rfl | refine zv ?_ | refine zx ?_ | refine zw ?_ | refine ⟨?_, ?_⟩)⟩, rfl, rfl, trivial⟩ ⟨⟨⟨rfl, rfl⟩, _, rfl, by repeat' (first | exact trivial | exact RenB.v _ | exact RenB.sl _ _ | exact RenB.ep _ | exact RenB.ptr _ _ _ _ rfl | exact RenB.own _ _ _ rfl | refine jG ?_ | refine jH ?_ | refine ⟨?_, ?_⟩)⟩, ⟨⟨rfl, rfl⟩, rfl⟩, ⟨⟨rfl, rfl⟩, rfl⟩, trivial⟩ (by repeat' (first | exact trivial | exact RenB.v _ | exact RenB.sl _ _ | exact RenB.ep _ | exact RenB.ptr _ _ _ _ rfl | exact RenB.own _ _ _ rfl | refine jG ?_ | refine jH ?_ | refine ⟨?_, ?_⟩)) ?_
    repeat (first | ((with_reducible refine zF ?_); refine zE rfl ?_)  | refine zL ?_ | refine zB rfl ?_ | with_reducible (first | refine zG ?_ | refine zP ?_ | refine zU ?_ | refine zN ?_) )
    refine retJ (by first | exact .inr rfl | exact .inl rfl) (xs := [.v (.int .i64 (e3))]) (fs := [(refB + 0, 0), (refB + 1, 1), (refB + 2, 1)]) ⟨.tmp _, trivial⟩ (by simp [refB]) (Ren.v _) ?_
    exact ⟨⟨⟨_, rfl, by repeat' (first | exact trivial | exact Ren.v _ | exact Ren.sl _ _ | exact Ren.ep _ | exact Ren.ptr _ _ _ _ rfl | exact Ren.ownr _ _ _ rfl | exact Ren.bs _ _ _ _ _ rfl | refine zv ?_ | refine zx ?_ | refine zw ?_ | refine ⟨?_, ?_⟩)⟩, fun _ => ⟨rfl, rfl⟩⟩, rfl, rfl, trivial⟩
  rw [if_neg (fun e => by have q2 : yg (strL (wAt W 0)) (strL nG) = false := q; rw [(jo _ _).2 e] at q2; cases q2)]
  repeat (first | ((with_reducible refine zF ?_); refine zE rfl ?_)  | refine zL ?_ | refine zB rfl ?_ | with_reducible (first | refine zG ?_ | refine zo ?_ | refine zH ?_ | refine zT ?_ | refine zN ?_) | ((with_reducible refine zA ?_ ?_); kernel_rfl))
  refine retJ (by first | exact .inr rfl | exact .inl rfl) (xs := [.v (.int .i64 (2))]) (fs := [(refB + 0, 0), (refB + 1, 0), (refB + 2, 0)]) ⟨.tmp _, trivial⟩ (by simp [refB]) (Ren.v _) ?_
  exact ⟨⟨⟨_, rfl, by repeat' (first | exact trivial | exact Ren.v _ | exact Ren.sl _ _ | exact Ren.ep _ | exact Ren.ptr _ _ _ _ rfl | exact Ren.ownr _ _ _ rfl | exact Ren.bs _ _ _ _ _ rfl | refine zv ?_ | refine zx ?_ | refine zw ?_ | refine ⟨?_, ?_⟩)⟩, fun _ => ⟨rfl, rfl⟩⟩, rfl, rfl, trivial⟩
end Go.Proofs.YtjamibeffalhaaaGreatDoor
