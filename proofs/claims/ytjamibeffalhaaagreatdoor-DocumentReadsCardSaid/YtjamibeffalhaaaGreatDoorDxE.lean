/- document: the reader's lock, certificate and line, by the abstract machine; conditions: the table of classes stands. -/
import Derived.Test.YtjamibeffalhaaaGreatDoorDxD
set_option linter.unusedVariables false
set_option linter.unusedSimpArgs false
namespace Go.Proofs.YtjamibeffalhaaaGreatDoor
open Go Go.RowKit
set_option maxRecDepth 10000
variable {G : Nat → Option (List Value)}
/-- The reader with its own rows of locks and certificates, as a callee is handed it. -/
@[reducible] def rdR (N : List Nd) (V : List Dv) (d : Dc) (Z : List Int) : List AV := rdC N V d (.sl 1 (Z.map iv)) (.own (refB + 1) 0) (.own (refB + 2) 0)
@[reducible] def rfs (N : List Nd) (V : List Dv) (d : Dc) (Z : List Int) (K : List Lk) (C : List Int) : List Cont := [.box (rdR N V d Z), .buf 65 3 (K.map Lk.av), .buf 3 1 (C.map iv)]
set_option maxHeartbeats 8000000 in
theorem cert_J (N : List Nd) (V : List Dv) (d : Dc) (Z : List Int) (K : List Lk) (C : List Int) (W : List (List UInt8)) (hK : K.length ≤ 1000000) (hC : C.length ≤ 1000000) (hW : W.length ≤ 1000000) (hw : ∀ w ∈ W, w.length ≤ 1000000) :
    qw Tryz.prog G 82 [.ptr (refB + 0) 0 0, .sl 1 (W.map svL)] (rfs N V d Z K C) (.v (.int .i64 (cE C W).2)) (rfs N V d Z K (cE C W).1) := by
  refine qe tbOk (zc Tryz.func82 (by kernel_rfl) rfl) Tryz.func82 rfl _ Tryz.ntmps82 (Nat.le_of_ble_eq_true rfl) fun X hX => ?_
  subst hX
  repeat (first | ((with_reducible refine zK ?_); refine zJ rfl ?_) | ((with_reducible refine zE ?_); refine zF rfl ?_) | ((with_reducible refine zt ?_); refine yH tbOk rfl rfl ?_) | ((with_reducible refine zQ ?_); refine zT rfl rfl rfl ?_)  | refine zL ?_ | refine zB rfl ?_ | with_reducible (first | refine zG ?_ | refine zH ?_) | ((with_reducible refine zA ?_ ?_); kernel_rfl))
  refine zZ rfl (fun h => ?_) (fun h => ?_)
  · have e : cE C W = (C, 2) := by unfold cE; rw [if_pos (by simp at h; omega)]
    rw [e]
    repeat (first | ((with_reducible refine zE ?_); refine zF rfl ?_)  | refine zL ?_ | refine zB rfl ?_ | with_reducible (first | refine zG ?_ | refine zO ?_ | refine zH ?_ | refine zN ?_) | ((with_reducible refine zA ?_ ?_); kernel_rfl))
    refine retJ (by first | exact .inr rfl | exact .inl rfl) (xs := [.v (.int .i64 (2))]) (fs := [(refB + 0, 0), (refB + 1, 0), (refB + 2, 0)]) ⟨.tmp _, trivial⟩ (by simp [refB]) (Ren.v _) ?_
    exact ⟨⟨⟨_, rfl, by repeat' (first | exact trivial | exact Ren.v _ | exact Ren.sl _ _ | exact Ren.ep _ | exact Ren.ptr _ _ _ _ rfl | exact Ren.ownr _ _ _ rfl | exact Ren.bs _ _ _ _ _ rfl | refine zi ?_ | refine zj ?_ | refine zl ?_ | refine ⟨?_, ?_⟩)⟩, fun _ => ⟨rfl, rfl⟩⟩, rfl, rfl, trivial⟩
  have h2 : W.length = 2 := by simp at h; omega
  have e : cE C W = (C ++ [(numT (wAt W 1)).getD 0], okN (numT (wAt W 1)) 0) := by unfold cE; rw [if_neg (by omega)]
  rw [e]
  have z1 : (W.map svL)[(1 : Int).toNat]? = some (svL (wAt W 1)) := jH (by show 1 < _; omega)
  obtain ⟨w1, hw1⟩ := zd (L := W) (k := 1) (by omega)
  have hl1 : (wAt W 1).length ≤ 1000000 := by unfold wAt; rw [hw1]; exact hw w1 (List.mem_of_getElem? hw1)
  repeat (first | ((with_reducible refine zK ?_); refine zJ rfl ?_) | ((with_reducible refine zM ?_); refine zI tbOk rfl rfl rfl rfl ?_) | ((with_reducible refine zR ?_); (first | refine zP tbOk rfl rfl rfl rfl rfl ?_ | refine zW tbOk rfl rfl rfl ?_)) | ((with_reducible refine zp ?_); refine zq tbOk rfl rfl rfl rfl rfl rfl rfl (Nat.le_of_ble_eq_true rfl) rfl ?_) | ((with_reducible refine yR ?_); refine yQ tbOk rfl rfl ?_) | ((with_reducible refine zU ?_); refine zX tbOk rfl rfl rfl rfl (by assumption) ?_) | ((with_reducible refine yb ?_); refine yJ rfl ?_)  | refine zL ?_ | refine zB rfl ?_ | with_reducible (first | refine zG ?_ | refine zH ?_ | refine zS ?_) | ((with_reducible refine zA ?_ ?_); kernel_rfl) | ((with_reducible refine yZ mixd ?_ ?_); kernel_rfl))
  refine zD (ss := [(5, 1)]) (qg (wAt W 1) 0 hl1) (by simp) (in1 rfl rfl) rfl (ya rfl) ?_
  repeat (first  | ((with_reducible refine zr ?_); refine zx tbOk rfl rfl rfl rfl rfl (by omega) rfl rfl rfl ?_) | refine zB rfl ?_  )
  refine yG tbOk rfl rfl rfl rfl rfl (by decide) rfl rfl rfl rfl rfl (fun x hx => by simp at hx; subst hx; rfl) (by simp only [List.length_map, List.length_cons, List.length_nil, List.length_append, List.length_take]; omega) (by simp only [List.length_map, List.length_cons, List.length_nil, List.length_append, List.length_take]; omega) ?_
  repeat (first | ((with_reducible refine zE ?_); refine zF rfl ?_) | ((with_reducible refine zM ?_); refine zI tbOk rfl rfl rfl rfl ?_) | ((with_reducible refine zR ?_); refine zP tbOk rfl rfl rfl rfl rfl ?_) | ((with_reducible refine zp ?_); refine zq tbOk rfl rfl rfl rfl rfl rfl rfl (Nat.le_of_ble_eq_true rfl) rfl ?_) | ((with_reducible refine yb ?_); refine yJ rfl ?_)  | refine zL ?_ | refine yf (by kernel_rfl) ?_ | refine zB rfl ?_ | with_reducible (first | refine zG ?_ | refine zH ?_ | refine zN ?_) | ((with_reducible refine zA ?_ ?_); kernel_rfl))
  refine retJ (by first | exact .inr rfl | exact .inl rfl) (xs := [.v (.int .i64 (okN (numT (wAt W 1)) 0))]) (fs := [(refB + 0, 0), (refB + 1, 0), (20, 1)]) ⟨.tmp _, trivial⟩ (by simp [refB]) (Ren.v _) ?_
  exact ⟨⟨⟨_, rfl, by repeat' (first | exact trivial | exact Ren.v _ | exact Ren.sl _ _ | exact Ren.ep _ | exact Ren.ptr _ _ _ _ rfl | exact Ren.ownr _ _ _ rfl | exact Ren.bs _ _ _ _ _ rfl | refine zi ?_ | refine zj ?_ | refine zl ?_ | refine ⟨?_, ?_⟩)⟩, fun _ => ⟨rfl, rfl⟩⟩, rfl, by rw [List.map_append]; rfl, trivial⟩
set_option maxHeartbeats 8000000 in
theorem lock_J (N : List Nd) (V : List Dv) (d : Dc) (Z : List Int) (K : List Lk) (C : List Int) (W : List (List UInt8)) (hG : GCls G) (ok : NwOk N V) (hn : netE N V = 0) (hK : K.length ≤ 1000000) (hC : C.length ≤ 1000000) (hW : W.length ≤ 1000000) (hw : ∀ w ∈ W, w.length ≤ 1000000) :
    qw Tryz.prog G 81 [.ptr (refB + 0) 0 0, .sl 1 (W.map svL)] (rfs N V d Z K C) (.v (.int .i64 (jU V K C W).2)) (rfs N V d Z (jU V K C W).1 C) := by
  have hdv : ∀ w : List UInt8, zz Tryz.prog G 110 [jo N V, svL w] [] (.v (.int .i64 (devI w 0 V))) [] := fun w => by
    have := ndev_A (G := G) N V (strL w) hG ok
    unfold devF at this
    rw [if_neg (by simpa using hn), yy] at this
    exact this
  have hCm : (C.map iv).length = C.length := by simp
  refine qe tbOk (zc Tryz.func81 (by kernel_rfl) rfl) Tryz.func81 rfl _ Tryz.ntmps81 (Nat.le_of_ble_eq_true rfl) fun X hX => ?_
  subst hX
  repeat (first | ((with_reducible refine zK ?_); refine zJ rfl ?_) | ((with_reducible refine zE ?_); refine zF rfl ?_) | ((with_reducible refine zt ?_); refine yH tbOk rfl rfl ?_) | ((with_reducible refine zQ ?_); refine zT rfl rfl rfl ?_)  | refine zL ?_ | refine zB rfl ?_ | with_reducible (first | refine zG ?_ | refine zH ?_) | ((with_reducible refine zA ?_ ?_); kernel_rfl))
  refine zv rfl rfl (fun b1 => ?_) (fun b1 => ?_)
  · have e : jU V K C W = (K, 2) := by unfold jU; rw [if_pos (.inl (by simp at b1; omega))]
    rw [e]
    repeat (first | ((with_reducible refine zK ?_); refine zJ rfl ?_) | ((with_reducible refine zE ?_); refine zF rfl ?_) | ((with_reducible refine za ?_); refine zh rfl (by first | rfl | assumption) rfl ?_)  | refine zL ?_ | refine zB rfl ?_ | refine yA rfl rfl (by first | rfl | assumption) ?_ | with_reducible (first | refine zG ?_ | refine zO ?_ | refine zH ?_ | refine zN ?_) | ((with_reducible refine zA ?_ ?_); kernel_rfl) | refine zn rfl (by first | rfl | assumption) ?_)
    refine retJ (by first | exact .inr rfl | exact .inl rfl) (xs := [.v (.int .i64 (2))]) (fs := [(refB + 0, 0), (refB + 1, 0), (refB + 2, 0)]) ⟨.tmp _, trivial⟩ (by simp [refB]) (Ren.v _) ?_
    exact ⟨⟨⟨_, rfl, by repeat' (first | exact trivial | exact Ren.v _ | exact Ren.sl _ _ | exact Ren.ep _ | exact Ren.ptr _ _ _ _ rfl | exact Ren.ownr _ _ _ rfl | exact Ren.bs _ _ _ _ _ rfl | refine zi ?_ | refine zj ?_ | refine zl ?_ | refine ⟨?_, ?_⟩)⟩, fun _ => ⟨rfl, rfl⟩⟩, rfl, rfl, trivial⟩
  have h5 : W.length = 5 := by simp at b1; omega
  have z1 : (W.map svL)[(1 : Int).toNat]? = some (svL (wAt W 1)) := jH (by show 1 < _; omega)
  have z2 : (W.map svL)[(2 : Int).toNat]? = some (svL (wAt W 2)) := jH (by show 2 < _; omega)
  have z3 : (W.map svL)[(3 : Int).toNat]? = some (svL (wAt W 3)) := jH (by show 3 < _; omega)
  have z4 : (W.map svL)[(4 : Int).toNat]? = some (svL (wAt W 4)) := jH (by show 4 < _; omega)
  obtain ⟨w4, hw4⟩ := zd (L := W) (k := 4) (by omega)
  have hl4 : (wAt W 4).length ≤ 1000000 := by unfold wAt; rw [hw4]; exact hw w4 (List.mem_of_getElem? hw4)
  repeat (first | ((with_reducible refine zK ?_); refine zJ rfl ?_) | ((with_reducible refine zR ?_); refine zW tbOk rfl rfl rfl ?_) | ((with_reducible refine za ?_); refine zf rfl (by first | rfl | assumption) rfl ?_) | ((with_reducible refine zU ?_); refine zX tbOk rfl rfl rfl rfl (by assumption) ?_) | ((with_reducible refine zQ ?_); refine yh rfl rfl rfl ?_)  | refine zB rfl ?_ | refine zw rfl rfl (by first | rfl | assumption) ?_  )
  refine zv rfl rfl (fun b2 => ?_) (fun b2 => ?_)
  · have e : jU V K C W = (K, 2) := by
      unfold jU
      rw [if_pos (.inr (.inl (fun e => by
        have h2 : yI (strL (wAt W 3)) (strL keyL) = false := (show yI (strL (wAt W 3)) (⟨#[107, 101, 121]⟩ : ByteArray) = false by simpa using b2)
        rw [(jZ _ _).2 e] at h2; cases h2)))]
    rw [e]
    repeat (first | ((with_reducible refine zE ?_); refine zF rfl ?_) | ((with_reducible refine za ?_); refine zh rfl (by first | rfl | assumption) rfl ?_)  | refine zL ?_ | refine zB rfl ?_ | refine yA rfl rfl (by first | rfl | assumption) ?_ | with_reducible (first | refine zG ?_ | refine zO ?_ | refine zH ?_ | refine zN ?_) | ((with_reducible refine zA ?_ ?_); kernel_rfl) | refine zn rfl (by first | rfl | assumption) ?_)
    refine retJ (by first | exact .inr rfl | exact .inl rfl) (xs := [.v (.int .i64 (2))]) (fs := [(refB + 0, 0), (refB + 1, 0), (refB + 2, 0)]) ⟨.tmp _, trivial⟩ (by simp [refB]) (Ren.v _) ?_
    exact ⟨⟨⟨_, rfl, by repeat' (first | exact trivial | exact Ren.v _ | exact Ren.sl _ _ | exact Ren.ep _ | exact Ren.ptr _ _ _ _ rfl | exact Ren.ownr _ _ _ rfl | exact Ren.bs _ _ _ _ _ rfl | refine zi ?_ | refine zj ?_ | refine zl ?_ | refine ⟨?_, ?_⟩)⟩, fun _ => ⟨rfl, rfl⟩⟩, rfl, rfl, trivial⟩
  have h3 : wAt W 3 = keyL := by
    have h2 : yI (strL (wAt W 3)) (strL keyL) = true := (show yI (strL (wAt W 3)) (⟨#[107, 101, 121]⟩ : ByteArray) = true by simpa using b2)
    exact (jZ _ _).1 h2
  repeat (first | ((with_reducible refine zK ?_); refine zJ rfl ?_) | ((with_reducible refine zM ?_); refine zI tbOk rfl rfl rfl rfl ?_) | ((with_reducible refine zR ?_); refine zP tbOk rfl rfl rfl rfl rfl ?_) | ((with_reducible refine za ?_); refine zf rfl (by first | rfl | assumption) rfl ?_) | ((with_reducible refine yb ?_); refine yJ rfl ?_) | ((with_reducible refine zt ?_); refine aC tbOk rfl rfl rfl rfl ?_) | ((with_reducible refine zQ ?_); refine zT rfl rfl rfl ?_)  | refine zL ?_ | refine zB rfl ?_ | refine zw rfl rfl (by first | rfl | assumption) ?_ | with_reducible refine zG ?_ )
  refine zZ rfl (fun b3 => ?_) (fun b3 => ?_)
  · have e : jU V K C W = (K, 2) := by
      unfold jU
      rw [if_pos (.inr (.inr (fun e => by rw [e] at b3; simp at b3)))]
    rw [e]
    repeat (first | ((with_reducible refine zE ?_); refine zF rfl ?_)  | refine zL ?_ | refine zB rfl ?_ | with_reducible (first | refine zG ?_ | refine zO ?_ | refine zH ?_ | refine zN ?_) | ((with_reducible refine zA ?_ ?_); kernel_rfl))
    refine retJ (by first | exact .inr rfl | exact .inl rfl) (xs := [.v (.int .i64 (2))]) (fs := [(refB + 0, 0), (refB + 1, 0), (refB + 2, 0)]) ⟨.tmp _, trivial⟩ (by simp [refB]) (Ren.v _) ?_
    exact ⟨⟨⟨_, rfl, by repeat' (first | exact trivial | exact Ren.v _ | exact Ren.sl _ _ | exact Ren.ep _ | exact Ren.ptr _ _ _ _ rfl | exact Ren.ownr _ _ _ rfl | exact Ren.bs _ _ _ _ _ rfl | refine zi ?_ | refine zj ?_ | refine zl ?_ | refine ⟨?_, ?_⟩)⟩, fun _ => ⟨rfl, rfl⟩⟩, rfl, rfl, trivial⟩
  have hC0 : C = [] := by
    cases C with
    | nil => rfl
    | cons c C => simp at b3
  have e : jU V K C W = (K ++ [⟨devI (wAt W 1) 0 V, idxL (wAt W 2) 0 posL, (numT (wAt W 4)).getD 0⟩], rF (idxL (wAt W 2) 0 posL) (numT (wAt W 4)) (devI (wAt W 1) 0 V)) := by
    unfold jU
    rw [if_neg (by rintro (h | h | h); · omega
                   · exact h h3
                   · exact h hC0)]
  rw [e]
  unfold rF
  repeat (first | ((with_reducible refine zK ?_); refine zJ rfl ?_) | ((with_reducible refine zM ?_); refine zI tbOk rfl rfl rfl rfl ?_) | ((with_reducible refine zR ?_); (first | refine zk tbOk rfl rfl rfl rfl (Nat.le_of_ble_eq_true rfl) ?_ | refine zW tbOk rfl rfl rfl ?_)) | ((with_reducible refine zp ?_); refine zq tbOk rfl rfl rfl rfl rfl rfl rfl (Nat.le_of_ble_eq_true rfl) rfl ?_) | ((with_reducible refine yR ?_); refine yQ tbOk rfl rfl ?_) | ((with_reducible refine zU ?_); refine zX tbOk rfl rfl rfl rfl (by assumption) ?_) | ((with_reducible refine yb ?_); refine yJ rfl ?_)  | refine zL ?_ | refine zB rfl ?_ | with_reducible (first | refine zG ?_ | refine zH ?_ | refine zS ?_) | ((with_reducible refine zA ?_ ?_); kernel_rfl) | ((with_reducible refine yZ mixd ?_ ?_); kernel_rfl))
  refine zC (hdv (wAt W 1)) ?_
  repeat (first   | refine zB rfl ?_  )
  refine zC (poss_A) ?_
  repeat (first | ((with_reducible refine zK ?_); refine zJ rfl ?_) | ((with_reducible refine zR ?_); refine zW tbOk rfl rfl rfl ?_) | ((with_reducible refine zU ?_); refine zX tbOk rfl rfl rfl rfl (by assumption) ?_)  | refine zB rfl ?_  )
  refine zD (ss := [(5, 1)]) (iY posL (wAt W 2) 0 (by decide)) (by simp) (in1 rfl rfl) rfl (ya rfl) ?_
  repeat (first | ((with_reducible refine zK ?_); refine zJ rfl ?_) | ((with_reducible refine zR ?_); refine zW tbOk rfl rfl rfl ?_) | ((with_reducible refine zU ?_); refine zX tbOk rfl rfl rfl rfl (by assumption) ?_)  | refine zB rfl ?_  )
  refine zD (ss := [(5, 1)]) (qg (wAt W 4) (okI (idxL (wAt W 2) 0 posL) 0) hl4) (by simp) (in1 rfl rfl) rfl (ya rfl) ?_
  obtain ⟨E, hE⟩ : ∃ E, E = okN (numT (wAt W 4)) (okI (idxL (wAt W 2) 0 posL) 0) := ⟨_, rfl⟩
  rw [← hE]
  repeat (first | ((with_reducible refine zK ?_); refine zJ rfl ?_) | ((with_reducible refine zR ?_); refine zP tbOk rfl rfl rfl rfl rfl ?_) | ((with_reducible refine zp ?_); refine zq tbOk rfl rfl rfl rfl rfl rfl rfl (Nat.le_of_ble_eq_true rfl) rfl ?_) | ((with_reducible refine yR ?_); refine yQ tbOk rfl rfl ?_) | ((with_reducible refine yM ?_); refine yN tbOk rfl rfl rfl rfl rfl ?_) | ((with_reducible refine zQ ?_); refine zT rfl rfl rfl ?_)  | refine yf (by kernel_rfl) ?_ | refine zB rfl ?_ | with_reducible (first | refine zG ?_ | refine zH ?_) | ((with_reducible refine zA ?_ ?_); kernel_rfl))
  refine zv rfl rfl (fun c1 => ?_) (fun c1 => ?_)
  · have hE0 : E = 0 := by simpa using c1
    repeat (first | ((with_reducible refine zM ?_); refine zI tbOk rfl rfl rfl rfl ?_) | ((with_reducible refine zR ?_); refine zP tbOk rfl rfl rfl rfl rfl ?_) | ((with_reducible refine za ?_); refine zh rfl (by first | rfl | assumption) rfl ?_) | ((with_reducible refine zQ ?_); refine zT rfl rfl rfl ?_)  | refine zL ?_ | refine zB rfl ?_ | refine yC rfl rfl (by first | rfl | assumption) ?_ | with_reducible refine zG ?_ )
    refine zZ rfl (fun c2 => ?_) (fun c2 => ?_)
    · rw [if_pos ⟨hE0, by simpa using c2⟩]
      repeat (first | ((with_reducible refine zK ?_); refine zJ rfl ?_) | ((with_reducible refine zM ?_); refine zI tbOk rfl rfl rfl rfl ?_) | ((with_reducible refine zR ?_); (first | refine zP tbOk rfl rfl rfl rfl rfl ?_ | refine zk tbOk rfl rfl rfl rfl (Nat.le_of_ble_eq_true rfl) ?_)) | ((with_reducible refine zp ?_); refine zq tbOk rfl rfl rfl rfl rfl rfl rfl (Nat.le_of_ble_eq_true rfl) rfl ?_) | ((with_reducible refine yb ?_); refine yJ rfl ?_) | ((with_reducible refine zr ?_); refine zx tbOk rfl rfl rfl rfl rfl (by omega) rfl rfl rfl ?_) | refine zL ?_ | refine zB rfl ?_ | with_reducible (first | refine zG ?_ | refine zH ?_) | ((with_reducible refine zA ?_ ?_); kernel_rfl) | ((with_reducible refine yZ mixd ?_ ?_); kernel_rfl))
      refine yG tbOk rfl rfl rfl rfl rfl (by decide) rfl rfl rfl rfl rfl (fun x hx => by simp at hx; subst hx; rfl) (by simp only [List.length_map, List.length_cons, List.length_nil, List.length_append, List.length_take]; omega) (by simp only [List.length_map, List.length_cons, List.length_nil, List.length_append, List.length_take]; omega) ?_
      repeat (first | ((with_reducible refine zE ?_); refine zF rfl ?_) | ((with_reducible refine zM ?_); refine zI tbOk rfl rfl rfl rfl ?_) | ((with_reducible refine zR ?_); refine zP tbOk rfl rfl rfl rfl rfl ?_) | ((with_reducible refine zp ?_); refine zq tbOk rfl rfl rfl rfl rfl rfl rfl (Nat.le_of_ble_eq_true rfl) rfl ?_) | ((with_reducible refine yb ?_); refine yJ rfl ?_)  | refine zL ?_ | refine yf (by kernel_rfl) ?_ | refine zB rfl ?_ | with_reducible (first | refine zG ?_ | refine zH ?_ | refine zN ?_) | ((with_reducible refine zA ?_ ?_); kernel_rfl))
      refine retJ (by first | exact .inr rfl | exact .inl rfl) (xs := [.v (.int .i64 (8))]) (fs := [(refB + 0, 0), (58, 1), (refB + 2, 0)]) ⟨.tmp _, trivial⟩ (by simp [refB]) (Ren.v _) ?_
      exact ⟨⟨⟨_, rfl, by repeat' (first | exact trivial | exact Ren.v _ | exact Ren.sl _ _ | exact Ren.ep _ | exact Ren.ptr _ _ _ _ rfl | exact Ren.ownr _ _ _ rfl | exact Ren.bs _ _ _ _ _ rfl | refine zi ?_ | refine zj ?_ | refine zl ?_ | refine ⟨?_, ?_⟩)⟩, fun _ => ⟨rfl, rfl⟩⟩, by rw [List.map_append]; rfl, rfl, trivial⟩
    · rw [if_neg (fun h => absurd h.2 (by simpa using c2))]
      repeat (first | ((with_reducible refine zK ?_); refine zJ rfl ?_) | ((with_reducible refine zM ?_); refine zI tbOk rfl rfl rfl rfl ?_) | ((with_reducible refine zR ?_); (first | refine zP tbOk rfl rfl rfl rfl rfl ?_ | refine zk tbOk rfl rfl rfl rfl (Nat.le_of_ble_eq_true rfl) ?_)) | ((with_reducible refine yb ?_); refine yJ rfl ?_) | ((with_reducible refine zr ?_); refine zx tbOk rfl rfl rfl rfl rfl (by omega) rfl rfl rfl ?_) | refine zB rfl ?_ | with_reducible (first | refine zG ?_ | refine zH ?_ | refine zS ?_) | ((with_reducible refine yZ mixd ?_ ?_); kernel_rfl))
      refine yG tbOk rfl rfl rfl rfl rfl (by decide) rfl rfl rfl rfl rfl (fun x hx => by simp at hx; subst hx; rfl) (by simp only [List.length_map, List.length_cons, List.length_nil, List.length_append, List.length_take]; omega) (by simp only [List.length_map, List.length_cons, List.length_nil, List.length_append, List.length_take]; omega) ?_
      repeat (first | ((with_reducible refine zE ?_); refine zF rfl ?_) | ((with_reducible refine zM ?_); refine zI tbOk rfl rfl rfl rfl ?_) | ((with_reducible refine zR ?_); refine zP tbOk rfl rfl rfl rfl rfl ?_) | ((with_reducible refine zp ?_); refine zq tbOk rfl rfl rfl rfl rfl rfl rfl (Nat.le_of_ble_eq_true rfl) rfl ?_) | ((with_reducible refine yb ?_); refine yJ rfl ?_)  | refine zL ?_ | refine yf (by kernel_rfl) ?_ | refine zB rfl ?_ | with_reducible (first | refine zG ?_ | refine zH ?_ | refine zN ?_) | ((with_reducible refine zA ?_ ?_); kernel_rfl))
      refine retJ (by first | exact .inr rfl | exact .inl rfl) (xs := [.v (.int .i64 (E))]) (fs := [(refB + 0, 0), (58, 1), (refB + 2, 0)]) ⟨.tmp _, trivial⟩ (by simp [refB]) (Ren.v _) ?_
      exact ⟨⟨⟨_, rfl, by repeat' (first | exact trivial | exact Ren.v _ | exact Ren.sl _ _ | exact Ren.ep _ | exact Ren.ptr _ _ _ _ rfl | exact Ren.ownr _ _ _ rfl | exact Ren.bs _ _ _ _ _ rfl | refine zi ?_ | refine zj ?_ | refine zl ?_ | refine ⟨?_, ?_⟩)⟩, fun _ => ⟨rfl, rfl⟩⟩, by rw [List.map_append]; rfl, rfl, trivial⟩
  · rw [if_neg (fun h => by rw [h.1] at c1; simp at c1)]
    repeat (first | ((with_reducible refine zK ?_); refine zJ rfl ?_) | ((with_reducible refine zM ?_); refine zI tbOk rfl rfl rfl rfl ?_) | ((with_reducible refine zR ?_); (first | refine zP tbOk rfl rfl rfl rfl rfl ?_ | refine zk tbOk rfl rfl rfl rfl (Nat.le_of_ble_eq_true rfl) ?_)) | ((with_reducible refine za ?_); refine zf rfl (by first | rfl | assumption) rfl ?_) | ((with_reducible refine yb ?_); refine yJ rfl ?_) | ((with_reducible refine zr ?_); refine zx tbOk rfl rfl rfl rfl rfl (by omega) rfl rfl rfl ?_) | refine zL ?_ | refine zB rfl ?_ | refine yE rfl rfl (by first | rfl | assumption) ?_ | with_reducible (first | refine zG ?_ | refine zH ?_ | refine zS ?_) | ((with_reducible refine yZ mixd ?_ ?_); kernel_rfl) | refine yF rfl (by first | rfl | assumption) ?_)
    refine yG tbOk rfl rfl rfl rfl rfl (by decide) rfl rfl rfl rfl rfl (fun x hx => by simp at hx; subst hx; rfl) (by simp only [List.length_map, List.length_cons, List.length_nil, List.length_append, List.length_take]; omega) (by simp only [List.length_map, List.length_cons, List.length_nil, List.length_append, List.length_take]; omega) ?_
    repeat (first | ((with_reducible refine zE ?_); refine zF rfl ?_) | ((with_reducible refine zM ?_); refine zI tbOk rfl rfl rfl rfl ?_) | ((with_reducible refine zR ?_); refine zP tbOk rfl rfl rfl rfl rfl ?_) | ((with_reducible refine zp ?_); refine zq tbOk rfl rfl rfl rfl rfl rfl rfl (Nat.le_of_ble_eq_true rfl) rfl ?_) | ((with_reducible refine yb ?_); refine yJ rfl ?_)  | refine zL ?_ | refine yf (by kernel_rfl) ?_ | refine zB rfl ?_ | with_reducible (first | refine zG ?_ | refine zH ?_ | refine zN ?_) | ((with_reducible refine zA ?_ ?_); kernel_rfl))
    refine retJ (by first | exact .inr rfl | exact .inl rfl) (xs := [.v (.int .i64 (E))]) (fs := [(refB + 0, 0), (58, 1), (refB + 2, 0)]) ⟨.tmp _, trivial⟩ (by simp [refB]) (Ren.v _) ?_
    exact ⟨⟨⟨_, rfl, by repeat' (first | exact trivial | exact Ren.v _ | exact Ren.sl _ _ | exact Ren.ep _ | exact Ren.ptr _ _ _ _ rfl | exact Ren.ownr _ _ _ rfl | exact Ren.bs _ _ _ _ _ rfl | refine zi ?_ | refine zj ?_ | refine zl ?_ | refine ⟨?_, ?_⟩)⟩, fun _ => ⟨rfl, rfl⟩⟩, by rw [List.map_append]; rfl, rfl, trivial⟩
end Go.Proofs.YtjamibeffalhaaaGreatDoor
