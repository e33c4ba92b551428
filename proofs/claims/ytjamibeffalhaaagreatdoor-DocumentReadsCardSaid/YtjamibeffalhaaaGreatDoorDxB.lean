/- document.Print, by the abstract machine; conditions: the tables of classes and powers stand. -/
import Derived.Test.YtjamibeffalhaaaGreatDoorDxA
set_option linter.unusedVariables false
set_option linter.unusedSimpArgs false
namespace Go.Proofs.YtjamibeffalhaaaGreatDoor
open Go Go.RowKit
set_option maxRecDepth 10000
variable {G : Nat → Option (List Value)}
theorem sC : ∀ L : List (List UInt8), L ≠ [] → Lib.join L [10] ++ [10] = jY L
  | [], h => absurd rfl h
  | [w], _ => by rw [Lib.join_one]; simp [jY]
  | w :: x :: r, _ => by
    have ih := sC (x :: r) (by simp)
    have e : Lib.join (w :: x :: r) [10] = w ++ 10 :: Lib.join (x :: r) [10] := by
      rw [Lib.join_cons, Lib.join_cons]
      unfold Lib.joinTail
      simp
    rw [e, List.append_assoc, List.cons_append, ih]
    simp [jY]
theorem yq (a b : List UInt8) : strL a ++ strL b = strL (a ++ b) := by
  refine tN ?_
  rw [nR, yy, yy, yy]
theorem sF (L : List (List UInt8)) : (Lib.join L [10]).length ≤ (jY L).length := by
  cases L with
  | nil => exact Nat.zero_le _
  | cons w r =>
    rw [← sC (w :: r) (by simp), List.length_append]
    omega
theorem lO (d : Dc) : qV yS [wAt yx d.kind.toNat, Lib.itoa d.num, wAt yn d.st.toNat, Lib.itoa d.rd, Lib.itoa d.safe, d.iss.data.toList, d.hol.data.toList, Lib.itoa d.f, Lib.itoa d.u] = aH d := by
  have e1 : ¬ cN = [] := by decide
  have e2 : ¬ cV = [] := by decide
  have e3 : ¬ gV = [] := by decide
  have e4 : ¬ aU = [] := by decide
  have e5 : ¬ aW = [] := by decide
  have e6 : ¬ gZ = [] := by decide
  have e7 : ¬ cM = [] := by decide
  unfold yS aH
  rw [qj, qj, aR e1, qj, aR e2, qj, aR e3, qj, aR e4, qj, aR e5, qj, aR e6, qj, aR e7, qj]
  rfl
theorem jH {L : List (List UInt8)} {k : Nat} (h : k < L.length) : (L.map svL)[k]? = some (svL (wAt L k)) := by
  obtain ⟨x, hx⟩ := zd h
  rw [dY hx]
  unfold wAt
  rw [hx]; rfl
theorem vW {L : List Lk} {k : Nat} {x : Lk} (h : L[k]? = some x) : (L.map Lk.av)[k]? = some x.av := by rw [List.getElem?_map, h]; rfl
set_option maxHeartbeats 8000000 in
theorem print_A (N : List Nd) (V : List Dv) (d : Dc) (hG : GCls G) (hP : GPow G) (ok : NwOk N V) (od : DcSz d) : zz Tryz.prog G 18 [jo N V, d.av] [] (.tu [.v (.string (qA N V d).1), .v (.int .i64 (qA N V d).2)]) [] := by
  by_cases hd0 : docE N V d ≠ 0
  · have e : qA N V d = (⟨#[]⟩, docE N V d) := by unfold qA; rw [if_pos hd0]
    rw [e]
    refine zb tbOk (zc Tryz.func18 (by kernel_rfl) rfl) Tryz.func18 rfl _ Tryz.ntmps18 (Nat.le_of_ble_eq_true rfl) fun X hX => ?_
    subst hX
    repeat (first | ((with_reducible refine zE ?_); refine zF rfl ?_) | ((with_reducible refine zR ?_); refine zk tbOk rfl rfl rfl rfl (Nat.le_of_ble_eq_true rfl) ?_) | ((with_reducible refine yr ?_); refine yu rfl rfl rfl ?_)  | refine zL ?_ | refine zB rfl ?_ | with_reducible (first | refine zG ?_ | refine zH ?_) | ((with_reducible refine zA ?_ ?_); kernel_rfl))
    refine zC (kS N V d hG ok od) ?_
    repeat (first | ((with_reducible refine zK ?_); refine zJ rfl ?_) | ((with_reducible refine zE ?_); refine zF rfl ?_) | ((with_reducible refine zQ ?_); refine zT rfl rfl rfl ?_)  | refine zL ?_ | refine zB rfl ?_ | with_reducible (first | refine zG ?_ | refine zH ?_) | ((with_reducible refine zA ?_ ?_); kernel_rfl))
    refine zZ rfl (fun h => ?_) (fun h => ?_)
    · repeat (first | ((with_reducible refine zK ?_); refine zJ rfl ?_) | ((with_reducible refine zE ?_); refine zF rfl ?_)  | refine zL ?_ | refine zB rfl ?_ | with_reducible (first | refine zG ?_ | refine zO ?_ | refine zH ?_ | refine zN ?_) | ((with_reducible refine zA ?_ ?_); kernel_rfl))
      refine yp (by first | exact .inr rfl | exact .inl rfl) rfl rfl rfl ?_
      repeat' (first | exact trivial | exact Ren.v _ | exact Ren.sl _ _ | exact Ren.ep _ | exact Ren.ptr _ _ _ _ rfl | exact Ren.bs _ _ _ _ _ rfl | exact Ren.nil _ | exact Ren.own _ _ _ _ ⟨_, rfl⟩ | refine zi ?_ | refine zj ?_ | refine zl ?_ | refine ⟨?_, ?_⟩)
    · exact absurd (by simpa using h) hd0
  have e : qA N V d = (strL (jY (qO N V d)), 0) := by unfold qA; rw [if_neg hd0]
  have hd : DcOk N V d := fE.1 (by simpa using hd0)
  have hk := hd.kind
  have hst := hd.st
  have hnum := hd.num
  have hrd := hd.rd
  have hsf := hd.safe
  have hsp := nS hd.span
  have hzo := fL hd.zone
  have hlo := kJ hd.lk
  have hco := iK hd.ce
  have hNl : N.length ≤ 32 := (bN hd.net).1
  have hy1 : (yx.map svL)[d.kind.toNat]? = some (svL (wAt yx d.kind.toNat)) := jH (by show d.kind.toNat < 4; omega)
  have hy2 : (yn.map svL)[d.st.toNat]? = some (svL (wAt yn d.st.toNat)) := jH (by show d.st.toNat < 6; omega)
  have hh := qk (nD hd)
  have hzl := qk (tC hd)
  have hhl : (aH d).length = 16 := rfl
  have hzll : (qv N d).length = d.zone.length + 1 := by unfold qv; simp
  have hfill := fill_J (G := G) [wAt yx d.kind.toNat, Lib.itoa d.num, wAt yn d.st.toNat, Lib.itoa d.rd, Lib.itoa d.safe, d.iss.data.toList, d.hol.data.toList, Lib.itoa d.f, Lib.itoa d.u] rfl (by rw [lO]; omega)
  rw [lO] at hfill
  obtain ⟨A, hA⟩ : ∃ A, A = yl (aH d) := ⟨_, rfl⟩
  obtain ⟨B, hB⟩ : ∃ B, B = yl (qv N d) := ⟨_, rfl⟩
  rw [← hA] at hfill
  rw [e]
  refine zb tbOk (zc Tryz.func18 (by kernel_rfl) rfl) Tryz.func18 rfl _ Tryz.ntmps18 (Nat.le_of_ble_eq_true rfl) fun X hX => ?_
  subst hX
  repeat (first | ((with_reducible refine zE ?_); refine zF rfl ?_) | ((with_reducible refine zR ?_); refine zk tbOk rfl rfl rfl rfl (Nat.le_of_ble_eq_true rfl) ?_) | ((with_reducible refine yr ?_); refine yu rfl rfl rfl ?_)  | refine zL ?_ | refine zB rfl ?_ | with_reducible (first | refine zG ?_ | refine zH ?_) | ((with_reducible refine zA ?_ ?_); kernel_rfl))
  refine zC (kS N V d hG ok od) ?_
  repeat (first | ((with_reducible refine zK ?_); refine zJ rfl ?_) | ((with_reducible refine zE ?_); refine zF rfl ?_) | ((with_reducible refine zQ ?_); refine zT rfl rfl rfl ?_)  | refine zL ?_ | refine zB rfl ?_ | with_reducible (first | refine zG ?_ | refine zH ?_) | ((with_reducible refine zA ?_ ?_); kernel_rfl))
  refine zZ rfl (fun h => ?_) (fun h => ?_)
  · exact absurd (by simpa using h) hd0
  repeat (first   | refine zB rfl ?_ | with_reducible (first | refine zG ?_ | refine zH ?_ | refine zS ?_) | ((with_reducible refine yZ mixd ?_ ?_); kernel_rfl))
  refine oO uJ (by repeat' (first | exact trivial | exact Ren.v _ | exact Ren.sl _ _ | exact Ren.ep _ | exact Ren.ptr _ _ _ _ rfl | exact Ren.bs _ _ _ _ _ rfl | exact Ren.nil _ | exact Ren.own _ _ _ _ ⟨_, rfl⟩ | refine zi ?_ | refine zj ?_ | refine zl ?_ | refine ⟨?_, ?_⟩)) rfl ?_
  repeat (first   | refine zB rfl ?_  )
  refine zC (sW) ?_
  repeat (first | ((with_reducible refine zM ?_); refine zI tbOk rfl rfl rfl rfl ?_) | ((with_reducible refine zR ?_); (first | refine zP tbOk rfl rfl rfl rfl rfl ?_ | refine zW tbOk rfl rfl rfl ?_)) | ((with_reducible refine zU ?_); refine yY tbOk rfl rfl rfl rfl (by omega) (by assumption) ?_)  | refine zB rfl ?_  )
  refine zC (eJ d.num hP (by omega) (by omega)) ?_
  repeat (first   | refine zB rfl ?_  )
  refine zC (oY) ?_
  repeat (first | ((with_reducible refine zM ?_); refine zI tbOk rfl rfl rfl rfl ?_) | ((with_reducible refine zR ?_); (first | refine zP tbOk rfl rfl rfl rfl rfl ?_ | refine zW tbOk rfl rfl rfl ?_)) | ((with_reducible refine zU ?_); refine yY tbOk rfl rfl rfl rfl (by omega) (by assumption) ?_)  | refine zB rfl ?_  )
  refine zC (eJ d.rd hP (by omega) (by omega)) ?_
  repeat (first | ((with_reducible refine zM ?_); refine zI tbOk rfl rfl rfl rfl ?_) | ((with_reducible refine zR ?_); refine zP tbOk rfl rfl rfl rfl rfl ?_)  | refine zB rfl ?_  )
  refine zC (eJ d.safe hP (by omega) (by omega)) ?_
  repeat (first | ((with_reducible refine zM ?_); refine zI tbOk rfl rfl rfl rfl ?_) | ((with_reducible refine zR ?_); refine zP tbOk rfl rfl rfl rfl rfl ?_)  | refine zB rfl ?_  )
  refine zC (eJ d.f hP (by omega) (by omega)) ?_
  repeat (first | ((with_reducible refine zM ?_); refine zI tbOk rfl rfl rfl rfl ?_) | ((with_reducible refine zR ?_); refine zP tbOk rfl rfl rfl rfl rfl ?_)  | refine zB rfl ?_  )
  refine zC (eJ d.u hP (by omega) (by omega)) ?_
  repeat (first  | ((with_reducible refine zr ?_); refine zx tbOk rfl rfl rfl rfl rfl (by omega) rfl rfl rfl ?_) | refine zB rfl ?_  )
  refine dW (ss := [(21, 1)]) (ss' := [(21, 2)]) (cs' := [.buf 9 1 []]) (y := svL A) hfill (by repeat' (first | exact trivial | exact Ren.v _ | exact Ren.sl _ _ | exact Ren.ep _ | exact Ren.ptr _ _ _ _ rfl | exact Ren.ownr _ _ _ rfl | exact Ren.bs _ _ _ _ _ rfl | refine zi ?_ | refine zj ?_ | refine zl ?_ | refine ⟨?_, ?_⟩)) (by simp) ⟨rfl, trivial⟩ ⟨⟨⟨rfl, rfl⟩, rfl⟩, trivial⟩ (by repeat' (first | exact trivial | exact RenB.v _ | exact RenB.sl _ _ | exact RenB.ep _ | exact RenB.ptr _ _ _ _ rfl | exact RenB.own _ _ _ rfl | refine jX ?_ | refine jW ?_ | refine ⟨?_, ?_⟩)) ?_
  repeat (first  | refine zB rfl ?_  )
  with_reducible refine zr ?_
  refine jR tbOk rfl rfl rfl rfl rfl (by omega) rfl rfl rfl rfl ?_
  repeat (first | ((with_reducible refine zE ?_); refine zF rfl ?_) | refine yf (by kernel_rfl) ?_ | refine zB rfl ?_ | with_reducible (first | refine zG ?_ | refine zH ?_) | ((with_reducible refine zA ?_ ?_); kernel_rfl))
  with_reducible refine zr ?_
  refine jR tbOk rfl rfl rfl rfl rfl (by omega) rfl rfl rfl rfl ?_
  repeat (first | ((with_reducible refine zE ?_); refine zF rfl ?_)  | refine zL ?_ | refine zB rfl ?_ | with_reducible (first | refine zG ?_ | refine zH ?_))
  refine bV (s := 56) (d := 72) [(8, .own 72 1)] [] rfl rfl (by decide) ⟨.inl (.inr ⟨rfl, rfl⟩), trivial⟩ trivial ?_
  repeat (first | ((with_reducible refine zK ?_); refine zJ rfl ?_) | ((with_reducible refine zM ?_); refine zI tbOk rfl rfl rfl rfl ?_) | ((with_reducible refine zR ?_); refine zP tbOk rfl rfl rfl rfl rfl ?_) | ((with_reducible refine zt ?_); refine yH tbOk rfl rfl ?_)  | refine zL ?_ | refine zB rfl ?_ | with_reducible (first | refine zG ?_ | refine zY ?_) | ((with_reducible refine zA ?_ ?_); kernel_rfl))
  refine yL (ι := Nat) (fun k => k ≤ d.zone.length) (fun k => d.zone.length - k) (fun v k => [(2, .ptr 2 (v 2) 0), (3, .ptr 3 (v 3) 0), (7, .own 55 (v 55)), (8, .own 72 (v 72)), (58, .sl 1 (d.zone.map iv)), (59, .v (.int .i64 (d.zone.map iv).length)), (60, .v (.int .i64 (k : Nat)))]) (fun v k => [(2, .box [.sl 3 (N.map Nd.av), .sl 5 (V.map Dv.av)]), (3, .box d.cells), (55, .buf 9 1 ([A].map svL)), (72, .buf 9 1 ((qW :: (d.zone.take k).map (nodN N)).map svL))]) ?_ ?_
  · exact ⟨0, Nat.zero_le _, trivial, ⟨rfl, rfl, rfl, rfl, rfl, rfl, rfl, trivial⟩, ⟨rfl, rfl, rfl, rfl, trivial⟩⟩
  rintro v k hkz
  repeat (first | ((with_reducible refine zQ ?_); refine zT rfl rfl rfl ?_)  | refine zL ?_ | refine zB rfl ?_ | with_reducible (first | refine zG ?_ | refine zH ?_) | ((with_reducible refine zA ?_ ?_); kernel_rfl))
  refine zZ rfl (fun h => ?_) (fun h => ?_)
  · have hlt : k < d.zone.length := by simpa using h
    obtain ⟨z, hz⟩ := zd hlt
    have hy := aG hz
    obtain ⟨hz0, hz1⟩ := hzo.2.1 z (List.mem_of_getElem? hz)
    obtain ⟨x, hx, hxe⟩ := oD ⟨hz0, hz1⟩
    have hyn := nE hx
    repeat (first | ((with_reducible refine zK ?_); refine zJ rfl ?_) | ((with_reducible refine zE ?_); refine zF rfl ?_) | ((with_reducible refine zM ?_); (first | refine zI tbOk rfl rfl rfl rfl ?_ | refine yW tbOk rfl rfl rfl rfl ?_)) | ((with_reducible refine zR ?_); (first | refine zP tbOk rfl rfl rfl rfl rfl ?_ | refine zW tbOk rfl rfl rfl ?_)) | ((with_reducible refine zU ?_); (first | refine zX tbOk rfl rfl rfl rfl (by assumption) ?_ | refine yY tbOk rfl rfl rfl rfl (by omega) (by assumption) ?_)) | ((with_reducible refine zr ?_); refine zx tbOk rfl rfl rfl rfl rfl (by omega) rfl rfl rfl ?_) | refine zL ?_ | refine zB rfl ?_ | with_reducible (first | refine zG ?_ | refine zH ?_ | refine zY ?_ | refine zS ?_) | ((with_reducible refine zA ?_ ?_); kernel_rfl))
    refine yG tbOk rfl rfl rfl rfl rfl (by decide) rfl rfl rfl rfl rfl (fun x hx => by simp at hx; subst hx; rfl) (by simp only [List.length_map, List.length_cons, List.length_nil, List.length_append, List.length_take]; omega) (by simp only [List.length_map, List.length_cons, List.length_nil, List.length_append, List.length_take]; omega) ?_
    repeat (first | ((with_reducible refine zK ?_); refine zJ rfl ?_) | ((with_reducible refine zE ?_); refine zF rfl ?_) | ((with_reducible refine zQ ?_); refine zg rfl rfl (by omega) ?_)  | refine zL ?_ | refine zB rfl ?_ | with_reducible (first | refine zG ?_ | refine zu ?_) | ((with_reducible refine zA ?_ ?_); kernel_rfl))
    exact ⟨k + 1, by omega, by omega, ⟨rfl, rfl, rfl, rfl, rfl, rfl, rfl, trivial⟩, ⟨rfl, rfl, rfl, jr (by rw [jk hz, List.map_append, ← List.cons_append, List.map_append]; show _ ++ [AV.v (.string x.n)] = _ ++ [svL (nodN N z)]; rw [hxe]; rfl), trivial⟩⟩
  have hge : k = d.zone.length := by simp at h; omega
  subst hge
  rw [List.take_length]
  have ez : qW :: d.zone.map (nodN N) = qv N d := rfl
  rw [ez]
  repeat (first   | with_reducible (first | refine zG ?_ | refine zo ?_ | refine zH ?_ | refine yB ?_) | ((with_reducible refine ze ?_ ?_); rfl))
  refine yi (s := 72) [(8, .sl 1 ((qv N d).map svL))] [] rfl ⟨.inl (.inr ⟨rfl, rfl⟩), trivial⟩ trivial ?_
  have hjz := jn_A (G := X.G) (qv N d) (by omega) (by omega)
  rw [← hB] at hjz
  repeat (first | ((with_reducible refine zK ?_); refine zJ rfl ?_)  | refine zB rfl ?_  | ((with_reducible refine zA ?_ ?_); kernel_rfl))
  refine zC (hjz) ?_
  repeat (first  | ((with_reducible refine zr ?_); refine zx tbOk rfl rfl rfl rfl rfl (by omega) rfl rfl rfl ?_) | refine zB rfl ?_  )
  refine yG tbOk rfl rfl rfl rfl rfl (by decide) rfl rfl rfl rfl rfl (fun x hx => by simp at hx; subst hx; rfl) (by simp only [List.length_map, List.length_cons, List.length_nil, List.length_append, List.length_take]; omega) (by simp only [List.length_map, List.length_cons, List.length_nil, List.length_append, List.length_take]; omega) ?_
  repeat (first | ((with_reducible refine zE ?_); refine zF rfl ?_)  | refine zL ?_ | refine zB rfl ?_ | with_reducible (first | refine zG ?_ | refine zH ?_))
  refine bV (s := 78) (d := 105) [(7, .own 105 (v 105 + 1))] [] rfl rfl (by decide) ⟨.inl (.inr ⟨rfl, rfl⟩), trivial⟩ trivial ?_
  repeat (first | ((with_reducible refine zK ?_); refine zJ rfl ?_) | ((with_reducible refine zM ?_); refine zI tbOk rfl rfl rfl rfl ?_) | ((with_reducible refine zR ?_); refine zP tbOk rfl rfl rfl rfl rfl ?_) | ((with_reducible refine zt ?_); refine yH tbOk rfl rfl ?_)  | refine zL ?_ | refine zB rfl ?_ | with_reducible (first | refine zG ?_ | refine zY ?_) | ((with_reducible refine zA ?_ ?_); kernel_rfl))
  refine yL (ι := Nat) (fun k => k ≤ d.lk.length) (fun k => d.lk.length - k) (fun v k => [(2, .ptr 2 (v 2) 0), (3, .ptr 3 (v 3) 0), (7, .own 105 (v 105)), (80, .sl 3 (d.lk.map Lk.av)), (81, .v (.int .i64 (d.lk.map Lk.av).length)), (82, .v (.int .i64 (k : Nat)))]) (fun v k => [(2, .box [.sl 3 (N.map Nd.av), .sl 5 (V.map Dv.av)]), (3, .box d.cells), (105, .buf 9 1 ((A :: B :: (d.lk.take k).map (fun k => yl (jw V k))).map svL))]) ?_ ?_
  · exact ⟨0, Nat.zero_le _, trivial, ⟨rfl, rfl, rfl, rfl, rfl, rfl, trivial⟩, ⟨rfl, rfl, rfl, trivial⟩⟩
  clear h v
  rintro v k hkl
  repeat (first | ((with_reducible refine zQ ?_); refine zT rfl rfl rfl ?_)  | refine zL ?_ | refine zB rfl ?_ | with_reducible (first | refine zG ?_ | refine zH ?_) | ((with_reducible refine zA ?_ ?_); kernel_rfl))
  refine zZ rfl (fun h => ?_) (fun h => ?_)
  · have hlt : k < d.lk.length := by simpa using h
    obtain ⟨q, hq⟩ := zd hlt
    have hy := vW hq
    have hqm := List.mem_of_getElem? hq
    obtain ⟨q1, q2, q3, q4⟩ := hlo.2 q hqm
    obtain ⟨x, hx, hxe⟩ := nK q1
    have hyn := nH hx
    have hyp : (posL.map svL)[q.p.toNat]? = some (svL (wAt posL q.p.toNat)) := jH (by show q.p.toNat < 3; omega)
    have hwl := qk (mV hd hqm)
    have hwl5 : (jw V q).length = 5 := rfl
    have hjl := jn_A (G := X.G) (jw V q) (by omega) (by omega)
    have e5 : (jw V q).map svL = [.v (.string ⟨#[108, 111, 99, 107]⟩), .v (.string x.n), svL (wAt posL q.p.toNat), .v (.string ⟨#[107, 101, 121]⟩), .v (.string (txtP q.k))] := by unfold jw; rw [hxe]; rfl
    rw [e5] at hjl
    repeat (first | ((with_reducible refine zK ?_); refine zJ rfl ?_) | ((with_reducible refine zM ?_); (first | refine zI tbOk rfl rfl rfl rfl ?_ | refine yW tbOk rfl rfl rfl rfl ?_)) | ((with_reducible refine zR ?_); (first | refine zP tbOk rfl rfl rfl rfl rfl ?_ | refine zW tbOk rfl rfl rfl ?_ | refine yj tbOk rfl rfl (Nat.le_of_ble_eq_true rfl) ?_)) | ((with_reducible refine zp ?_); refine zq tbOk rfl rfl rfl rfl rfl rfl rfl (Nat.le_of_ble_eq_true rfl) rfl ?_) | ((with_reducible refine yR ?_); refine yQ tbOk rfl rfl ?_) | ((with_reducible refine zU ?_); (first | refine zX tbOk rfl rfl rfl rfl (by assumption) ?_ | refine yY tbOk rfl rfl rfl rfl (by omega) (by assumption) ?_))  | refine zL ?_ | refine zB rfl ?_ | with_reducible (first | refine zG ?_ | refine zH ?_ | refine zY ?_ | refine zS ?_) | ((with_reducible refine zA ?_ ?_); kernel_rfl) | ((with_reducible refine yZ mixd ?_ ?_); kernel_rfl))
    refine zC (poss_A) ?_
    repeat (first | ((with_reducible refine zM ?_); refine zI tbOk rfl rfl rfl rfl ?_) | ((with_reducible refine zR ?_); (first | refine zP tbOk rfl rfl rfl rfl rfl ?_ | refine zW tbOk rfl rfl rfl ?_)) | ((with_reducible refine zU ?_); refine yY tbOk rfl rfl rfl rfl (by omega) (by assumption) ?_)  | refine zB rfl ?_  )
    refine zC (eJ q.k hP (by omega) (by omega)) ?_
    repeat (first  | ((with_reducible refine zr ?_); refine zx tbOk rfl rfl rfl rfl rfl (by omega) rfl rfl rfl ?_) | refine zB rfl ?_  )
    refine zC (hjl) ?_
    repeat (first  | ((with_reducible refine zr ?_); refine zx tbOk rfl rfl rfl rfl rfl (by omega) rfl rfl rfl ?_) | refine zB rfl ?_  )
    refine yG tbOk rfl rfl rfl rfl rfl (by decide) rfl rfl rfl rfl rfl (fun x hx => by simp at hx; subst hx; rfl) (by simp only [List.length_map, List.length_cons, List.length_nil, List.length_append, List.length_take]; omega) (by simp only [List.length_map, List.length_cons, List.length_nil, List.length_append, List.length_take]; omega) ?_
    repeat (first | ((with_reducible refine zK ?_); refine zJ rfl ?_) | ((with_reducible refine zE ?_); refine zF rfl ?_) | ((with_reducible refine zQ ?_); refine zg rfl rfl (by omega) ?_)  | refine zL ?_ | refine yf (by kernel_rfl) ?_ | refine zB rfl ?_ | with_reducible (first | refine zG ?_ | refine zu ?_) | ((with_reducible refine zA ?_ ?_); kernel_rfl))
    exact ⟨k + 1, by omega, by omega, ⟨rfl, rfl, rfl, rfl, rfl, rfl, trivial⟩, ⟨rfl, rfl, jr (by rw [jk hq, List.map_append, ← List.cons_append, ← List.cons_append, List.map_append]; rfl), trivial⟩⟩
  have hge : k = d.lk.length := by simp at h; omega
  subst hge
  rw [List.take_length]
  obtain ⟨K, hK⟩ : ∃ K, K = A :: B :: d.lk.map (fun k => yl (jw V k)) := ⟨_, rfl⟩
  have hKl : K.length = 2 + d.lk.length := by rw [hK]; simp; omega
  rw [← hK]
  repeat (first   | with_reducible (first | refine zG ?_ | refine zo ?_ | refine zH ?_ | refine yB ?_) | ((with_reducible refine ze ?_ ?_); rfl))
  refine bV (s := 105) (d := 120) [(7, .own 120 (v 120 + 1))] [] rfl rfl (by decide) ⟨.inl (.inr ⟨rfl, rfl⟩), trivial⟩ trivial ?_
  repeat (first | ((with_reducible refine zK ?_); refine zJ rfl ?_) | ((with_reducible refine zM ?_); refine zI tbOk rfl rfl rfl rfl ?_) | ((with_reducible refine zR ?_); refine zP tbOk rfl rfl rfl rfl rfl ?_) | ((with_reducible refine zt ?_); refine yH tbOk rfl rfl ?_)  | refine zL ?_ | refine zB rfl ?_ | with_reducible (first | refine zG ?_ | refine zY ?_) | ((with_reducible refine zA ?_ ?_); kernel_rfl))
  refine yL (ι := Nat) (fun k => k ≤ d.ce.length) (fun k => d.ce.length - k) (fun v k => [(2, .ptr 2 (v 2) 0), (3, .ptr 3 (v 3) 0), (7, .own 120 (v 120)), (108, .sl 1 (d.ce.map iv)), (109, .v (.int .i64 (d.ce.map iv).length)), (110, .v (.int .i64 (k : Nat)))]) (fun v k => [(2, .box [.sl 3 (N.map Nd.av), .sl 5 (V.map Dv.av)]), (3, .box d.cells), (120, .buf 9 1 ((K ++ (d.ce.take k).map (fun c => yl (qs c))).map svL))]) ?_ ?_
  · exact ⟨0, Nat.zero_le _, trivial, ⟨rfl, rfl, rfl, rfl, rfl, rfl, trivial⟩, ⟨rfl, rfl, jr (by rw [List.take_zero, List.map_nil, List.append_nil]), trivial⟩⟩
  clear h v
  rintro v k hkc
  repeat (first | ((with_reducible refine zQ ?_); refine zT rfl rfl rfl ?_)  | refine zL ?_ | refine zB rfl ?_ | with_reducible (first | refine zG ?_ | refine zH ?_) | ((with_reducible refine zA ?_ ?_); kernel_rfl))
  refine zZ rfl (fun h => ?_) (fun h => ?_)
  · have hlt : k < d.ce.length := by simpa using h
    obtain ⟨c, hc⟩ := zd hlt
    have hy := aG hc
    have hcm := List.mem_of_getElem? hc
    have hc1 := hco.2 c hcm
    have hwl := qk (sR hd hcm)
    have hwl2 : (qs c).length = 2 := rfl
    have hjl := jn_A (G := X.G) (qs c) (by omega) (by omega)
    repeat (first | ((with_reducible refine zK ?_); refine zJ rfl ?_) | ((with_reducible refine zE ?_); refine zF rfl ?_) | ((with_reducible refine zR ?_); refine zW tbOk rfl rfl rfl ?_) | ((with_reducible refine zU ?_); refine zX tbOk rfl rfl rfl rfl (by assumption) ?_)  | refine zL ?_ | refine zB rfl ?_ | with_reducible (first | refine zG ?_ | refine zH ?_ | refine zY ?_ | refine zS ?_) | ((with_reducible refine zA ?_ ?_); kernel_rfl))
    refine zC (eJ c hP (by omega) (by omega)) ?_
    repeat (first  | ((with_reducible refine zr ?_); refine zx tbOk rfl rfl rfl rfl rfl (by omega) rfl rfl rfl ?_) | refine zB rfl ?_  )
    refine zC (hjl) ?_
    repeat (first  | ((with_reducible refine zr ?_); refine zx tbOk rfl rfl rfl rfl rfl (by omega) rfl rfl rfl ?_) | refine zB rfl ?_  )
    refine yG tbOk rfl rfl rfl rfl rfl (by decide) rfl rfl rfl rfl rfl (fun x hx => by simp at hx; subst hx; rfl) (by simp only [List.length_map, List.length_cons, List.length_nil, List.length_append, List.length_take]; omega) (by simp only [List.length_map, List.length_cons, List.length_nil, List.length_append, List.length_take]; omega) ?_
    repeat (first | ((with_reducible refine zK ?_); refine zJ rfl ?_) | ((with_reducible refine zE ?_); refine zF rfl ?_) | ((with_reducible refine zQ ?_); refine zg rfl rfl (by omega) ?_)  | refine zL ?_ | refine zB rfl ?_ | with_reducible (first | refine zG ?_ | refine zu ?_) | ((with_reducible refine zA ?_ ?_); kernel_rfl))
    exact ⟨k + 1, by omega, by omega, ⟨rfl, rfl, rfl, rfl, rfl, rfl, trivial⟩, ⟨rfl, rfl, jr (by rw [jk hc]; simp [svL]), trivial⟩⟩
  have hge : k = d.ce.length := by simp at h; omega
  subst hge
  rw [List.take_length]
  have eL : K ++ d.ce.map (fun c => yl (qs c)) = qO N V d := by rw [hK, hA, hB]; rfl
  rw [eL]
  have hlL : (qO N V d).length ≤ 1000 := by rw [← eL, List.length_append, List.length_map, hKl]; omega
  have htl := lU hd
  have hjt := sF (qO N V d)
  repeat (first   | with_reducible (first | refine zG ?_ | refine zo ?_ | refine zH ?_ | refine yB ?_) | ((with_reducible refine ze ?_ ?_); rfl))
  refine yi (s := 120) [(7, .sl 1 ((qO N V d).map svL))] [] rfl ⟨.inl (.inr ⟨rfl, rfl⟩), trivial⟩ trivial ?_
  repeat (first | ((with_reducible refine zK ?_); refine zJ rfl ?_)  | refine zB rfl ?_  | ((with_reducible refine zA ?_ ?_); kernel_rfl))
  refine zC (vP (qO N V d) 10 (by omega) (by omega)) ?_
  repeat (first   | refine zB rfl ?_  )
  with_reducible refine zQ ?_
  refine yc rfl rfl (by rw [zy]; show _ + 1 ≤ _; omega) ?_
  repeat (first | ((with_reducible refine zE ?_); refine zF rfl ?_)  | refine zL ?_ | refine zB rfl ?_ | with_reducible (first | refine zG ?_ | refine zN ?_) )
  refine yp (by first | exact .inr rfl | exact .inl rfl) rfl rfl rfl ?_
  have ej : strL (Lib.join (qO N V d) [10]) ++ (⟨#[10]⟩ : ByteArray) = strL (jY (qO N V d)) := by
    rw [← sC _ (by unfold qO; simp), ← yq]; rfl
  rw [ej]
  repeat' (first | exact trivial | exact Ren.v _ | exact Ren.sl _ _ | exact Ren.ep _ | exact Ren.ptr _ _ _ _ rfl | exact Ren.bs _ _ _ _ _ rfl | exact Ren.nil _ | exact Ren.own _ _ _ _ ⟨_, rfl⟩ | refine zi ?_ | refine zj ?_ | refine zl ?_ | refine ⟨?_, ?_⟩)
end Go.Proofs.YtjamibeffalhaaaGreatDoor
