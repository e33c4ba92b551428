/- document.Print, by the abstract machine; conditions: the tables of classes and powers stand. -/
import Derived.Test.YtjamibeffalhaaaGreatDoorDxA
set_option linter.unusedVariables false
set_option linter.unusedSimpArgs false
namespace Go.Proofs.YtjamibeffalhaaaGreatDoor
open Go Go.RowKit
set_option maxRecDepth 10000
variable {G : Nat → Option (List Value)}
theorem rR : ∀ L : List (List UInt8), L ≠ [] → Lib.join L [10] ++ [10] = jQ L
  | [], h => absurd rfl h
  | [w], _ => by rw [Lib.join_one]; simp [jQ]
  | w :: x :: r, _ => by
    have ih := rR (x :: r) (by simp)
    have e : Lib.join (w :: x :: r) [10] = w ++ 10 :: Lib.join (x :: r) [10] := by
      rw [Lib.join_cons, Lib.join_cons]
      unfold Lib.joinTail
      simp
    rw [e, List.append_assoc, List.cons_append, ih]
    simp [jQ]
theorem yZ (a b : List UInt8) : strL a ++ strL b = strL (a ++ b) := by
  refine tM ?_
  rw [lZ, jJ, jJ, jJ]
theorem rC (L : List (List UInt8)) : (Lib.join L [10]).length ≤ (jQ L).length := by
  cases L with
  | nil => exact Nat.zero_le _
  | cons w r =>
    rw [← rR (w :: r) (by simp), List.length_append]
    omega
theorem kK (d : Dc) : qN jl [wAt yn d.kind.toNat, Lib.itoa d.num, wAt yb d.st.toNat, Lib.itoa d.rd, Lib.itoa d.safe, d.iss.data.toList, d.hol.data.toList, Lib.itoa d.f, Lib.itoa d.u] = aK d := by
  have e1 : ¬ mI = [] := by decide
  have e2 : ¬ mD = [] := by decide
  have e3 : ¬ sQ = [] := by decide
  have e4 : ¬ gI = [] := by decide
  have e5 : ¬ gJ = [] := by decide
  have e6 : ¬ sT = [] := by decide
  have e7 : ¬ mT = [] := by decide
  unfold jl aK
  rw [qc, qc, aY e1, qc, aY e2, qc, aY e3, qc, aY e4, qc, aY e5, qc, aY e6, qc, aY e7, qc]
  rfl
theorem jV {L : List (List UInt8)} {k : Nat} (h : k < L.length) : (L.map svL)[k]? = some (svL (wAt L k)) := by
  obtain ⟨x, hx⟩ := zc h
  rw [iB hx]
  unfold wAt
  rw [hx]; rfl
theorem vG {L : List Lk} {k : Nat} {x : Lk} (h : L[k]? = some x) : (L.map Lk.av)[k]? = some x.av := by rw [List.getElem?_map, h]; rfl
set_option maxHeartbeats 8000000 in
theorem sW (N : List Nd) (V : List Dv) (d : Dc) (hG : GCls G) (hP : GPow G) (ok : NwOk N V) (od : DcSz d) : zy Tryz.prog G 18 [jW N V, d.av] [] (.tu [.v (.string (qI N V d).1), .v (.int .i64 (qI N V d).2)]) [] := by
  by_cases hd0 : docE N V d ≠ 0
  · have e : qI N V d = (⟨#[]⟩, docE N V d) := by unfold qI; rw [if_pos hd0]
    rw [e]
    refine zd tbOk (zf Tryz.func18 (by kernel_rfl) rfl) Tryz.func18 rfl _ Tryz.ntmps18 (Nat.le_of_ble_eq_true rfl) fun X hX => ?_
    subst hX
    repeat (first | ((with_reducible refine zF ?_); refine zE rfl ?_) | ((with_reducible refine zQ ?_); refine za tbOk rfl rfl rfl rfl (Nat.le_of_ble_eq_true rfl) ?_) | ((with_reducible refine yl ?_); refine yj rfl rfl rfl ?_)  | refine zL ?_ | refine zB rfl ?_ | with_reducible (first | refine zG ?_ | refine zH ?_) | ((with_reducible refine zA ?_ ?_); kernel_rfl))
    refine zC (qk N V d hG ok od) ?_
    repeat (first | ((with_reducible refine zJ ?_); refine zK rfl ?_) | ((with_reducible refine zF ?_); refine zE rfl ?_) | ((with_reducible refine zR ?_); refine zS rfl rfl rfl ?_)  | refine zL ?_ | refine zB rfl ?_ | with_reducible (first | refine zG ?_ | refine zH ?_) | ((with_reducible refine zA ?_ ?_); kernel_rfl))
    refine zX rfl (fun h => ?_) (fun h => ?_)
    · repeat (first | ((with_reducible refine zJ ?_); refine zK rfl ?_) | ((with_reducible refine zF ?_); refine zE rfl ?_)  | refine zL ?_ | refine zB rfl ?_ | with_reducible (first | refine zG ?_ | refine zP ?_ | refine zH ?_ | refine zN ?_) | ((with_reducible refine zA ?_ ?_); kernel_rfl))
      refine jD (by first | exact .inr rfl | exact .inl rfl) rfl rfl rfl ?_
      repeat' (first | exact trivial | exact Ren.v _ | exact Ren.sl _ _ | exact Ren.ep _ | exact Ren.ptr _ _ _ _ rfl | exact Ren.bs _ _ _ _ _ rfl | exact Ren.nil _ | exact Ren.own _ _ _ _ ⟨_, rfl⟩ | refine zv ?_ | refine zx ?_ | refine zw ?_ | refine ⟨?_, ?_⟩)
    · exact absurd (by simpa using h) hd0
  have e : qI N V d = (strL (jQ (qL N V d)), 0) := by unfold qI; rw [if_neg hd0]
  have hd : DcOk N V d := pE.1 (by simpa using hd0)
  have hk := hd.kind
  have hst := hd.st
  have hnum := hd.num
  have hrd := hd.rd
  have hsf := hd.safe
  have hsp := mK hd.span
  have hzo := gR hd.zone
  have hlo := mY hd.lk
  have hco := nD hd.ce
  have hNl : N.length ≤ 32 := (gM hd.net).1
  have hy1 : (yn.map svL)[d.kind.toNat]? = some (svL (wAt yn d.kind.toNat)) := jV (by show d.kind.toNat < 4; omega)
  have hy2 : (yb.map svL)[d.st.toNat]? = some (svL (wAt yb d.st.toNat)) := jV (by show d.st.toNat < 6; omega)
  have hh := qe (mE hd)
  have hzl := qe (tB hd)
  have hhl : (aK d).length = 16 := rfl
  have hzll : (qr N d).length = d.zone.length + 1 := by unfold qr; simp
  have hfill := fill_J (G := G) [wAt yn d.kind.toNat, Lib.itoa d.num, wAt yb d.st.toNat, Lib.itoa d.rd, Lib.itoa d.safe, d.iss.data.toList, d.hol.data.toList, Lib.itoa d.f, Lib.itoa d.u] rfl (by rw [kK]; omega)
  rw [kK] at hfill
  obtain ⟨A, hA⟩ : ∃ A, A = yW (aK d) := ⟨_, rfl⟩
  obtain ⟨B, hB⟩ : ∃ B, B = yW (qr N d) := ⟨_, rfl⟩
  rw [← hA] at hfill
  rw [e]
  refine zd tbOk (zf Tryz.func18 (by kernel_rfl) rfl) Tryz.func18 rfl _ Tryz.ntmps18 (Nat.le_of_ble_eq_true rfl) fun X hX => ?_
  subst hX
  repeat (first | ((with_reducible refine zF ?_); refine zE rfl ?_) | ((with_reducible refine zQ ?_); refine za tbOk rfl rfl rfl rfl (Nat.le_of_ble_eq_true rfl) ?_) | ((with_reducible refine yl ?_); refine yj rfl rfl rfl ?_)  | refine zL ?_ | refine zB rfl ?_ | with_reducible (first | refine zG ?_ | refine zH ?_) | ((with_reducible refine zA ?_ ?_); kernel_rfl))
  refine zC (qk N V d hG ok od) ?_
  repeat (first | ((with_reducible refine zJ ?_); refine zK rfl ?_) | ((with_reducible refine zF ?_); refine zE rfl ?_) | ((with_reducible refine zR ?_); refine zS rfl rfl rfl ?_)  | refine zL ?_ | refine zB rfl ?_ | with_reducible (first | refine zG ?_ | refine zH ?_) | ((with_reducible refine zA ?_ ?_); kernel_rfl))
  refine zX rfl (fun h => ?_) (fun h => ?_)
  · exact absurd (by simpa using h) hd0
  repeat (first   | refine zB rfl ?_ | with_reducible (first | refine zG ?_ | refine zH ?_ | refine zT ?_) | ((with_reducible refine yO mixd ?_ ?_); kernel_rfl))
  refine pJ tY (by repeat' (first | exact trivial | exact Ren.v _ | exact Ren.sl _ _ | exact Ren.ep _ | exact Ren.ptr _ _ _ _ rfl | exact Ren.bs _ _ _ _ _ rfl | exact Ren.nil _ | exact Ren.own _ _ _ _ ⟨_, rfl⟩ | refine zv ?_ | refine zx ?_ | refine zw ?_ | refine ⟨?_, ?_⟩)) rfl ?_
  repeat (first   | refine zB rfl ?_  )
  refine zC (sO) ?_
  repeat (first | ((with_reducible refine zM ?_); refine zI tbOk rfl rfl rfl rfl ?_) | ((with_reducible refine zQ ?_); (first | refine zO tbOk rfl rfl rfl rfl rfl ?_ | refine zb tbOk rfl rfl rfl ?_)) | ((with_reducible refine zY ?_); refine yQ tbOk rfl rfl rfl rfl (by omega) (by assumption) ?_)  | refine zB rfl ?_  )
  refine zC (dS d.num hP (by omega) (by omega)) ?_
  repeat (first   | refine zB rfl ?_  )
  refine zC (pR) ?_
  repeat (first | ((with_reducible refine zM ?_); refine zI tbOk rfl rfl rfl rfl ?_) | ((with_reducible refine zQ ?_); (first | refine zO tbOk rfl rfl rfl rfl rfl ?_ | refine zb tbOk rfl rfl rfl ?_)) | ((with_reducible refine zY ?_); refine yQ tbOk rfl rfl rfl rfl (by omega) (by assumption) ?_)  | refine zB rfl ?_  )
  refine zC (dS d.rd hP (by omega) (by omega)) ?_
  repeat (first | ((with_reducible refine zM ?_); refine zI tbOk rfl rfl rfl rfl ?_) | ((with_reducible refine zQ ?_); refine zO tbOk rfl rfl rfl rfl rfl ?_)  | refine zB rfl ?_  )
  refine zC (dS d.safe hP (by omega) (by omega)) ?_
  repeat (first | ((with_reducible refine zM ?_); refine zI tbOk rfl rfl rfl rfl ?_) | ((with_reducible refine zQ ?_); refine zO tbOk rfl rfl rfl rfl rfl ?_)  | refine zB rfl ?_  )
  refine zC (dS d.f hP (by omega) (by omega)) ?_
  repeat (first | ((with_reducible refine zM ?_); refine zI tbOk rfl rfl rfl rfl ?_) | ((with_reducible refine zQ ?_); refine zO tbOk rfl rfl rfl rfl rfl ?_)  | refine zB rfl ?_  )
  refine zC (dS d.u hP (by omega) (by omega)) ?_
  repeat (first  | ((with_reducible refine zl ?_); refine zp tbOk rfl rfl rfl rfl rfl (by omega) rfl rfl rfl ?_) | refine zB rfl ?_  )
  refine dG (ss := [(21, 1)]) (ss' := [(21, 2)]) (cs' := [.buf 9 1 []]) (y := svL A) hfill (by repeat' (first | exact trivial | exact Ren.v _ | exact Ren.sl _ _ | exact Ren.ep _ | exact Ren.ptr _ _ _ _ rfl | exact Ren.ownr _ _ _ rfl | exact Ren.bs _ _ _ _ _ rfl | refine zv ?_ | refine zx ?_ | refine zw ?_ | refine ⟨?_, ?_⟩)) (by simp) ⟨rfl, trivial⟩ ⟨⟨⟨rfl, rfl⟩, rfl⟩, trivial⟩ (by repeat' (first | exact trivial | exact RenB.v _ | exact RenB.sl _ _ | exact RenB.ep _ | exact RenB.ptr _ _ _ _ rfl | exact RenB.own _ _ _ rfl | refine jG ?_ | refine jH ?_ | refine ⟨?_, ?_⟩)) ?_
  repeat (first  | refine zB rfl ?_  )
  with_reducible refine zl ?_
  refine jK tbOk rfl rfl rfl rfl rfl (by omega) rfl rfl rfl rfl ?_
  repeat (first | ((with_reducible refine zF ?_); refine zE rfl ?_) | refine yS (by kernel_rfl) ?_ | refine zB rfl ?_ | with_reducible (first | refine zG ?_ | refine zH ?_) | ((with_reducible refine zA ?_ ?_); kernel_rfl))
  with_reducible refine zl ?_
  refine jK tbOk rfl rfl rfl rfl rfl (by omega) rfl rfl rfl rfl ?_
  repeat (first | ((with_reducible refine zF ?_); refine zE rfl ?_)  | refine zL ?_ | refine zB rfl ?_ | with_reducible (first | refine zG ?_ | refine zH ?_))
  refine bO (s := 56) (d := 72) [(8, .own 72 1)] [] rfl rfl (by decide) ⟨.inl (.inr ⟨rfl, rfl⟩), trivial⟩ trivial ?_
  repeat (first | ((with_reducible refine zJ ?_); refine zK rfl ?_) | ((with_reducible refine zM ?_); refine zI tbOk rfl rfl rfl rfl ?_) | ((with_reducible refine zQ ?_); refine zO tbOk rfl rfl rfl rfl rfl ?_) | ((with_reducible refine zq ?_); refine yI tbOk rfl rfl ?_)  | refine zL ?_ | refine zB rfl ?_ | with_reducible (first | refine zG ?_ | refine zV ?_) | ((with_reducible refine zA ?_ ?_); kernel_rfl))
  refine yJ (ι := Nat) (fun k => k ≤ d.zone.length) (fun k => d.zone.length - k) (fun v k => [(2, .ptr 2 (v 2) 0), (3, .ptr 3 (v 3) 0), (7, .own 55 (v 55)), (8, .own 72 (v 72)), (58, .sl 1 (d.zone.map iv)), (59, .v (.int .i64 (d.zone.map iv).length)), (60, .v (.int .i64 (k : Nat)))]) (fun v k => [(2, .box [.sl 3 (N.map Nd.av), .sl 5 (V.map Dv.av)]), (3, .box d.cells), (55, .buf 9 1 ([A].map svL)), (72, .buf 9 1 ((qi :: (d.zone.take k).map (nodN N)).map svL))]) ?_ ?_
  · exact ⟨0, Nat.zero_le _, trivial, ⟨rfl, rfl, rfl, rfl, rfl, rfl, rfl, trivial⟩, ⟨rfl, rfl, rfl, rfl, trivial⟩⟩
  rintro v k hkz
  repeat (first | ((with_reducible refine zR ?_); refine zS rfl rfl rfl ?_)  | refine zL ?_ | refine zB rfl ?_ | with_reducible (first | refine zG ?_ | refine zH ?_) | ((with_reducible refine zA ?_ ?_); kernel_rfl))
  refine zX rfl (fun h => ?_) (fun h => ?_)
  · have hlt : k < d.zone.length := by simpa using h
    obtain ⟨z, hz⟩ := zc hlt
    have hy := aM hz
    obtain ⟨hz0, hz1⟩ := hzo.2.1 z (List.mem_of_getElem? hz)
    obtain ⟨x, hx, hxe⟩ := lY ⟨hz0, hz1⟩
    have hyn := rO hx
    repeat (first | ((with_reducible refine zJ ?_); refine zK rfl ?_) | ((with_reducible refine zF ?_); refine zE rfl ?_) | ((with_reducible refine zM ?_); (first | refine zI tbOk rfl rfl rfl rfl ?_ | refine yN tbOk rfl rfl rfl rfl ?_)) | ((with_reducible refine zQ ?_); (first | refine zO tbOk rfl rfl rfl rfl rfl ?_ | refine zb tbOk rfl rfl rfl ?_)) | ((with_reducible refine zY ?_); (first | refine zZ tbOk rfl rfl rfl rfl (by assumption) ?_ | refine yQ tbOk rfl rfl rfl rfl (by omega) (by assumption) ?_)) | ((with_reducible refine zl ?_); refine zp tbOk rfl rfl rfl rfl rfl (by omega) rfl rfl rfl ?_) | refine zL ?_ | refine zB rfl ?_ | with_reducible (first | refine zG ?_ | refine zH ?_ | refine zV ?_ | refine zT ?_) | ((with_reducible refine zA ?_ ?_); kernel_rfl))
    refine yF tbOk rfl rfl rfl rfl rfl (by decide) rfl rfl rfl rfl rfl (fun x hx => by simp at hx; subst hx; rfl) (by simp only [List.length_map, List.length_cons, List.length_nil, List.length_append, List.length_take]; omega) (by simp only [List.length_map, List.length_cons, List.length_nil, List.length_append, List.length_take]; omega) ?_
    repeat (first | ((with_reducible refine zJ ?_); refine zK rfl ?_) | ((with_reducible refine zF ?_); refine zE rfl ?_) | ((with_reducible refine zR ?_); refine zk rfl rfl (by omega) ?_)  | refine zL ?_ | refine zB rfl ?_ | with_reducible (first | refine zG ?_ | refine zo ?_) | ((with_reducible refine zA ?_ ?_); kernel_rfl))
    exact ⟨k + 1, by omega, by omega, ⟨rfl, rfl, rfl, rfl, rfl, rfl, rfl, trivial⟩, ⟨rfl, rfl, rfl, jk (by rw [jg hz, List.map_append, ← List.cons_append, List.map_append]; show _ ++ [AV.v (.string x.n)] = _ ++ [svL (nodN N z)]; rw [hxe]; rfl), trivial⟩⟩
  have hge : k = d.zone.length := by simp at h; omega
  subst hge
  rw [List.take_length]
  have ez : qi :: d.zone.map (nodN N) = qr N d := rfl
  rw [ez]
  repeat (first   | with_reducible (first | refine zG ?_ | refine zj ?_ | refine zH ?_ | refine zz ?_) | ((with_reducible refine zg ?_ ?_); rfl))
  refine ye (s := 72) [(8, .sl 1 ((qr N d).map svL))] [] rfl ⟨.inl (.inr ⟨rfl, rfl⟩), trivial⟩ trivial ?_
  have hjz := jn_A (G := X.G) (qr N d) (by omega) (by omega)
  rw [← hB] at hjz
  repeat (first | ((with_reducible refine zJ ?_); refine zK rfl ?_)  | refine zB rfl ?_  | ((with_reducible refine zA ?_ ?_); kernel_rfl))
  refine zC (hjz) ?_
  repeat (first  | ((with_reducible refine zl ?_); refine zp tbOk rfl rfl rfl rfl rfl (by omega) rfl rfl rfl ?_) | refine zB rfl ?_  )
  refine yF tbOk rfl rfl rfl rfl rfl (by decide) rfl rfl rfl rfl rfl (fun x hx => by simp at hx; subst hx; rfl) (by simp only [List.length_map, List.length_cons, List.length_nil, List.length_append, List.length_take]; omega) (by simp only [List.length_map, List.length_cons, List.length_nil, List.length_append, List.length_take]; omega) ?_
  repeat (first | ((with_reducible refine zF ?_); refine zE rfl ?_)  | refine zL ?_ | refine zB rfl ?_ | with_reducible (first | refine zG ?_ | refine zH ?_))
  refine bO (s := 78) (d := 105) [(7, .own 105 (v 105 + 1))] [] rfl rfl (by decide) ⟨.inl (.inr ⟨rfl, rfl⟩), trivial⟩ trivial ?_
  repeat (first | ((with_reducible refine zJ ?_); refine zK rfl ?_) | ((with_reducible refine zM ?_); refine zI tbOk rfl rfl rfl rfl ?_) | ((with_reducible refine zQ ?_); refine zO tbOk rfl rfl rfl rfl rfl ?_) | ((with_reducible refine zq ?_); refine yI tbOk rfl rfl ?_)  | refine zL ?_ | refine zB rfl ?_ | with_reducible (first | refine zG ?_ | refine zV ?_) | ((with_reducible refine zA ?_ ?_); kernel_rfl))
  refine yJ (ι := Nat) (fun k => k ≤ d.lk.length) (fun k => d.lk.length - k) (fun v k => [(2, .ptr 2 (v 2) 0), (3, .ptr 3 (v 3) 0), (7, .own 105 (v 105)), (80, .sl 3 (d.lk.map Lk.av)), (81, .v (.int .i64 (d.lk.map Lk.av).length)), (82, .v (.int .i64 (k : Nat)))]) (fun v k => [(2, .box [.sl 3 (N.map Nd.av), .sl 5 (V.map Dv.av)]), (3, .box d.cells), (105, .buf 9 1 ((A :: B :: (d.lk.take k).map (fun k => yW (jm V k))).map svL))]) ?_ ?_
  · exact ⟨0, Nat.zero_le _, trivial, ⟨rfl, rfl, rfl, rfl, rfl, rfl, trivial⟩, ⟨rfl, rfl, rfl, trivial⟩⟩
  clear h v
  rintro v k hkl
  repeat (first | ((with_reducible refine zR ?_); refine zS rfl rfl rfl ?_)  | refine zL ?_ | refine zB rfl ?_ | with_reducible (first | refine zG ?_ | refine zH ?_) | ((with_reducible refine zA ?_ ?_); kernel_rfl))
  refine zX rfl (fun h => ?_) (fun h => ?_)
  · have hlt : k < d.lk.length := by simpa using h
    obtain ⟨q, hq⟩ := zc hlt
    have hy := vG hq
    have hqm := List.mem_of_getElem? hq
    obtain ⟨q1, q2, q3, q4⟩ := hlo.2 q hqm
    obtain ⟨x, hx, hxe⟩ := mU q1
    have hyn := rL hx
    have hyp : (posL.map svL)[q.p.toNat]? = some (svL (wAt posL q.p.toNat)) := jV (by show q.p.toNat < 3; omega)
    have hwl := qe (nF hd hqm)
    have hwl5 : (jm V q).length = 5 := rfl
    have hjl := jn_A (G := X.G) (jm V q) (by omega) (by omega)
    have e5 : (jm V q).map svL = [.v (.string ⟨#[108, 111, 99, 107]⟩), .v (.string x.n), svL (wAt posL q.p.toNat), .v (.string ⟨#[107, 101, 121]⟩), .v (.string (txtP q.k))] := by unfold jm; rw [hxe]; rfl
    rw [e5] at hjl
    repeat (first | ((with_reducible refine zJ ?_); refine zK rfl ?_) | ((with_reducible refine zM ?_); (first | refine zI tbOk rfl rfl rfl rfl ?_ | refine yN tbOk rfl rfl rfl rfl ?_)) | ((with_reducible refine zQ ?_); (first | refine zO tbOk rfl rfl rfl rfl rfl ?_ | refine zb tbOk rfl rfl rfl ?_ | refine yK tbOk rfl rfl (Nat.le_of_ble_eq_true rfl) ?_)) | ((with_reducible refine yD ?_); refine yE tbOk rfl rfl rfl rfl rfl rfl rfl (Nat.le_of_ble_eq_true rfl) rfl ?_) | ((with_reducible refine yc ?_); refine ya tbOk rfl rfl ?_) | ((with_reducible refine zY ?_); (first | refine zZ tbOk rfl rfl rfl rfl (by assumption) ?_ | refine yQ tbOk rfl rfl rfl rfl (by omega) (by assumption) ?_))  | refine zL ?_ | refine zB rfl ?_ | with_reducible (first | refine zG ?_ | refine zH ?_ | refine zV ?_ | refine zT ?_) | ((with_reducible refine zA ?_ ?_); kernel_rfl) | ((with_reducible refine yO mixd ?_ ?_); kernel_rfl))
    refine zC (wE) ?_
    repeat (first | ((with_reducible refine zM ?_); refine zI tbOk rfl rfl rfl rfl ?_) | ((with_reducible refine zQ ?_); (first | refine zO tbOk rfl rfl rfl rfl rfl ?_ | refine zb tbOk rfl rfl rfl ?_)) | ((with_reducible refine zY ?_); refine yQ tbOk rfl rfl rfl rfl (by omega) (by assumption) ?_)  | refine zB rfl ?_  )
    refine zC (dS q.k hP (by omega) (by omega)) ?_
    repeat (first  | ((with_reducible refine zl ?_); refine zp tbOk rfl rfl rfl rfl rfl (by omega) rfl rfl rfl ?_) | refine zB rfl ?_  )
    refine zC (hjl) ?_
    repeat (first  | ((with_reducible refine zl ?_); refine zp tbOk rfl rfl rfl rfl rfl (by omega) rfl rfl rfl ?_) | refine zB rfl ?_  )
    refine yF tbOk rfl rfl rfl rfl rfl (by decide) rfl rfl rfl rfl rfl (fun x hx => by simp at hx; subst hx; rfl) (by simp only [List.length_map, List.length_cons, List.length_nil, List.length_append, List.length_take]; omega) (by simp only [List.length_map, List.length_cons, List.length_nil, List.length_append, List.length_take]; omega) ?_
    repeat (first | ((with_reducible refine zJ ?_); refine zK rfl ?_) | ((with_reducible refine zF ?_); refine zE rfl ?_) | ((with_reducible refine zR ?_); refine zk rfl rfl (by omega) ?_)  | refine zL ?_ | refine yS (by kernel_rfl) ?_ | refine zB rfl ?_ | with_reducible (first | refine zG ?_ | refine zo ?_) | ((with_reducible refine zA ?_ ?_); kernel_rfl))
    exact ⟨k + 1, by omega, by omega, ⟨rfl, rfl, rfl, rfl, rfl, rfl, trivial⟩, ⟨rfl, rfl, jk (by rw [jg hq, List.map_append, ← List.cons_append, ← List.cons_append, List.map_append]; rfl), trivial⟩⟩
  have hge : k = d.lk.length := by simp at h; omega
  subst hge
  rw [List.take_length]
  obtain ⟨K, hK⟩ : ∃ K, K = A :: B :: d.lk.map (fun k => yW (jm V k)) := ⟨_, rfl⟩
  have hKl : K.length = 2 + d.lk.length := by rw [hK]; simp; omega
  rw [← hK]
  repeat (first   | with_reducible (first | refine zG ?_ | refine zj ?_ | refine zH ?_ | refine zz ?_) | ((with_reducible refine zg ?_ ?_); rfl))
  refine bO (s := 105) (d := 120) [(7, .own 120 (v 120 + 1))] [] rfl rfl (by decide) ⟨.inl (.inr ⟨rfl, rfl⟩), trivial⟩ trivial ?_
  repeat (first | ((with_reducible refine zJ ?_); refine zK rfl ?_) | ((with_reducible refine zM ?_); refine zI tbOk rfl rfl rfl rfl ?_) | ((with_reducible refine zQ ?_); refine zO tbOk rfl rfl rfl rfl rfl ?_) | ((with_reducible refine zq ?_); refine yI tbOk rfl rfl ?_)  | refine zL ?_ | refine zB rfl ?_ | with_reducible (first | refine zG ?_ | refine zV ?_) | ((with_reducible refine zA ?_ ?_); kernel_rfl))
  refine yJ (ι := Nat) (fun k => k ≤ d.ce.length) (fun k => d.ce.length - k) (fun v k => [(2, .ptr 2 (v 2) 0), (3, .ptr 3 (v 3) 0), (7, .own 120 (v 120)), (108, .sl 1 (d.ce.map iv)), (109, .v (.int .i64 (d.ce.map iv).length)), (110, .v (.int .i64 (k : Nat)))]) (fun v k => [(2, .box [.sl 3 (N.map Nd.av), .sl 5 (V.map Dv.av)]), (3, .box d.cells), (120, .buf 9 1 ((K ++ (d.ce.take k).map (fun c => yW (qg c))).map svL))]) ?_ ?_
  · exact ⟨0, Nat.zero_le _, trivial, ⟨rfl, rfl, rfl, rfl, rfl, rfl, trivial⟩, ⟨rfl, rfl, jk (by rw [List.take_zero, List.map_nil, List.append_nil]), trivial⟩⟩
  clear h v
  rintro v k hkc
  repeat (first | ((with_reducible refine zR ?_); refine zS rfl rfl rfl ?_)  | refine zL ?_ | refine zB rfl ?_ | with_reducible (first | refine zG ?_ | refine zH ?_) | ((with_reducible refine zA ?_ ?_); kernel_rfl))
  refine zX rfl (fun h => ?_) (fun h => ?_)
  · have hlt : k < d.ce.length := by simpa using h
    obtain ⟨c, hc⟩ := zc hlt
    have hy := aM hc
    have hcm := List.mem_of_getElem? hc
    have hc1 := hco.2 c hcm
    have hwl := qe (sU hd hcm)
    have hwl2 : (qg c).length = 2 := rfl
    have hjl := jn_A (G := X.G) (qg c) (by omega) (by omega)
    repeat (first | ((with_reducible refine zJ ?_); refine zK rfl ?_) | ((with_reducible refine zF ?_); refine zE rfl ?_) | ((with_reducible refine zQ ?_); refine zb tbOk rfl rfl rfl ?_) | ((with_reducible refine zY ?_); refine zZ tbOk rfl rfl rfl rfl (by assumption) ?_)  | refine zL ?_ | refine zB rfl ?_ | with_reducible (first | refine zG ?_ | refine zH ?_ | refine zV ?_ | refine zT ?_) | ((with_reducible refine zA ?_ ?_); kernel_rfl))
    refine zC (dS c hP (by omega) (by omega)) ?_
    repeat (first  | ((with_reducible refine zl ?_); refine zp tbOk rfl rfl rfl rfl rfl (by omega) rfl rfl rfl ?_) | refine zB rfl ?_  )
    refine zC (hjl) ?_
    repeat (first  | ((with_reducible refine zl ?_); refine zp tbOk rfl rfl rfl rfl rfl (by omega) rfl rfl rfl ?_) | refine zB rfl ?_  )
    refine yF tbOk rfl rfl rfl rfl rfl (by decide) rfl rfl rfl rfl rfl (fun x hx => by simp at hx; subst hx; rfl) (by simp only [List.length_map, List.length_cons, List.length_nil, List.length_append, List.length_take]; omega) (by simp only [List.length_map, List.length_cons, List.length_nil, List.length_append, List.length_take]; omega) ?_
    repeat (first | ((with_reducible refine zJ ?_); refine zK rfl ?_) | ((with_reducible refine zF ?_); refine zE rfl ?_) | ((with_reducible refine zR ?_); refine zk rfl rfl (by omega) ?_)  | refine zL ?_ | refine zB rfl ?_ | with_reducible (first | refine zG ?_ | refine zo ?_) | ((with_reducible refine zA ?_ ?_); kernel_rfl))
    exact ⟨k + 1, by omega, by omega, ⟨rfl, rfl, rfl, rfl, rfl, rfl, trivial⟩, ⟨rfl, rfl, jk (by rw [jg hc]; simp [svL]), trivial⟩⟩
  have hge : k = d.ce.length := by simp at h; omega
  subst hge
  rw [List.take_length]
  have eL : K ++ d.ce.map (fun c => yW (qg c)) = qL N V d := by rw [hK, hA, hB]; rfl
  rw [eL]
  have hlL : (qL N V d).length ≤ 1000 := by rw [← eL, List.length_append, List.length_map, hKl]; omega
  have htl := uC hd
  have hjt := rC (qL N V d)
  repeat (first   | with_reducible (first | refine zG ?_ | refine zj ?_ | refine zH ?_ | refine zz ?_) | ((with_reducible refine zg ?_ ?_); rfl))
  refine ye (s := 120) [(7, .sl 1 ((qL N V d).map svL))] [] rfl ⟨.inl (.inr ⟨rfl, rfl⟩), trivial⟩ trivial ?_
  repeat (first | ((with_reducible refine zJ ?_); refine zK rfl ?_)  | refine zB rfl ?_  | ((with_reducible refine zA ?_ ?_); kernel_rfl))
  refine zC (join_A (qL N V d) 10 (by omega) (by omega)) ?_
  repeat (first   | refine zB rfl ?_  )
  with_reducible refine zR ?_
  refine yY rfl rfl (by rw [zt]; show _ + 1 ≤ _; omega) ?_
  repeat (first | ((with_reducible refine zF ?_); refine zE rfl ?_)  | refine zL ?_ | refine zB rfl ?_ | with_reducible (first | refine zG ?_ | refine zN ?_) )
  refine jD (by first | exact .inr rfl | exact .inl rfl) rfl rfl rfl ?_
  have ej : strL (Lib.join (qL N V d) [10]) ++ (⟨#[10]⟩ : ByteArray) = strL (jQ (qL N V d)) := by
    rw [← rR _ (by unfold qL; simp), ← yZ]; rfl
  rw [ej]
  repeat' (first | exact trivial | exact Ren.v _ | exact Ren.sl _ _ | exact Ren.ep _ | exact Ren.ptr _ _ _ _ rfl | exact Ren.bs _ _ _ _ _ rfl | exact Ren.nil _ | exact Ren.own _ _ _ _ ⟨_, rfl⟩ | refine zv ?_ | refine zx ?_ | refine zw ?_ | refine ⟨?_, ?_⟩)
end Go.Proofs.YtjamibeffalhaaaGreatDoor
