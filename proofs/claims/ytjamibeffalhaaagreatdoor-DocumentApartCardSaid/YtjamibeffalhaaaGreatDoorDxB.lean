/- document.Print, by the abstract machine; conditions: the tables of classes and powers stand. -/
import Derived.Test.YtjamibeffalhaaaGreatDoorDxA
set_option linter.unusedVariables false
set_option linter.unusedSimpArgs false
namespace Go.Proofs.YtjamibeffalhaaaGreatDoor
open Go Go.RowKit
set_option maxRecDepth 10000
variable {G : Nat → Option (List Value)}
theorem join10 : ∀ L : List (List UInt8), L ≠ [] → Lib.join L [10] ++ [10] = yd L
  | [], h => absurd rfl h
  | [w], _ => by rw [Lib.join_one]; simp [yd]
  | w :: x :: r, _ => by
    have ih := join10 (x :: r) (by simp)
    have e : Lib.join (w :: x :: r) [10] = w ++ 10 :: Lib.join (x :: r) [10] := by
      rw [Lib.join_cons, Lib.join_cons]
      unfold Lib.joinTail
      simp
    rw [e, List.append_assoc, List.cons_append, ih]
    simp [yd]
theorem str_app (a b : List UInt8) : strL a ++ strL b = strL (a ++ b) := by
  refine ba_ext2 ?_
  rw [ba_app, yc, yc, yc]
theorem join10_len (L : List (List UInt8)) : (Lib.join L [10]).length ≤ (yd L).length := by
  cases L with
  | nil => exact Nat.zero_le _
  | cons w r =>
    rw [← join10 (w :: r) (by simp), List.length_append]
    omega
theorem fill_head (d : Dc) : jx jM [wAt qC d.kind.toNat, Lib.itoa d.num, wAt jX d.st.toNat, Lib.itoa d.rd, Lib.itoa d.safe, d.iss.data.toList, d.hol.data.toList, Lib.itoa d.f, Lib.itoa d.u] = qG d := by
  have e1 : ¬ stateL = [] := by decide
  have e2 : ¬ roundL = [] := by decide
  have e3 : ¬ safeL = [] := by decide
  have e4 : ¬ issuerL = [] := by decide
  have e5 : ¬ holderL = [] := by decide
  have e6 : ¬ fromL = [] := by decide
  have e7 : ¬ untilL = [] := by decide
  unfold jM qG
  rw [qQ, qQ, qs e1, qQ, qs e2, qQ, qs e3, qQ, qs e4, qQ, qs e5, qQ, qs e6, qQ, qs e7, qQ]
  rfl
theorem jQ {L : List (List UInt8)} {k : Nat} (h : k < L.length) : (L.map svL)[k]? = some (svL (wAt L k)) := by
  obtain ⟨x, hx⟩ := zc h
  rw [sv_at hx]
  unfold wAt
  rw [hx]; rfl
theorem lk_at' {L : List Lk} {k : Nat} {x : Lk} (h : L[k]? = some x) : (L.map Lk.av)[k]? = some x.av := by rw [List.getElem?_map, h]; rfl
set_option maxHeartbeats 8000000 in
theorem print_A (N : List Nd) (V : List Dv) (d : Dc) (hG : GCls G) (hP : GPow G) (ok : NwOk N V) (od : DcSz d) : zy Tryz.prog G 18 [qH N V, d.av] [] (.tu [.v (.string (jq N V d).1), .v (.int .i64 (jq N V d).2)]) [] := by
  by_cases hd0 : docE N V d ≠ 0
  · have e : jq N V d = (⟨#[]⟩, docE N V d) := by unfold jq; rw [if_pos hd0]
    rw [e]
    refine zf tbOk (zg Tryz.func18 (by kernel_rfl) rfl) Tryz.func18 rfl _ Tryz.ntmps18 (Nat.le_of_ble_eq_true rfl) fun X hX => ?_
    subst hX
    repeat (first | ((with_reducible refine zD ?_); refine zC rfl ?_) | ((with_reducible refine zO ?_); refine zi tbOk rfl rfl rfl rfl (Nat.le_of_ble_eq_true rfl) ?_) | ((with_reducible refine yy ?_); refine yz rfl rfl rfl ?_)  | refine zH ?_ | refine zB rfl ?_ | with_reducible refine zE ?_ | with_reducible refine zF ?_ | ((with_reducible refine zA ?_ ?_); kernel_rfl))
    refine zj (dcheck_A N V d hG ok od) (by repeat' (first | exact trivial | exact Ren.v _ | exact Ren.sl _ _ | exact Ren.ep _ | exact Ren.ptr _ _ _ _ rfl | exact Ren.bs _ _ _ _ _ rfl | exact Ren.nil _ | exact Ren.own _ _ _ _ ⟨_, rfl⟩ | refine zP ?_ | refine zQ ?_ | refine zR ?_ | refine ⟨?_, ?_⟩)) (by repeat' (first | exact trivial | exact RenB.v _ | exact RenB.sl _ _ | exact RenB.ep _ | exact RenB.ptr _ _ _ _ rfl | refine zW ?_ | refine zV ?_ | refine ⟨?_, ?_⟩)) ?_
    repeat (first | ((with_reducible refine zJ ?_); refine zI rfl ?_) | ((with_reducible refine zD ?_); refine zC rfl ?_) | ((with_reducible refine zS ?_); refine zT rfl rfl rfl ?_)  | refine zH ?_ | refine zB rfl ?_ | with_reducible refine zE ?_ | with_reducible refine zF ?_ | ((with_reducible refine zA ?_ ?_); kernel_rfl))
    refine zZ rfl (fun h => ?_) (fun h => ?_)
    · repeat (first | ((with_reducible refine zJ ?_); refine zI rfl ?_) | ((with_reducible refine zD ?_); refine zC rfl ?_)  | refine zH ?_ | refine zB rfl ?_ | with_reducible refine zE ?_ | with_reducible refine zM ?_ | with_reducible refine zF ?_ | with_reducible refine zL ?_ | ((with_reducible refine zA ?_ ?_); kernel_rfl))
      refine jD (by first | exact .inr rfl | exact .inl rfl) rfl rfl rfl ?_
      repeat' (first | exact trivial | exact Ren.v _ | exact Ren.sl _ _ | exact Ren.ep _ | exact Ren.ptr _ _ _ _ rfl | exact Ren.bs _ _ _ _ _ rfl | exact Ren.nil _ | exact Ren.own _ _ _ _ ⟨_, rfl⟩ | refine zP ?_ | refine zQ ?_ | refine zR ?_ | refine ⟨?_, ?_⟩)
    · exact absurd (by simpa using h) hd0
  have e : jq N V d = (strL (yd (yx N V d)), 0) := by unfold jq; rw [if_neg hd0]
  have hd : DcOk N V d := docE_iff.1 (by simpa using hd0)
  have hk := hd.kind
  have hst := hd.st
  have hnum := hd.num
  have hrd := hd.rd
  have hsf := hd.safe
  have hsp := span_ok hd.span
  have hzo := zone_ok hd.zone
  have hlo := lks_ok hd.lk
  have hco := ces_ok hd.ce
  have hNl : N.length ≤ 32 := (net_len hd.net).1
  have hy1 : (qC.map svL)[d.kind.toNat]? = some (svL (wAt qC d.kind.toNat)) := jQ (by show d.kind.toNat < 4; omega)
  have hy2 : (jX.map svL)[d.st.toNat]? = some (svL (wAt jX d.st.toNat)) := jQ (by show d.st.toNat < 6; omega)
  have hh := jj (head_wd hd)
  have hzl := jj (zone_wd hd)
  have hhl : (qG d).length = 16 := rfl
  have hzll : (qI N d).length = d.zone.length + 1 := by unfold qI; simp
  have hfill := fill_J (G := G) [wAt qC d.kind.toNat, Lib.itoa d.num, wAt jX d.st.toNat, Lib.itoa d.rd, Lib.itoa d.safe, d.iss.data.toList, d.hol.data.toList, Lib.itoa d.f, Lib.itoa d.u] rfl (by rw [fill_head]; omega)
  rw [fill_head] at hfill
  obtain ⟨A, hA⟩ : ∃ A, A = yh (qG d) := ⟨_, rfl⟩
  obtain ⟨B, hB⟩ : ∃ B, B = yh (qI N d) := ⟨_, rfl⟩
  rw [← hA] at hfill
  rw [e]
  refine zf tbOk (zg Tryz.func18 (by kernel_rfl) rfl) Tryz.func18 rfl _ Tryz.ntmps18 (Nat.le_of_ble_eq_true rfl) fun X hX => ?_
  subst hX
  repeat (first | ((with_reducible refine zD ?_); refine zC rfl ?_) | ((with_reducible refine zO ?_); refine zi tbOk rfl rfl rfl rfl (Nat.le_of_ble_eq_true rfl) ?_) | ((with_reducible refine yy ?_); refine yz rfl rfl rfl ?_)  | refine zH ?_ | refine zB rfl ?_ | with_reducible refine zE ?_ | with_reducible refine zF ?_ | ((with_reducible refine zA ?_ ?_); kernel_rfl))
  refine zj (dcheck_A N V d hG ok od) (by repeat' (first | exact trivial | exact Ren.v _ | exact Ren.sl _ _ | exact Ren.ep _ | exact Ren.ptr _ _ _ _ rfl | exact Ren.bs _ _ _ _ _ rfl | exact Ren.nil _ | exact Ren.own _ _ _ _ ⟨_, rfl⟩ | refine zP ?_ | refine zQ ?_ | refine zR ?_ | refine ⟨?_, ?_⟩)) (by repeat' (first | exact trivial | exact RenB.v _ | exact RenB.sl _ _ | exact RenB.ep _ | exact RenB.ptr _ _ _ _ rfl | refine zW ?_ | refine zV ?_ | refine ⟨?_, ?_⟩)) ?_
  repeat (first | ((with_reducible refine zJ ?_); refine zI rfl ?_) | ((with_reducible refine zD ?_); refine zC rfl ?_) | ((with_reducible refine zS ?_); refine zT rfl rfl rfl ?_)  | refine zH ?_ | refine zB rfl ?_ | with_reducible refine zE ?_ | with_reducible refine zF ?_ | ((with_reducible refine zA ?_ ?_); kernel_rfl))
  refine zZ rfl (fun h => ?_) (fun h => ?_)
  · exact absurd (by simpa using h) hd0
  repeat (first   | refine zB rfl ?_ | with_reducible refine zE ?_ | with_reducible refine zF ?_ | with_reducible refine zU ?_ | ((with_reducible refine yW mixd ?_ ?_); kernel_rfl))
  refine x_call_ownW heading_W (by repeat' (first | exact trivial | exact Ren.v _ | exact Ren.sl _ _ | exact Ren.ep _ | exact Ren.ptr _ _ _ _ rfl | exact Ren.bs _ _ _ _ _ rfl | exact Ren.nil _ | exact Ren.own _ _ _ _ ⟨_, rfl⟩ | refine zP ?_ | refine zQ ?_ | refine zR ?_ | refine ⟨?_, ?_⟩)) rfl ?_
  repeat (first   | refine zB rfl ?_  )
  refine zj (kinds_A) (by repeat' (first | exact trivial | exact Ren.v _ | exact Ren.sl _ _ | exact Ren.ep _ | exact Ren.ptr _ _ _ _ rfl | exact Ren.bs _ _ _ _ _ rfl | exact Ren.nil _ | exact Ren.own _ _ _ _ ⟨_, rfl⟩ | refine zP ?_ | refine zQ ?_ | refine zR ?_ | refine ⟨?_, ?_⟩)) (by repeat' (first | exact trivial | exact RenB.v _ | exact RenB.sl _ _ | exact RenB.ep _ | exact RenB.ptr _ _ _ _ rfl | refine zW ?_ | refine zV ?_ | refine ⟨?_, ?_⟩)) ?_
  repeat (first | ((with_reducible refine zK ?_); refine zG tbOk rfl rfl rfl rfl ?_) | ((with_reducible refine zO ?_); refine zN tbOk rfl rfl rfl rfl rfl ?_) | ((with_reducible refine zO ?_); refine ze tbOk rfl rfl rfl ?_) | ((with_reducible refine zb ?_); refine yV tbOk rfl rfl rfl rfl (by omega) (by assumption) ?_)  | refine zB rfl ?_  )
  refine zj (text_A d.num hP (by omega) (by omega)) (by repeat' (first | exact trivial | exact Ren.v _ | exact Ren.sl _ _ | exact Ren.ep _ | exact Ren.ptr _ _ _ _ rfl | exact Ren.bs _ _ _ _ _ rfl | exact Ren.nil _ | exact Ren.own _ _ _ _ ⟨_, rfl⟩ | refine zP ?_ | refine zQ ?_ | refine zR ?_ | refine ⟨?_, ?_⟩)) (by repeat' (first | exact trivial | exact RenB.v _ | exact RenB.sl _ _ | exact RenB.ep _ | exact RenB.ptr _ _ _ _ rfl | refine zW ?_ | refine zV ?_ | refine ⟨?_, ?_⟩)) ?_
  repeat (first   | refine zB rfl ?_  )
  refine zj (states_A) (by repeat' (first | exact trivial | exact Ren.v _ | exact Ren.sl _ _ | exact Ren.ep _ | exact Ren.ptr _ _ _ _ rfl | exact Ren.bs _ _ _ _ _ rfl | exact Ren.nil _ | exact Ren.own _ _ _ _ ⟨_, rfl⟩ | refine zP ?_ | refine zQ ?_ | refine zR ?_ | refine ⟨?_, ?_⟩)) (by repeat' (first | exact trivial | exact RenB.v _ | exact RenB.sl _ _ | exact RenB.ep _ | exact RenB.ptr _ _ _ _ rfl | refine zW ?_ | refine zV ?_ | refine ⟨?_, ?_⟩)) ?_
  repeat (first | ((with_reducible refine zK ?_); refine zG tbOk rfl rfl rfl rfl ?_) | ((with_reducible refine zO ?_); refine zN tbOk rfl rfl rfl rfl rfl ?_) | ((with_reducible refine zO ?_); refine ze tbOk rfl rfl rfl ?_) | ((with_reducible refine zb ?_); refine yV tbOk rfl rfl rfl rfl (by omega) (by assumption) ?_)  | refine zB rfl ?_  )
  refine zj (text_A d.rd hP (by omega) (by omega)) (by repeat' (first | exact trivial | exact Ren.v _ | exact Ren.sl _ _ | exact Ren.ep _ | exact Ren.ptr _ _ _ _ rfl | exact Ren.bs _ _ _ _ _ rfl | exact Ren.nil _ | exact Ren.own _ _ _ _ ⟨_, rfl⟩ | refine zP ?_ | refine zQ ?_ | refine zR ?_ | refine ⟨?_, ?_⟩)) (by repeat' (first | exact trivial | exact RenB.v _ | exact RenB.sl _ _ | exact RenB.ep _ | exact RenB.ptr _ _ _ _ rfl | refine zW ?_ | refine zV ?_ | refine ⟨?_, ?_⟩)) ?_
  repeat (first | ((with_reducible refine zK ?_); refine zG tbOk rfl rfl rfl rfl ?_) | ((with_reducible refine zO ?_); refine zN tbOk rfl rfl rfl rfl rfl ?_)  | refine zB rfl ?_  )
  refine zj (text_A d.safe hP (by omega) (by omega)) (by repeat' (first | exact trivial | exact Ren.v _ | exact Ren.sl _ _ | exact Ren.ep _ | exact Ren.ptr _ _ _ _ rfl | exact Ren.bs _ _ _ _ _ rfl | exact Ren.nil _ | exact Ren.own _ _ _ _ ⟨_, rfl⟩ | refine zP ?_ | refine zQ ?_ | refine zR ?_ | refine ⟨?_, ?_⟩)) (by repeat' (first | exact trivial | exact RenB.v _ | exact RenB.sl _ _ | exact RenB.ep _ | exact RenB.ptr _ _ _ _ rfl | refine zW ?_ | refine zV ?_ | refine ⟨?_, ?_⟩)) ?_
  repeat (first | ((with_reducible refine zK ?_); refine zG tbOk rfl rfl rfl rfl ?_) | ((with_reducible refine zO ?_); refine zN tbOk rfl rfl rfl rfl rfl ?_)  | refine zB rfl ?_  )
  refine zj (text_A d.f hP (by omega) (by omega)) (by repeat' (first | exact trivial | exact Ren.v _ | exact Ren.sl _ _ | exact Ren.ep _ | exact Ren.ptr _ _ _ _ rfl | exact Ren.bs _ _ _ _ _ rfl | exact Ren.nil _ | exact Ren.own _ _ _ _ ⟨_, rfl⟩ | refine zP ?_ | refine zQ ?_ | refine zR ?_ | refine ⟨?_, ?_⟩)) (by repeat' (first | exact trivial | exact RenB.v _ | exact RenB.sl _ _ | exact RenB.ep _ | exact RenB.ptr _ _ _ _ rfl | refine zW ?_ | refine zV ?_ | refine ⟨?_, ?_⟩)) ?_
  repeat (first | ((with_reducible refine zK ?_); refine zG tbOk rfl rfl rfl rfl ?_) | ((with_reducible refine zO ?_); refine zN tbOk rfl rfl rfl rfl rfl ?_)  | refine zB rfl ?_  )
  refine zj (text_A d.u hP (by omega) (by omega)) (by repeat' (first | exact trivial | exact Ren.v _ | exact Ren.sl _ _ | exact Ren.ep _ | exact Ren.ptr _ _ _ _ rfl | exact Ren.bs _ _ _ _ _ rfl | exact Ren.nil _ | exact Ren.own _ _ _ _ ⟨_, rfl⟩ | refine zP ?_ | refine zQ ?_ | refine zR ?_ | refine ⟨?_, ?_⟩)) (by repeat' (first | exact trivial | exact RenB.v _ | exact RenB.sl _ _ | exact RenB.ep _ | exact RenB.ptr _ _ _ _ rfl | refine zW ?_ | refine zV ?_ | refine ⟨?_, ?_⟩)) ?_
  repeat (first  | ((with_reducible refine zo ?_); refine zt tbOk rfl rfl rfl rfl rfl (by omega) rfl rfl rfl ?_) | refine zB rfl ?_  )
  refine x_callJ (ss := [(21, 1)]) (ss' := [(21, 2)]) (cs' := [.buf 9 1 []]) (y := svL A) hfill (by repeat' (first | exact trivial | exact Ren.v _ | exact Ren.sl _ _ | exact Ren.ep _ | exact Ren.ptr _ _ _ _ rfl | exact Ren.ownr _ _ _ rfl | exact Ren.bs _ _ _ _ _ rfl | refine zP ?_ | refine zQ ?_ | refine zR ?_ | refine ⟨?_, ?_⟩)) (by simp) ⟨rfl, trivial⟩ ⟨⟨⟨rfl, rfl⟩, rfl⟩, trivial⟩ (by repeat' (first | exact trivial | exact RenB.v _ | exact RenB.sl _ _ | exact RenB.ep _ | exact RenB.ptr _ _ _ _ rfl | exact RenB.own _ _ _ rfl | refine zW ?_ | refine zV ?_ | refine ⟨?_, ?_⟩)) ?_
  repeat (first  | refine zB rfl ?_  )
  with_reducible refine zo ?_
  refine jA tbOk rfl rfl rfl rfl rfl (by omega) rfl rfl rfl rfl ?_
  repeat (first | ((with_reducible refine zD ?_); refine zC rfl ?_) | refine yg (by kernel_rfl) ?_ | refine zB rfl ?_ | with_reducible refine zE ?_ | with_reducible refine zF ?_ | ((with_reducible refine zA ?_ ?_); kernel_rfl))
  with_reducible refine zo ?_
  refine jA tbOk rfl rfl rfl rfl rfl (by omega) rfl rfl rfl rfl ?_
  repeat (first | ((with_reducible refine zD ?_); refine zC rfl ?_)  | refine zH ?_ | refine zB rfl ?_ | with_reducible refine zE ?_ | with_reducible refine zF ?_)
  refine awp_reown_at (s := 56) (d := 72) [(8, .own 72 1)] [] rfl rfl (by decide) ⟨.inl (.inr ⟨rfl, rfl⟩), trivial⟩ trivial ?_
  repeat (first | ((with_reducible refine zJ ?_); refine zI rfl ?_) | ((with_reducible refine zK ?_); refine zG tbOk rfl rfl rfl rfl ?_) | ((with_reducible refine zO ?_); refine zN tbOk rfl rfl rfl rfl rfl ?_) | ((with_reducible refine yA ?_); refine yP tbOk rfl rfl ?_)  | refine zH ?_ | refine zB rfl ?_ | with_reducible refine zE ?_ | with_reducible refine zY ?_ | ((with_reducible refine zA ?_ ?_); kernel_rfl))
  refine yN (ι := Nat) (fun k => k ≤ d.zone.length) (fun k => d.zone.length - k) (fun v k => [(2, .ptr 2 (v 2) 0), (3, .ptr 3 (v 3) 0), (7, .own 55 (v 55)), (8, .own 72 (v 72)), (58, .sl 1 (d.zone.map iv)), (59, .v (.int .i64 (d.zone.map iv).length)), (60, .v (.int .i64 (k : Nat)))]) (fun v k => [(2, .box [.sl 3 (N.map Nd.av), .sl 5 (V.map Dv.av)]), (3, .box d.cells), (55, .buf 9 1 ([A].map svL)), (72, .buf 9 1 ((zoneL :: (d.zone.take k).map (nodN N)).map svL))]) ?_ ?_
  · exact ⟨0, Nat.zero_le _, trivial, ⟨rfl, rfl, rfl, rfl, rfl, rfl, rfl, trivial⟩, ⟨rfl, rfl, rfl, rfl, trivial⟩⟩
  rintro v k hkz
  repeat (first | ((with_reducible refine zS ?_); refine zT rfl rfl rfl ?_)  | refine zH ?_ | refine zB rfl ?_ | with_reducible refine zE ?_ | with_reducible refine zF ?_ | ((with_reducible refine zA ?_ ?_); kernel_rfl))
  refine zZ rfl (fun h => ?_) (fun h => ?_)
  · have hlt : k < d.zone.length := by simpa using h
    obtain ⟨z, hz⟩ := zc hlt
    have hy := iv_at hz
    obtain ⟨hz0, hz1⟩ := hzo.2.1 z (List.mem_of_getElem? hz)
    obtain ⟨x, hx, hxe⟩ := nodN_at ⟨hz0, hz1⟩
    have hyn := nd_at' hx
    repeat (first | ((with_reducible refine zJ ?_); refine zI rfl ?_) | ((with_reducible refine zD ?_); refine zC rfl ?_) | ((with_reducible refine zK ?_); refine zG tbOk rfl rfl rfl rfl ?_) | ((with_reducible refine zK ?_); refine yQ tbOk rfl rfl rfl rfl ?_) | ((with_reducible refine zO ?_); refine zN tbOk rfl rfl rfl rfl rfl ?_) | ((with_reducible refine zO ?_); refine ze tbOk rfl rfl rfl ?_) | ((with_reducible refine zb ?_); refine zd tbOk rfl rfl rfl rfl (by assumption) ?_) | ((with_reducible refine zb ?_); refine yV tbOk rfl rfl rfl rfl (by omega) (by assumption) ?_) | ((with_reducible refine zo ?_); refine zt tbOk rfl rfl rfl rfl rfl (by omega) rfl rfl rfl ?_) | refine zH ?_ | refine zB rfl ?_ | with_reducible refine zE ?_ | with_reducible refine zF ?_ | with_reducible refine zY ?_ | with_reducible refine zU ?_ | ((with_reducible refine zA ?_ ?_); kernel_rfl))
    refine yJ tbOk rfl rfl rfl rfl rfl (by decide) rfl rfl rfl rfl rfl (fun x hx => by simp at hx; subst hx; rfl) (by simp only [List.length_map, List.length_cons, List.length_nil, List.length_append, List.length_take]; omega) (by simp only [List.length_map, List.length_cons, List.length_nil, List.length_append, List.length_take]; omega) ?_
    repeat (first | ((with_reducible refine zJ ?_); refine zI rfl ?_) | ((with_reducible refine zD ?_); refine zC rfl ?_) | ((with_reducible refine zS ?_); refine zl rfl rfl (by omega) ?_)  | refine zH ?_ | refine zB rfl ?_ | with_reducible refine zE ?_ | with_reducible refine zq ?_ | ((with_reducible refine zA ?_ ?_); kernel_rfl))
    exact ⟨k + 1, by omega, by omega, ⟨rfl, rfl, rfl, rfl, rfl, rfl, rfl, trivial⟩, ⟨rfl, rfl, rfl, hc_buf (by rw [ja hz, List.map_append, ← List.cons_append, List.map_append]; show _ ++ [AV.v (.string x.n)] = _ ++ [svL (nodN N z)]; rw [hxe]; rfl), trivial⟩⟩
  have hge : k = d.zone.length := by simp at h; omega
  subst hge
  rw [List.take_length]
  have ez : zoneL :: d.zone.map (nodN N) = qI N d := rfl
  rw [ez]
  repeat (first   | with_reducible refine zE ?_ | with_reducible refine zm ?_ | with_reducible refine zF ?_ | with_reducible refine yB ?_ | ((with_reducible refine zh ?_ ?_); rfl))
  refine yU (s := 72) [(8, .sl 1 ((qI N d).map svL))] [] rfl ⟨.inl (.inr ⟨rfl, rfl⟩), trivial⟩ trivial ?_
  have hjz := jn_A (G := X.G) (qI N d) (by omega) (by omega)
  rw [← hB] at hjz
  repeat (first | ((with_reducible refine zJ ?_); refine zI rfl ?_)  | refine zB rfl ?_  | ((with_reducible refine zA ?_ ?_); kernel_rfl))
  refine zj (hjz) (by repeat' (first | exact trivial | exact Ren.v _ | exact Ren.sl _ _ | exact Ren.ep _ | exact Ren.ptr _ _ _ _ rfl | exact Ren.bs _ _ _ _ _ rfl | exact Ren.nil _ | exact Ren.own _ _ _ _ ⟨_, rfl⟩ | refine zP ?_ | refine zQ ?_ | refine zR ?_ | refine ⟨?_, ?_⟩)) (by repeat' (first | exact trivial | exact RenB.v _ | exact RenB.sl _ _ | exact RenB.ep _ | exact RenB.ptr _ _ _ _ rfl | refine zW ?_ | refine zV ?_ | refine ⟨?_, ?_⟩)) ?_
  repeat (first  | ((with_reducible refine zo ?_); refine zt tbOk rfl rfl rfl rfl rfl (by omega) rfl rfl rfl ?_) | refine zB rfl ?_  )
  refine yJ tbOk rfl rfl rfl rfl rfl (by decide) rfl rfl rfl rfl rfl (fun x hx => by simp at hx; subst hx; rfl) (by simp only [List.length_map, List.length_cons, List.length_nil, List.length_append, List.length_take]; omega) (by simp only [List.length_map, List.length_cons, List.length_nil, List.length_append, List.length_take]; omega) ?_
  repeat (first | ((with_reducible refine zD ?_); refine zC rfl ?_)  | refine zH ?_ | refine zB rfl ?_ | with_reducible refine zE ?_ | with_reducible refine zF ?_)
  refine awp_reown_at (s := 78) (d := 105) [(7, .own 105 (v 105 + 1))] [] rfl rfl (by decide) ⟨.inl (.inr ⟨rfl, rfl⟩), trivial⟩ trivial ?_
  repeat (first | ((with_reducible refine zJ ?_); refine zI rfl ?_) | ((with_reducible refine zK ?_); refine zG tbOk rfl rfl rfl rfl ?_) | ((with_reducible refine zO ?_); refine zN tbOk rfl rfl rfl rfl rfl ?_) | ((with_reducible refine yA ?_); refine yP tbOk rfl rfl ?_)  | refine zH ?_ | refine zB rfl ?_ | with_reducible refine zE ?_ | with_reducible refine zY ?_ | ((with_reducible refine zA ?_ ?_); kernel_rfl))
  refine yN (ι := Nat) (fun k => k ≤ d.lk.length) (fun k => d.lk.length - k) (fun v k => [(2, .ptr 2 (v 2) 0), (3, .ptr 3 (v 3) 0), (7, .own 105 (v 105)), (80, .sl 3 (d.lk.map Lk.av)), (81, .v (.int .i64 (d.lk.map Lk.av).length)), (82, .v (.int .i64 (k : Nat)))]) (fun v k => [(2, .box [.sl 3 (N.map Nd.av), .sl 5 (V.map Dv.av)]), (3, .box d.cells), (105, .buf 9 1 ((A :: B :: (d.lk.take k).map (fun k => yh (jd V k))).map svL))]) ?_ ?_
  · exact ⟨0, Nat.zero_le _, trivial, ⟨rfl, rfl, rfl, rfl, rfl, rfl, trivial⟩, ⟨rfl, rfl, rfl, trivial⟩⟩
  clear h v
  rintro v k hkl
  repeat (first | ((with_reducible refine zS ?_); refine zT rfl rfl rfl ?_)  | refine zH ?_ | refine zB rfl ?_ | with_reducible refine zE ?_ | with_reducible refine zF ?_ | ((with_reducible refine zA ?_ ?_); kernel_rfl))
  refine zZ rfl (fun h => ?_) (fun h => ?_)
  · have hlt : k < d.lk.length := by simpa using h
    obtain ⟨q, hq⟩ := zc hlt
    have hy := lk_at' hq
    have hqm := List.mem_of_getElem? hq
    obtain ⟨q1, q2, q3, q4⟩ := hlo.2 q hqm
    obtain ⟨x, hx, hxe⟩ := devN_at q1
    have hyn := dv_at' hx
    have hyp : (posL.map svL)[q.p.toNat]? = some (svL (wAt posL q.p.toNat)) := jQ (by show q.p.toNat < 3; omega)
    have hwl := jj (lock_wd hd hqm)
    have hwl5 : (jd V q).length = 5 := rfl
    have hjl := jn_A (G := X.G) (jd V q) (by omega) (by omega)
    have e5 : (jd V q).map svL = [.v (.string ⟨#[108, 111, 99, 107]⟩), .v (.string x.n), svL (wAt posL q.p.toNat), .v (.string ⟨#[107, 101, 121]⟩), .v (.string (txtP q.k))] := by unfold jd; rw [hxe]; rfl
    rw [e5] at hjl
    repeat (first | ((with_reducible refine zJ ?_); refine zI rfl ?_) | ((with_reducible refine zK ?_); refine zG tbOk rfl rfl rfl rfl ?_) | ((with_reducible refine zK ?_); refine yQ tbOk rfl rfl rfl rfl ?_) | ((with_reducible refine zO ?_); refine zN tbOk rfl rfl rfl rfl rfl ?_) | ((with_reducible refine zO ?_); refine ze tbOk rfl rfl rfl ?_) | ((with_reducible refine zO ?_); refine yR tbOk rfl rfl (Nat.le_of_ble_eq_true rfl) ?_) | ((with_reducible refine zu ?_); refine zx tbOk rfl rfl rfl rfl rfl rfl rfl (Nat.le_of_ble_eq_true rfl) rfl ?_) | ((with_reducible refine yb ?_); refine ya tbOk rfl rfl ?_) | ((with_reducible refine zb ?_); refine zd tbOk rfl rfl rfl rfl (by assumption) ?_) | ((with_reducible refine zb ?_); refine yV tbOk rfl rfl rfl rfl (by omega) (by assumption) ?_)  | refine zH ?_ | refine zB rfl ?_ | with_reducible refine zE ?_ | with_reducible refine zF ?_ | with_reducible refine zY ?_ | with_reducible refine zU ?_ | ((with_reducible refine zA ?_ ?_); kernel_rfl) | ((with_reducible refine yW mixd ?_ ?_); kernel_rfl))
    refine zj (poss_A) (by repeat' (first | exact trivial | exact Ren.v _ | exact Ren.sl _ _ | exact Ren.ep _ | exact Ren.ptr _ _ _ _ rfl | exact Ren.bs _ _ _ _ _ rfl | exact Ren.nil _ | exact Ren.own _ _ _ _ ⟨_, rfl⟩ | refine zP ?_ | refine zQ ?_ | refine zR ?_ | refine ⟨?_, ?_⟩)) (by repeat' (first | exact trivial | exact RenB.v _ | exact RenB.sl _ _ | exact RenB.ep _ | exact RenB.ptr _ _ _ _ rfl | refine zW ?_ | refine zV ?_ | refine ⟨?_, ?_⟩)) ?_
    repeat (first | ((with_reducible refine zK ?_); refine zG tbOk rfl rfl rfl rfl ?_) | ((with_reducible refine zO ?_); refine zN tbOk rfl rfl rfl rfl rfl ?_) | ((with_reducible refine zO ?_); refine ze tbOk rfl rfl rfl ?_) | ((with_reducible refine zb ?_); refine yV tbOk rfl rfl rfl rfl (by omega) (by assumption) ?_)  | refine zB rfl ?_  )
    refine zj (text_A q.k hP (by omega) (by omega)) (by repeat' (first | exact trivial | exact Ren.v _ | exact Ren.sl _ _ | exact Ren.ep _ | exact Ren.ptr _ _ _ _ rfl | exact Ren.bs _ _ _ _ _ rfl | exact Ren.nil _ | exact Ren.own _ _ _ _ ⟨_, rfl⟩ | refine zP ?_ | refine zQ ?_ | refine zR ?_ | refine ⟨?_, ?_⟩)) (by repeat' (first | exact trivial | exact RenB.v _ | exact RenB.sl _ _ | exact RenB.ep _ | exact RenB.ptr _ _ _ _ rfl | refine zW ?_ | refine zV ?_ | refine ⟨?_, ?_⟩)) ?_
    repeat (first  | ((with_reducible refine zo ?_); refine zt tbOk rfl rfl rfl rfl rfl (by omega) rfl rfl rfl ?_) | refine zB rfl ?_  )
    refine zj (hjl) (by repeat' (first | exact trivial | exact Ren.v _ | exact Ren.sl _ _ | exact Ren.ep _ | exact Ren.ptr _ _ _ _ rfl | exact Ren.bs _ _ _ _ _ rfl | exact Ren.nil _ | exact Ren.own _ _ _ _ ⟨_, rfl⟩ | refine zP ?_ | refine zQ ?_ | refine zR ?_ | refine ⟨?_, ?_⟩)) (by repeat' (first | exact trivial | exact RenB.v _ | exact RenB.sl _ _ | exact RenB.ep _ | exact RenB.ptr _ _ _ _ rfl | refine zW ?_ | refine zV ?_ | refine ⟨?_, ?_⟩)) ?_
    repeat (first  | ((with_reducible refine zo ?_); refine zt tbOk rfl rfl rfl rfl rfl (by omega) rfl rfl rfl ?_) | refine zB rfl ?_  )
    refine yJ tbOk rfl rfl rfl rfl rfl (by decide) rfl rfl rfl rfl rfl (fun x hx => by simp at hx; subst hx; rfl) (by simp only [List.length_map, List.length_cons, List.length_nil, List.length_append, List.length_take]; omega) (by simp only [List.length_map, List.length_cons, List.length_nil, List.length_append, List.length_take]; omega) ?_
    repeat (first | ((with_reducible refine zJ ?_); refine zI rfl ?_) | ((with_reducible refine zD ?_); refine zC rfl ?_) | ((with_reducible refine zS ?_); refine zl rfl rfl (by omega) ?_)  | refine zH ?_ | refine yg (by kernel_rfl) ?_ | refine zB rfl ?_ | with_reducible refine zE ?_ | with_reducible refine zq ?_ | ((with_reducible refine zA ?_ ?_); kernel_rfl))
    exact ⟨k + 1, by omega, by omega, ⟨rfl, rfl, rfl, rfl, rfl, rfl, trivial⟩, ⟨rfl, rfl, hc_buf (by rw [ja hq, List.map_append, ← List.cons_append, ← List.cons_append, List.map_append]; rfl), trivial⟩⟩
  have hge : k = d.lk.length := by simp at h; omega
  subst hge
  rw [List.take_length]
  obtain ⟨K, hK⟩ : ∃ K, K = A :: B :: d.lk.map (fun k => yh (jd V k)) := ⟨_, rfl⟩
  have hKl : K.length = 2 + d.lk.length := by rw [hK]; simp; omega
  rw [← hK]
  repeat (first   | with_reducible refine zE ?_ | with_reducible refine zm ?_ | with_reducible refine zF ?_ | with_reducible refine yB ?_ | ((with_reducible refine zh ?_ ?_); rfl))
  refine awp_reown_at (s := 105) (d := 120) [(7, .own 120 (v 120 + 1))] [] rfl rfl (by decide) ⟨.inl (.inr ⟨rfl, rfl⟩), trivial⟩ trivial ?_
  repeat (first | ((with_reducible refine zJ ?_); refine zI rfl ?_) | ((with_reducible refine zK ?_); refine zG tbOk rfl rfl rfl rfl ?_) | ((with_reducible refine zO ?_); refine zN tbOk rfl rfl rfl rfl rfl ?_) | ((with_reducible refine yA ?_); refine yP tbOk rfl rfl ?_)  | refine zH ?_ | refine zB rfl ?_ | with_reducible refine zE ?_ | with_reducible refine zY ?_ | ((with_reducible refine zA ?_ ?_); kernel_rfl))
  refine yN (ι := Nat) (fun k => k ≤ d.ce.length) (fun k => d.ce.length - k) (fun v k => [(2, .ptr 2 (v 2) 0), (3, .ptr 3 (v 3) 0), (7, .own 120 (v 120)), (108, .sl 1 (d.ce.map iv)), (109, .v (.int .i64 (d.ce.map iv).length)), (110, .v (.int .i64 (k : Nat)))]) (fun v k => [(2, .box [.sl 3 (N.map Nd.av), .sl 5 (V.map Dv.av)]), (3, .box d.cells), (120, .buf 9 1 ((K ++ (d.ce.take k).map (fun c => yh (qe c))).map svL))]) ?_ ?_
  · exact ⟨0, Nat.zero_le _, trivial, ⟨rfl, rfl, rfl, rfl, rfl, rfl, trivial⟩, ⟨rfl, rfl, hc_buf (by rw [List.take_zero, List.map_nil, List.append_nil]), trivial⟩⟩
  clear h v
  rintro v k hkc
  repeat (first | ((with_reducible refine zS ?_); refine zT rfl rfl rfl ?_)  | refine zH ?_ | refine zB rfl ?_ | with_reducible refine zE ?_ | with_reducible refine zF ?_ | ((with_reducible refine zA ?_ ?_); kernel_rfl))
  refine zZ rfl (fun h => ?_) (fun h => ?_)
  · have hlt : k < d.ce.length := by simpa using h
    obtain ⟨c, hc⟩ := zc hlt
    have hy := iv_at hc
    have hcm := List.mem_of_getElem? hc
    have hc1 := hco.2 c hcm
    have hwl := jj (cert_wd hd hcm)
    have hwl2 : (qe c).length = 2 := rfl
    have hjl := jn_A (G := X.G) (qe c) (by omega) (by omega)
    repeat (first | ((with_reducible refine zJ ?_); refine zI rfl ?_) | ((with_reducible refine zD ?_); refine zC rfl ?_) | ((with_reducible refine zO ?_); refine ze tbOk rfl rfl rfl ?_) | ((with_reducible refine zb ?_); refine zd tbOk rfl rfl rfl rfl (by assumption) ?_)  | refine zH ?_ | refine zB rfl ?_ | with_reducible refine zE ?_ | with_reducible refine zF ?_ | with_reducible refine zY ?_ | with_reducible refine zU ?_ | ((with_reducible refine zA ?_ ?_); kernel_rfl))
    refine zj (text_A c hP (by omega) (by omega)) (by repeat' (first | exact trivial | exact Ren.v _ | exact Ren.sl _ _ | exact Ren.ep _ | exact Ren.ptr _ _ _ _ rfl | exact Ren.bs _ _ _ _ _ rfl | exact Ren.nil _ | exact Ren.own _ _ _ _ ⟨_, rfl⟩ | refine zP ?_ | refine zQ ?_ | refine zR ?_ | refine ⟨?_, ?_⟩)) (by repeat' (first | exact trivial | exact RenB.v _ | exact RenB.sl _ _ | exact RenB.ep _ | exact RenB.ptr _ _ _ _ rfl | refine zW ?_ | refine zV ?_ | refine ⟨?_, ?_⟩)) ?_
    repeat (first  | ((with_reducible refine zo ?_); refine zt tbOk rfl rfl rfl rfl rfl (by omega) rfl rfl rfl ?_) | refine zB rfl ?_  )
    refine zj (hjl) (by repeat' (first | exact trivial | exact Ren.v _ | exact Ren.sl _ _ | exact Ren.ep _ | exact Ren.ptr _ _ _ _ rfl | exact Ren.bs _ _ _ _ _ rfl | exact Ren.nil _ | exact Ren.own _ _ _ _ ⟨_, rfl⟩ | refine zP ?_ | refine zQ ?_ | refine zR ?_ | refine ⟨?_, ?_⟩)) (by repeat' (first | exact trivial | exact RenB.v _ | exact RenB.sl _ _ | exact RenB.ep _ | exact RenB.ptr _ _ _ _ rfl | refine zW ?_ | refine zV ?_ | refine ⟨?_, ?_⟩)) ?_
    repeat (first  | ((with_reducible refine zo ?_); refine zt tbOk rfl rfl rfl rfl rfl (by omega) rfl rfl rfl ?_) | refine zB rfl ?_  )
    refine yJ tbOk rfl rfl rfl rfl rfl (by decide) rfl rfl rfl rfl rfl (fun x hx => by simp at hx; subst hx; rfl) (by simp only [List.length_map, List.length_cons, List.length_nil, List.length_append, List.length_take]; omega) (by simp only [List.length_map, List.length_cons, List.length_nil, List.length_append, List.length_take]; omega) ?_
    repeat (first | ((with_reducible refine zJ ?_); refine zI rfl ?_) | ((with_reducible refine zD ?_); refine zC rfl ?_) | ((with_reducible refine zS ?_); refine zl rfl rfl (by omega) ?_)  | refine zH ?_ | refine zB rfl ?_ | with_reducible refine zE ?_ | with_reducible refine zq ?_ | ((with_reducible refine zA ?_ ?_); kernel_rfl))
    exact ⟨k + 1, by omega, by omega, ⟨rfl, rfl, rfl, rfl, rfl, rfl, trivial⟩, ⟨rfl, rfl, hc_buf (by rw [ja hc]; simp [svL]), trivial⟩⟩
  have hge : k = d.ce.length := by simp at h; omega
  subst hge
  rw [List.take_length]
  have eL : K ++ d.ce.map (fun c => yh (qe c)) = yx N V d := by rw [hK, hA, hB]; rfl
  rw [eL]
  have hlL : (yx N V d).length ≤ 1000 := by rw [← eL, List.length_append, List.length_map, hKl]; omega
  have htl := text_lenD hd
  have hjt := join10_len (yx N V d)
  repeat (first   | with_reducible refine zE ?_ | with_reducible refine zm ?_ | with_reducible refine zF ?_ | with_reducible refine yB ?_ | ((with_reducible refine zh ?_ ?_); rfl))
  refine yU (s := 120) [(7, .sl 1 ((yx N V d).map svL))] [] rfl ⟨.inl (.inr ⟨rfl, rfl⟩), trivial⟩ trivial ?_
  repeat (first | ((with_reducible refine zJ ?_); refine zI rfl ?_)  | refine zB rfl ?_  | ((with_reducible refine zA ?_ ?_); kernel_rfl))
  refine zj (join_A (yx N V d) 10 (by omega) (by omega)) (by repeat' (first | exact trivial | exact Ren.v _ | exact Ren.sl _ _ | exact Ren.ep _ | exact Ren.ptr _ _ _ _ rfl | exact Ren.bs _ _ _ _ _ rfl | exact Ren.nil _ | exact Ren.own _ _ _ _ ⟨_, rfl⟩ | refine zP ?_ | refine zQ ?_ | refine zR ?_ | refine ⟨?_, ?_⟩)) (by repeat' (first | exact trivial | exact RenB.v _ | exact RenB.sl _ _ | exact RenB.ep _ | exact RenB.ptr _ _ _ _ rfl | refine zW ?_ | refine zV ?_ | refine ⟨?_, ?_⟩)) ?_
  repeat (first   | refine zB rfl ?_  )
  with_reducible refine zS ?_
  refine x_add_s rfl rfl (by rw [yu]; show _ + 1 ≤ _; omega) ?_
  repeat (first | ((with_reducible refine zD ?_); refine zC rfl ?_)  | refine zH ?_ | refine zB rfl ?_ | with_reducible refine zE ?_ | with_reducible refine zL ?_ )
  refine jD (by first | exact .inr rfl | exact .inl rfl) rfl rfl rfl ?_
  have ej : strL (Lib.join (yx N V d) [10]) ++ (⟨#[10]⟩ : ByteArray) = strL (yd (yx N V d)) := by
    rw [← join10 _ (by unfold yx; simp), ← str_app]; rfl
  rw [ej]
  repeat' (first | exact trivial | exact Ren.v _ | exact Ren.sl _ _ | exact Ren.ep _ | exact Ren.ptr _ _ _ _ rfl | exact Ren.bs _ _ _ _ _ rfl | exact Ren.nil _ | exact Ren.own _ _ _ _ ⟨_, rfl⟩ | refine zP ?_ | refine zQ ?_ | refine zR ?_ | refine ⟨?_, ?_⟩)
end Go.Proofs.YtjamibeffalhaaaGreatDoor
