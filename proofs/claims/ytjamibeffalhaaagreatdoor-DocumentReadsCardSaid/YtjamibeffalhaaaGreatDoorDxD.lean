/- document: number, index, and the reader's first, zone, lock, certificate and line, by the abstract machine; conditions: the table of classes stands / Own rows in a box that was handed over: nil becomes own, own becomes frozen, own moves to another site; conditions: none / document: the reader's zone, lock, certificate and line, by the abstract machine; conditions: the table of classes stands. -/
import Derived.Test.YtjamibeffalhaaaGreatDoorDxB
import Derived.Test.YtjamibeffalhaaaGreatDoorAbsJ
set_option linter.unusedVariables false
set_option linter.unusedSimpArgs false
namespace Go.Proofs.YtjamibeffalhaaaGreatDoor
open Go Go.RowKit
set_option maxRecDepth 10000
variable {G : Nat → Option (List Value)}
theorem qg (w : List UInt8) (e0 : Int) (hw : w.length ≤ 1000000) : zz Tryz.prog G 108 [svL w, .ptr (refB + 0) 0 0] [[.v (.int .i64 e0)]] (.v (.int .i64 ((numT w).getD 0))) [[.v (.int .i64 (okN (numT w) e0))]] := by
  have hn := number_A (G := G) (strL w) 16777216 (by rw [zy]; unfold maxLen; omega) (by omega) (by omega)
  rw [yy] at hn
  unfold numT okN
  obtain ⟨q, hq⟩ : ∃ q, q = numP w 16777216 := ⟨_, rfl⟩
  rw [← hq] at hn ⊢
  cases q with
  | none =>
    refine zb tbOk (zc Tryz.func108 (by kernel_rfl) rfl) Tryz.func108 rfl _ Tryz.ntmps108 (Nat.le_of_ble_eq_true rfl) fun X hX => ?_
    subst hX
    repeat (first | ((with_reducible refine zK ?_); refine zJ rfl ?_) | ((with_reducible refine zE ?_); refine zF rfl ?_)  | refine zL ?_ | refine zB rfl ?_ | with_reducible (first | refine zG ?_ | refine zH ?_) | ((with_reducible refine zA ?_ ?_); kernel_rfl))
    refine zC (hn) ?_
    repeat (first | ((with_reducible refine zK ?_); refine zJ rfl ?_) | ((with_reducible refine zE ?_); refine zF rfl ?_) | ((with_reducible refine zp ?_); refine zq tbOk rfl rfl rfl rfl rfl rfl rfl (Nat.le_of_ble_eq_true rfl) rfl ?_) | ((with_reducible refine k_un ?_); refine jF rfl ?_) | ((with_reducible refine ye ?_); refine yd rfl rfl ?_) | ((with_reducible refine yb ?_); refine yJ rfl ?_)  | refine zL ?_ | refine zB rfl ?_ | with_reducible (first | refine zG ?_ | refine zH ?_ | refine zN ?_) | ((with_reducible refine zA ?_ ?_); kernel_rfl) | refine zn rfl (by first | rfl | assumption) ?_)
    refine jG (by first | exact .inr rfl | exact .inl rfl) rfl rfl rfl (by first | rfl | assumption) ?_ ?_ (by repeat' (first | exact trivial | exact Ren.v _ | exact Ren.sl _ _ | exact Ren.ep _ | exact Ren.ptr _ _ _ _ rfl | exact Ren.bs _ _ _ _ _ rfl | exact Ren.nil _ | exact Ren.own _ _ _ _ ⟨_, rfl⟩ | refine zi ?_ | refine zj ?_ | refine zl ?_ | refine ⟨?_, ?_⟩)) <;> rfl
  | some y =>
    refine zb tbOk (zc Tryz.func108 (by kernel_rfl) rfl) Tryz.func108 rfl _ Tryz.ntmps108 (Nat.le_of_ble_eq_true rfl) fun X hX => ?_
    subst hX
    repeat (first | ((with_reducible refine zK ?_); refine zJ rfl ?_) | ((with_reducible refine zE ?_); refine zF rfl ?_)  | refine zL ?_ | refine zB rfl ?_ | with_reducible (first | refine zG ?_ | refine zH ?_) | ((with_reducible refine zA ?_ ?_); kernel_rfl))
    refine zC (hn) ?_
    repeat (first | ((with_reducible refine zK ?_); refine zJ rfl ?_) | ((with_reducible refine zE ?_); refine zF rfl ?_) | ((with_reducible refine k_un ?_); refine jF rfl ?_) | ((with_reducible refine ye ?_); refine yd rfl rfl ?_)  | refine zL ?_ | refine zB rfl ?_ | with_reducible (first | refine zG ?_ | refine zH ?_ | refine zS ?_ | refine zN ?_) | ((with_reducible refine zA ?_ ?_); kernel_rfl) | refine yF rfl (by first | rfl | assumption) ?_)
    refine jG (by first | exact .inr rfl | exact .inl rfl) rfl rfl rfl (by first | rfl | assumption) ?_ ?_ (by repeat' (first | exact trivial | exact Ren.v _ | exact Ren.sl _ _ | exact Ren.ep _ | exact Ren.ptr _ _ _ _ rfl | exact Ren.bs _ _ _ _ _ rfl | exact Ren.nil _ | exact Ren.own _ _ _ _ ⟨_, rfl⟩ | refine zi ?_ | refine zj ?_ | refine zl ?_ | refine ⟨?_, ?_⟩)) <;> rfl
theorem iY (L : List (List UInt8)) (w : List UInt8) (e0 : Int) (hl : L.length ≤ 1000000) : zz Tryz.prog G 107 [.sl 1 (L.map svL), svL w, .ptr (refB + 0) 0 0] [[.v (.int .i64 e0)]] (.v (.int .i64 (idxL w 0 L))) [[.v (.int .i64 (okI (idxL w 0 L) e0))]] := by
  unfold okI
  refine zb tbOk (zc Tryz.func107 (by kernel_rfl) rfl) Tryz.func107 rfl _ Tryz.ntmps107 (Nat.le_of_ble_eq_true rfl) fun X hX => ?_
  subst hX
  repeat (first | ((with_reducible refine zK ?_); refine zJ rfl ?_) | ((with_reducible refine zE ?_); refine zF rfl ?_)  | refine zL ?_ | refine zB rfl ?_ | with_reducible (first | refine zG ?_ | refine zH ?_) | ((with_reducible refine zA ?_ ?_); kernel_rfl))
  refine zC (sidx_A L w hl) ?_
  repeat (first | ((with_reducible refine zK ?_); refine zJ rfl ?_) | ((with_reducible refine zE ?_); refine zF rfl ?_) | ((with_reducible refine zQ ?_); refine zT rfl rfl rfl ?_)  | refine zL ?_ | refine zB rfl ?_ | with_reducible (first | refine zG ?_ | refine zH ?_) | ((with_reducible refine zA ?_ ?_); kernel_rfl))
  refine zZ rfl (fun h => ?_) (fun h => ?_)
  · rw [if_pos (by simpa using h)]
    repeat (first | ((with_reducible refine zK ?_); refine zJ rfl ?_) | ((with_reducible refine zE ?_); refine zF rfl ?_) | ((with_reducible refine zp ?_); refine zq tbOk rfl rfl rfl rfl rfl rfl rfl (Nat.le_of_ble_eq_true rfl) rfl ?_) | ((with_reducible refine yb ?_); refine yJ rfl ?_)  | refine zL ?_ | refine zB rfl ?_ | with_reducible (first | refine zG ?_ | refine zH ?_ | refine zN ?_) | ((with_reducible refine zA ?_ ?_); kernel_rfl))
    refine jG (by first | exact .inr rfl | exact .inl rfl) rfl rfl rfl (by first | rfl | assumption) ?_ ?_ (by repeat' (first | exact trivial | exact Ren.v _ | exact Ren.sl _ _ | exact Ren.ep _ | exact Ren.ptr _ _ _ _ rfl | exact Ren.bs _ _ _ _ _ rfl | exact Ren.nil _ | exact Ren.own _ _ _ _ ⟨_, rfl⟩ | refine zi ?_ | refine zj ?_ | refine zl ?_ | refine ⟨?_, ?_⟩)) <;> rfl
  · rw [if_neg (by simpa using h)]
    repeat (first | ((with_reducible refine zK ?_); refine zJ rfl ?_) | ((with_reducible refine zE ?_); refine zF rfl ?_)  | refine zL ?_ | refine zB rfl ?_ | with_reducible (first | refine zG ?_ | refine zH ?_ | refine zS ?_ | refine zN ?_) | ((with_reducible refine zA ?_ ?_); kernel_rfl))
    refine jG (by first | exact .inr rfl | exact .inl rfl) rfl rfl rfl (by first | rfl | assumption) ?_ ?_ (by repeat' (first | exact trivial | exact Ren.v _ | exact Ren.sl _ _ | exact Ren.ep _ | exact Ren.ptr _ _ _ _ rfl | exact Ren.bs _ _ _ _ _ rfl | exact Ren.nil _ | exact Ren.own _ _ _ _ ⟨_, rfl⟩ | refine zi ?_ | refine zj ?_ | refine zl ?_ | refine ⟨?_, ?_⟩)) <;> rfl
/-- The reader's cells: with these cells of zone, locks and certificates. -/
@[reducible] def rdC (N : List Nd) (V : List Dv) (d : Dc) (z l c : AV) : List AV := [.sl 3 (N.map Nd.av), .sl 5 (V.map Dv.av), .v (.int .i64 d.num), .v (.int .i64 d.kind), .v (.int .i64 d.st), .v (.int .i64 d.rd), z, .v (.int .i64 d.safe), l, .v (.string d.iss), .v (.string d.hol), .v (.int .i64 d.f), .v (.int .i64 d.u), c]
@[reducible] def nilA : AV := .v (.slice none 0 0)
theorem kR : ∀ (P W A R : List (List UInt8)), valR P W A = some R → R.length = A.length + cF P
  | [], W, A, R, h => by rw [valR] at h; injection h with h; subst h; simp [cF]
  | p :: P, [], A, R, h => by rw [valR] at h; cases h
  | p :: P, w :: W, A, R, h => by
    rw [valR] at h
    rw [cF]
    split at h
    · rename_i c
      have := kR P W _ R h
      rw [if_pos c]; simp at this; omega
    split at h
    · rename_i c _
      have := kR P W _ R h
      rw [if_neg c]; omega
    · cases h
theorem valR_at {P W : List (List UInt8)} {p w : List UInt8} {k : Nat} (hp : P[k]? = some p) (hw : W[k]? = some w) (A : List (List UInt8)) : valR (P.drop k) (W.drop k) A = if p = [] then valR (P.drop (k + 1)) (W.drop (k + 1)) (A ++ [w]) else if p = w then valR (P.drop (k + 1)) (W.drop (k + 1)) A else none := by
  rw [yT hp, yT hw, valR]
set_option maxHeartbeats 8000000 in
theorem first_A (N : List Nd) (V : List Dv) (d : Dc) (W : List (List UInt8)) (hW : W.length ≤ 1000000) (hw : ∀ w ∈ W, w.length ≤ 1000000) :
    zz Tryz.prog G 79 [.ptr (refB + 0) 0 0, .sl 1 (W.map svL)] [rdC N V d nilA nilA nilA] (.v (.int .i64 (eY d W).2)) [rdC N V (eY d W).1 nilA nilA nilA] := by
  obtain ⟨H, hH⟩ : ∃ H, H = yS := ⟨_, rfl⟩
  have hhd := uP (G := G)
  have hH16 : H.length = 16 := by rw [hH]; rfl
  have ho : cF H = 9 := by rw [hH]; rfl
  have hHl : (H.map svL).length = 16 := by simp [hH16]
  have eF : eY d W = if W.length ≠ 16 then (d, 2) else match valR H W [] with | none => (d, 2) | some A => (valD A, valE A) := by rw [hH]; rfl
  rw [← hH] at hhd
  rw [eF]
  refine zb tbOk (zc Tryz.func79 (by kernel_rfl) rfl) Tryz.func79 rfl _ Tryz.ntmps79 (Nat.le_of_ble_eq_true rfl) fun X hX => ?_
  subst hX
  repeat (first | ((with_reducible refine zE ?_); refine zF rfl ?_)  | refine zL ?_ | refine zB rfl ?_ | with_reducible (first | refine zG ?_ | refine zH ?_) | ((with_reducible refine zA ?_ ?_); kernel_rfl))
  refine zC (hhd) ?_
  repeat (first | ((with_reducible refine zK ?_); refine zJ rfl ?_) | ((with_reducible refine zE ?_); refine zF rfl ?_) | ((with_reducible refine zt ?_); refine yH tbOk rfl rfl ?_) | ((with_reducible refine zQ ?_); refine zT rfl rfl rfl ?_)  | refine zL ?_ | refine zB rfl ?_ | with_reducible (first | refine zG ?_ | refine zH ?_) | ((with_reducible refine zA ?_ ?_); kernel_rfl))
  refine zZ rfl (fun h => ?_) (fun h => ?_)
  · rw [if_pos (by simp at h; omega)]
    repeat (first | ((with_reducible refine zE ?_); refine zF rfl ?_)  | refine zL ?_ | refine zB rfl ?_ | with_reducible (first | refine zG ?_ | refine zO ?_ | refine zH ?_ | refine zN ?_) | ((with_reducible refine zA ?_ ?_); kernel_rfl))
    refine jG (by first | exact .inr rfl | exact .inl rfl) rfl rfl rfl (by first | rfl | assumption) ?_ ?_ (by repeat' (first | exact trivial | exact Ren.v _ | exact Ren.sl _ _ | exact Ren.ep _ | exact Ren.ptr _ _ _ _ rfl | exact Ren.bs _ _ _ _ _ rfl | exact Ren.nil _ | exact Ren.own _ _ _ _ ⟨_, rfl⟩ | refine zi ?_ | refine zj ?_ | refine zl ?_ | refine ⟨?_, ?_⟩)) <;> rfl
  have h16 : W.length = 16 := by simp at h; omega
  have hWl : (W.map svL).length = 16 := by simp [h16]
  rw [if_neg (by omega)]
  repeat (first    | with_reducible (first | refine zG ?_ | refine zH ?_ | refine zS ?_))
  (with_reducible refine zA ?_ ?_); kernel_rfl
  repeat (first | ((with_reducible refine zE ?_); refine zF rfl ?_)  | refine zL ?_ | refine zB rfl ?_ | with_reducible (first | refine zG ?_ | refine zH ?_))
  refine fX (t := 6) (s := 32) 9 1 rfl rfl ?_
  repeat (first | ((with_reducible refine zK ?_); refine zJ rfl ?_) | ((with_reducible refine zt ?_); refine yH tbOk rfl rfl ?_)  | refine zL ?_ | refine zB rfl ?_ | with_reducible (first | refine zG ?_ | refine zY ?_) | ((with_reducible refine zA ?_ ?_); kernel_rfl))
  refine jg (ι := Nat × List (List UInt8)) (fun v i => v (refB + 0) = 0 ∧ i.1 ≤ 16 ∧ i.2.length ≤ i.1 ∧ valR (H.drop i.1) (W.drop i.1) i.2 = valR H W []) (fun i => 16 - i.1) (fun v i => [(0, .ptr (refB + 0) (v (refB + 0)) 0), (1, .sl 1 (W.map svL)), (6, .own 32 (v 32)), (16, .sl 1 (H.map svL)), (17, .v (.int .i64 (H.map svL).length)), (18, .v (.int .i64 (i.1 : Nat)))]) (fun v i => [(refB + 0, .box (rdC N V d nilA nilA nilA)), (32, .buf 9 1 (i.2.map svL))]) ?_ ?_
  · exact ⟨(0, []), ⟨rfl, Nat.zero_le _, Nat.zero_le _, rfl⟩, trivial, ⟨rfl, rfl, rfl, rfl, rfl, rfl, trivial⟩, ⟨rfl, rfl, trivial⟩⟩
  rintro v ⟨k, A⟩ ⟨hv0, hk, hA, hf⟩
  dsimp only at hv0 hk hA hf ⊢
  repeat (first | ((with_reducible refine zQ ?_); refine zT rfl rfl rfl ?_)  | refine zL ?_ | refine zB rfl ?_ | with_reducible (first | refine zG ?_ | refine zH ?_) | ((with_reducible refine zA ?_ ?_); kernel_rfl))
  refine zZ rfl (fun h => ?_) (fun h => ?_)
  · have hlt : k < 16 := by simp at h; omega
    obtain ⟨p, hp⟩ := zd (L := H) (k := k) (by omega)
    obtain ⟨w, hwk⟩ := zd (L := W) (k := k) (by omega)
    have hy := dY hp
    have hz := dY hwk
    rw [valR_at hp hwk] at hf
    repeat (first | ((with_reducible refine zK ?_); refine zJ rfl ?_) | ((with_reducible refine zE ?_); refine zF rfl ?_) | ((with_reducible refine zR ?_); refine zW tbOk rfl rfl rfl ?_) | ((with_reducible refine zU ?_); refine zX tbOk rfl rfl rfl rfl (by assumption) ?_) | ((with_reducible refine zQ ?_); refine yh rfl rfl rfl ?_)  | refine zL ?_ | refine zB rfl ?_ | with_reducible (first | refine zG ?_ | refine zH ?_ | refine zY ?_ | refine zS ?_) | ((with_reducible refine zA ?_ ?_); kernel_rfl))
    refine zZ rfl (fun q => ?_) (fun q => ?_)
    · rw [if_pos ((iG p).1 q)] at hf
      repeat (first | ((with_reducible refine zK ?_); refine zJ rfl ?_) | ((with_reducible refine zR ?_); refine zW tbOk rfl rfl rfl ?_) | ((with_reducible refine zU ?_); refine zX tbOk rfl rfl rfl rfl (by assumption) ?_) | ((with_reducible refine zr ?_); refine zx tbOk rfl rfl rfl rfl rfl (by omega) rfl rfl rfl ?_) | refine zB rfl ?_  | ((with_reducible refine zA ?_ ?_); kernel_rfl))
      refine yG tbOk rfl rfl rfl rfl rfl (by decide) rfl rfl rfl rfl rfl (fun x hx => by simp at hx; subst hx; rfl) (by simp only [List.length_map, List.length_cons, List.length_nil, List.length_append, List.length_take]; omega) (by simp only [List.length_map, List.length_cons, List.length_nil, List.length_append, List.length_take]; omega) ?_
      repeat (first | ((with_reducible refine zK ?_); refine zJ rfl ?_) | ((with_reducible refine zE ?_); refine zF rfl ?_) | ((with_reducible refine zQ ?_); refine zg rfl rfl (by omega) ?_)  | refine zL ?_ | refine zB rfl ?_ | with_reducible (first | refine zG ?_ | refine zu ?_) | ((with_reducible refine zA ?_ ?_); kernel_rfl))
      exact ⟨(k + 1, A ++ [w]), ⟨hv0, by show k + 1 ≤ 16; omega, by simp; omega, hf⟩, by show 16 - (k + 1) < 16 - k; omega, ⟨rfl, rfl, rfl, rfl, rfl, rfl, trivial⟩, ⟨rfl, jr (by rw [List.map_append]; rfl), trivial⟩⟩
    rw [if_neg (fun e => by have q2 : yI (strL p) ⟨#[]⟩ = false := q; rw [(iG p).2 e] at q2; cases q2)] at hf
    repeat (first | ((with_reducible refine zK ?_); refine zJ rfl ?_) | ((with_reducible refine zE ?_); refine zF rfl ?_) | ((with_reducible refine zR ?_); refine zW tbOk rfl rfl rfl ?_) | ((with_reducible refine zU ?_); refine zX tbOk rfl rfl rfl rfl (by assumption) ?_) | ((with_reducible refine zQ ?_); refine yh rfl rfl rfl ?_)  | refine zL ?_ | refine zB rfl ?_ | with_reducible (first | refine zG ?_ | refine zH ?_) | ((with_reducible refine zA ?_ ?_); kernel_rfl))
    refine zZ rfl (fun q2 => ?_) (fun q2 => ?_)
    · rw [if_pos ((jZ p w).1 q2)] at hf
      repeat (first | ((with_reducible refine zK ?_); refine zJ rfl ?_) | ((with_reducible refine zQ ?_); refine zg rfl rfl (by omega) ?_)  | refine zL ?_ | refine zB rfl ?_ | with_reducible (first | refine zG ?_ | refine zu ?_ | refine zS ?_) | ((with_reducible refine zA ?_ ?_); kernel_rfl))
      exact ⟨(k + 1, A), ⟨hv0, by show k + 1 ≤ 16; omega, by show A.length ≤ k + 1; omega, hf⟩, by show 16 - (k + 1) < 16 - k; omega, ⟨rfl, rfl, rfl, rfl, rfl, rfl, trivial⟩, ⟨rfl, rfl, trivial⟩⟩
    · rw [if_neg (fun e => by have q3 : yI (strL p) (strL w) = false := q2; rw [(jZ p w).2 e] at q3; cases q3)] at hf
      rw [← hf]
      repeat (first | ((with_reducible refine zE ?_); refine zF rfl ?_)  | refine zL ?_ | refine zB rfl ?_ | with_reducible (first | refine zG ?_ | refine zO ?_ | refine zV ?_ | refine zH ?_ | refine zN ?_) | ((with_reducible refine zA ?_ ?_); kernel_rfl))
      refine jG (by first | exact .inr rfl | exact .inl rfl) rfl rfl rfl (by first | rfl | assumption) ?_ ?_ (by repeat' (first | exact trivial | exact Ren.v _ | exact Ren.sl _ _ | exact Ren.ep _ | exact Ren.ptr _ _ _ _ rfl | exact Ren.bs _ _ _ _ _ rfl | exact Ren.nil _ | exact Ren.own _ _ _ _ ⟨_, rfl⟩ | refine zi ?_ | refine zj ?_ | refine zl ?_ | refine ⟨?_, ?_⟩)) <;> rfl
  have hge : k = 16 := by simp at h; omega
  subst hge
  rw [List.drop_of_length_le (by omega), valR] at hf
  have hAl : A.length = 9 := by have := kR H W [] A hf.symm; simp at this; omega
  rw [← hf]
  dsimp only
  have hsz : ∀ j, (wAt A j).length ≤ 1000000 := fun j => by
    have key : ∀ (P W B R : List (List UInt8)), valR P W B = some R → ∀ w ∈ R, w ∈ B ∨ w ∈ W := by
      intro P
      induction P with
      | nil => intro W B R h w hw; rw [valR] at h; injection h with h; subst h; exact .inl hw
      | cons p P ih =>
        intro W B R h w hw
        cases W with
        | nil => rw [valR] at h; cases h
        | cons x W =>
          rw [valR] at h
          split at h
          · rcases ih W _ R h w hw with h1 | h1
            · rcases List.mem_append.1 h1 with h1 | h1
              · exact .inl h1
              · exact .inr (by simp at h1; simp [h1])
            · exact .inr (by simp [h1])
          split at h
          · rcases ih W _ R h w hw with h1 | h1
            · exact .inl h1
            · exact .inr (by simp [h1])
          · cases h
    unfold wAt
    cases hq : A[j]? with
    | none => simp
    | some x =>
      rcases key H W [] A hf.symm x (List.mem_of_getElem? hq) with h1 | h1
      · cases h1
      · exact hw x h1
  have z0 : (A.map svL)[(0 : Int).toNat]? = some (svL (wAt A 0)) := jH (by omega)
  have z1 : (A.map svL)[(1 : Int).toNat]? = some (svL (wAt A 1)) := jH (by show 1 < _; omega)
  have z2 : (A.map svL)[(2 : Int).toNat]? = some (svL (wAt A 2)) := jH (by show 2 < _; omega)
  have z3 : (A.map svL)[(3 : Int).toNat]? = some (svL (wAt A 3)) := jH (by show 3 < _; omega)
  have z4 : (A.map svL)[(4 : Int).toNat]? = some (svL (wAt A 4)) := jH (by show 4 < _; omega)
  have z5 : (A.map svL)[(5 : Int).toNat]? = some (svL (wAt A 5)) := jH (by show 5 < _; omega)
  have z6 : (A.map svL)[(6 : Int).toNat]? = some (svL (wAt A 6)) := jH (by show 6 < _; omega)
  have z7 : (A.map svL)[(7 : Int).toNat]? = some (svL (wAt A 7)) := jH (by show 7 < _; omega)
  have z8 : (A.map svL)[(8 : Int).toNat]? = some (svL (wAt A 8)) := jH (by show 8 < _; omega)
  repeat (first   | with_reducible (first | refine zG ?_ | refine zo ?_ | refine zH ?_ | refine yB ?_) | ((with_reducible refine ze ?_ ?_); rfl))
  refine yi (s := 32) [(6, .sl 1 (A.map svL))] [] rfl ⟨.inl (.inr ⟨rfl, rfl⟩), trivial⟩ trivial ?_
  repeat (first | ((with_reducible refine zK ?_); refine zJ rfl ?_) | ((with_reducible refine zp ?_); refine zq tbOk rfl rfl rfl rfl rfl rfl rfl (Nat.le_of_ble_eq_true rfl) rfl ?_) | ((with_reducible refine yR ?_); refine yQ tbOk rfl rfl ?_)  | refine zL ?_ | refine zB rfl ?_ | with_reducible (first | refine zG ?_ | refine zH ?_) | ((with_reducible refine zA ?_ ?_); kernel_rfl) | ((with_reducible refine yZ mixd ?_ ?_); kernel_rfl))
  refine zC (sW) ?_
  repeat (first | ((with_reducible refine zK ?_); refine zJ rfl ?_) | ((with_reducible refine zR ?_); refine zW tbOk rfl rfl rfl ?_) | ((with_reducible refine zU ?_); refine zX tbOk rfl rfl rfl rfl (by assumption) ?_)  | refine zB rfl ?_  )
  refine zD (ss := [(9, v 9 + 1)]) (iY yx (wAt A 0) 0 (by decide)) (by simp) (in1 rfl rfl) rfl (ya rfl) ?_
  repeat (first | ((with_reducible refine zK ?_); refine zJ rfl ?_) | ((with_reducible refine zR ?_); refine zW tbOk rfl rfl rfl ?_) | ((with_reducible refine zU ?_); refine zX tbOk rfl rfl rfl rfl (by assumption) ?_)  | refine zB rfl ?_  )
  refine zD (ss := [(9, v 9 + 1)]) (qg (wAt A 1) (okI (idxL (wAt A 0) 0 yx) 0) (hsz 1)) (by simp) (in1 rfl rfl) rfl (ya rfl) ?_
  repeat (first   | refine zB rfl ?_  )
  refine zC (oY) ?_
  repeat (first | ((with_reducible refine zK ?_); refine zJ rfl ?_) | ((with_reducible refine zR ?_); refine zW tbOk rfl rfl rfl ?_) | ((with_reducible refine zU ?_); refine zX tbOk rfl rfl rfl rfl (by assumption) ?_)  | refine zB rfl ?_  )
  refine zD (ss := [(9, v 9 + 1)]) (iY yn (wAt A 2) _ (by decide)) (by simp) (in1 rfl rfl) rfl (ya rfl) ?_
  repeat (first | ((with_reducible refine zK ?_); refine zJ rfl ?_) | ((with_reducible refine zR ?_); refine zW tbOk rfl rfl rfl ?_) | ((with_reducible refine zU ?_); refine zX tbOk rfl rfl rfl rfl (by assumption) ?_)  | refine zB rfl ?_  )
  refine zD (ss := [(9, v 9 + 1)]) (qg (wAt A 3) _ (hsz 3)) (by simp) (in1 rfl rfl) rfl (ya rfl) ?_
  repeat (first | ((with_reducible refine zK ?_); refine zJ rfl ?_) | ((with_reducible refine zR ?_); refine zW tbOk rfl rfl rfl ?_) | ((with_reducible refine zU ?_); refine zX tbOk rfl rfl rfl rfl (by assumption) ?_)  | refine zB rfl ?_  )
  refine zD (ss := [(9, v 9 + 1)]) (qg (wAt A 4) _ (hsz 4)) (by simp) (in1 rfl rfl) rfl (ya rfl) ?_
  repeat (first | ((with_reducible refine zK ?_); refine zJ rfl ?_) | ((with_reducible refine zR ?_); refine zW tbOk rfl rfl rfl ?_) | ((with_reducible refine zU ?_); refine zX tbOk rfl rfl rfl rfl (by assumption) ?_)  | refine zB rfl ?_  )
  refine zD (ss := [(9, v 9 + 1)]) (qg (wAt A 7) _ (hsz 7)) (by simp) (in1 rfl rfl) rfl (ya rfl) ?_
  repeat (first | ((with_reducible refine zK ?_); refine zJ rfl ?_) | ((with_reducible refine zR ?_); refine zW tbOk rfl rfl rfl ?_) | ((with_reducible refine zU ?_); refine zX tbOk rfl rfl rfl rfl (by assumption) ?_)  | refine zB rfl ?_  )
  refine zD (ss := [(9, v 9 + 1)]) (qg (wAt A 8) _ (hsz 8)) (by simp) (in1 rfl rfl) rfl (ya rfl) ?_
  repeat (first | ((with_reducible refine zE ?_); refine zF rfl ?_) | ((with_reducible refine zM ?_); refine zI tbOk rfl rfl rfl rfl ?_) | ((with_reducible refine zR ?_); refine zP tbOk rfl rfl rfl rfl rfl ?_) | ((with_reducible refine zp ?_); refine zq tbOk rfl rfl rfl rfl rfl rfl rfl (Nat.le_of_ble_eq_true rfl) rfl ?_) | ((with_reducible refine yM ?_); refine yN tbOk rfl rfl rfl rfl rfl ?_) | ((with_reducible refine yb ?_); refine yJ rfl ?_)  | refine zL ?_ | refine yf (by kernel_rfl) ?_ | refine zB rfl ?_ | with_reducible (first | refine zG ?_ | refine zH ?_ | refine zN ?_) | ((with_reducible refine zA ?_ ?_); kernel_rfl))
  refine jG (by first | exact .inr rfl | exact .inl rfl) rfl rfl rfl (by first | rfl | assumption) ?_ ?_ (by repeat' (first | exact trivial | exact Ren.v _ | exact Ren.sl _ _ | exact Ren.ep _ | exact Ren.ptr _ _ _ _ rfl | exact Ren.bs _ _ _ _ _ rfl | exact Ren.nil _ | exact Ren.own _ _ _ _ ⟨_, rfl⟩ | refine zi ?_ | refine zj ?_ | refine zl ?_ | refine ⟨?_, ?_⟩)) <;> rfl
end Go.Proofs.YtjamibeffalhaaaGreatDoor
namespace Go.Proofs.YtjamibeffalhaaaGreatDoor
open Go Go.RowKit
section
variable {P : Program} {X : Ctx} {n : Nat} {σ : AS} {Q : Exit → AS → Prop} {c : Code}
theorem gX {s b k kb : Nat} {c0 : Cont} {cs : List AV} (e sz : Nat) (cs' : List AV) (hH : σ.H s = ⟨k, c0⟩) (hb : (σ.hup s ⟨k + 1, .buf e sz []⟩).H b = ⟨kb, .box cs⟩) (hB : RwL (.v (.slice none 0 0)) (.own s (k + 1)) cs cs')
    (h : AWp P X n c Q ((σ.hup s ⟨k + 1, .buf e sz []⟩).hup b ⟨kb, .box cs'⟩)) : AWp P X n c Q σ := by
  refine jb e sz [] [(b, cs')] hH trivial ⟨⟨kb, cs, hb, hB⟩, trivial⟩ ?_
  show AWp P X n c Q ((σ.hup s ⟨k + 1, .buf e sz []⟩).hup b ⟨((σ.hup s ⟨k + 1, .buf e sz []⟩).H b).k, .box cs'⟩)
  rw [hb]
  exact h
theorem qP {s b k kb e sz : Nat} {L cs : List AV} (cs' : List AV) (hH : σ.H s = ⟨k, .buf e sz L⟩) (hb : (σ.hup s ⟨k, .dead⟩).H b = ⟨kb, .box cs⟩) (hB : RwL (.own s k) (.sl sz L) cs cs')
    (h : AWp P X n c Q ((σ.hup s ⟨k, .dead⟩).hup b ⟨kb, .box cs'⟩)) : AWp P X n c Q σ := by
  refine yi [] [(b, cs')] hH trivial ⟨⟨kb, cs, hb, hB⟩, trivial⟩ ?_
  show AWp P X n c Q ((σ.hup s ⟨k, .dead⟩).hup b ⟨((σ.hup s ⟨k, .dead⟩).H b).k, .box cs'⟩)
  rw [hb]
  exact h
end
end Go.Proofs.YtjamibeffalhaaaGreatDoor
namespace Go.Proofs.YtjamibeffalhaaaGreatDoor
open Go Go.RowKit
set_option maxRecDepth 10000
variable {G : Nat → Option (List Value)}
theorem mR (w : List UInt8) (W : List (List UInt8)) (n m : Nat) (hn : n = W.length + 1) (hm : m = 1) : (((w :: W).map svL).take n).drop m = W.map svL := by
  subst hm
  rw [List.take_of_length_le (by simp; omega), List.map_cons]
  rfl
set_option maxHeartbeats 4000000 in
theorem zone_A (N : List Nd) (V : List Dv) (d : Dc) (w0 : List UInt8) (W : List (List UInt8)) (hG : GCls G) (ok : NwOk N V) (hn : netE N V = 0) (hW : W.length ≤ 1000000) (hw : ∀ w ∈ W, w.length ≤ 1000000) :
    zz Tryz.prog G 80 [.ptr (refB + 0) 0 0, .sl 1 ((w0 :: W).map svL)] [rdC N V d nilA nilA nilA] (.v (.int .i64 (gY N [] (w0 :: W)).2)) [rdC N V d (.sl 1 ((gY N [] (w0 :: W)).1.map iv)) nilA nilA] := by
  have hnd : ∀ w : List UInt8, zz Tryz.prog G 109 [jo N V, svL w] [] (.v (.int .i64 (nodI w 0 N))) [] := fun w => by
    have := nnod_A (G := G) N V (strL w) hG ok
    unfold nodF at this
    rw [if_neg (by simpa using hn), yy] at this
    exact this
  have hz : ((w0 :: W).map svL)[(0 : Int).toNat]? = some (svL w0) := rfl
  have hl1 : ((w0 :: W).map svL).length = W.length + 1 := by simp
  have e0 : gY N [] (w0 :: W) = if w0 ≠ qW then ([], 2) else zGo N W [] := rfl
  rw [e0]
  refine zb tbOk (zc Tryz.func80 (by kernel_rfl) rfl) Tryz.func80 rfl _ Tryz.ntmps80 (Nat.le_of_ble_eq_true rfl) fun X hX => ?_
  subst hX
  refine gX (s := 35) (b := refB + 0) 3 1 (rdC N V d (.own 35 1) nilA nilA) rfl rfl (.same (.same (.same (.same (.same (.same (.hit (.same (.same (.same (.same (.same (.same (.same .nil)))))))))))))) ?_
  repeat (first | ((with_reducible refine zK ?_); refine zJ rfl ?_) | ((with_reducible refine zE ?_); refine zF rfl ?_) | ((with_reducible refine zR ?_); refine zW tbOk rfl rfl rfl ?_) | ((with_reducible refine zU ?_); refine zX tbOk rfl rfl rfl rfl (by assumption) ?_) | ((with_reducible refine zQ ?_); refine yh rfl rfl rfl ?_)  | refine zL ?_ | refine zB rfl ?_ | with_reducible (first | refine zG ?_ | refine zH ?_) | ((with_reducible refine zA ?_ ?_); kernel_rfl))
  refine zZ rfl (fun h => ?_) (fun h => ?_)
  · have hne : w0 ≠ qW := fun e => by
      have h2 : yI (strL w0) (strL qW) = false := (show yI (strL w0) (⟨#[122, 111, 110, 101]⟩ : ByteArray) = false by simpa using h)
      rw [(jZ _ _).2 e] at h2; cases h2
    rw [if_pos hne]
    obtain ⟨Z, hZ⟩ : ∃ Z : List Int, Z = [] := ⟨_, rfl⟩
    rw [← hZ]
    refine qP (s := 35) (b := refB + 0) (L := Z.map iv) (rdC N V d (.sl 1 (Z.map iv)) nilA nilA) (by rw [hZ]; rfl) rfl (.same (.same (.same (.same (.same (.same (.hit (.same (.same (.same (.same (.same (.same (.same .nil)))))))))))))) ?_
    repeat (first | ((with_reducible refine zE ?_); refine zF rfl ?_)  | refine zL ?_ | refine zB rfl ?_ | with_reducible (first | refine zG ?_ | refine zO ?_ | refine zH ?_ | refine zN ?_) | ((with_reducible refine zA ?_ ?_); kernel_rfl))
    refine jG (by first | exact .inr rfl | exact .inl rfl) rfl rfl rfl (by first | rfl | assumption) ?_ ?_ (by repeat' (first | exact trivial | exact Ren.v _ | exact Ren.sl _ _ | exact Ren.ep _ | exact Ren.ptr _ _ _ _ rfl | exact Ren.bs _ _ _ _ _ rfl | exact Ren.nil _ | exact Ren.own _ _ _ _ ⟨_, rfl⟩ | refine zi ?_ | refine zj ?_ | refine zl ?_ | refine ⟨?_, ?_⟩)) <;> rfl
  have he : w0 = qW := by
    have h2 : yI (strL w0) (strL qW) = true := (show yI (strL w0) (⟨#[122, 111, 110, 101]⟩ : ByteArray) = true by simpa using h)
    exact (jZ _ _).1 h2
  rw [if_neg (by simpa using he)]
  repeat (first | ((with_reducible refine zK ?_); refine zJ rfl ?_) | ((with_reducible refine jz ?_); refine dN tbOk rfl rfl rfl rfl rfl (by refine ⟨?_, ?_, ?_⟩ <;> omega) ?_) | ((with_reducible refine zt ?_); refine yH tbOk rfl rfl ?_)  | refine zL ?_ | refine zB rfl ?_ | with_reducible (first | refine zG ?_ | refine zH ?_ | refine zY ?_ | refine zS ?_) | ((with_reducible refine zA ?_ ?_); kernel_rfl))
  refine jg (ι := Nat × List Int) (fun v i => v (refB + 0) = 0 ∧ i.1 ≤ W.length ∧ i.2.length ≤ i.1 ∧ zGo N (W.drop i.1) i.2 = zGo N W []) (fun i => W.length - i.1) (fun v i => [(0, .ptr (refB + 0) (v (refB + 0)) 0), (13, .sl 1 (W.map svL)), (14, .v (.int .i64 (W.map svL).length)), (15, .v (.int .i64 (i.1 : Nat)))]) (fun v i => [(refB + 0, .box (rdC N V d (.own 35 (v 35)) nilA nilA)), (35, .buf 3 1 (i.2.map iv))]) ?_ ?_
  · exact ⟨(0, []), ⟨rfl, Nat.zero_le _, Nat.zero_le _, rfl⟩, trivial, ⟨rfl, congrArg (AV.sl 1) (mR w0 W _ _ (by simp) rfl), congrArg (fun L : List AV => AV.v (.int .i64 (L.length : Nat))) (mR w0 W _ _ (by simp) rfl), rfl, trivial⟩, ⟨rfl, rfl, trivial⟩⟩
  rintro v ⟨k, Z⟩ ⟨hv0, hk, hZl, hf⟩
  dsimp only at hv0 hk hZl hf ⊢
  repeat (first | ((with_reducible refine zQ ?_); refine zT rfl rfl rfl ?_)  | refine zL ?_ | refine zB rfl ?_ | with_reducible (first | refine zG ?_ | refine zH ?_) | ((with_reducible refine zA ?_ ?_); kernel_rfl))
  refine zZ rfl (fun q => ?_) (fun q => ?_)
  · have hlt : k < W.length := by simpa using q
    obtain ⟨w, hwk⟩ := zd hlt
    have hy := dY hwk
    rw [yT hwk, zGo] at hf
    repeat (first | ((with_reducible refine zK ?_); refine zJ rfl ?_) | ((with_reducible refine zE ?_); refine zF rfl ?_) | ((with_reducible refine zM ?_); refine zI tbOk rfl rfl rfl rfl ?_) | ((with_reducible refine zR ?_); (first | refine zk tbOk rfl rfl rfl rfl (Nat.le_of_ble_eq_true rfl) ?_ | refine zW tbOk rfl rfl rfl ?_)) | ((with_reducible refine zU ?_); refine zX tbOk rfl rfl rfl rfl (by assumption) ?_) | ((with_reducible refine yb ?_); refine yJ rfl ?_)  | refine zL ?_ | refine zB rfl ?_ | with_reducible (first | refine zG ?_ | refine zH ?_ | refine zY ?_ | refine zS ?_) | ((with_reducible refine zA ?_ ?_); kernel_rfl))
    refine zC (hnd w) ?_
    repeat (first | ((with_reducible refine zK ?_); refine zJ rfl ?_) | ((with_reducible refine zE ?_); refine zF rfl ?_) | ((with_reducible refine zQ ?_); refine zT rfl rfl rfl ?_)  | refine zL ?_ | refine zB rfl ?_ | with_reducible (first | refine zG ?_ | refine zH ?_) | ((with_reducible refine zA ?_ ?_); kernel_rfl))
    refine zZ rfl (fun c => ?_) (fun c => ?_)
    · rw [if_pos (by simpa using c)] at hf
      rw [← hf]
      repeat (first   | with_reducible refine zH ?_)
      refine qP (s := 35) (b := refB + 0) (rdC N V d (.sl 1 (Z.map iv)) nilA nilA) rfl rfl (.same (.same (.same (.same (.same (.same (.hit (.same (.same (.same (.same (.same (.same (.same .nil)))))))))))))) ?_
      repeat (first | ((with_reducible refine zE ?_); refine zF rfl ?_)  | refine zL ?_ | refine zB rfl ?_ | with_reducible (first | refine zG ?_ | refine zO ?_ | refine zV ?_ | refine zN ?_) | ((with_reducible refine zA ?_ ?_); kernel_rfl))
      refine jG (by first | exact .inr rfl | exact .inl rfl) rfl rfl rfl (by first | rfl | assumption) ?_ ?_ (by repeat' (first | exact trivial | exact Ren.v _ | exact Ren.sl _ _ | exact Ren.ep _ | exact Ren.ptr _ _ _ _ rfl | exact Ren.bs _ _ _ _ _ rfl | exact Ren.nil _ | exact Ren.own _ _ _ _ ⟨_, rfl⟩ | refine zi ?_ | refine zj ?_ | refine zl ?_ | refine ⟨?_, ?_⟩)) <;> rfl
    · rw [if_neg (by simpa using c)] at hf
      repeat (first | ((with_reducible refine zK ?_); refine zJ rfl ?_) | ((with_reducible refine zM ?_); refine zI tbOk rfl rfl rfl rfl ?_) | ((with_reducible refine zR ?_); refine zP tbOk rfl rfl rfl rfl rfl ?_) | ((with_reducible refine yb ?_); refine yJ rfl ?_) | ((with_reducible refine zr ?_); refine zx tbOk rfl rfl rfl rfl rfl (by omega) rfl rfl rfl ?_) | refine zB rfl ?_ | with_reducible (first | refine zG ?_ | refine zS ?_) | ((with_reducible refine zA ?_ ?_); kernel_rfl))
      refine yG tbOk rfl rfl rfl rfl rfl (by decide) rfl rfl rfl rfl rfl (fun x hx => by simp at hx; subst hx; rfl) (by simp only [List.length_map, List.length_cons, List.length_nil, List.length_append, List.length_take]; omega) (by simp only [List.length_map, List.length_cons, List.length_nil, List.length_append, List.length_take]; omega) ?_
      repeat (first | ((with_reducible refine zK ?_); refine zJ rfl ?_) | ((with_reducible refine zM ?_); refine zI tbOk rfl rfl rfl rfl ?_) | ((with_reducible refine zp ?_); refine zq tbOk rfl rfl rfl rfl rfl rfl rfl (Nat.le_of_ble_eq_true rfl) rfl ?_) | ((with_reducible refine yb ?_); refine yJ rfl ?_) | ((with_reducible refine zQ ?_); refine zg rfl rfl (by omega) ?_)  | refine zL ?_ | refine zB rfl ?_ | with_reducible (first | refine zG ?_ | refine zu ?_) | ((with_reducible refine zA ?_ ?_); kernel_rfl))
      exact ⟨(k + 1, Z ++ [nodI w 0 N]), ⟨hv0, by show k + 1 ≤ W.length; omega, by simp; omega, hf⟩, by show W.length - (k + 1) < W.length - k; omega, ⟨rfl, rfl, rfl, rfl, trivial⟩, ⟨rfl, jr (by rw [List.map_append]; rfl), trivial⟩⟩
  · have hge : W.length ≤ k := by simpa using q
    rw [List.drop_of_length_le hge, zGo] at hf
    rw [← hf]
    repeat (first   | with_reducible (first | refine zG ?_ | refine zo ?_ | refine zH ?_ | refine yB ?_) | ((with_reducible refine ze ?_ ?_); rfl))
    refine qP (s := 35) (b := refB + 0) (rdC N V d (.sl 1 (Z.map iv)) nilA nilA) rfl rfl (.same (.same (.same (.same (.same (.same (.hit (.same (.same (.same (.same (.same (.same (.same .nil)))))))))))))) ?_
    repeat (first | ((with_reducible refine zE ?_); refine zF rfl ?_)  | refine zL ?_ | refine zB rfl ?_ | with_reducible (first | refine zG ?_ | refine zN ?_) | ((with_reducible refine zA ?_ ?_); kernel_rfl))
    refine jG (by first | exact .inr rfl | exact .inl rfl) rfl rfl rfl (by first | rfl | assumption) ?_ ?_ (by repeat' (first | exact trivial | exact Ren.v _ | exact Ren.sl _ _ | exact Ren.ep _ | exact Ren.ptr _ _ _ _ rfl | exact Ren.bs _ _ _ _ _ rfl | exact Ren.nil _ | exact Ren.own _ _ _ _ ⟨_, rfl⟩ | refine zi ?_ | refine zj ?_ | refine zl ?_ | refine ⟨?_, ?_⟩)) <;> rfl
end Go.Proofs.YtjamibeffalhaaaGreatDoor
