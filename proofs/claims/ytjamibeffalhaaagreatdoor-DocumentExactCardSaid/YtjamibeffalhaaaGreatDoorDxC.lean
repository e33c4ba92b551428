/- document: number, index, and the reader's first, zone, lock, certificate and line, by the abstract machine; conditions: the table of classes stands. -/
import Derived.Test.YtjamibeffalhaaaGreatDoorDxB
set_option linter.unusedVariables false
set_option linter.unusedSimpArgs false
namespace Go.Proofs.YtjamibeffalhaaaGreatDoor
open Go Go.RowKit
set_option maxRecDepth 10000
variable {G : Nat → Option (List Value)}
theorem qU (w : List UInt8) (e0 : Int) (hw : w.length ≤ 1000000) : zy Tryz.prog G 108 [svL w, .ptr (refB + 0) 0 0] [[.v (.int .i64 e0)]] (.v (.int .i64 ((numT w).getD 0))) [[.v (.int .i64 (okN (numT w) e0))]] := by
  have hn := vK (G := G) (strL w) 16777216 (by rw [zt]; unfold maxLen; omega) (by omega) (by omega)
  rw [jJ] at hn
  unfold numT okN
  obtain ⟨q, hq⟩ : ∃ q, q = numP w 16777216 := ⟨_, rfl⟩
  rw [← hq] at hn ⊢
  cases q with
  | none =>
    refine zd tbOk (zf Tryz.func108 (by kernel_rfl) rfl) Tryz.func108 rfl _ Tryz.ntmps108 (Nat.le_of_ble_eq_true rfl) fun X hX => ?_
    subst hX
    repeat (first | ((with_reducible refine zJ ?_); refine zK rfl ?_) | ((with_reducible refine zF ?_); refine zE rfl ?_)  | refine zL ?_ | refine zB rfl ?_ | with_reducible (first | refine zG ?_ | refine zH ?_) | ((with_reducible refine zA ?_ ?_); kernel_rfl))
    refine zC (hn) ?_
    repeat (first | ((with_reducible refine zJ ?_); refine zK rfl ?_) | ((with_reducible refine zF ?_); refine zE rfl ?_) | ((with_reducible refine yD ?_); refine yE tbOk rfl rfl rfl rfl rfl rfl rfl (Nat.le_of_ble_eq_true rfl) rfl ?_) | ((with_reducible refine k_un ?_); refine yz rfl ?_) | ((with_reducible refine jN ?_); refine jP rfl rfl ?_) | ((with_reducible refine yT ?_); refine yG rfl ?_)  | refine zL ?_ | refine zB rfl ?_ | with_reducible (first | refine zG ?_ | refine zH ?_ | refine zN ?_) | ((with_reducible refine zA ?_ ?_); kernel_rfl) | refine zr rfl (by first | rfl | assumption) ?_)
    refine yo (by first | exact .inr rfl | exact .inl rfl) rfl rfl rfl (by first | rfl | assumption) ?_ ?_ (by repeat' (first | exact trivial | exact Ren.v _ | exact Ren.sl _ _ | exact Ren.ep _ | exact Ren.ptr _ _ _ _ rfl | exact Ren.bs _ _ _ _ _ rfl | exact Ren.nil _ | exact Ren.own _ _ _ _ ⟨_, rfl⟩ | refine zv ?_ | refine zx ?_ | refine zw ?_ | refine ⟨?_, ?_⟩)) <;> rfl
  | some y =>
    refine zd tbOk (zf Tryz.func108 (by kernel_rfl) rfl) Tryz.func108 rfl _ Tryz.ntmps108 (Nat.le_of_ble_eq_true rfl) fun X hX => ?_
    subst hX
    repeat (first | ((with_reducible refine zJ ?_); refine zK rfl ?_) | ((with_reducible refine zF ?_); refine zE rfl ?_)  | refine zL ?_ | refine zB rfl ?_ | with_reducible (first | refine zG ?_ | refine zH ?_) | ((with_reducible refine zA ?_ ?_); kernel_rfl))
    refine zC (hn) ?_
    repeat (first | ((with_reducible refine zJ ?_); refine zK rfl ?_) | ((with_reducible refine zF ?_); refine zE rfl ?_) | ((with_reducible refine k_un ?_); refine yz rfl ?_) | ((with_reducible refine jN ?_); refine jP rfl rfl ?_)  | refine zL ?_ | refine zB rfl ?_ | with_reducible (first | refine zG ?_ | refine zH ?_ | refine zT ?_ | refine zN ?_) | ((with_reducible refine zA ?_ ?_); kernel_rfl) | refine yH rfl (by first | rfl | assumption) ?_)
    refine yo (by first | exact .inr rfl | exact .inl rfl) rfl rfl rfl (by first | rfl | assumption) ?_ ?_ (by repeat' (first | exact trivial | exact Ren.v _ | exact Ren.sl _ _ | exact Ren.ep _ | exact Ren.ptr _ _ _ _ rfl | exact Ren.bs _ _ _ _ _ rfl | exact Ren.nil _ | exact Ren.own _ _ _ _ ⟨_, rfl⟩ | refine zv ?_ | refine zx ?_ | refine zw ?_ | refine ⟨?_, ?_⟩)) <;> rfl
theorem hI (L : List (List UInt8)) (w : List UInt8) (e0 : Int) (hl : L.length ≤ 1000000) : zy Tryz.prog G 107 [.sl 1 (L.map svL), svL w, .ptr (refB + 0) 0 0] [[.v (.int .i64 e0)]] (.v (.int .i64 (idxL w 0 L))) [[.v (.int .i64 (okI (idxL w 0 L) e0))]] := by
  unfold okI
  refine zd tbOk (zf Tryz.func107 (by kernel_rfl) rfl) Tryz.func107 rfl _ Tryz.ntmps107 (Nat.le_of_ble_eq_true rfl) fun X hX => ?_
  subst hX
  repeat (first | ((with_reducible refine zJ ?_); refine zK rfl ?_) | ((with_reducible refine zF ?_); refine zE rfl ?_)  | refine zL ?_ | refine zB rfl ?_ | with_reducible (first | refine zG ?_ | refine zH ?_) | ((with_reducible refine zA ?_ ?_); kernel_rfl))
  refine zC (sidx_A L w hl) ?_
  repeat (first | ((with_reducible refine zJ ?_); refine zK rfl ?_) | ((with_reducible refine zF ?_); refine zE rfl ?_) | ((with_reducible refine zR ?_); refine zS rfl rfl rfl ?_)  | refine zL ?_ | refine zB rfl ?_ | with_reducible (first | refine zG ?_ | refine zH ?_) | ((with_reducible refine zA ?_ ?_); kernel_rfl))
  refine zX rfl (fun h => ?_) (fun h => ?_)
  · rw [if_pos (by simpa using h)]
    repeat (first | ((with_reducible refine zJ ?_); refine zK rfl ?_) | ((with_reducible refine zF ?_); refine zE rfl ?_) | ((with_reducible refine yD ?_); refine yE tbOk rfl rfl rfl rfl rfl rfl rfl (Nat.le_of_ble_eq_true rfl) rfl ?_) | ((with_reducible refine yT ?_); refine yG rfl ?_)  | refine zL ?_ | refine zB rfl ?_ | with_reducible (first | refine zG ?_ | refine zH ?_ | refine zN ?_) | ((with_reducible refine zA ?_ ?_); kernel_rfl))
    refine yo (by first | exact .inr rfl | exact .inl rfl) rfl rfl rfl (by first | rfl | assumption) ?_ ?_ (by repeat' (first | exact trivial | exact Ren.v _ | exact Ren.sl _ _ | exact Ren.ep _ | exact Ren.ptr _ _ _ _ rfl | exact Ren.bs _ _ _ _ _ rfl | exact Ren.nil _ | exact Ren.own _ _ _ _ ⟨_, rfl⟩ | refine zv ?_ | refine zx ?_ | refine zw ?_ | refine ⟨?_, ?_⟩)) <;> rfl
  · rw [if_neg (by simpa using h)]
    repeat (first | ((with_reducible refine zJ ?_); refine zK rfl ?_) | ((with_reducible refine zF ?_); refine zE rfl ?_)  | refine zL ?_ | refine zB rfl ?_ | with_reducible (first | refine zG ?_ | refine zH ?_ | refine zT ?_ | refine zN ?_) | ((with_reducible refine zA ?_ ?_); kernel_rfl))
    refine yo (by first | exact .inr rfl | exact .inl rfl) rfl rfl rfl (by first | rfl | assumption) ?_ ?_ (by repeat' (first | exact trivial | exact Ren.v _ | exact Ren.sl _ _ | exact Ren.ep _ | exact Ren.ptr _ _ _ _ rfl | exact Ren.bs _ _ _ _ _ rfl | exact Ren.nil _ | exact Ren.own _ _ _ _ ⟨_, rfl⟩ | refine zv ?_ | refine zx ?_ | refine zw ?_ | refine ⟨?_, ?_⟩)) <;> rfl
/-- The reader's cells: with these cells of zone, locks and certificates. -/
@[reducible] def rdC (N : List Nd) (V : List Dv) (d : Dc) (z l c : AV) : List AV := [.sl 3 (N.map Nd.av), .sl 5 (V.map Dv.av), .v (.int .i64 d.num), .v (.int .i64 d.kind), .v (.int .i64 d.st), .v (.int .i64 d.rd), z, .v (.int .i64 d.safe), l, .v (.string d.iss), .v (.string d.hol), .v (.int .i64 d.f), .v (.int .i64 d.u), c]
@[reducible] def nilA : AV := .v (.slice none 0 0)
theorem gX : ∀ (P W A R : List (List UInt8)), valR P W A = some R → R.length = A.length + bX P
  | [], W, A, R, h => by rw [valR] at h; injection h with h; subst h; simp [bX]
  | p :: P, [], A, R, h => by rw [valR] at h; cases h
  | p :: P, w :: W, A, R, h => by
    rw [valR] at h
    rw [bX]
    split at h
    · rename_i c
      have := gX P W _ R h
      rw [if_pos c]; simp at this; omega
    split at h
    · rename_i c _
      have := gX P W _ R h
      rw [if_neg c]; omega
    · cases h
theorem valR_at {P W : List (List UInt8)} {p w : List UInt8} {k : Nat} (hp : P[k]? = some p) (hw : W[k]? = some w) (A : List (List UInt8)) : valR (P.drop k) (W.drop k) A = if p = [] then valR (P.drop (k + 1)) (W.drop (k + 1)) (A ++ [w]) else if p = w then valR (P.drop (k + 1)) (W.drop (k + 1)) A else none := by
  rw [yV hp, yV hw, valR]
set_option maxHeartbeats 8000000 in
theorem first_A (N : List Nd) (V : List Dv) (d : Dc) (W : List (List UInt8)) (hW : W.length ≤ 1000000) (hw : ∀ w ∈ W, w.length ≤ 1000000) :
    zy Tryz.prog G 79 [.ptr (refB + 0) 0 0, .sl 1 (W.map svL)] [rdC N V d nilA nilA nilA] (.v (.int .i64 (iD d W).2)) [rdC N V (iD d W).1 nilA nilA nilA] := by
  obtain ⟨H, hH⟩ : ∃ H, H = jl := ⟨_, rfl⟩
  have hhd := uA (G := G)
  have hH16 : H.length = 16 := by rw [hH]; rfl
  have ho : bX H = 9 := by rw [hH]; rfl
  have hHl : (H.map svL).length = 16 := by simp [hH16]
  have eF : iD d W = if W.length ≠ 16 then (d, 2) else match valR H W [] with | none => (d, 2) | some A => (valD A, valE A) := by rw [hH]; rfl
  rw [← hH] at hhd
  rw [eF]
  refine zd tbOk (zf Tryz.func79 (by kernel_rfl) rfl) Tryz.func79 rfl _ Tryz.ntmps79 (Nat.le_of_ble_eq_true rfl) fun X hX => ?_
  subst hX
  repeat (first | ((with_reducible refine zF ?_); refine zE rfl ?_)  | refine zL ?_ | refine zB rfl ?_ | with_reducible (first | refine zG ?_ | refine zH ?_) | ((with_reducible refine zA ?_ ?_); kernel_rfl))
  refine zC (hhd) ?_
  repeat (first | ((with_reducible refine zJ ?_); refine zK rfl ?_) | ((with_reducible refine zF ?_); refine zE rfl ?_) | ((with_reducible refine zq ?_); refine yI tbOk rfl rfl ?_) | ((with_reducible refine zR ?_); refine zS rfl rfl rfl ?_)  | refine zL ?_ | refine zB rfl ?_ | with_reducible (first | refine zG ?_ | refine zH ?_) | ((with_reducible refine zA ?_ ?_); kernel_rfl))
  refine zX rfl (fun h => ?_) (fun h => ?_)
  · rw [if_pos (by simp at h; omega)]
    repeat (first | ((with_reducible refine zF ?_); refine zE rfl ?_)  | refine zL ?_ | refine zB rfl ?_ | with_reducible (first | refine zG ?_ | refine zP ?_ | refine zH ?_ | refine zN ?_) | ((with_reducible refine zA ?_ ?_); kernel_rfl))
    refine yo (by first | exact .inr rfl | exact .inl rfl) rfl rfl rfl (by first | rfl | assumption) ?_ ?_ (by repeat' (first | exact trivial | exact Ren.v _ | exact Ren.sl _ _ | exact Ren.ep _ | exact Ren.ptr _ _ _ _ rfl | exact Ren.bs _ _ _ _ _ rfl | exact Ren.nil _ | exact Ren.own _ _ _ _ ⟨_, rfl⟩ | refine zv ?_ | refine zx ?_ | refine zw ?_ | refine ⟨?_, ?_⟩)) <;> rfl
  have h16 : W.length = 16 := by simp at h; omega
  have hWl : (W.map svL).length = 16 := by simp [h16]
  rw [if_neg (by omega)]
  repeat (first    | with_reducible (first | refine zG ?_ | refine zH ?_ | refine zT ?_))
  (with_reducible refine zA ?_ ?_); kernel_rfl
  repeat (first | ((with_reducible refine zF ?_); refine zE rfl ?_)  | refine zL ?_ | refine zB rfl ?_ | with_reducible (first | refine zG ?_ | refine zH ?_))
  refine mR (t := 6) (s := 32) 9 1 rfl rfl ?_
  repeat (first | ((with_reducible refine zJ ?_); refine zK rfl ?_) | ((with_reducible refine zq ?_); refine yI tbOk rfl rfl ?_)  | refine zL ?_ | refine zB rfl ?_ | with_reducible (first | refine zG ?_ | refine zV ?_) | ((with_reducible refine zA ?_ ?_); kernel_rfl))
  refine jO (ι := Nat × List (List UInt8)) (fun v i => v (refB + 0) = 0 ∧ i.1 ≤ 16 ∧ i.2.length ≤ i.1 ∧ valR (H.drop i.1) (W.drop i.1) i.2 = valR H W []) (fun i => 16 - i.1) (fun v i => [(0, .ptr (refB + 0) (v (refB + 0)) 0), (1, .sl 1 (W.map svL)), (6, .own 32 (v 32)), (16, .sl 1 (H.map svL)), (17, .v (.int .i64 (H.map svL).length)), (18, .v (.int .i64 (i.1 : Nat)))]) (fun v i => [(refB + 0, .box (rdC N V d nilA nilA nilA)), (32, .buf 9 1 (i.2.map svL))]) ?_ ?_
  · exact ⟨(0, []), ⟨rfl, Nat.zero_le _, Nat.zero_le _, rfl⟩, trivial, ⟨rfl, rfl, rfl, rfl, rfl, rfl, trivial⟩, ⟨rfl, rfl, trivial⟩⟩
  rintro v ⟨k, A⟩ ⟨hv0, hk, hA, hf⟩
  dsimp only at hv0 hk hA hf ⊢
  repeat (first | ((with_reducible refine zR ?_); refine zS rfl rfl rfl ?_)  | refine zL ?_ | refine zB rfl ?_ | with_reducible (first | refine zG ?_ | refine zH ?_) | ((with_reducible refine zA ?_ ?_); kernel_rfl))
  refine zX rfl (fun h => ?_) (fun h => ?_)
  · have hlt : k < 16 := by simp at h; omega
    obtain ⟨p, hp⟩ := zc (L := H) (k := k) (by omega)
    obtain ⟨w, hwk⟩ := zc (L := W) (k := k) (by omega)
    have hy := iB hp
    have hz := iB hwk
    rw [valR_at hp hwk] at hf
    repeat (first | ((with_reducible refine zJ ?_); refine zK rfl ?_) | ((with_reducible refine zF ?_); refine zE rfl ?_) | ((with_reducible refine zQ ?_); refine zb tbOk rfl rfl rfl ?_) | ((with_reducible refine zY ?_); refine zZ tbOk rfl rfl rfl rfl (by assumption) ?_) | ((with_reducible refine zR ?_); refine jI rfl rfl rfl ?_)  | refine zL ?_ | refine zB rfl ?_ | with_reducible (first | refine zG ?_ | refine zH ?_ | refine zV ?_ | refine zT ?_) | ((with_reducible refine zA ?_ ?_); kernel_rfl))
    refine zX rfl (fun q => ?_) (fun q => ?_)
    · rw [if_pos ((gK p).1 q)] at hf
      repeat (first | ((with_reducible refine zJ ?_); refine zK rfl ?_) | ((with_reducible refine zQ ?_); refine zb tbOk rfl rfl rfl ?_) | ((with_reducible refine zY ?_); refine zZ tbOk rfl rfl rfl rfl (by assumption) ?_) | ((with_reducible refine zl ?_); refine zp tbOk rfl rfl rfl rfl rfl (by omega) rfl rfl rfl ?_) | refine zB rfl ?_  | ((with_reducible refine zA ?_ ?_); kernel_rfl))
      refine yF tbOk rfl rfl rfl rfl rfl (by decide) rfl rfl rfl rfl rfl (fun x hx => by simp at hx; subst hx; rfl) (by simp only [List.length_map, List.length_cons, List.length_nil, List.length_append, List.length_take]; omega) (by simp only [List.length_map, List.length_cons, List.length_nil, List.length_append, List.length_take]; omega) ?_
      repeat (first | ((with_reducible refine zJ ?_); refine zK rfl ?_) | ((with_reducible refine zF ?_); refine zE rfl ?_) | ((with_reducible refine zR ?_); refine zk rfl rfl (by omega) ?_)  | refine zL ?_ | refine zB rfl ?_ | with_reducible (first | refine zG ?_ | refine zo ?_) | ((with_reducible refine zA ?_ ?_); kernel_rfl))
      exact ⟨(k + 1, A ++ [w]), ⟨hv0, by show k + 1 ≤ 16; omega, by simp; omega, hf⟩, by show 16 - (k + 1) < 16 - k; omega, ⟨rfl, rfl, rfl, rfl, rfl, rfl, trivial⟩, ⟨rfl, jk (by rw [List.map_append]; rfl), trivial⟩⟩
    rw [if_neg (fun e => by have q2 : yg (strL p) ⟨#[]⟩ = false := q; rw [(gK p).2 e] at q2; cases q2)] at hf
    repeat (first | ((with_reducible refine zJ ?_); refine zK rfl ?_) | ((with_reducible refine zF ?_); refine zE rfl ?_) | ((with_reducible refine zQ ?_); refine zb tbOk rfl rfl rfl ?_) | ((with_reducible refine zY ?_); refine zZ tbOk rfl rfl rfl rfl (by assumption) ?_) | ((with_reducible refine zR ?_); refine jI rfl rfl rfl ?_)  | refine zL ?_ | refine zB rfl ?_ | with_reducible (first | refine zG ?_ | refine zH ?_) | ((with_reducible refine zA ?_ ?_); kernel_rfl))
    refine zX rfl (fun q2 => ?_) (fun q2 => ?_)
    · rw [if_pos ((jo p w).1 q2)] at hf
      repeat (first | ((with_reducible refine zJ ?_); refine zK rfl ?_) | ((with_reducible refine zR ?_); refine zk rfl rfl (by omega) ?_)  | refine zL ?_ | refine zB rfl ?_ | with_reducible (first | refine zG ?_ | refine zo ?_ | refine zT ?_) | ((with_reducible refine zA ?_ ?_); kernel_rfl))
      exact ⟨(k + 1, A), ⟨hv0, by show k + 1 ≤ 16; omega, by show A.length ≤ k + 1; omega, hf⟩, by show 16 - (k + 1) < 16 - k; omega, ⟨rfl, rfl, rfl, rfl, rfl, rfl, trivial⟩, ⟨rfl, rfl, trivial⟩⟩
    · rw [if_neg (fun e => by have q3 : yg (strL p) (strL w) = false := q2; rw [(jo p w).2 e] at q3; cases q3)] at hf
      rw [← hf]
      repeat (first | ((with_reducible refine zF ?_); refine zE rfl ?_)  | refine zL ?_ | refine zB rfl ?_ | with_reducible (first | refine zG ?_ | refine zP ?_ | refine zU ?_ | refine zH ?_ | refine zN ?_) | ((with_reducible refine zA ?_ ?_); kernel_rfl))
      refine yo (by first | exact .inr rfl | exact .inl rfl) rfl rfl rfl (by first | rfl | assumption) ?_ ?_ (by repeat' (first | exact trivial | exact Ren.v _ | exact Ren.sl _ _ | exact Ren.ep _ | exact Ren.ptr _ _ _ _ rfl | exact Ren.bs _ _ _ _ _ rfl | exact Ren.nil _ | exact Ren.own _ _ _ _ ⟨_, rfl⟩ | refine zv ?_ | refine zx ?_ | refine zw ?_ | refine ⟨?_, ?_⟩)) <;> rfl
  have hge : k = 16 := by simp at h; omega
  subst hge
  rw [List.drop_of_length_le (by omega), valR] at hf
  have hAl : A.length = 9 := by have := gX H W [] A hf.symm; simp at this; omega
  rw [← hf]
  dsimp only
  have hsz : ∀ j, (wAt A j).length ≤ 1000000 := fun j => by
    have key : ∀ (P W B R : List (List UInt8)), valR P W B = some R → ∀ w ∈ R, w ∈ B ∨ w ∈ W := by
      intro P
      induction P with
      | nil => intro W B R h w hw; rw [valR] at h; injection h with h; subst h; exact .inl hw
      | cons p P ih =>
        intro W B R h w hw
        cases W with
        | nil => rw [valR] at h; cases h
        | cons x W =>
          rw [valR] at h
          split at h
          · rcases ih W _ R h w hw with h1 | h1
            · rcases List.mem_append.1 h1 with h1 | h1
              · exact .inl h1
              · exact .inr (by simp at h1; simp [h1])
            · exact .inr (by simp [h1])
          split at h
          · rcases ih W _ R h w hw with h1 | h1
            · exact .inl h1
            · exact .inr (by simp [h1])
          · cases h
    unfold wAt
    cases hq : A[j]? with
    | none => simp
    | some x =>
      rcases key H W [] A hf.symm x (List.mem_of_getElem? hq) with h1 | h1
      · cases h1
      · exact hw x h1
  have z0 : (A.map svL)[(0 : Int).toNat]? = some (svL (wAt A 0)) := jV (by omega)
  have z1 : (A.map svL)[(1 : Int).toNat]? = some (svL (wAt A 1)) := jV (by show 1 < _; omega)
  have z2 : (A.map svL)[(2 : Int).toNat]? = some (svL (wAt A 2)) := jV (by show 2 < _; omega)
  have z3 : (A.map svL)[(3 : Int).toNat]? = some (svL (wAt A 3)) := jV (by show 3 < _; omega)
  have z4 : (A.map svL)[(4 : Int).toNat]? = some (svL (wAt A 4)) := jV (by show 4 < _; omega)
  have z5 : (A.map svL)[(5 : Int).toNat]? = some (svL (wAt A 5)) := jV (by show 5 < _; omega)
  have z6 : (A.map svL)[(6 : Int).toNat]? = some (svL (wAt A 6)) := jV (by show 6 < _; omega)
  have z7 : (A.map svL)[(7 : Int).toNat]? = some (svL (wAt A 7)) := jV (by show 7 < _; omega)
  have z8 : (A.map svL)[(8 : Int).toNat]? = some (svL (wAt A 8)) := jV (by show 8 < _; omega)
  repeat (first   | with_reducible (first | refine zG ?_ | refine zj ?_ | refine zH ?_ | refine zz ?_) | ((with_reducible refine zg ?_ ?_); rfl))
  refine ye (s := 32) [(6, .sl 1 (A.map svL))] [] rfl ⟨.inl (.inr ⟨rfl, rfl⟩), trivial⟩ trivial ?_
  repeat (first | ((with_reducible refine zJ ?_); refine zK rfl ?_) | ((with_reducible refine yD ?_); refine yE tbOk rfl rfl rfl rfl rfl rfl rfl (Nat.le_of_ble_eq_true rfl) rfl ?_) | ((with_reducible refine yc ?_); refine ya tbOk rfl rfl ?_)  | refine zL ?_ | refine zB rfl ?_ | with_reducible (first | refine zG ?_ | refine zH ?_) | ((with_reducible refine zA ?_ ?_); kernel_rfl) | ((with_reducible refine yO mixd ?_ ?_); kernel_rfl))
  refine zC (sO) ?_
  repeat (first | ((with_reducible refine zJ ?_); refine zK rfl ?_) | ((with_reducible refine zQ ?_); refine zb tbOk rfl rfl rfl ?_) | ((with_reducible refine zY ?_); refine zZ tbOk rfl rfl rfl rfl (by assumption) ?_)  | refine zB rfl ?_  )
  refine zD (ss := [(9, v 9 + 1)]) (hI yn (wAt A 0) 0 (by decide)) (by simp) (in1 rfl rfl) rfl (yP rfl) ?_
  repeat (first | ((with_reducible refine zJ ?_); refine zK rfl ?_) | ((with_reducible refine zQ ?_); refine zb tbOk rfl rfl rfl ?_) | ((with_reducible refine zY ?_); refine zZ tbOk rfl rfl rfl rfl (by assumption) ?_)  | refine zB rfl ?_  )
  refine zD (ss := [(9, v 9 + 1)]) (qU (wAt A 1) (okI (idxL (wAt A 0) 0 yn) 0) (hsz 1)) (by simp) (in1 rfl rfl) rfl (yP rfl) ?_
  repeat (first   | refine zB rfl ?_  )
  refine zC (pR) ?_
  repeat (first | ((with_reducible refine zJ ?_); refine zK rfl ?_) | ((with_reducible refine zQ ?_); refine zb tbOk rfl rfl rfl ?_) | ((with_reducible refine zY ?_); refine zZ tbOk rfl rfl rfl rfl (by assumption) ?_)  | refine zB rfl ?_  )
  refine zD (ss := [(9, v 9 + 1)]) (hI yb (wAt A 2) _ (by decide)) (by simp) (in1 rfl rfl) rfl (yP rfl) ?_
  repeat (first | ((with_reducible refine zJ ?_); refine zK rfl ?_) | ((with_reducible refine zQ ?_); refine zb tbOk rfl rfl rfl ?_) | ((with_reducible refine zY ?_); refine zZ tbOk rfl rfl rfl rfl (by assumption) ?_)  | refine zB rfl ?_  )
  refine zD (ss := [(9, v 9 + 1)]) (qU (wAt A 3) _ (hsz 3)) (by simp) (in1 rfl rfl) rfl (yP rfl) ?_
  repeat (first | ((with_reducible refine zJ ?_); refine zK rfl ?_) | ((with_reducible refine zQ ?_); refine zb tbOk rfl rfl rfl ?_) | ((with_reducible refine zY ?_); refine zZ tbOk rfl rfl rfl rfl (by assumption) ?_)  | refine zB rfl ?_  )
  refine zD (ss := [(9, v 9 + 1)]) (qU (wAt A 4) _ (hsz 4)) (by simp) (in1 rfl rfl) rfl (yP rfl) ?_
  repeat (first | ((with_reducible refine zJ ?_); refine zK rfl ?_) | ((with_reducible refine zQ ?_); refine zb tbOk rfl rfl rfl ?_) | ((with_reducible refine zY ?_); refine zZ tbOk rfl rfl rfl rfl (by assumption) ?_)  | refine zB rfl ?_  )
  refine zD (ss := [(9, v 9 + 1)]) (qU (wAt A 7) _ (hsz 7)) (by simp) (in1 rfl rfl) rfl (yP rfl) ?_
  repeat (first | ((with_reducible refine zJ ?_); refine zK rfl ?_) | ((with_reducible refine zQ ?_); refine zb tbOk rfl rfl rfl ?_) | ((with_reducible refine zY ?_); refine zZ tbOk rfl rfl rfl rfl (by assumption) ?_)  | refine zB rfl ?_  )
  refine zD (ss := [(9, v 9 + 1)]) (qU (wAt A 8) _ (hsz 8)) (by simp) (in1 rfl rfl) rfl (yP rfl) ?_
  repeat (first | ((with_reducible refine zF ?_); refine zE rfl ?_) | ((with_reducible refine zM ?_); refine zI tbOk rfl rfl rfl rfl ?_) | ((with_reducible refine zQ ?_); refine zO tbOk rfl rfl rfl rfl rfl ?_) | ((with_reducible refine yD ?_); refine yE tbOk rfl rfl rfl rfl rfl rfl rfl (Nat.le_of_ble_eq_true rfl) rfl ?_) | ((with_reducible refine yx ?_); refine yv tbOk rfl rfl rfl rfl rfl ?_) | ((with_reducible refine yT ?_); refine yG rfl ?_)  | refine zL ?_ | refine yS (by kernel_rfl) ?_ | refine zB rfl ?_ | with_reducible (first | refine zG ?_ | refine zH ?_ | refine zN ?_) | ((with_reducible refine zA ?_ ?_); kernel_rfl))
  refine yo (by first | exact .inr rfl | exact .inl rfl) rfl rfl rfl (by first | rfl | assumption) ?_ ?_ (by repeat' (first | exact trivial | exact Ren.v _ | exact Ren.sl _ _ | exact Ren.ep _ | exact Ren.ptr _ _ _ _ rfl | exact Ren.bs _ _ _ _ _ rfl | exact Ren.nil _ | exact Ren.own _ _ _ _ ⟨_, rfl⟩ | refine zv ?_ | refine zx ?_ | refine zw ?_ | refine ⟨?_, ?_⟩)) <;> rfl
end Go.Proofs.YtjamibeffalhaaaGreatDoor
