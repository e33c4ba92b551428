/- hazard.check, lives, bad, list, in, by the abstract machine; conditions: a valid network, a state of it, an operation of one of its devices, no locks. -/
import Derived.Test.YtnafokinifbfhaaGreatDoorAbsN
import Derived.Test.YtnafokinifbfhaaGreatDoorDlA
set_option linter.unusedVariables false
set_option linter.unusedSimpArgs false
namespace Go.Proofs.YtnafokinifbfhaaGreatDoor
open Go Go.RowKit
set_option maxRecDepth 10000
variable {G : Nat → Option (List Value)}
def opAV (i : Nat) (p : Int) : AV := .ag [.v (.int .i64 (i : Nat)), .v (.int .i64 p)]
def grAV (pr : List Int) : AV := .ag [.v (.int .i64 0), .sl 3 [], .sl 1 (pr.map iv)]
theorem hcheck_A (N : List Nd) (V : List Dv) (i : Nat) (p : Int) (pr : List Int) (hi : i < V.length) (hp : p = 1 ∨ p = 2) : zl Tryz.prog G 84 [ja N V, opAV i p, grAV pr] [] (.v (.int .i64 0)) [] := by
  have hvl : (V.map Dv.av).length = V.length := by simp
  have d0 : decide (((i : Nat) : Int) < 0) = false := decide_eq_false (by omega)
  have d1 : decide (((i : Nat) : Int) ≥ ((V.map Dv.av).length : Nat)) = false := decide_eq_false (by omega)
  refine zY tbOk (zM Tryz.func84 (by kernel_rfl) rfl) Tryz.func84 rfl _ Tryz.ntmps84 (Nat.le_of_ble_eq_true rfl) fun X hX => ?_
  subst hX
  rcases hp with rfl | rfl
  · repeat (first | ((with_reducible refine zI ?_); refine zJ rfl ?_) | ((with_reducible refine zE ?_); refine zF rfl ?_) | ((with_reducible refine zO ?_); refine zL tbOk rfl rfl rfl rfl ?_) | ((with_reducible refine zQ ?_); refine zN tbOk rfl rfl rfl rfl rfl ?_) | ((with_reducible refine yz ?_); refine jA rfl rfl rfl ?_) | ((with_reducible refine zt ?_); refine yL rfl (by first | rfl | assumption) rfl ?_) | ((with_reducible refine yB ?_); refine yj tbOk rfl rfl ?_) | ((with_reducible refine zP ?_); refine zV rfl rfl rfl ?_)  | refine zK ?_ | refine zB rfl ?_ | refine yV rfl rfl (by first | rfl | assumption) ?_ | refine yr rfl rfl (by first | rfl | assumption) ?_ | with_reducible (first | refine zG ?_ | refine ze ?_ | refine zH ?_ | refine zW ?_ | refine zR ?_ | refine zS ?_) | ((with_reducible refine zA ?_ ?_); kernel_rfl) | refine zm rfl (by first | rfl | assumption) ?_)
    refine yC (by first | exact .inr rfl | exact .inl rfl) rfl rfl ?_
    rfl
  · repeat (first | ((with_reducible refine zI ?_); refine zJ rfl ?_) | ((with_reducible refine zE ?_); refine zF rfl ?_) | ((with_reducible refine zO ?_); refine zL tbOk rfl rfl rfl rfl ?_) | ((with_reducible refine zQ ?_); refine zN tbOk rfl rfl rfl rfl rfl ?_) | ((with_reducible refine yz ?_); refine jA rfl rfl rfl ?_) | ((with_reducible refine zt ?_); (first | refine yM rfl (by first | rfl | assumption) rfl ?_ | refine yL rfl (by first | rfl | assumption) rfl ?_)) | ((with_reducible refine yB ?_); refine yj tbOk rfl rfl ?_) | ((with_reducible refine zP ?_); refine zV rfl rfl rfl ?_)  | refine zK ?_ | refine zB rfl ?_ | refine yJ rfl rfl (by first | rfl | assumption) ?_ | refine yr rfl rfl (by first | rfl | assumption) ?_ | with_reducible (first | refine zG ?_ | refine ze ?_ | refine zH ?_ | refine zW ?_ | refine zR ?_ | refine zS ?_) | ((with_reducible refine zA ?_ ?_); kernel_rfl) | refine zm rfl (by first | rfl | assumption) ?_)
    refine yC (by first | exact .inr rfl | exact .inl rfl) rfl rfl ?_
    rfl
theorem hlives_A (N : List Nd) (V : List Dv) (st : List Int) (i : Nat) (d : Dv) (U : NwU G N V) (S : StOk V st) (hd : V[i]? = some d) (hj : qX d.k = true) : zl Tryz.prog G 128 [ja N V, .sl 1 (st.map iv), .v (.int .i64 (i : Nat))] [] (.v (.bool (bits .and .i64 (bits .or .i64 ((jg N V st).getD d.a.toNat 0) ((jg N V st).getD d.b.toNat 0)) 1 != 0))) [] := by
  have he := U.ends d (List.mem_of_getElem? hd)
  obtain ⟨a0, a1⟩ := rL he
  obtain ⟨b0, b1⟩ := rX he hj
  have hy : (V.map Dv.av)[i]? = some d.av := pL hd
  have hb := lZ (G := G) N V st U.ends S.l U.n U.v
  have hcl : (jg N V st).length = N.length := bI
  generalize jg N V st = c at hb hcl ⊢
  have hcm : (c.map iv).length = N.length := by rw [List.length_map, hcl]
  have hya := ji (L := c) (k := d.a.toNat) (by omega)
  have hyb := ji (L := c) (k := d.b.toNat) (by omega)
  refine zY tbOk (zM Tryz.func128 (by kernel_rfl) rfl) Tryz.func128 rfl _ Tryz.ntmps128 (Nat.le_of_ble_eq_true rfl) fun X hX => ?_
  subst hX
  repeat (first | ((with_reducible refine zI ?_); refine zJ rfl ?_) | ((with_reducible refine zE ?_); refine zF rfl ?_) | ((with_reducible refine zQ ?_); refine zZ tbOk rfl rfl rfl rfl (Nat.le_of_ble_eq_true rfl) ?_) | ((with_reducible refine yz ?_); refine jA rfl rfl rfl ?_)  | refine zK ?_ | refine zB rfl ?_ | with_reducible (first | refine zG ?_ | refine zH ?_) | ((with_reducible refine zA ?_ ?_); kernel_rfl))
  refine zk (hb) (by repeat' (first | exact trivial | exact Ren.sl _ _ | refine zp ?_ | refine ⟨?_, ?_⟩)) (by repeat' (first | exact trivial | exact RenB.sl _ _ | refine yQ ?_ | refine ⟨?_, ?_⟩)) ?_
  repeat (first | ((with_reducible refine zI ?_); refine zJ rfl ?_) | ((with_reducible refine zE ?_); refine zF rfl ?_) | ((with_reducible refine zO ?_); refine zL tbOk rfl rfl rfl rfl ?_) | ((with_reducible refine zQ ?_); (first | refine zN tbOk rfl rfl rfl rfl rfl ?_ | refine zj tbOk rfl rfl rfl ?_ | refine yh tbOk rfl rfl (Nat.le_of_ble_eq_true rfl) ?_)) | ((with_reducible refine zz ?_); refine yN tbOk rfl rfl rfl rfl rfl rfl rfl (Nat.le_of_ble_eq_true rfl) rfl ?_) | ((with_reducible refine yw ?_); refine yu tbOk rfl rfl ?_) | ((with_reducible refine yZ ?_); refine yX rfl rfl ?_) | ((with_reducible refine zU ?_); (first | refine zg tbOk rfl rfl rfl rfl (by assumption) ?_ | refine jD tbOk rfl rfl rfl rfl (by omega) (by assumption) ?_)) | ((with_reducible refine zP ?_); refine zV rfl rfl rfl ?_)  | refine zK ?_ | refine jR (by kernel_rfl) ?_ | refine zB rfl ?_ | with_reducible (first | refine zG ?_ | refine zH ?_ | refine zS ?_) | ((with_reducible refine zA ?_ ?_); kernel_rfl) | ((with_reducible refine jQ mixd ?_ ?_); kernel_rfl))
  refine yC (by first | exact .inr rfl | exact .inl rfl) rfl rfl ?_
  rfl
theorem hbad_A (N : List Nd) (V : List Dv) (st : List Int) (i : Nat) (d : Dv) (p x : Int) (U : NwU G N V) (S : StOk V st) (hd : V[i]? = some d) : zl Tryz.prog G 90 [ja N V, .sl 1 (st.map iv), opAV i p, .v (.int .i64 d.k), .v (.int .i64 x)] [] (.v (.bool (badP N V st d p x))) [] := by
  have hl := hlives_A (G := G) N V st i d U S hd
  unfold badP
  refine zY tbOk (zM Tryz.func90 (by kernel_rfl) rfl) Tryz.func90 rfl _ Tryz.ntmps90 (Nat.le_of_ble_eq_true rfl) fun X hX => ?_
  subst hX
  repeat (first | ((with_reducible refine zI ?_); refine zJ rfl ?_) | ((with_reducible refine zE ?_); refine zF rfl ?_) | ((with_reducible refine yz ?_); refine jA rfl rfl rfl ?_) | ((with_reducible refine zP ?_); refine zV rfl rfl rfl ?_)  | refine zK ?_ | refine zB rfl ?_ | with_reducible (first | refine zG ?_ | refine zH ?_ | refine zW ?_) | ((with_reducible refine zA ?_ ?_); kernel_rfl))
  refine zh rfl (fun c => ?_) (fun c => ?_)
  · rw [if_pos (by simpa using c)]
    repeat (first | ((with_reducible refine zI ?_); refine zJ rfl ?_) | ((with_reducible refine zP ?_); refine zV rfl rfl rfl ?_)  | refine zB rfl ?_ | with_reducible refine zH ?_ | ((with_reducible refine zA ?_ ?_); kernel_rfl))
    refine yv rfl rfl (fun q1 => ?_) (fun q1 => ?_)
    · rw [q1]
      repeat (first | ((with_reducible refine zI ?_); refine zJ rfl ?_) | ((with_reducible refine zE ?_); refine zF rfl ?_) | ((with_reducible refine zt ?_); refine yM rfl (by first | rfl | assumption) rfl ?_)  | refine zK ?_ | refine zB rfl ?_ | refine jk rfl rfl (by first | rfl | assumption) ?_ | with_reducible (first | refine zG ?_ | refine zf ?_ | refine zo ?_ | refine zS ?_) )
      refine yC (by first | exact .inr rfl | exact .inl rfl) rfl rfl ?_
      rfl
    rw [q1]
    repeat (first | ((with_reducible refine zI ?_); refine zJ rfl ?_) | ((with_reducible refine zt ?_); refine yL rfl (by first | rfl | assumption) rfl ?_) | ((with_reducible refine zP ?_); refine zV rfl rfl rfl ?_)  | refine zB rfl ?_ | refine yr rfl rfl (by first | rfl | assumption) ?_  )
    refine yv rfl rfl (fun q2 => ?_) (fun q2 => ?_)
    · rw [q2]
      repeat (first | ((with_reducible refine zE ?_); refine zF rfl ?_) | ((with_reducible refine zt ?_); refine yM rfl (by first | rfl | assumption) rfl ?_)  | refine zK ?_ | refine zB rfl ?_ | refine jk rfl rfl (by first | rfl | assumption) ?_ | with_reducible (first | refine zG ?_ | refine zf ?_ | refine zo ?_ | refine zS ?_) )
      refine yC (by first | exact .inr rfl | exact .inl rfl) rfl rfl ?_
      rfl
    rw [q2]
    repeat (first | ((with_reducible refine zI ?_); refine zJ rfl ?_) | ((with_reducible refine zE ?_); refine zF rfl ?_) | ((with_reducible refine zt ?_); refine yL rfl (by first | rfl | assumption) rfl ?_) | ((with_reducible refine zP ?_); refine zV rfl rfl rfl ?_)  | refine zK ?_ | refine zB rfl ?_ | refine yr rfl rfl (by first | rfl | assumption) ?_ | with_reducible (first | refine zG ?_ | refine zf ?_ | refine zo ?_ | refine zS ?_) )
    refine yC (by first | exact .inr rfl | exact .inl rfl) rfl rfl ?_
    rfl
  rw [if_neg (by simpa using c)]
  repeat (first | ((with_reducible refine zE ?_); refine zF rfl ?_) | ((with_reducible refine zP ?_); refine zV rfl rfl rfl ?_)  | refine zK ?_ | refine zB rfl ?_ | with_reducible (first | refine zG ?_ | refine zH ?_) | ((with_reducible refine zA ?_ ?_); kernel_rfl))
  refine zh rfl (fun c => ?_) (fun c => ?_)
  · have hk : d.k = 1 := by simpa using c
    rw [if_pos hk]
    repeat (first | ((with_reducible refine zI ?_); refine zJ rfl ?_) | ((with_reducible refine zO ?_); refine zL tbOk rfl rfl rfl rfl ?_) | ((with_reducible refine zQ ?_); (first | refine zN tbOk rfl rfl rfl rfl rfl ?_ | refine zZ tbOk rfl rfl rfl rfl (Nat.le_of_ble_eq_true rfl) ?_))  | refine zB rfl ?_ | with_reducible refine zH ?_ | ((with_reducible refine zA ?_ ?_); kernel_rfl))
    refine zk (hl (by rw [hk]; rfl)) (by repeat' (first | exact trivial | exact Ren.v _ | exact Ren.sl _ _ | refine zp ?_ | refine ⟨?_, ?_⟩)) (by repeat' exact RenB.v _) ?_
    repeat (first | ((with_reducible refine zE ?_); refine zF rfl ?_)  | refine zK ?_ | refine zB rfl ?_ | with_reducible (first | refine zG ?_ | refine zf ?_ | refine zo ?_ | refine zS ?_) )
    refine yC (by first | exact .inr rfl | exact .inl rfl) rfl rfl ?_
    rfl
  rw [if_neg (by simpa using c)]
  repeat (first | ((with_reducible refine zE ?_); refine zF rfl ?_) | ((with_reducible refine zP ?_); refine zV rfl rfl rfl ?_)  | refine zK ?_ | refine zB rfl ?_ | with_reducible (first | refine zG ?_ | refine zH ?_) | ((with_reducible refine zA ?_ ?_); kernel_rfl))
  refine zh rfl (fun c => ?_) (fun c => ?_)
  · rw [if_pos (by simpa using c)]
    repeat (first | ((with_reducible refine zI ?_); refine zJ rfl ?_) | ((with_reducible refine zO ?_); refine zL tbOk rfl rfl rfl rfl ?_) | ((with_reducible refine zQ ?_); refine zN tbOk rfl rfl rfl rfl rfl ?_) | ((with_reducible refine zP ?_); refine zV rfl rfl rfl ?_)  | refine zB rfl ?_ | with_reducible refine zH ?_ | ((with_reducible refine zA ?_ ?_); kernel_rfl))
    refine yv rfl rfl (fun q1 => ?_) (fun q1 => ?_)
    · rw [q1]
      repeat (first | ((with_reducible refine zI ?_); refine zJ rfl ?_) | ((with_reducible refine zE ?_); refine zF rfl ?_) | ((with_reducible refine zt ?_); refine yM rfl (by first | rfl | assumption) rfl ?_) | ((with_reducible refine zP ?_); refine zV rfl rfl rfl ?_)  | refine zK ?_ | refine zB rfl ?_ | refine yJ rfl rfl (by first | rfl | assumption) ?_ | with_reducible (first | refine zG ?_ | refine zf ?_ | refine zo ?_ | refine zS ?_) )
      refine yC (by first | exact .inr rfl | exact .inl rfl) rfl rfl ?_
      rfl
    rw [q1]
    repeat (first | ((with_reducible refine zE ?_); refine zF rfl ?_) | ((with_reducible refine zt ?_); refine yL rfl (by first | rfl | assumption) rfl ?_)  | refine zK ?_ | refine zB rfl ?_ | refine yV rfl rfl (by first | rfl | assumption) ?_ | with_reducible (first | refine zG ?_ | refine zf ?_ | refine zo ?_ | refine zS ?_) )
    refine yC (by first | exact .inr rfl | exact .inl rfl) rfl rfl ?_
    rfl
  rw [if_neg (by simpa using c)]
  repeat (first | ((with_reducible refine zE ?_); refine zF rfl ?_) | ((with_reducible refine zP ?_); refine zV rfl rfl rfl ?_)  | refine zK ?_ | refine zB rfl ?_ | with_reducible (first | refine zG ?_ | refine zH ?_) | ((with_reducible refine zA ?_ ?_); kernel_rfl))
  refine zh rfl (fun c => ?_) (fun c => ?_)
  · rw [if_pos (by simpa using c)]
    repeat (first | ((with_reducible refine zI ?_); refine zJ rfl ?_) | ((with_reducible refine zO ?_); refine zL tbOk rfl rfl rfl rfl ?_) | ((with_reducible refine zQ ?_); refine zN tbOk rfl rfl rfl rfl rfl ?_) | ((with_reducible refine zP ?_); refine zV rfl rfl rfl ?_)  | refine zB rfl ?_ | with_reducible refine zH ?_ | ((with_reducible refine zA ?_ ?_); kernel_rfl))
    refine yv rfl rfl (fun q1 => ?_) (fun q1 => ?_)
    · rw [q1]
      repeat (first | ((with_reducible refine zI ?_); refine zJ rfl ?_) | ((with_reducible refine zE ?_); refine zF rfl ?_) | ((with_reducible refine zt ?_); refine yM rfl (by first | rfl | assumption) rfl ?_) | ((with_reducible refine zP ?_); refine zV rfl rfl rfl ?_)  | refine zK ?_ | refine zB rfl ?_ | refine yJ rfl rfl (by first | rfl | assumption) ?_ | with_reducible (first | refine zG ?_ | refine zf ?_ | refine zo ?_ | refine zS ?_) )
      refine yC (by first | exact .inr rfl | exact .inl rfl) rfl rfl ?_
      rfl
    rw [q1]
    repeat (first | ((with_reducible refine zE ?_); refine zF rfl ?_) | ((with_reducible refine zt ?_); refine yL rfl (by first | rfl | assumption) rfl ?_)  | refine zK ?_ | refine zB rfl ?_ | refine yV rfl rfl (by first | rfl | assumption) ?_ | with_reducible (first | refine zG ?_ | refine zf ?_ | refine zo ?_ | refine zS ?_) )
    refine yC (by first | exact .inr rfl | exact .inl rfl) rfl rfl ?_
    rfl
  rw [if_neg (by simpa using c)]
  repeat (first | ((with_reducible refine zI ?_); refine zJ rfl ?_) | ((with_reducible refine zE ?_); refine zF rfl ?_) | ((with_reducible refine zP ?_); refine zV rfl rfl rfl ?_)  | refine zK ?_ | refine zB rfl ?_ | with_reducible (first | refine zG ?_ | refine ze ?_ | refine zH ?_ | refine zR ?_ | refine zS ?_) | ((with_reducible refine zA ?_ ?_); kernel_rfl))
  refine yC (by first | exact .inr rfl | exact .inl rfl) rfl rfl ?_
  rfl
def fnd (h : Int × Bool) : AV := .ag [.v (.int .i64 h.1), .v (.bool h.2)]
set_option maxHeartbeats 1000000 in
theorem hlist_A (l : List (Int × Bool)) (hl : l.length ≤ 12) : zl Tryz.prog G 87 [.sl 2 (l.map fnd)] [] (.sl 1 ((lstP l).map iv)) [] := by
  have hml : (l.map fnd).length = l.length := by simp
  unfold lstP
  refine zY tbOk (zM Tryz.func87 (by kernel_rfl) rfl) Tryz.func87 rfl _ Tryz.ntmps87 (Nat.le_of_ble_eq_true rfl) fun X hX => ?_
  subst hX
  repeat (first | ((with_reducible refine zI ?_); refine zJ rfl ?_) | ((with_reducible refine zE ?_); refine zF rfl ?_) | ((with_reducible refine yB ?_); refine yj tbOk rfl rfl ?_)  | refine zK ?_ | refine zB rfl ?_ | with_reducible (first | refine zG ?_ | refine zH ?_ | refine zW ?_) | ((with_reducible refine zA ?_ ?_); kernel_rfl))
  refine aW (t := 3) (s := 18) 3 1 rfl rfl ?_
  refine ya (ι := Nat × List Int) (fun i => i.1 ≤ l.length ∧ i.2.length ≤ i.1 ∧ i.2 ++ bR (l.drop i.1) = bR l) (fun i => l.length - i.1) (fun v i => [(3, .own 18 (v 18)), (6, .sl 2 (l.map fnd)), (7, .v (.int .i64 (l.map fnd).length)), (8, .v (.int .i64 (i.1 : Nat)))]) (fun v i => [(18, .buf 3 1 (i.2.map iv))]) ?_ ?_
  · exact ⟨(0, []), ⟨Nat.zero_le _, Nat.le_refl _, rfl⟩, trivial, ⟨rfl, rfl, rfl, rfl, trivial⟩, ⟨rfl, trivial⟩⟩
  rintro v ⟨i, E⟩ ⟨hi, hE, hf⟩
  dsimp only at hi hE hf ⊢
  have hEl : (E.map iv).length = E.length := by simp
  repeat (first | ((with_reducible refine zP ?_); refine zV rfl rfl rfl ?_)  | refine zK ?_ | refine zB rfl ?_ | with_reducible (first | refine zG ?_ | refine zH ?_) | ((with_reducible refine zA ?_ ?_); kernel_rfl))
  refine zh rfl (fun h => ?_) (fun h => ?_)
  · have hlt : i < l.length := by simpa using h
    obtain ⟨x, hx⟩ := zT hlt
    have hy : (l.map fnd)[i]? = some (fnd x) := by rw [List.getElem?_map, hx]; rfl
    obtain ⟨z, b⟩ := x
    rw [yq hx, bR] at hf
    repeat (first | ((with_reducible refine zO ?_); refine zL tbOk rfl rfl rfl rfl ?_) | ((with_reducible refine zQ ?_); (first | refine zN tbOk rfl rfl rfl rfl rfl ?_ | refine yh tbOk rfl rfl (Nat.le_of_ble_eq_true rfl) ?_)) | ((with_reducible refine zz ?_); refine yN tbOk rfl rfl rfl rfl rfl rfl rfl (Nat.le_of_ble_eq_true rfl) rfl ?_) | ((with_reducible refine yw ?_); refine yu tbOk rfl rfl ?_) | ((with_reducible refine zU ?_); refine zg tbOk rfl rfl rfl rfl (by assumption) ?_)  | refine zK ?_ | refine zB rfl ?_ | with_reducible (first | refine zG ?_ | refine zH ?_ | refine zW ?_ | refine zR ?_) | ((with_reducible refine zA ?_ ?_); kernel_rfl))
    cases b with
    | true =>
      rw [if_pos rfl] at hf
      repeat (first | ((with_reducible refine zI ?_); refine zJ rfl ?_) | ((with_reducible refine zO ?_); refine zL tbOk rfl rfl rfl rfl ?_) | ((with_reducible refine zQ ?_); refine zN tbOk rfl rfl rfl rfl rfl ?_) | ((with_reducible refine yE ?_); refine yD tbOk rfl rfl rfl rfl rfl (by omega) rfl rfl rfl ?_) | refine zB rfl ?_  | ((with_reducible refine zA ?_ ?_); kernel_rfl) | refine yb rfl (by first | rfl | assumption) ?_)
      refine yT tbOk rfl rfl rfl rfl rfl (by decide) rfl rfl rfl rfl rfl (fun x hx => by simp at hx; subst hx; rfl) (by simp only [List.length_map, List.length_cons, List.length_nil]; omega) (by simp only [List.length_map, List.length_cons, List.length_nil]; omega) ?_
      repeat (first | ((with_reducible refine zI ?_); refine zJ rfl ?_) | ((with_reducible refine zE ?_); refine zF rfl ?_) | ((with_reducible refine zP ?_); refine zX rfl rfl (by omega) ?_)  | refine zK ?_ | refine zB rfl ?_ | with_reducible (first | refine zG ?_ | refine ze ?_) | ((with_reducible refine zA ?_ ?_); kernel_rfl))
      exact ⟨(i + 1, E ++ [z]), ⟨hlt, by simp; omega, by rw [← hf]; simp⟩, by show l.length - (i + 1) < l.length - i; omega, ⟨rfl, rfl, rfl, rfl, trivial⟩, ⟨jB (by rw [List.map_append]; rfl), trivial⟩⟩
    | false =>
      rw [if_neg (fun e => Bool.noConfusion e)] at hf
      repeat (first | ((with_reducible refine zI ?_); refine zJ rfl ?_) | ((with_reducible refine zP ?_); refine zX rfl rfl (by omega) ?_)  | refine zK ?_ | refine zB rfl ?_ | with_reducible (first | refine zG ?_ | refine ze ?_ | refine zR ?_) | ((with_reducible refine zA ?_ ?_); kernel_rfl) | refine zm rfl (by first | rfl | assumption) ?_)
      exact ⟨(i + 1, E), ⟨hlt, by show E.length ≤ i + 1; omega, hf⟩, by show l.length - (i + 1) < l.length - i; omega, ⟨rfl, rfl, rfl, rfl, trivial⟩, ⟨rfl, trivial⟩⟩
  · have hge : ¬ i < l.length := by simpa using h
    rw [List.drop_of_length_le (by omega)] at hf
    have hf' : bR l = E := by rw [← hf]; simp [bR]
    rw [hf']
    have hs := sort_P (G := X.G) E (by omega)
    repeat (first | ((with_reducible refine zI ?_); refine zJ rfl ?_)  | refine zB rfl ?_ | with_reducible (first | refine zG ?_ | refine zd ?_ | refine zH ?_ | refine zw ?_) | ((with_reducible refine zb ?_ ?_); rfl) | ((with_reducible refine zA ?_ ?_); kernel_rfl))
    refine cR (ss := [(18, v 18)]) (cs' := [.buf 3 1 ((srtI E).map iv)]) (y := .tu []) hs (by repeat' (first | exact trivial | exact Ren.ownr _ _ _ rfl | refine ⟨?_, ?_⟩)) (by simp) ⟨rfl, trivial⟩ ⟨rfl, trivial⟩ (by repeat' (first | exact trivial | refine yQ ?_)) ?_
    repeat (first | ((with_reducible refine zI ?_); refine zJ rfl ?_) | ((with_reducible refine zE ?_); refine zF rfl ?_)  | refine zK ?_ | refine zB rfl ?_ | with_reducible (first | refine zG ?_ | refine zH ?_ | refine zS ?_) | ((with_reducible refine zA ?_ ?_); kernel_rfl))
    refine bD (by first | exact .inr rfl | exact .inl rfl) rfl rfl ?_
    repeat' exact Ren.own _ _ _ _ ⟨_, rfl⟩
theorem lif_A (c : List AV) (hc : qI c = true) : zl Tryz.prog G 125 [.sl 3 [], .fn 86 [.ptr (refB + 0) 0 0]] [c] (.v (.int .i64 (-1))) [c] := by
  refine zY tbOk (zM Tryz.func125 (by kernel_rfl) rfl) Tryz.func125 rfl _ Tryz.ntmps125 (Nat.le_of_ble_eq_true rfl) fun X hX => ?_
  subst hX
  repeat (first | ((with_reducible refine zI ?_); refine zJ rfl ?_) | ((with_reducible refine zE ?_); refine zF rfl ?_) | ((with_reducible refine yB ?_); refine yj tbOk rfl rfl ?_)  | refine zK ?_ | refine zB rfl ?_ | with_reducible (first | refine zG ?_ | refine zH ?_ | refine zW ?_) | ((with_reducible refine zA ?_ ?_); kernel_rfl))
  refine ym (ι := Unit) (fun v _ => v (refB + 0) = 0) (fun _ => 0) (fun v _ => [(7, .v (.int .i64 0)), (8, .v (.int .i64 0))]) (fun v _ => [(refB + 0, .box c)]) ?_ ?_
  · exact ⟨(), rfl, trivial, ⟨rfl, rfl, trivial⟩, ⟨rfl, trivial⟩⟩
  rintro v ⟨⟩ hv0
  repeat (first | ((with_reducible refine zE ?_); refine zF rfl ?_) | ((with_reducible refine zP ?_); refine zV rfl rfl rfl ?_)  | refine zK ?_ | refine zB rfl ?_ | with_reducible (first | refine zG ?_ | refine zd ?_ | refine zH ?_ | refine zw ?_ | refine zS ?_) | ((with_reducible refine zb ?_ ?_); rfl) | ((with_reducible refine zA ?_ ?_); kernel_rfl) | refine zm rfl (by first | rfl | assumption) ?_)
  exact lG (by first | exact .inr rfl | exact .inl rfl) rfl rfl (by repeat' exact Ren.v _) rfl hv0 (qH hc)
theorem lcf_A (c : List AV) (hc : qI c = true) : zl Tryz.prog G 85 [.sl 3 [], .fn 86 [.ptr (refB + 0) 0 0]] [c] (.v (.bool false)) [c] := by
  have h := lif_A (G := G) c hc
  refine zY tbOk (zM Tryz.func85 (by kernel_rfl) rfl) Tryz.func85 rfl _ Tryz.ntmps85 (Nat.le_of_ble_eq_true rfl) fun X hX => ?_
  subst hX
  repeat (first | ((with_reducible refine zI ?_); refine zJ rfl ?_) | ((with_reducible refine zE ?_); refine zF rfl ?_)  | refine zK ?_ | refine zB rfl ?_ | with_reducible (first | refine zG ?_ | refine zH ?_) | ((with_reducible refine zA ?_ ?_); kernel_rfl))
  refine yg (ss := [(refB + 0, 0)]) h (by repeat' (first | exact trivial | exact Ren.sl _ _ | exact Ren.ptr _ _ _ _ rfl | refine yo ?_ | refine ⟨?_, ?_⟩)) (by simp) (in1 rfl hc) rfl (yx hc) (by repeat' exact RenB.v _) ?_
  repeat (first | ((with_reducible refine zE ?_); refine zF rfl ?_) | ((with_reducible refine zP ?_); refine zV rfl rfl rfl ?_)  | refine zK ?_ | refine zB rfl ?_ | with_reducible (first | refine zG ?_ | refine zS ?_) )
  exact lG (by first | exact .inr rfl | exact .inl rfl) rfl rfl (by repeat' exact Ren.v _) rfl rfl (qH hc)
theorem inL_eq {N : List Nd} {V : List Dv} {st : List Int} {i : Nat} {d : Dv} {p : Int} {pr : List Int} (h : st.getD i 0 = p) : inL N V st i d p pr = [(4, false), (6, d.co != 0), (7, true)] := by unfold inL; rw [if_pos h]
theorem inL_ne {N : List Nd} {V : List Dv} {st : List Int} {i : Nat} {d : Dv} {p : Int} {pr : List Int} (h : ¬ st.getD i 0 = p) : inL N V st i d p pr = [(4, false), (6, d.co != 0), (1, (p == 2) && (ofP N V st i d == 4)), (2, badP N V st d p (ofP N V st i d)), (3, decide (((qT N V st (st.set i p)).length : Int) > 0)), (5, (p == 2) && (d.k == 4) && !hasI pr d.a)] := by unfold inL; rw [if_neg h]
set_option maxHeartbeats 4000000 in
theorem hin_A (N : List Nd) (V : List Dv) (st : List Int) (i : Nat) (d : Dv) (p : Int) (pr : List Int) (U : NwU G N V) (S : StOk V st) (hd : V[i]? = some d) (hp : p = 1 ∨ p = 2) (hpr : pr.length ≤ 1000) : zl Tryz.prog G 45 [ja N V, .sl 1 (st.map iv), opAV i p, grAV pr] [] (.sl 1 ((inP N V st i d p pr).map iv)) [] := by
  have hi := zi hd
  have hv := U.v
  have hsl := S.l
  have hstl : (st.map iv).length = st.length := by simp
  have hy : (V.map Dv.av)[i]? = some d.av := pL hd
  have hyi := ji (L := st) (k := i) (by omega)
  have hcf := lcf_A (G := G) [.v (.int .i64 (i : Nat)), .v (.int .i64 p)] rfl
  have hof := dOf_A (G := G) N V st i d U S hd
  have hwi := pZ (G := G) st i p (by omega) (by omega)
  have hlo := lost_A (G := G) N V st (st.set i p) U S (st_set hp S)
  have hba := hbad_A (G := G) N V st i d p (ofP N V st i d) U S hd
  have hco := con_I (G := G) pr d.a (by unfold maxLen; omega)
  have hel := hlist_A (G := G) (inL N V st i d p pr) (by have := inL_len (N := N) (V := V) (st := st) (i := i) (d := d) (pos := p) (pr := pr); omega)
  unfold inP
  refine zY tbOk (zM Tryz.func45 (by kernel_rfl) rfl) Tryz.func45 rfl _ Tryz.ntmps45 (Nat.le_of_ble_eq_true rfl) fun X hX => ?_
  subst hX
  repeat (first | ((with_reducible refine zE ?_); refine zF rfl ?_) | ((with_reducible refine zO ?_); refine zL tbOk rfl rfl rfl rfl ?_) | ((with_reducible refine zQ ?_); (first | refine zN tbOk rfl rfl rfl rfl rfl ?_ | refine yh tbOk rfl rfl (Nat.le_of_ble_eq_true rfl) ?_)) | ((with_reducible refine zz ?_); refine yN tbOk rfl rfl rfl rfl rfl rfl rfl (Nat.le_of_ble_eq_true rfl) rfl ?_) | ((with_reducible refine yw ?_); refine yu tbOk rfl rfl ?_) | ((with_reducible refine yz ?_); refine jA rfl rfl rfl ?_) | ((with_reducible refine zU ?_); refine zg tbOk rfl rfl rfl rfl (by assumption) ?_) | ((with_reducible refine aO ?_); refine m_fn1 rfl ?_)  | refine zK ?_ | refine zB rfl ?_ | with_reducible (first | refine zG ?_ | refine zH ?_) | ((with_reducible refine zA ?_ ?_); kernel_rfl))
  refine yg (ss := [(6, 1)]) (hcf) (by repeat' (first | exact trivial | exact Ren.sl _ _ | exact Ren.ptr _ _ _ _ rfl | refine yo ?_ | refine ⟨?_, ?_⟩)) (by simp) (in1 rfl rfl) rfl (yx rfl) (by repeat' exact RenB.v _) ?_
  repeat (first | ((with_reducible refine zI ?_); refine zJ rfl ?_) | ((with_reducible refine zO ?_); refine zL tbOk rfl rfl rfl rfl ?_) | ((with_reducible refine zQ ?_); (first | refine zN tbOk rfl rfl rfl rfl rfl ?_ | refine zj tbOk rfl rfl rfl ?_)) | ((with_reducible refine zz ?_); refine yN tbOk rfl rfl rfl rfl rfl rfl rfl (Nat.le_of_ble_eq_true rfl) rfl ?_) | ((with_reducible refine yw ?_); refine yu tbOk rfl rfl ?_) | ((with_reducible refine zU ?_); refine zg tbOk rfl rfl rfl rfl (by assumption) ?_) | ((with_reducible refine jX ?_); refine jh tbOk rfl rfl rfl rfl rfl ?_) | ((with_reducible refine zP ?_); refine zV rfl rfl rfl ?_)  | refine zK ?_ | refine jR (by kernel_rfl) ?_ | refine zB rfl ?_ | with_reducible (first | refine zG ?_ | refine zH ?_) | ((with_reducible refine zA ?_ ?_); kernel_rfl) | ((with_reducible refine jQ mixd ?_ ?_); kernel_rfl))
  refine zh rfl (fun c => ?_) (fun c => ?_)
  · rw [inL_eq (by simpa using c)] at hel ⊢
    repeat (first | ((with_reducible refine zQ ?_); refine zZ tbOk rfl rfl rfl rfl (Nat.le_of_ble_eq_true rfl) ?_) | ((with_reducible refine jX ?_); refine jh tbOk rfl rfl rfl rfl rfl ?_) | ((with_reducible refine yE ?_); refine yD tbOk rfl rfl rfl rfl rfl (by omega) rfl rfl rfl ?_) | refine zB rfl ?_ | with_reducible refine zH ?_ | ((with_reducible refine zA ?_ ?_); kernel_rfl))
    refine zk (hel) (by repeat' (first | exact trivial | exact Ren.sl _ _ | refine ⟨?_, ?_⟩)) (by repeat' exact RenB.sl _ _) ?_
    repeat (first | ((with_reducible refine zE ?_); refine zF rfl ?_)  | refine zK ?_ | refine zB rfl ?_ | with_reducible (first | refine zG ?_ | refine zf ?_ | refine zS ?_) )
    refine bD (by first | exact .inr rfl | exact .inl rfl) rfl rfl ?_
    repeat' exact Ren.sl _ _
  have c' : ¬ st.getD i 0 = p := fun e => by rw [e] at c; simp at c
  repeat (first | ((with_reducible refine zI ?_); refine zJ rfl ?_) | ((with_reducible refine zO ?_); refine zL tbOk rfl rfl rfl rfl ?_) | ((with_reducible refine zQ ?_); (first | refine zN tbOk rfl rfl rfl rfl rfl ?_ | refine zZ tbOk rfl rfl rfl rfl (Nat.le_of_ble_eq_true rfl) ?_))  | refine zB rfl ?_ | with_reducible (first | refine zG ?_ | refine zH ?_ | refine zR ?_) | ((with_reducible refine zA ?_ ?_); kernel_rfl))
  refine zk (hof) (by repeat' (first | exact trivial | exact Ren.v _ | exact Ren.sl _ _ | refine zp ?_ | refine ⟨?_, ?_⟩)) (by repeat' (first | exact trivial | exact RenB.v _ | refine yQ ?_ | refine ⟨?_, ?_⟩)) ?_
  repeat (first | ((with_reducible refine zI ?_); refine zJ rfl ?_) | ((with_reducible refine zE ?_); refine zF rfl ?_) | ((with_reducible refine zO ?_); refine zL tbOk rfl rfl rfl rfl ?_) | ((with_reducible refine zQ ?_); (first | refine zN tbOk rfl rfl rfl rfl rfl ?_ | refine zZ tbOk rfl rfl rfl rfl (Nat.le_of_ble_eq_true rfl) ?_)) | ((with_reducible refine yZ ?_); refine yX rfl rfl ?_) | ((with_reducible refine zP ?_); refine zV rfl rfl rfl ?_)  | refine zK ?_ | refine zB rfl ?_ | with_reducible (first | refine zG ?_ | refine zH ?_) | ((with_reducible refine zA ?_ ?_); kernel_rfl) | ((with_reducible refine jQ mixd ?_ ?_); kernel_rfl))
  refine zk (hwi) (by repeat' (first | exact trivial | exact Ren.v _ | exact Ren.sl _ _ | refine ⟨?_, ?_⟩)) (by repeat' exact RenB.sl _ _) ?_
  repeat (first   | refine zB rfl ?_  )
  refine zk (hlo) (by repeat' (first | exact trivial | exact Ren.sl _ _ | refine zp ?_ | refine ⟨?_, ?_⟩)) (by repeat' (first | exact trivial | exact RenB.v _ | exact RenB.sl _ _ | refine yQ ?_ | refine ⟨?_, ?_⟩)) ?_
  repeat (first | ((with_reducible refine zI ?_); refine zJ rfl ?_) | ((with_reducible refine zE ?_); refine zF rfl ?_) | ((with_reducible refine zQ ?_); refine zZ tbOk rfl rfl rfl rfl (Nat.le_of_ble_eq_true rfl) ?_) | ((with_reducible refine yZ ?_); refine yX rfl rfl ?_)  | refine jR (by kernel_rfl) ?_ | refine zB rfl ?_ | with_reducible (first | refine zG ?_ | refine zH ?_) | ((with_reducible refine jQ mixd ?_ ?_); kernel_rfl))
  rcases hp with rfl | rfl
  · have e : inL N V st i d 1 pr = [(4, false), (6, d.co != 0), (1, false), (2, badP N V st d 1 (ofP N V st i d)), (3, decide ((((qT N V st (st.set i 1)).map iv).length : Int) > 0)), (5, false)] := by rw [inL_ne c', List.length_map]; rfl
    rw [e] at hel ⊢
    repeat (first | ((with_reducible refine zI ?_); refine zJ rfl ?_) | ((with_reducible refine zO ?_); refine zL tbOk rfl rfl rfl rfl ?_) | ((with_reducible refine zQ ?_); (first | refine zN tbOk rfl rfl rfl rfl rfl ?_ | refine zZ tbOk rfl rfl rfl rfl (Nat.le_of_ble_eq_true rfl) ?_)) | ((with_reducible refine zt ?_); refine yL rfl (by first | rfl | assumption) rfl ?_) | ((with_reducible refine jX ?_); refine jh tbOk rfl rfl rfl rfl rfl ?_)  | refine zB rfl ?_ | refine yV rfl rfl (by first | rfl | assumption) ?_  )
    refine zk (hba) (by repeat' (first | exact trivial | exact Ren.v _ | exact Ren.sl _ _ | refine zp ?_ | refine ⟨?_, ?_⟩)) (by repeat' exact RenB.v _) ?_
    repeat (first | ((with_reducible refine zI ?_); refine zJ rfl ?_) | ((with_reducible refine zt ?_); refine yL rfl (by first | rfl | assumption) rfl ?_) | ((with_reducible refine jX ?_); refine jh tbOk rfl rfl rfl rfl rfl ?_) | ((with_reducible refine yB ?_); refine yj tbOk rfl rfl ?_) | ((with_reducible refine zP ?_); refine zV rfl rfl rfl ?_) | ((with_reducible refine yE ?_); refine yD tbOk rfl rfl rfl rfl rfl (by omega) rfl rfl rfl ?_) | refine zB rfl ?_ | refine yV rfl rfl (by first | rfl | assumption) ?_  )
    refine zk (hel) (by repeat' (first | exact trivial | exact Ren.sl _ _ | refine ⟨?_, ?_⟩)) (by repeat' exact RenB.sl _ _) ?_
    repeat (first | ((with_reducible refine zE ?_); refine zF rfl ?_)  | refine jR (by kernel_rfl) ?_ | refine zB rfl ?_ | with_reducible (first | refine zG ?_ | refine zS ?_) )
    refine bD (by first | exact .inr rfl | exact .inl rfl) rfl rfl ?_
    repeat' exact Ren.sl _ _
  · have e : inL N V st i d 2 pr = [(4, false), (6, d.co != 0), (1, ofP N V st i d == 4), (2, badP N V st d 2 (ofP N V st i d)), (3, decide ((((qT N V st (st.set i 2)).map iv).length : Int) > 0)), (5, (d.k == 4) && !hasI pr d.a)] := by rw [inL_ne c', List.length_map]; rfl
    rw [e] at hel ⊢
    repeat (first | ((with_reducible refine zI ?_); refine zJ rfl ?_) | ((with_reducible refine zO ?_); refine zL tbOk rfl rfl rfl rfl ?_) | ((with_reducible refine zQ ?_); (first | refine zN tbOk rfl rfl rfl rfl rfl ?_ | refine zZ tbOk rfl rfl rfl rfl (Nat.le_of_ble_eq_true rfl) ?_)) | ((with_reducible refine zt ?_); refine yM rfl (by first | rfl | assumption) rfl ?_) | ((with_reducible refine jX ?_); refine jh tbOk rfl rfl rfl rfl rfl ?_) | ((with_reducible refine zP ?_); refine zV rfl rfl rfl ?_)  | refine zB rfl ?_ | refine yJ rfl rfl (by first | rfl | assumption) ?_  )
    refine zk (hba) (by repeat' (first | exact trivial | exact Ren.v _ | exact Ren.sl _ _ | refine zp ?_ | refine ⟨?_, ?_⟩)) (by repeat' exact RenB.v _) ?_
    repeat (first | ((with_reducible refine zI ?_); refine zJ rfl ?_) | ((with_reducible refine zO ?_); refine zL tbOk rfl rfl rfl rfl ?_) | ((with_reducible refine zQ ?_); refine zN tbOk rfl rfl rfl rfl rfl ?_) | ((with_reducible refine zt ?_); refine yM rfl (by first | rfl | assumption) rfl ?_) | ((with_reducible refine jX ?_); refine jh tbOk rfl rfl rfl rfl rfl ?_) | ((with_reducible refine yB ?_); refine yj tbOk rfl rfl ?_) | ((with_reducible refine zP ?_); refine zV rfl rfl rfl ?_)  | refine zB rfl ?_ | refine yJ rfl rfl (by first | rfl | assumption) ?_  )
    refine yv rfl rfl (fun k4 => ?_) (fun k4 => ?_)
    · rw [k4, Bool.true_and] at hel ⊢
      repeat (first | ((with_reducible refine zO ?_); refine zL tbOk rfl rfl rfl rfl ?_) | ((with_reducible refine zQ ?_); refine zN tbOk rfl rfl rfl rfl rfl ?_)  | refine yJ rfl rfl (by first | rfl | assumption) ?_  )
      refine zk (hco) (by repeat' (first | exact trivial | exact Ren.v _ | exact Ren.sl _ _ | refine ⟨?_, ?_⟩)) (by repeat' exact RenB.v _) ?_
      repeat (first | ((with_reducible refine k_un ?_); refine jy rfl ?_) | ((with_reducible refine zt ?_); refine yM rfl (by first | rfl | assumption) rfl ?_) | ((with_reducible refine jX ?_); refine jh tbOk rfl rfl rfl rfl rfl ?_) | ((with_reducible refine yE ?_); refine yD tbOk rfl rfl rfl rfl rfl (by omega) rfl rfl rfl ?_) | refine zB rfl ?_ | refine yJ rfl rfl (by first | rfl | assumption) ?_  )
      refine zk (hel) (by repeat' (first | exact trivial | exact Ren.sl _ _ | refine ⟨?_, ?_⟩)) (by repeat' exact RenB.sl _ _) ?_
      repeat (first | ((with_reducible refine zE ?_); refine zF rfl ?_)  | refine jR (by kernel_rfl) ?_ | refine zB rfl ?_ | with_reducible (first | refine zG ?_ | refine zS ?_) )
      refine bD (by first | exact .inr rfl | exact .inl rfl) rfl rfl ?_
      repeat' exact Ren.sl _ _
    · rw [k4, Bool.false_and] at hel ⊢
      repeat (first | ((with_reducible refine zt ?_); refine yL rfl (by first | rfl | assumption) rfl ?_) | ((with_reducible refine jX ?_); refine jh tbOk rfl rfl rfl rfl rfl ?_) | ((with_reducible refine yE ?_); refine yD tbOk rfl rfl rfl rfl rfl (by omega) rfl rfl rfl ?_) | refine zB rfl ?_ | refine yV rfl rfl (by first | rfl | assumption) ?_  )
      refine zk (hel) (by repeat' (first | exact trivial | exact Ren.sl _ _ | refine ⟨?_, ?_⟩)) (by repeat' exact RenB.sl _ _) ?_
      repeat (first | ((with_reducible refine zE ?_); refine zF rfl ?_)  | refine jR (by kernel_rfl) ?_ | refine zB rfl ?_ | with_reducible (first | refine zG ?_ | refine zS ?_) )
      refine bD (by first | exact .inr rfl | exact .inl rfl) rfl rfl ?_
      repeat' exact Ren.sl _ _
end Go.Proofs.YtnafokinifbfhaaGreatDoor
