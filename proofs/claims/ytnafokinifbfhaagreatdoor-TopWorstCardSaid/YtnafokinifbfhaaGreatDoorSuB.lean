/- supply.supplied, customers, Supplied, Customers, Worst, by the abstract machine; conditions: a valid network, states of it, the tables of positions and of classes. -/
import Derived.Test.YtnafokinifbfhaaGreatDoorMaB
import Derived.Test.YtnafokinifbfhaaGreatDoorAbsJ
set_option linter.unusedVariables false
set_option linter.unusedSimpArgs false
namespace Go.Proofs.YtnafokinifbfhaaGreatDoor
open Go Go.RowKit
set_option maxRecDepth 10000
variable {G : Nat → Option (List Value)}
structure NwU (G : Nat → Option (List Value)) (N : List Nd) (V : List Dv) : Prop where
  g : GCls G
  p : GPos G
  n : N.length ≤ 32
  v : V.length ≤ 64
  nn : ∀ x ∈ N, x.n.size ≤ maxLen
  vn : ∀ x ∈ V, x.n.size ≤ maxLen
  e : netE N V = 0
  ends : ∀ d ∈ V, jZ d N.length = true
  cu : ∀ x ∈ N, 0 ≤ x.cu ∧ x.cu ≤ 1048576
structure StOk (V : List Dv) (st : List Int) : Prop where
  l : st.length = V.length
  p : ∀ x ∈ st, posB x = true
def jK (c : List Int) : Nat → List Nd → List Int
  | _, [] => []
  | i, x :: l => if 0 < x.cu ∧ c.getD i 0 = 1 then (i : Int) :: jK c (i + 1) l else jK c (i + 1) l
def supP (N : List Nd) (V : List Dv) (st : List Int) : List Int := jK (jg N V st) 0 N
theorem pM (c : List Int) : ∀ (l : List Nd) (i : Nat), (jK c i l).length ≤ l.length
  | [], _ => Nat.le_refl _
  | x :: l, i => by
    rw [jK]
    have := pM c l (i + 1)
    split <;> simp <;> omega
theorem iI (c : List Int) : ∀ (l : List Nd) (i : Nat), ∀ v ∈ jK c i l, (i : Int) ≤ v ∧ v < ((i + l.length : Nat) : Int)
  | [], i, v, h => by cases h
  | x :: l, i, v, h => by
    rw [jK] at h
    have ih := iI c l (i + 1)
    split at h
    · rcases List.mem_cons.1 h with rfl | h
      · simp; omega
      · have := ih v h; simp at this ⊢; omega
    · have := ih v h; simp at this ⊢; omega
theorem dB {N : List Nd} {V : List Dv} {st : List Int} : (supP N V st).length ≤ N.length := pM _ _ _
theorem rW {N : List Nd} {V : List Dv} {st : List Int} : ∀ v ∈ supP N V st, 0 ≤ v ∧ v < N.length := fun v h => by
  have := iI _ _ _ v h; simp at this; omega
set_option maxHeartbeats 4000000 in
theorem supd_A (N : List Nd) (V : List Dv) (st : List Int) (U : NwU G N V) (S : StOk V st) : zl Tryz.prog G 42 [ja N V, .sl 1 (st.map iv)] [] (.sl 1 ((supP N V st).map iv)) [] := by
  have hn := U.n
  have hb := lZ (G := G) N V st U.ends S.l U.n U.v
  have hcl : (jg N V st).length = N.length := bI
  unfold supP
  generalize jg N V st = c at hb hcl
  refine zY tbOk (zM Tryz.func42 (by kernel_rfl) rfl) Tryz.func42 rfl _ Tryz.ntmps42 (Nat.le_of_ble_eq_true rfl) fun X hX => ?_
  subst hX
  repeat (first | ((with_reducible refine zI ?_); refine zJ rfl ?_) | ((with_reducible refine zE ?_); refine zF rfl ?_) | ((with_reducible refine zQ ?_); refine zZ tbOk rfl rfl rfl rfl (Nat.le_of_ble_eq_true rfl) ?_) | ((with_reducible refine yz ?_); refine jA rfl rfl rfl ?_)  | refine zK ?_ | refine zB rfl ?_ | with_reducible (first | refine zG ?_ | refine zH ?_) | ((with_reducible refine zA ?_ ?_); kernel_rfl))
  refine zk (hb) (by repeat' (first | exact trivial | exact Ren.sl _ _ | refine zp ?_ | refine ⟨?_, ?_⟩)) (by repeat' (first | exact trivial | exact RenB.sl _ _ | refine yQ ?_ | refine ⟨?_, ?_⟩)) ?_
  repeat (first | ((with_reducible refine zI ?_); refine zJ rfl ?_) | ((with_reducible refine zE ?_); refine zF rfl ?_) | ((with_reducible refine zO ?_); refine zL tbOk rfl rfl rfl rfl ?_) | ((with_reducible refine zQ ?_); refine zN tbOk rfl rfl rfl rfl rfl ?_) | ((with_reducible refine yZ ?_); refine yX rfl rfl ?_) | ((with_reducible refine yB ?_); refine yj tbOk rfl rfl ?_)  | refine zK ?_ | refine zB rfl ?_ | with_reducible (first | refine zG ?_ | refine zH ?_ | refine zW ?_) | ((with_reducible refine zA ?_ ?_); kernel_rfl))
  refine aW (t := 7) (s := 37) 3 1 rfl rfl ?_
  refine ya (ι := Nat × List Int) (fun i => i.1 ≤ N.length ∧ i.2.length ≤ i.1 ∧ i.2 ++ jK c i.1 (N.drop i.1) = jK c 0 N) (fun i => N.length - i.1) (fun v i => [(6, .sl 1 (c.map iv)), (7, .own 37 (v 37)), (17, .sl 3 (N.map Nd.av)), (18, .v (.int .i64 (N.map Nd.av).length)), (19, .v (.int .i64 (i.1 : Nat)))]) (fun v i => [(37, .buf 3 1 (i.2.map iv))]) ?_ ?_
  · exact ⟨(0, []), ⟨Nat.zero_le _, Nat.le_refl _, rfl⟩, trivial, ⟨rfl, rfl, rfl, rfl, rfl, trivial⟩, ⟨rfl, trivial⟩⟩
  rintro v ⟨i, E⟩ ⟨hi, hE, hf⟩
  dsimp only at hi hE hf ⊢
  have hml : (E.map iv).length = E.length := by simp
  repeat (first | ((with_reducible refine zP ?_); refine zV rfl rfl rfl ?_)  | refine zK ?_ | refine zB rfl ?_ | with_reducible (first | refine zG ?_ | refine zH ?_) | ((with_reducible refine zA ?_ ?_); kernel_rfl))
  refine zh rfl (fun h => ?_) (fun h => ?_)
  · have hlt : i < N.length := by simpa using h
    obtain ⟨x, hx⟩ := zT hlt
    have hy : (N.map Nd.av)[i]? = some x.av := by rw [List.getElem?_map, hx]; rfl
    have hc := ji (L := c) (k := i) (by omega)
    rw [yq hx, jK] at hf
    repeat (first | ((with_reducible refine zI ?_); refine zJ rfl ?_) | ((with_reducible refine zE ?_); refine zF rfl ?_) | ((with_reducible refine zO ?_); refine zL tbOk rfl rfl rfl rfl ?_) | ((with_reducible refine zQ ?_); (first | refine zN tbOk rfl rfl rfl rfl rfl ?_ | refine yh tbOk rfl rfl (Nat.le_of_ble_eq_true rfl) ?_)) | ((with_reducible refine zz ?_); refine yN tbOk rfl rfl rfl rfl rfl rfl rfl (Nat.le_of_ble_eq_true rfl) rfl ?_) | ((with_reducible refine yw ?_); refine yu tbOk rfl rfl ?_) | ((with_reducible refine zU ?_); refine zg tbOk rfl rfl rfl rfl (by assumption) ?_) | ((with_reducible refine zP ?_); refine zV rfl rfl rfl ?_)  | refine zK ?_ | refine zB rfl ?_ | with_reducible (first | refine zG ?_ | refine zH ?_ | refine zW ?_ | refine zR ?_) | ((with_reducible refine zA ?_ ?_); kernel_rfl))
    by_cases c1 : 0 < x.cu
    · have d1 : decide (x.cu > 0) = true := decide_eq_true c1
      repeat (first | ((with_reducible refine zI ?_); refine zJ rfl ?_) | ((with_reducible refine zQ ?_); refine zj tbOk rfl rfl rfl ?_) | ((with_reducible refine zt ?_); refine yM rfl (by first | rfl | assumption) rfl ?_) | ((with_reducible refine zU ?_); refine zg tbOk rfl rfl rfl rfl (by assumption) ?_) | ((with_reducible refine zP ?_); refine zV rfl rfl rfl ?_)  | refine zK ?_ | refine zB rfl ?_ | refine yJ rfl rfl (by first | rfl | assumption) ?_ | with_reducible refine zG ?_ )
      refine zh rfl (fun q => ?_) (fun q => ?_)
      · rw [if_pos ⟨c1, by simpa using q⟩] at hf
        repeat (first | ((with_reducible refine zI ?_); refine zJ rfl ?_) | ((with_reducible refine yE ?_); refine yD tbOk rfl rfl rfl rfl rfl (by omega) rfl rfl rfl ?_) | refine zB rfl ?_  | ((with_reducible refine zA ?_ ?_); kernel_rfl))
        refine yT tbOk rfl rfl rfl rfl rfl (by decide) rfl rfl rfl rfl rfl (fun x hx => by simp at hx; subst hx; rfl) (by simp only [List.length_map, List.length_cons, List.length_nil]; omega) (by simp only [List.length_map, List.length_cons, List.length_nil]; omega) ?_
        repeat (first | ((with_reducible refine zI ?_); refine zJ rfl ?_) | ((with_reducible refine zE ?_); refine zF rfl ?_) | ((with_reducible refine zP ?_); refine zX rfl rfl (by omega) ?_)  | refine zK ?_ | refine zB rfl ?_ | with_reducible (first | refine zG ?_ | refine ze ?_) | ((with_reducible refine zA ?_ ?_); kernel_rfl))
        exact ⟨(i + 1, E ++ [(i : Int)]), ⟨hlt, by simp; omega, by rw [← hf]; simp⟩, by show N.length - (i + 1) < N.length - i; omega, ⟨rfl, rfl, rfl, rfl, rfl, trivial⟩, ⟨jB (by rw [List.map_append]; rfl), trivial⟩⟩
      · rw [if_neg (fun h => by rw [h.2] at q; exact absurd q (by decide))] at hf
        repeat (first | ((with_reducible refine zI ?_); refine zJ rfl ?_) | ((with_reducible refine zP ?_); refine zX rfl rfl (by omega) ?_)  | refine zK ?_ | refine zB rfl ?_ | with_reducible (first | refine zG ?_ | refine ze ?_ | refine zR ?_) | ((with_reducible refine zA ?_ ?_); kernel_rfl))
        exact ⟨(i + 1, E), ⟨hlt, by show E.length ≤ i + 1; omega, hf⟩, by show N.length - (i + 1) < N.length - i; omega, ⟨rfl, rfl, rfl, rfl, rfl, trivial⟩, ⟨rfl, trivial⟩⟩
    · have d1 : decide (x.cu > 0) = false := decide_eq_false c1
      rw [if_neg (fun h => c1 h.1)] at hf
      repeat (first | ((with_reducible refine zI ?_); refine zJ rfl ?_) | ((with_reducible refine zt ?_); refine yL rfl (by first | rfl | assumption) rfl ?_) | ((with_reducible refine zP ?_); refine zX rfl rfl (by omega) ?_)  | refine zK ?_ | refine zB rfl ?_ | refine yV rfl rfl (by first | rfl | assumption) ?_ | with_reducible (first | refine zG ?_ | refine ze ?_ | refine zR ?_) | ((with_reducible refine zA ?_ ?_); kernel_rfl) | refine zm rfl (by first | rfl | assumption) ?_)
      exact ⟨(i + 1, E), ⟨hlt, by show E.length ≤ i + 1; omega, hf⟩, by show N.length - (i + 1) < N.length - i; omega, ⟨rfl, rfl, rfl, rfl, rfl, trivial⟩, ⟨rfl, trivial⟩⟩
  · have hge : ¬ i < N.length := by simpa using h
    rw [List.drop_of_length_le (by omega)] at hf
    have hf' : jK c 0 N = E := by rw [← hf]; simp [jK]
    rw [hf']
    repeat (first | ((with_reducible refine zI ?_); refine zJ rfl ?_) | ((with_reducible refine zE ?_); refine zF rfl ?_)  | refine zK ?_ | refine zB rfl ?_ | with_reducible (first | refine zG ?_ | refine zd ?_ | refine zH ?_ | refine zw ?_ | refine zS ?_) | ((with_reducible refine zb ?_ ?_); rfl) | ((with_reducible refine zA ?_ ?_); kernel_rfl))
    refine bD (by first | exact .inr rfl | exact .inl rfl) rfl rfl ?_
    repeat' exact Ren.own _ _ _ _ ⟨_, rfl⟩
set_option maxHeartbeats 4000000 in
theorem supd_J (N : List Nd) (V : List Dv) (st : List Int) (U : NwU G N V) (S : StOk V st) : qc Tryz.prog G 42 [ja N V, .sl 1 (st.map iv)] [] (.own (refB + 0) 0) [.buf 3 1 ((supP N V st).map iv)] := by
  have hn := U.n
  have hb := lZ (G := G) N V st U.ends S.l U.n U.v
  have hcl : (jg N V st).length = N.length := bI
  unfold supP
  generalize jg N V st = c at hb hcl
  refine aC tbOk (zM Tryz.func42 (by kernel_rfl) rfl) Tryz.func42 rfl _ Tryz.ntmps42 (Nat.le_of_ble_eq_true rfl) fun X hX => ?_
  subst hX
  repeat (first | ((with_reducible refine zI ?_); refine zJ rfl ?_) | ((with_reducible refine zE ?_); refine zF rfl ?_) | ((with_reducible refine zQ ?_); refine zZ tbOk rfl rfl rfl rfl (Nat.le_of_ble_eq_true rfl) ?_) | ((with_reducible refine yz ?_); refine jA rfl rfl rfl ?_)  | refine zK ?_ | refine zB rfl ?_ | with_reducible (first | refine zG ?_ | refine zH ?_) | ((with_reducible refine zA ?_ ?_); kernel_rfl))
  refine zk (hb) (by repeat' (first | exact trivial | exact Ren.sl _ _ | refine zp ?_ | refine ⟨?_, ?_⟩)) (by repeat' (first | exact trivial | exact RenB.sl _ _ | refine yQ ?_ | refine ⟨?_, ?_⟩)) ?_
  repeat (first | ((with_reducible refine zI ?_); refine zJ rfl ?_) | ((with_reducible refine zE ?_); refine zF rfl ?_) | ((with_reducible refine zO ?_); refine zL tbOk rfl rfl rfl rfl ?_) | ((with_reducible refine zQ ?_); refine zN tbOk rfl rfl rfl rfl rfl ?_) | ((with_reducible refine yZ ?_); refine yX rfl rfl ?_) | ((with_reducible refine yB ?_); refine yj tbOk rfl rfl ?_)  | refine zK ?_ | refine zB rfl ?_ | with_reducible (first | refine zG ?_ | refine zH ?_ | refine zW ?_) | ((with_reducible refine zA ?_ ?_); kernel_rfl))
  refine aW (t := 7) (s := 37) 3 1 rfl rfl ?_
  refine ya (ι := Nat × List Int) (fun i => i.1 ≤ N.length ∧ i.2.length ≤ i.1 ∧ i.2 ++ jK c i.1 (N.drop i.1) = jK c 0 N) (fun i => N.length - i.1) (fun v i => [(6, .sl 1 (c.map iv)), (7, .own 37 (v 37)), (17, .sl 3 (N.map Nd.av)), (18, .v (.int .i64 (N.map Nd.av).length)), (19, .v (.int .i64 (i.1 : Nat)))]) (fun v i => [(37, .buf 3 1 (i.2.map iv))]) ?_ ?_
  · exact ⟨(0, []), ⟨Nat.zero_le _, Nat.le_refl _, rfl⟩, trivial, ⟨rfl, rfl, rfl, rfl, rfl, trivial⟩, ⟨rfl, trivial⟩⟩
  rintro v ⟨i, E⟩ ⟨hi, hE, hf⟩
  dsimp only at hi hE hf ⊢
  have hml : (E.map iv).length = E.length := by simp
  repeat (first | ((with_reducible refine zP ?_); refine zV rfl rfl rfl ?_)  | refine zK ?_ | refine zB rfl ?_ | with_reducible (first | refine zG ?_ | refine zH ?_) | ((with_reducible refine zA ?_ ?_); kernel_rfl))
  refine zh rfl (fun h => ?_) (fun h => ?_)
  · have hlt : i < N.length := by simpa using h
    obtain ⟨x, hx⟩ := zT hlt
    have hy : (N.map Nd.av)[i]? = some x.av := by rw [List.getElem?_map, hx]; rfl
    have hc := ji (L := c) (k := i) (by omega)
    rw [yq hx, jK] at hf
    repeat (first | ((with_reducible refine zI ?_); refine zJ rfl ?_) | ((with_reducible refine zE ?_); refine zF rfl ?_) | ((with_reducible refine zO ?_); refine zL tbOk rfl rfl rfl rfl ?_) | ((with_reducible refine zQ ?_); (first | refine zN tbOk rfl rfl rfl rfl rfl ?_ | refine yh tbOk rfl rfl (Nat.le_of_ble_eq_true rfl) ?_)) | ((with_reducible refine zz ?_); refine yN tbOk rfl rfl rfl rfl rfl rfl rfl (Nat.le_of_ble_eq_true rfl) rfl ?_) | ((with_reducible refine yw ?_); refine yu tbOk rfl rfl ?_) | ((with_reducible refine zU ?_); refine zg tbOk rfl rfl rfl rfl (by assumption) ?_) | ((with_reducible refine zP ?_); refine zV rfl rfl rfl ?_)  | refine zK ?_ | refine zB rfl ?_ | with_reducible (first | refine zG ?_ | refine zH ?_ | refine zW ?_ | refine zR ?_) | ((with_reducible refine zA ?_ ?_); kernel_rfl))
    by_cases c1 : 0 < x.cu
    · have d1 : decide (x.cu > 0) = true := decide_eq_true c1
      repeat (first | ((with_reducible refine zI ?_); refine zJ rfl ?_) | ((with_reducible refine zQ ?_); refine zj tbOk rfl rfl rfl ?_) | ((with_reducible refine zt ?_); refine yM rfl (by first | rfl | assumption) rfl ?_) | ((with_reducible refine zU ?_); refine zg tbOk rfl rfl rfl rfl (by assumption) ?_) | ((with_reducible refine zP ?_); refine zV rfl rfl rfl ?_)  | refine zK ?_ | refine zB rfl ?_ | refine yJ rfl rfl (by first | rfl | assumption) ?_ | with_reducible refine zG ?_ )
      refine zh rfl (fun q => ?_) (fun q => ?_)
      · rw [if_pos ⟨c1, by simpa using q⟩] at hf
        repeat (first | ((with_reducible refine zI ?_); refine zJ rfl ?_) | ((with_reducible refine yE ?_); refine yD tbOk rfl rfl rfl rfl rfl (by omega) rfl rfl rfl ?_) | refine zB rfl ?_  | ((with_reducible refine zA ?_ ?_); kernel_rfl))
        refine yT tbOk rfl rfl rfl rfl rfl (by decide) rfl rfl rfl rfl rfl (fun x hx => by simp at hx; subst hx; rfl) (by simp only [List.length_map, List.length_cons, List.length_nil]; omega) (by simp only [List.length_map, List.length_cons, List.length_nil]; omega) ?_
        repeat (first | ((with_reducible refine zI ?_); refine zJ rfl ?_) | ((with_reducible refine zE ?_); refine zF rfl ?_) | ((with_reducible refine zP ?_); refine zX rfl rfl (by omega) ?_)  | refine zK ?_ | refine zB rfl ?_ | with_reducible (first | refine zG ?_ | refine ze ?_) | ((with_reducible refine zA ?_ ?_); kernel_rfl))
        exact ⟨(i + 1, E ++ [(i : Int)]), ⟨hlt, by simp; omega, by rw [← hf]; simp⟩, by show N.length - (i + 1) < N.length - i; omega, ⟨rfl, rfl, rfl, rfl, rfl, trivial⟩, ⟨jB (by rw [List.map_append]; rfl), trivial⟩⟩
      · rw [if_neg (fun h => by rw [h.2] at q; exact absurd q (by decide))] at hf
        repeat (first | ((with_reducible refine zI ?_); refine zJ rfl ?_) | ((with_reducible refine zP ?_); refine zX rfl rfl (by omega) ?_)  | refine zK ?_ | refine zB rfl ?_ | with_reducible (first | refine zG ?_ | refine ze ?_ | refine zR ?_) | ((with_reducible refine zA ?_ ?_); kernel_rfl))
        exact ⟨(i + 1, E), ⟨hlt, by show E.length ≤ i + 1; omega, hf⟩, by show N.length - (i + 1) < N.length - i; omega, ⟨rfl, rfl, rfl, rfl, rfl, trivial⟩, ⟨rfl, trivial⟩⟩
    · have d1 : decide (x.cu > 0) = false := decide_eq_false c1
      rw [if_neg (fun h => c1 h.1)] at hf
      repeat (first | ((with_reducible refine zI ?_); refine zJ rfl ?_) | ((with_reducible refine zt ?_); refine yL rfl (by first | rfl | assumption) rfl ?_) | ((with_reducible refine zP ?_); refine zX rfl rfl (by omega) ?_)  | refine zK ?_ | refine zB rfl ?_ | refine yV rfl rfl (by first | rfl | assumption) ?_ | with_reducible (first | refine zG ?_ | refine ze ?_ | refine zR ?_) | ((with_reducible refine zA ?_ ?_); kernel_rfl) | refine zm rfl (by first | rfl | assumption) ?_)
      exact ⟨(i + 1, E), ⟨hlt, by show E.length ≤ i + 1; omega, hf⟩, by show N.length - (i + 1) < N.length - i; omega, ⟨rfl, rfl, rfl, rfl, rfl, trivial⟩, ⟨rfl, trivial⟩⟩
  · have hge : ¬ i < N.length := by simpa using h
    rw [List.drop_of_length_le (by omega)] at hf
    have hf' : jK c 0 N = E := by rw [← hf]; simp [jK]
    rw [hf']
    repeat (first | ((with_reducible refine zI ?_); refine zJ rfl ?_) | ((with_reducible refine zE ?_); refine zF rfl ?_)  | refine zK ?_ | refine zB rfl ?_ | with_reducible (first | refine zG ?_ | refine zd ?_ | refine zH ?_ | refine zw ?_ | refine zS ?_) | ((with_reducible refine zb ?_ ?_); rfl) | ((with_reducible refine zA ?_ ?_); kernel_rfl))
    exact retJ (by first | exact .inr rfl | exact .inl rfl) (xs := [.own 37 (v 37)]) (fs := [(37, v 37)]) ⟨.tmp 4, trivial⟩ (by simp) (by repeat' exact Ren.ownr _ _ _ rfl) ⟨rfl, trivial⟩
def cuAt (N : List Nd) (v : Int) : Int := match N[v.toNat]? with
  | some x => x.cu
  | none => 0
def qA (N : List Nd) (l : List Int) : Int := l.foldl (fun s v => s + cuAt N v) 0
theorem sP {N : List Nd} {l : List Int} {k : Nat} {v : Int} (h : l[k]? = some v) : qA N (l.take (k + 1)) = qA N (l.take k) + cuAt N v := by
  unfold qA; rw [qM h, List.foldl_append]; rfl
set_option maxHeartbeats 1000000 in
theorem vC (N : List Nd) (V : List Dv) (l : List Int) (U : NwU G N V) (hl : l.length ≤ 64) (hi : ∀ v ∈ l, 0 ≤ v ∧ v < N.length) : zl Tryz.prog G 41 [ja N V, .sl 1 (l.map iv)] [] (.v (.int .i64 (qA N l))) [] := by
  have hcu := U.cu
  refine zY tbOk (zM Tryz.func41 (by kernel_rfl) rfl) Tryz.func41 rfl _ Tryz.ntmps41 (Nat.le_of_ble_eq_true rfl) fun X hX => ?_
  subst hX
  repeat (first | ((with_reducible refine zI ?_); refine zJ rfl ?_) | ((with_reducible refine zE ?_); refine zF rfl ?_) | ((with_reducible refine yz ?_); refine jA rfl rfl rfl ?_) | ((with_reducible refine yB ?_); refine yj tbOk rfl rfl ?_)  | refine zK ?_ | refine zB rfl ?_ | with_reducible (first | refine zG ?_ | refine zH ?_ | refine zW ?_) | ((with_reducible refine zA ?_ ?_); kernel_rfl))
  refine ya (ι := Nat × Int) (fun i => i.1 ≤ l.length ∧ i.2 = qA N (l.take i.1) ∧ 0 ≤ i.2 ∧ i.2 ≤ 1048576 * (i.1 : Int)) (fun i => l.length - i.1) (fun v i => [(2, .ptr 2 (v 2) 0), (5, .v (.int .i64 i.2)), (8, .sl 1 (l.map iv)), (9, .v (.int .i64 (l.map iv).length)), (10, .v (.int .i64 (i.1 : Nat)))]) (fun v i => [(2, .box [.sl 3 (N.map Nd.av), .sl 5 (V.map Dv.av)])]) ?_ ?_
  · exact ⟨(0, 0), ⟨Nat.zero_le _, rfl, Int.le_refl _, by simp⟩, trivial, ⟨rfl, rfl, rfl, rfl, rfl, trivial⟩, ⟨rfl, trivial⟩⟩
  rintro v ⟨k, s⟩ ⟨hk, hs, s0, s1⟩
  dsimp only at hk hs s0 s1 ⊢
  repeat (first | ((with_reducible refine zP ?_); refine zV rfl rfl rfl ?_)  | refine zK ?_ | refine zB rfl ?_ | with_reducible (first | refine zG ?_ | refine zH ?_) | ((with_reducible refine zA ?_ ?_); kernel_rfl))
  refine zh rfl (fun h => ?_) (fun h => ?_)
  · have hlt : k < l.length := by simpa using h
    obtain ⟨z, hz⟩ := zT hlt
    have hy := cW hz
    have hzr := hi z (List.mem_of_getElem? hz)
    obtain ⟨x, hx⟩ := zT (L := N) (k := z.toNat) (by omega)
    have hx' : (N.map Nd.av)[z.toNat]? = some x.av := by rw [List.getElem?_map, hx]; rfl
    have hc := hcu x (List.mem_of_getElem? hx)
    have ec : cuAt N z = x.cu := by unfold cuAt; rw [hx]
    repeat (first | ((with_reducible refine zI ?_); refine zJ rfl ?_) | ((with_reducible refine zE ?_); refine zF rfl ?_) | ((with_reducible refine zO ?_); (first | refine zL tbOk rfl rfl rfl rfl ?_ | refine dT tbOk rfl rfl rfl rfl ?_)) | ((with_reducible refine zQ ?_); (first | refine zN tbOk rfl rfl rfl rfl rfl ?_ | refine zj tbOk rfl rfl rfl ?_)) | ((with_reducible refine zU ?_); (first | refine zg tbOk rfl rfl rfl rfl (by assumption) ?_ | refine jD tbOk rfl rfl rfl rfl (by omega) (by assumption) ?_)) | ((with_reducible refine zP ?_); refine zX rfl rfl (by omega) ?_)  | refine zK ?_ | refine zB rfl ?_ | with_reducible (first | refine zG ?_ | refine ze ?_ | refine zH ?_ | refine zW ?_ | refine zR ?_) | ((with_reducible refine zA ?_ ?_); kernel_rfl))
    exact ⟨(k + 1, s + x.cu), ⟨hlt, by rw [sP hz, hs, ec], by show 0 ≤ s + x.cu; omega, by show s + x.cu ≤ 1048576 * ((k + 1 : Nat) : Int); omega⟩, by show l.length - (k + 1) < l.length - k; omega, ⟨rfl, rfl, rfl, rfl, rfl, trivial⟩, ⟨rfl, trivial⟩⟩
  · have hge : ¬ k < l.length := by simpa using h
    rw [List.take_of_length_le (by omega)] at hs
    repeat (first | ((with_reducible refine zI ?_); refine zJ rfl ?_) | ((with_reducible refine zE ?_); refine zF rfl ?_)  | refine zK ?_ | refine zB rfl ?_ | with_reducible (first | refine zG ?_ | refine zd ?_ | refine zH ?_ | refine zw ?_ | refine zS ?_) | ((with_reducible refine zb ?_ ?_); rfl) | ((with_reducible refine zA ?_ ?_); kernel_rfl))
    refine yC (by first | exact .inr rfl | exact .inl rfl) rfl rfl ?_
    rw [hs]
def bG (N : List Nd) (V : List Dv) (st : List Int) : Int := qA N (supP N V st)
theorem Supd_A (N : List Nd) (V : List Dv) (st : List Int) (U : NwU G N V) (S : StOk V st) : zl Tryz.prog G 43 [ja N V, .sl 1 (st.map iv)] [] (.tu [.sl 1 ((supP N V st).map iv), .v (.int .i64 0)]) [] := by
  have hm := nD (G := G) N V st U.g U.p U.nn U.vn U.n U.v U.e S.l S.p
  have hs := supd_A (G := G) N V st U S
  refine zY tbOk (zM Tryz.func43 (by kernel_rfl) rfl) Tryz.func43 rfl _ Tryz.ntmps43 (Nat.le_of_ble_eq_true rfl) fun X hX => ?_
  subst hX
  repeat (first | ((with_reducible refine zI ?_); refine zJ rfl ?_) | ((with_reducible refine zE ?_); refine zF rfl ?_) | ((with_reducible refine zQ ?_); refine zZ tbOk rfl rfl rfl rfl (Nat.le_of_ble_eq_true rfl) ?_) | ((with_reducible refine yz ?_); refine jA rfl rfl rfl ?_)  | refine zK ?_ | refine zB rfl ?_ | with_reducible (first | refine zG ?_ | refine zH ?_) | ((with_reducible refine zA ?_ ?_); kernel_rfl))
  refine zk (hm) (by repeat' (first | exact trivial | exact Ren.sl _ _ | refine zp ?_ | refine ⟨?_, ?_⟩)) (by repeat' exact RenB.v _) ?_
  repeat (first | ((with_reducible refine zI ?_); refine zJ rfl ?_) | ((with_reducible refine zE ?_); refine zF rfl ?_) | ((with_reducible refine zQ ?_); refine zZ tbOk rfl rfl rfl rfl (Nat.le_of_ble_eq_true rfl) ?_) | ((with_reducible refine zP ?_); refine zV rfl rfl rfl ?_)  | refine zK ?_ | refine zB rfl ?_ | with_reducible (first | refine zG ?_ | refine zH ?_ | refine zR ?_) | ((with_reducible refine zA ?_ ?_); kernel_rfl) | refine zm rfl (by first | rfl | assumption) ?_)
  refine zk (hs) (by repeat' (first | exact trivial | exact Ren.sl _ _ | refine zp ?_ | refine ⟨?_, ?_⟩)) (by repeat' exact RenB.sl _ _) ?_
  repeat (first | ((with_reducible refine zE ?_); refine zF rfl ?_)  | refine zK ?_ | refine zB rfl ?_ | with_reducible (first | refine zG ?_ | refine zS ?_) )
  refine qN (by first | exact .inr rfl | exact .inl rfl) rfl rfl rfl ?_
  repeat' (first | exact trivial | exact Ren.v _ | exact Ren.sl _ _ | refine yR ?_ | refine ⟨?_, ?_⟩)
theorem Supd_J (N : List Nd) (V : List Dv) (st : List Int) (U : NwU G N V) (S : StOk V st) : qc Tryz.prog G 43 [ja N V, .sl 1 (st.map iv)] [] (.tu [.own (refB + 0) 0, .v (.int .i64 0)]) [.buf 3 1 ((supP N V st).map iv)] := by
  have hm := nD (G := G) N V st U.g U.p U.nn U.vn U.n U.v U.e S.l S.p
  have hs := supd_J (G := G) N V st U S
  refine aC tbOk (zM Tryz.func43 (by kernel_rfl) rfl) Tryz.func43 rfl _ Tryz.ntmps43 (Nat.le_of_ble_eq_true rfl) fun X hX => ?_
  subst hX
  repeat (first | ((with_reducible refine zI ?_); refine zJ rfl ?_) | ((with_reducible refine zE ?_); refine zF rfl ?_) | ((with_reducible refine zQ ?_); refine zZ tbOk rfl rfl rfl rfl (Nat.le_of_ble_eq_true rfl) ?_) | ((with_reducible refine yz ?_); refine jA rfl rfl rfl ?_)  | refine zK ?_ | refine zB rfl ?_ | with_reducible (first | refine zG ?_ | refine zH ?_) | ((with_reducible refine zA ?_ ?_); kernel_rfl))
  refine zk (hm) (by repeat' (first | exact trivial | exact Ren.sl _ _ | refine zp ?_ | refine ⟨?_, ?_⟩)) (by repeat' exact RenB.v _) ?_
  repeat (first | ((with_reducible refine zI ?_); refine zJ rfl ?_) | ((with_reducible refine zE ?_); refine zF rfl ?_) | ((with_reducible refine zQ ?_); refine zZ tbOk rfl rfl rfl rfl (Nat.le_of_ble_eq_true rfl) ?_) | ((with_reducible refine zP ?_); refine zV rfl rfl rfl ?_)  | refine zK ?_ | refine zB rfl ?_ | with_reducible (first | refine zG ?_ | refine zH ?_ | refine zR ?_) | ((with_reducible refine zA ?_ ?_); kernel_rfl) | refine zm rfl (by first | rfl | assumption) ?_)
  refine kS (s1 := 900) (y := .own 900 1) hs (by repeat' (first | exact trivial | exact Ren.sl _ _ | refine zp ?_ | refine ⟨?_, ?_⟩)) (by repeat' exact RenB.own _ _ _ rfl) rfl ?_
  repeat (first | ((with_reducible refine zE ?_); refine zF rfl ?_)  | refine zK ?_ | refine zB rfl ?_ | with_reducible (first | refine zG ?_ | refine zS ?_) )
  exact retJ (by first | exact .inr rfl | exact .inl rfl) (xs := [.own 900 1, .v (.int .i64 0)]) (fs := [(900, 1)]) ⟨.tmp 4, .tmp 5, trivial⟩ (by decide) (by repeat' (first | exact trivial | exact Ren.v _ | exact Ren.ownr _ _ _ rfl | refine yR ?_ | refine ⟨?_, ?_⟩)) ⟨rfl, trivial⟩
theorem Cust_A (N : List Nd) (V : List Dv) (st : List Int) (U : NwU G N V) (S : StOk V st) : zl Tryz.prog G 13 [ja N V, .sl 1 (st.map iv)] [] (.tu [.v (.int .i64 (bG N V st)), .v (.int .i64 0)]) [] := by
  have hs := Supd_A (G := G) N V st U S
  have hc := vC (G := G) N V (supP N V st) U (by have := dB (N := N) (V := V) (st := st); have := U.n; omega) rW
  unfold bG
  refine zY tbOk (zM Tryz.func13 (by kernel_rfl) rfl) Tryz.func13 rfl _ Tryz.ntmps13 (Nat.le_of_ble_eq_true rfl) fun X hX => ?_
  subst hX
  repeat (first | ((with_reducible refine zI ?_); refine zJ rfl ?_) | ((with_reducible refine zE ?_); refine zF rfl ?_) | ((with_reducible refine zQ ?_); refine zZ tbOk rfl rfl rfl rfl (Nat.le_of_ble_eq_true rfl) ?_) | ((with_reducible refine yz ?_); refine jA rfl rfl rfl ?_)  | refine zK ?_ | refine zB rfl ?_ | with_reducible (first | refine zG ?_ | refine zH ?_) | ((with_reducible refine zA ?_ ?_); kernel_rfl))
  refine zk (hs) (by repeat' (first | exact trivial | exact Ren.sl _ _ | refine zp ?_ | refine ⟨?_, ?_⟩)) (by repeat' (first | exact trivial | exact RenB.v _ | exact RenB.sl _ _ | refine yQ ?_ | refine ⟨?_, ?_⟩)) ?_
  repeat (first | ((with_reducible refine zI ?_); refine zJ rfl ?_) | ((with_reducible refine zE ?_); refine zF rfl ?_) | ((with_reducible refine zQ ?_); refine zZ tbOk rfl rfl rfl rfl (Nat.le_of_ble_eq_true rfl) ?_) | ((with_reducible refine yZ ?_); refine yX rfl rfl ?_)  | refine zK ?_ | refine zB rfl ?_ | with_reducible (first | refine zG ?_ | refine zH ?_) | ((with_reducible refine zA ?_ ?_); kernel_rfl))
  refine zk (hc) (by repeat' (first | exact trivial | exact Ren.sl _ _ | refine zp ?_ | refine ⟨?_, ?_⟩)) (by repeat' exact RenB.v _) ?_
  repeat (first | ((with_reducible refine zI ?_); refine zJ rfl ?_) | ((with_reducible refine zE ?_); refine zF rfl ?_)  | refine zK ?_ | refine zB rfl ?_ | with_reducible (first | refine zG ?_ | refine zS ?_) )
  refine qN (by first | exact .inr rfl | exact .inl rfl) rfl rfl rfl ?_
  repeat' (first | exact trivial | exact Ren.v _ | refine yR ?_ | refine ⟨?_, ?_⟩)
theorem iN : ∀ (L : List Int) (i k : Nat), L[k]? = some 3 → ((i + k : Nat) : Int) ∈ jb i L
  | [], i, k, h => by simp at h
  | m :: L, i, k, h => by
    rw [jb]
    cases k with
    | zero => simp at h; subst h; rw [if_pos rfl]; simp
    | succ k =>
      have ih := iN L (i + 1) k (by simpa using h)
      rw [show i + 1 + k = i + (k + 1) by omega] at ih
      split
      · exact List.mem_cons_of_mem _ ih
      · exact ih
theorem bit12 (n : Nat) : posB (1 + ((n % 2 : Nat) : Int)) = true := by unfold posB; simp; omega
theorem xT (u j : Nat) : ∀ (D : List Int) (i : Nat) (s : List Int), (∀ d ∈ D, 0 ≤ d) → (∀ (k : Nat) (x : Int), s[k]? = some x → posB x = true ∨ (k : Int) ∈ D) → ∀ x ∈ setU u j i D s, posB x = true
  | [], i, s, _, h, x, hx => by
    obtain ⟨k, hk⟩ := List.getElem?_of_mem hx
    rcases h k x hk with h1 | h1
    · exact h1
    · cases h1
  | d :: D, i, s, hd, h, x, hx => by
    rw [setU] at hx
    refine xT u j D (i + 1) _ (fun e he => hd e (by simp [he])) (fun k y hk => ?_) x hx
    have hd0 := hd d (by simp)
    by_cases e : k = d.toNat
    · subst e
      have hlt := zi hk
      rw [List.length_set] at hlt
      rw [List.getElem?_set_self hlt] at hk
      injection hk with hk
      subst hk
      exact .inl (bit12 _)
    · rw [List.getElem?_set_ne (Ne.symm e)] at hk
      rcases h k y hk with h1 | h1
      · exact .inl h1
      · rcases List.mem_cons.1 h1 with h1 | h1
        · exact absurd (by omega) e
        · exact .inr h1
structure MkOk (V : List Dv) (m : List Int) : Prop where
  l : m.length = V.length
  p : ∀ x ∈ m, isB x = true
  u : (unkP m).length ≤ 8
theorem mG {V : List Dv} {m : List Int} (h : MkOk V m) : ∀ s ∈ allP m, StOk V s := fun s hs => by
  unfold allP at hs
  obtain ⟨j, _, rfl⟩ := List.mem_map.1 hs
  refine ⟨by rw [mM]; exact h.l, xT _ _ _ _ _ (fun d hd => (kX d hd).1) (fun k x hk => ?_)⟩
  have hb := h.p x (List.mem_of_getElem? hk)
  by_cases e : x = 3
  · subst e
    have := iN m 0 k hk
    rw [Nat.zero_add] at this
    exact .inr this
  · left
    unfold isB at hb
    unfold posB
    simp at hb ⊢
    omega
theorem all_ne (m : List Int) : allP m ≠ [] := by
  have : (allP m).length = 2 ^ (unkP m).length := by simp [allP]
  have h0 : 0 < (2 : Nat) ^ (unkP m).length := Nat.pow_pos (by decide)
  intro e
  rw [e] at this
  simp at this
  omega
def minP : List Int → Int
  | [] => 0
  | x :: l => l.foldl min x
def cA (N : List Nd) (V : List Dv) (m : List Int) : Int := minP ((allP m).map (bG N V))
set_option maxHeartbeats 4000000 in
theorem xH (N : List Nd) (V : List Dv) (m : List Int) (U : NwU G N V) (M : MkOk V m) : zl Tryz.prog G 12 [ja N V, .sl 1 (m.map iv)] [] (.tu [.v (.int .i64 (cA N V m)), .v (.int .i64 0)]) [] := by
  have hv := U.v
  have hck := uX (G := G) N V m U.g U.p U.nn U.vn U.n U.v U.e M.l M.p
  have hal := mall_A (G := G) m U.p M.p (by have := M.l; omega) M.u
  have hok := mG M
  have hne := all_ne m
  have hsup := fun (s : List Int) (hs : s ∈ allP m) => supd_A (G := G) N V s U (hok s hs)
  have hcus := fun (s : List Int) => vC (G := G) N V (supP N V s) U (by have := dB (N := N) (V := V) (st := s); have := U.n; omega) rW
  have hll : (allP m).length ≤ 256 := by
    have : (allP m).length = 2 ^ (unkP m).length := by simp [allP]
    rw [this]
    exact Nat.pow_le_pow_right (n := 2) (by decide) M.u
  unfold cA
  obtain ⟨A, hA⟩ : ∃ A, A = allP m := ⟨_, rfl⟩
  rw [← hA] at hal hok hne hsup hll ⊢
  obtain ⟨s0, R, rfl⟩ : ∃ s0 R, A = s0 :: R := by
    cases A with
    | nil => exact absurd rfl hne
    | cons a l => exact ⟨a, l, rfl⟩
  have h0 := hsup s0 (by simp)
  have hy0 : ((s0 :: R).map slI)[(0 : Int).toNat]? = some (slI s0) := rfl
  have hrl : (R.map slI).length = R.length := by simp
  have hll2 : R.length ≤ 256 := by rw [List.length_cons] at hll; omega
  have hl1 : ((s0 :: R).map slI).length = R.length + 1 := by simp
  refine zY tbOk (zM Tryz.func12 (by kernel_rfl) rfl) Tryz.func12 rfl _ Tryz.ntmps12 (Nat.le_of_ble_eq_true rfl) fun X hX => ?_
  subst hX
  repeat (first | ((with_reducible refine zI ?_); refine zJ rfl ?_) | ((with_reducible refine zE ?_); refine zF rfl ?_) | ((with_reducible refine zQ ?_); refine zZ tbOk rfl rfl rfl rfl (Nat.le_of_ble_eq_true rfl) ?_) | ((with_reducible refine yz ?_); refine jA rfl rfl rfl ?_)  | refine zK ?_ | refine zB rfl ?_ | with_reducible (first | refine zG ?_ | refine zH ?_) | ((with_reducible refine zA ?_ ?_); kernel_rfl))
  refine zk (hck) (by repeat' (first | exact trivial | exact Ren.sl _ _ | refine zp ?_ | refine ⟨?_, ?_⟩)) (by repeat' exact RenB.v _) ?_
  repeat (first | ((with_reducible refine zI ?_); refine zJ rfl ?_) | ((with_reducible refine zE ?_); refine zF rfl ?_) | ((with_reducible refine zP ?_); refine zV rfl rfl rfl ?_)  | refine zK ?_ | refine zB rfl ?_ | with_reducible (first | refine zG ?_ | refine zH ?_ | refine zR ?_) | ((with_reducible refine zA ?_ ?_); kernel_rfl) | refine zm rfl (by first | rfl | assumption) ?_)
  refine zk (hal) (by repeat' (first | exact trivial | exact Ren.sl _ _ | refine ⟨?_, ?_⟩)) (by repeat' (first | exact trivial | exact RenB.v _ | exact RenB.sl _ _ | refine yQ ?_ | refine ⟨?_, ?_⟩)) ?_
  repeat (first | ((with_reducible refine zI ?_); refine zJ rfl ?_) | ((with_reducible refine zE ?_); refine zF rfl ?_) | ((with_reducible refine zQ ?_); (first | refine zZ tbOk rfl rfl rfl rfl (Nat.le_of_ble_eq_true rfl) ?_ | refine zj tbOk rfl rfl rfl ?_)) | ((with_reducible refine yZ ?_); refine yX rfl rfl ?_) | ((with_reducible refine zU ?_); refine zg tbOk rfl rfl rfl rfl (by assumption) ?_) | ((with_reducible refine zP ?_); refine zV rfl rfl rfl ?_)  | refine zK ?_ | refine zB rfl ?_ | with_reducible (first | refine zG ?_ | refine zH ?_ | refine zR ?_) | ((with_reducible refine zA ?_ ?_); kernel_rfl) | ((with_reducible refine jQ mixd ?_ ?_); kernel_rfl) | refine zm rfl (by first | rfl | assumption) ?_)
  refine zk (h0) (by repeat' (first | exact trivial | exact Ren.sl _ _ | refine zp ?_ | refine ⟨?_, ?_⟩)) (by repeat' exact RenB.sl _ _) ?_
  repeat (first   | refine zB rfl ?_  )
  refine zk (hcus s0) (by repeat' (first | exact trivial | exact Ren.sl _ _ | refine zp ?_ | refine ⟨?_, ?_⟩)) (by repeat' exact RenB.v _) ?_
  repeat (first | ((with_reducible refine zI ?_); refine zJ rfl ?_) | ((with_reducible refine zE ?_); refine zF rfl ?_) | ((with_reducible refine lD ?_); refine x_slice tbOk rfl rfl rfl rfl rfl (by refine ⟨?_, ?_, ?_⟩ <;> omega) ?_) | ((with_reducible refine yB ?_); refine yj tbOk rfl rfl ?_)  | refine zK ?_ | refine jR (by kernel_rfl) ?_ | refine zB rfl ?_ | with_reducible (first | refine zG ?_ | refine zH ?_ | refine zW ?_) | ((with_reducible refine zA ?_ ?_); kernel_rfl))
  have hsl : List.drop (Int.toNat 1) (List.take (((s0 :: R).map slI).length : Int).toNat ((s0 :: R).map slI)) = R.map slI := by
    rw [Int.toNat_natCast, List.take_of_length_le (Nat.le_refl _)]; rfl
  rw [hsl]
  refine ya (ι := Nat × Int) (fun i => i.1 ≤ R.length ∧ i.2 = ((R.map (bG N V)).take i.1).foldl min (bG N V s0)) (fun i => R.length - i.1) (fun v i => [(2, .ptr 2 (v 2) 0), (9, .v (.int .i64 i.2)), (34, .sl 1 (R.map slI)), (35, .v (.int .i64 (R.map slI).length)), (36, .v (.int .i64 (i.1 : Nat)))]) (fun v i => [(2, .box [.sl 3 (N.map Nd.av), .sl 5 (V.map Dv.av)])]) ?_ ?_
  · exact ⟨(0, bG N V s0), ⟨Nat.zero_le _, rfl⟩, trivial, ⟨rfl, rfl, rfl, rfl, rfl, trivial⟩, ⟨rfl, trivial⟩⟩
  rintro v ⟨k, acc⟩ ⟨hk, hacc⟩
  dsimp only at hk hacc ⊢
  repeat (first | ((with_reducible refine zP ?_); refine zV rfl rfl rfl ?_)  | refine zK ?_ | refine zB rfl ?_ | with_reducible (first | refine zG ?_ | refine zH ?_) | ((with_reducible refine zA ?_ ?_); kernel_rfl))
  refine zh rfl (fun h => ?_) (fun h => ?_)
  · have hlt : k < R.length := by simpa using h
    obtain ⟨s, hs⟩ := zT hlt
    have hy : (R.map slI)[k]? = some (slI s) := by rw [List.getElem?_map, hs]; rfl
    have hx : (R.map (bG N V))[k]? = some (bG N V s) := by rw [List.getElem?_map, hs]; rfl
    repeat (first | ((with_reducible refine zI ?_); refine zJ rfl ?_) | ((with_reducible refine zE ?_); refine zF rfl ?_) | ((with_reducible refine zQ ?_); (first | refine zZ tbOk rfl rfl rfl rfl (Nat.le_of_ble_eq_true rfl) ?_ | refine zj tbOk rfl rfl rfl ?_)) | ((with_reducible refine zU ?_); refine zg tbOk rfl rfl rfl rfl (by assumption) ?_)  | refine zK ?_ | refine zB rfl ?_ | with_reducible (first | refine zG ?_ | refine zH ?_ | refine zW ?_ | refine zR ?_) | ((with_reducible refine zA ?_ ?_); kernel_rfl) | ((with_reducible refine jQ mixd ?_ ?_); kernel_rfl))
    refine zk (hsup s (by simp [List.mem_of_getElem? hs])) (by repeat' (first | exact trivial | exact Ren.sl _ _ | refine zp ?_ | refine ⟨?_, ?_⟩)) (by repeat' exact RenB.sl _ _) ?_
    repeat (first   | refine zB rfl ?_  )
    refine zk (hcus s) (by repeat' (first | exact trivial | exact Ren.sl _ _ | refine zp ?_ | refine ⟨?_, ?_⟩)) (by repeat' exact RenB.v _) ?_
    repeat (first   | refine zB rfl ?_  )
    refine x_min rfl rfl ?_
    repeat (first | ((with_reducible refine zI ?_); refine zJ rfl ?_) | ((with_reducible refine zE ?_); refine zF rfl ?_) | ((with_reducible refine zP ?_); refine zX rfl rfl (by omega) ?_)  | refine zK ?_ | refine jR (by kernel_rfl) ?_ | refine zB rfl ?_ | with_reducible (first | refine zG ?_ | refine ze ?_) | ((with_reducible refine zA ?_ ?_); kernel_rfl))
    exact ⟨(k + 1, min acc (qA N (supP N V s))), ⟨hlt, by rw [qM hx, List.foldl_append, ← hacc]; rfl⟩, by show R.length - (k + 1) < R.length - k; omega, ⟨rfl, rfl, rfl, rfl, rfl, trivial⟩, ⟨rfl, trivial⟩⟩
  · have hge : ¬ k < R.length := by simpa using h
    rw [List.take_of_length_le (by simp; omega)] at hacc
    repeat (first | ((with_reducible refine zI ?_); refine zJ rfl ?_) | ((with_reducible refine zE ?_); refine zF rfl ?_)  | refine zK ?_ | refine zB rfl ?_ | with_reducible (first | refine zG ?_ | refine zd ?_ | refine zH ?_ | refine zw ?_ | refine zS ?_) | ((with_reducible refine zb ?_ ?_); rfl) | ((with_reducible refine zA ?_ ?_); kernel_rfl))
    refine qN (by first | exact .inr rfl | exact .inl rfl) rfl rfl rfl ?_
    have e : minP ((s0 :: R).map (bG N V)) = acc := by rw [hacc]; rfl
    rw [e]
    repeat' (first | exact trivial | exact Ren.v _ | refine yR ?_ | refine ⟨?_, ?_⟩)
end Go.Proofs.YtnafokinifbfhaaGreatDoor
