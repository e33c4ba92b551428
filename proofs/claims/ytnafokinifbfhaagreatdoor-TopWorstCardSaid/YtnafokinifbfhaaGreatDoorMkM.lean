/- permitofficemake.Masks, Within and Op, by the abstract machine, and what their answers are; conditions: a network with a device. -/
import Derived.Test.YtnafokinifbfhaaGreatDoorAbsIp
import Derived.Test.YtnafokinifbfhaaGreatDoorSzA
set_option linter.unusedVariables false
set_option linter.unusedSimpArgs false
namespace Go.Proofs.YtnafokinifbfhaaGreatDoor
open Go Go.RowKit
set_option maxRecDepth 10000
variable {G : Nat → Option (List Value)}
set_option maxHeartbeats 4000000 in
theorem state_J (N : List Nd) (V : List Dv) (D : Dk) (hD : DkOk D) (hn : V.length ≤ 1000) :
    qc Tryz.prog G 28 [.ptr (refB + 0) 0 0, ja N V] [.box D.cells, .buf 3 1 []] (.own (refB + 1) 0) [.box (stP V D).1.cells, .buf 3 1 ((stP V D).2.map iv)] := by
  have hvl : (V.map Dv.av).length = V.length := by simp
  refine aC tbOk (zM Tryz.func28 (by kernel_rfl) rfl) Tryz.func28 rfl _ Tryz.ntmps28 (Nat.le_of_ble_eq_true rfl) fun X hX => ?_
  subst hX
  repeat (first | ((with_reducible refine zE ?_); refine zF rfl ?_) | ((with_reducible refine yz ?_); refine jA rfl rfl rfl ?_)  | refine zK ?_ | refine zB rfl ?_ | with_reducible (first | refine zG ?_ | refine zH ?_ | refine zW ?_) | ((with_reducible refine zA ?_ ?_); kernel_rfl))
  refine aW (t := 5) (s := 28) 3 1 rfl rfl ?_
  refine ym (ι := Nat × Dk × List Int) (fun v i => v (refB + 0) = 0 ∧ DkOk i.2.1 ∧ i.1 ≤ V.length ∧ i.2.2.length = i.1 ∧ stGo (V.drop i.1) i.2.1 i.2.2 = stP V D) (fun i => V.length - i.1) (fun v i => [(0, .ptr (refB + 0) (v (refB + 0)) 0), (3, .ptr 3 (v 3) 0), (5, .own 28 (v 28)), (6, .v (.int .i64 (i.1 : Nat)))]) (fun v i => [(refB + 0, .box i.2.1.cells), (3, .box [.sl 3 (N.map Nd.av), .sl 5 (V.map Dv.av)]), (28, .buf 3 1 (i.2.2.map iv))]) ?_ ?_
  · exact ⟨(0, D, []), ⟨rfl, hD, Nat.zero_le _, rfl, rfl⟩, trivial, ⟨rfl, rfl, rfl, rfl, trivial⟩, ⟨rfl, rfl, rfl, trivial⟩⟩
  rintro v ⟨i, E, L⟩ ⟨hv0, hE, hi, hl, hf⟩
  dsimp only at hv0 hE hi hl hf ⊢
  have hml : (L.map iv).length = L.length := by simp
  repeat (first | ((with_reducible refine zI ?_); refine zJ rfl ?_) | ((with_reducible refine zO ?_); refine zL tbOk rfl rfl rfl rfl ?_) | ((with_reducible refine zQ ?_); refine zN tbOk rfl rfl rfl rfl rfl ?_) | ((with_reducible refine yB ?_); refine yj tbOk rfl rfl ?_) | ((with_reducible refine zP ?_); refine zV rfl rfl rfl ?_)  | refine zK ?_ | refine zB rfl ?_ | with_reducible (first | refine zG ?_ | refine zH ?_) | ((with_reducible refine zA ?_ ?_); kernel_rfl))
  refine zh rfl (fun h => ?_) (fun h => ?_)
  · have hlt : i < V.length := by simpa using h
    obtain ⟨x, hx⟩ := zT hlt
    have hy := pL hx
    rw [yq hx, stGo] at hf
    repeat (first | ((with_reducible refine zI ?_); refine zJ rfl ?_) | ((with_reducible refine zE ?_); refine zF rfl ?_) | ((with_reducible refine zO ?_); (first | refine zL tbOk rfl rfl rfl rfl ?_ | refine dT tbOk rfl rfl rfl rfl ?_)) | ((with_reducible refine zQ ?_); (first | refine zN tbOk rfl rfl rfl rfl rfl ?_ | refine zj tbOk rfl rfl rfl ?_)) | ((with_reducible refine zU ?_); refine zg tbOk rfl rfl rfl rfl (by assumption) ?_) | ((with_reducible refine zP ?_); refine zV rfl rfl rfl ?_)  | refine zK ?_ | refine zB rfl ?_ | with_reducible (first | refine zG ?_ | refine zH ?_ | refine zW ?_ | refine zR ?_) | ((with_reducible refine zA ?_ ?_); kernel_rfl) | ((with_reducible refine jQ mixd ?_ ?_); kernel_rfl))
    refine yg (ss := [(refB + 0, v (refB + 0))]) (lU E 4 hE (by omega) (by omega)) (by repeat' (first | exact trivial | exact Ren.v _ | exact Ren.ptr _ _ _ _ rfl | refine ⟨?_, ?_⟩)) (by simp) (in1 rfl rfl) rfl (yx rfl) (by repeat' exact RenB.v _) ?_
    repeat (first | ((with_reducible refine zP ?_); refine x_neq_b (by exact Tryz.underlying4) rfl rfl ?_)  | refine jR (by kernel_rfl) ?_ | refine zB rfl ?_ | with_reducible refine zG ?_ )
    refine zh rfl (fun c => ?_) (fun c => ?_)
    · have e : stB E x = 1 := by unfold stB; exact if_pos c
      rw [e] at hf
      repeat (first | ((with_reducible refine zI ?_); refine zJ rfl ?_) | ((with_reducible refine zE ?_); refine zF rfl ?_) | ((with_reducible refine yE ?_); refine yD tbOk rfl rfl rfl rfl rfl (by omega) rfl rfl rfl ?_) | refine zK ?_ | refine zB rfl ?_ | with_reducible refine zG ?_ | ((with_reducible refine zA ?_ ?_); kernel_rfl))
      refine yT tbOk rfl rfl rfl rfl rfl (by decide) rfl rfl rfl rfl rfl (fun x hx => by simp at hx; subst hx; rfl) (by simp only [List.length_map, List.length_cons, List.length_nil]; omega) (by simp only [List.length_map, List.length_cons, List.length_nil]; omega) ?_
      repeat (first | ((with_reducible refine zI ?_); refine zJ rfl ?_) | ((with_reducible refine zE ?_); refine zF rfl ?_) | ((with_reducible refine zP ?_); refine zX rfl rfl (by omega) ?_)  | refine zK ?_ | refine zB rfl ?_ | with_reducible (first | refine zG ?_ | refine ze ?_) | ((with_reducible refine zA ?_ ?_); kernel_rfl))
      exact ⟨(i + 1, E.next, L ++ [1]), ⟨hv0, hE.next, by show i + 1 ≤ V.length; omega, by simp; omega, hf⟩, by show V.length - (i + 1) < V.length - i; omega, ⟨rfl, rfl, rfl, rfl, trivial⟩, ⟨rfl, rfl, jB (by rw [List.map_append]; rfl), trivial⟩⟩
    · have e : stB E x = 2 := by unfold stB; exact if_neg fun hc => by have hc' : ((x.k == 4) != (E.val 4 == 0)) = true := hc; rw [c] at hc'; cases hc'
      rw [e] at hf
      repeat (first | ((with_reducible refine zI ?_); refine zJ rfl ?_) | ((with_reducible refine yE ?_); refine yD tbOk rfl rfl rfl rfl rfl (by omega) rfl rfl rfl ?_) | refine zB rfl ?_ | with_reducible (first | refine zG ?_ | refine zR ?_) | ((with_reducible refine zA ?_ ?_); kernel_rfl))
      refine yT tbOk rfl rfl rfl rfl rfl (by decide) rfl rfl rfl rfl rfl (fun x hx => by simp at hx; subst hx; rfl) (by simp only [List.length_map, List.length_cons, List.length_nil]; omega) (by simp only [List.length_map, List.length_cons, List.length_nil]; omega) ?_
      repeat (first | ((with_reducible refine zI ?_); refine zJ rfl ?_) | ((with_reducible refine zE ?_); refine zF rfl ?_) | ((with_reducible refine zP ?_); refine zX rfl rfl (by omega) ?_)  | refine zK ?_ | refine zB rfl ?_ | with_reducible (first | refine zG ?_ | refine ze ?_) | ((with_reducible refine zA ?_ ?_); kernel_rfl))
      exact ⟨(i + 1, E.next, L ++ [2]), ⟨hv0, hE.next, by show i + 1 ≤ V.length; omega, by simp; omega, hf⟩, by show V.length - (i + 1) < V.length - i; omega, ⟨rfl, rfl, rfl, rfl, trivial⟩, ⟨rfl, rfl, jB (by rw [List.map_append]; rfl), trivial⟩⟩
  · have hge : ¬ i < V.length := by simpa using h
    rw [List.drop_of_length_le (by omega)] at hf
    have hf' : stP V D = (E, L) := hf.symm
    rw [hf']
    repeat (first | ((with_reducible refine zI ?_); refine zJ rfl ?_) | ((with_reducible refine zE ?_); refine zF rfl ?_)  | refine zK ?_ | refine zB rfl ?_ | with_reducible (first | refine zG ?_ | refine zd ?_ | refine zH ?_ | refine zw ?_ | refine zS ?_) | ((with_reducible refine zb ?_ ?_); rfl) | ((with_reducible refine zA ?_ ?_); kernel_rfl))
    exact retJ (by first | exact .inr rfl | exact .inl rfl) (xs := [.own 28 (v 28)]) (fs := [(refB + 0, v (refB + 0)), (28, v 28)]) ⟨.tmp 4, trivial⟩ (by simp [refB]) (by repeat' exact Ren.ownr _ _ _ rfl) ⟨⟨⟨_, rfl, by repeat' (first | exact trivial | exact Ren.v _ | exact Ren.sl _ _ | refine ⟨?_, ?_⟩)⟩, fun _ => ⟨rfl, hv0⟩⟩, rfl, trivial⟩
def aS : Nat → Dk → List Int → Dk × List Int
  | 0, D, L => (D, L)
  | m + 1, D, L => if D.val 2 = 0 then aS m D.next.next (L.set (D.next.val (L.length : Nat)).toNat 3) else aS m D.next L
theorem unk_set3 (L : List Int) (k : Nat) : (unkP (L.set k 3)).length ≤ (unkP L).length + 1 := by
  unfold unkP
  have key : ∀ (L : List Int) (i d : Nat), (jb i (L.set d 3)).length ≤ (jb i L).length + 1 := by
    intro L
    induction L with
    | nil => intro i d; simp
    | cons x L ih =>
      intro i d
      cases d with
      | zero =>
        rw [List.set_cons_zero, jb, jb, if_pos rfl]
        split <;> simp
      | succ d =>
        rw [List.set_cons_succ, jb, jb]
        have := ih (i + 1) d
        split <;> simp <;> omega
  exact key L 0 k
theorem unk_none {L : List Int} (h : ∀ x ∈ L, x = 1 ∨ x = 2) : unkP L = [] := by
  unfold unkP
  have key : ∀ (L : List Int) (i : Nat), (∀ x ∈ L, x = 1 ∨ x = 2) → jb i L = [] := by
    intro L
    induction L with
    | nil => intro i _; rfl
    | cons x L ih =>
      intro i h
      have hx := h x (by simp)
      rw [jb, if_neg (by omega)]
      exact ih (i + 1) fun y hy => h y (by simp [hy])
  exact key L 0 h
theorem mN {n : Nat} : ∀ (m : Nat) (D : Dk) (L : List Int), DkOk D → L.length = n → (∀ x ∈ L, isB x = true) → DkOk (aS m D L).1 ∧ (aS m D L).2.length = n ∧ (∀ x ∈ (aS m D L).2, isB x = true) ∧ (unkP (aS m D L).2).length ≤ (unkP L).length + m
  | 0, D, L, h, hl, hp => ⟨h, hl, hp, Nat.le_refl _⟩
  | m + 1, D, L, h, hl, hp => by
    rw [aS]
    split
    · obtain ⟨a, b, c, d⟩ := mN (n := n) m D.next.next (L.set (D.next.val (L.length : Nat)).toNat 3) h.next.next (by simp [hl]) (fun x hx => by
        rcases List.mem_or_eq_of_mem_set hx with h2 | h2
        · exact hp x h2
        · subst h2; rfl)
      have := unk_set3 L (D.next.val (L.length : Nat)).toNat
      exact ⟨a, b, c, by omega⟩
    · obtain ⟨a, b, c, d⟩ := mN m D.next L h.next hl hp
      exact ⟨a, b, c, by omega⟩
def mskP (V : List Dv) (k : Nat) (D : Dk) : Dk × List Int := aS k (stP V D).1 (stP V D).2
theorem mskP_ok {V : List Dv} {D : Dk} {k : Nat} (h : DkOk D) (hk : k ≤ 8) : DkOk (mskP V k D).1 ∧ MkOk V (mskP V k D).2 := by
  obtain ⟨a, b, c⟩ := stP_ok (V := V) h
  obtain ⟨d, e, f, g⟩ := mN k (stP V D).1 (stP V D).2 a b (fun x hx => by
    rcases c x hx with rfl | rfl <;> rfl)
  rw [unk_none c] at g
  exact ⟨d, e, f, by simp at g; exact Nat.le_trans g hk⟩
set_option maxHeartbeats 4000000 in
theorem masks_A (N : List Nd) (V : List Dv) (k : Nat) (D : Dk) (hD : DkOk D) (hv0 : 0 < V.length) (hn : V.length ≤ 64) (hk : k ≤ 8) :
    zl Tryz.prog G 10 [.ptr (refB + 0) 0 0, ja N V, .v (.int .i64 (k : Nat))] [D.cells] (.sl 1 ((mskP V k D).2.map iv)) [(mskP V k D).1.cells] := by
  have hst := state_J (G := G) N V D hD (by omega)
  obtain ⟨ha, hb, hc⟩ := stP_ok (V := V) hD
  unfold mskP
  obtain ⟨⟨D1, S⟩, hq⟩ : ∃ q, q = stP V D := ⟨_, rfl⟩
  rw [← hq] at hst ha hb ⊢
  dsimp only at hst ha hb ⊢
  refine zY tbOk (zM Tryz.func10 (by kernel_rfl) rfl) Tryz.func10 rfl _ Tryz.ntmps10 (Nat.le_of_ble_eq_true rfl) fun X hX => ?_
  subst hX
  repeat (first | with_reducible (first | refine zG ?_ | refine zd ?_ | refine zH ?_ | refine zw ?_ | refine zS ?_) | ((with_reducible refine zb ?_ ?_); rfl))
  (with_reducible refine zA ?_ ?_); kernel_rfl
  repeat (first | ((with_reducible refine zE ?_); refine zF rfl ?_) | ((with_reducible refine yz ?_); refine jA rfl rfl rfl ?_) | refine zK ?_ | refine zB rfl ?_ | with_reducible (first | refine zG ?_ | refine zH ?_))
  refine aW (t := 6) (s := 900) 3 1 rfl rfl ?_
  repeat (first | ((with_reducible refine zI ?_); refine zJ rfl ?_) | ((with_reducible refine zQ ?_); refine zZ tbOk rfl rfl rfl rfl (Nat.le_of_ble_eq_true rfl) ?_)  | refine zB rfl ?_  | ((with_reducible refine zA ?_ ?_); kernel_rfl))
  refine xO (ss := [(refB + 0, 0), (900, 1)]) (ss' := [(refB + 0, 0), (900, 2)]) (cs' := [.box D1.cells, .buf 3 1 (S.map iv)]) (y := .own 900 2) hst (by repeat' (first | exact trivial | exact Ren.sl _ _ | exact Ren.ptr _ _ _ _ rfl | refine zp ?_ | refine ⟨?_, ?_⟩)) (by decide) ⟨⟨_, rfl, by repeat' (first | exact trivial | exact Ren.v _ | exact Ren.sl _ _ | refine ⟨?_, ?_⟩)⟩, rfl, trivial⟩ ⟨⟨⟨rfl, rfl⟩, _, rfl, by repeat' (first | exact trivial | exact RenB.v _ | exact RenB.sl _ _ | refine ⟨?_, ?_⟩)⟩, ⟨⟨rfl, rfl⟩, rfl⟩, trivial⟩ (by repeat' exact RenB.own _ _ _ rfl) ?_
  repeat (first | ((with_reducible refine zE ?_); refine zF rfl ?_)  | refine zK ?_ | refine zB rfl ?_ | with_reducible (first | refine zG ?_ | refine zH ?_ | refine zW ?_) | ((with_reducible refine zA ?_ ?_); kernel_rfl))
  refine ym (ι := Nat × Dk × List Int) (fun v i => v (refB + 0) = 0 ∧ DkOk i.2.1 ∧ i.1 ≤ k ∧ i.2.2.length = V.length ∧ aS (k - i.1) i.2.1 i.2.2 = aS k D1 S) (fun i => k - i.1) (fun v i => [(0, .ptr (refB + 0) (v (refB + 0)) 0), (2, .v (.int .i64 (k : Nat))), (7, .own 900 (v 900)), (8, .v (.int .i64 (i.1 : Nat)))]) (fun v i => [(refB + 0, .box i.2.1.cells), (900, .buf 3 1 (i.2.2.map iv))]) ?_ ?_
  · exact ⟨(0, D1, S), ⟨rfl, ha, Nat.zero_le _, hb, rfl⟩, trivial, ⟨rfl, rfl, rfl, rfl, trivial⟩, ⟨rfl, rfl, trivial⟩⟩
  rintro v ⟨i, E, L⟩ ⟨hv, hE, hi, hl, hf⟩
  dsimp only at hv hE hi hl hf ⊢
  have hml : (L.map iv).length = L.length := by simp
  repeat (first | ((with_reducible refine zI ?_); refine zJ rfl ?_) | ((with_reducible refine zP ?_); refine zV rfl rfl rfl ?_)  | refine zB rfl ?_ | with_reducible refine zH ?_ | ((with_reducible refine zA ?_ ?_); kernel_rfl))
  refine yv rfl rfl (fun b1 => ?_) (fun b1 => ?_)
  · have hlt : i < k := by simp at b1; omega
    obtain ⟨m, hm1, hm2⟩ : ∃ m, k - i = m + 1 ∧ k - (i + 1) = m := ⟨k - 1 - i, by omega, by omega⟩
    have b2 : decide ((((L.map iv).length : Nat) : Int) > 0) = true := decide_eq_true (by omega)
    rw [hm1, aS] at hf
    repeat (first | ((with_reducible refine zI ?_); refine zJ rfl ?_) | ((with_reducible refine zt ?_); refine yM rfl (by first | rfl | assumption) rfl ?_) | ((with_reducible refine yB ?_); refine jV tbOk rfl rfl rfl rfl ?_) | ((with_reducible refine zP ?_); refine zV rfl rfl rfl ?_)  | refine zK ?_ | refine zB rfl ?_ | refine yJ rfl rfl (by first | rfl | assumption) ?_ | with_reducible (first | refine zG ?_ | refine zH ?_ | refine zW ?_ | refine zR ?_) | ((with_reducible refine zA ?_ ?_); kernel_rfl) | refine yb rfl (by first | rfl | assumption) ?_)
    refine yg (ss := [(refB + 0, v (refB + 0))]) (lU E 2 hE (by omega) (by omega)) (by repeat' (first | exact trivial | exact Ren.v _ | exact Ren.ptr _ _ _ _ rfl | refine ⟨?_, ?_⟩)) (by simp) (in1 rfl rfl) rfl (yx rfl) (by repeat' exact RenB.v _) ?_
    repeat (first   | refine zK ?_ | with_reducible refine zG ?_ )
    refine zh rfl (fun h => ?_) (fun h => ?_)
    · have h0 : E.val 2 = 0 := by simpa using h
      rw [if_pos h0] at hf
      have hin := E.next.in_ (n := (L.length : Nat)) (by omega) (by omega)
      have hnx := jS (G := X.G) E.next ((L.map iv).length : Nat) hE.next (by omega) (by omega)
      rw [hml] at hnx
      repeat (first | ((with_reducible refine zI ?_); refine zJ rfl ?_) | ((with_reducible refine yB ?_); refine jV tbOk rfl rfl rfl rfl ?_)  | refine zB rfl ?_  | ((with_reducible refine zA ?_ ?_); kernel_rfl))
      rw [hml]
      refine yg (ss := [(refB + 0, v (refB + 0))]) (hnx) (by repeat' (first | exact trivial | exact Ren.v _ | exact Ren.ptr _ _ _ _ rfl | refine ⟨?_, ?_⟩)) (by simp) (in1 rfl rfl) rfl (yx rfl) (by repeat' exact RenB.v _) ?_
      repeat (first   | refine zB rfl ?_  )
      (with_reducible refine zU ?_); refine zq tbOk rfl rfl rfl rfl rfl rfl ⟨by omega, by rw [List.length_map]; omega⟩ ?_
      repeat (first   | refine zB rfl ?_  )
      (with_reducible refine zz ?_); refine jG (L' := (L.set (E.next.val (L.length : Nat)).toNat 3).map iv) tbOk rfl rfl rfl rfl rfl rfl rfl rfl rfl (by rw [jP, List.length_map]; omega) (by simp) (je _) (aD _ _ _) ?_
      repeat (first | ((with_reducible refine zI ?_); refine zJ rfl ?_) | ((with_reducible refine zE ?_); refine zF rfl ?_) | ((with_reducible refine zP ?_); refine zX rfl rfl (by omega) ?_)  | refine zK ?_ | refine zB rfl ?_ | with_reducible (first | refine zG ?_ | refine ze ?_) | ((with_reducible refine zA ?_ ?_); kernel_rfl))
      exact ⟨(i + 1, E.next.next, L.set (E.next.val (L.length : Nat)).toNat 3), ⟨hv, hE.next.next, by show i + 1 ≤ k; omega, by simp [hl], by show aS (k - (i + 1)) _ _ = _; rw [hm2]; exact hf⟩, by show k - (i + 1) < k - i; omega, ⟨rfl, rfl, rfl, rfl, trivial⟩, ⟨rfl, rfl, trivial⟩⟩
    · have h0 : ¬ E.val 2 = 0 := by simpa using h
      rw [if_neg h0] at hf
      repeat (first | ((with_reducible refine zI ?_); refine zJ rfl ?_) | ((with_reducible refine zE ?_); refine zF rfl ?_) | ((with_reducible refine zP ?_); refine zX rfl rfl (by omega) ?_)  | refine zK ?_ | refine zB rfl ?_ | with_reducible (first | refine zG ?_ | refine ze ?_ | refine zR ?_) | ((with_reducible refine zA ?_ ?_); kernel_rfl))
      exact ⟨(i + 1, E.next, L), ⟨hv, hE.next, by show i + 1 ≤ k; omega, hl, by show aS (k - (i + 1)) _ _ = _; rw [hm2]; exact hf⟩, by show k - (i + 1) < k - i; omega, ⟨rfl, rfl, rfl, rfl, trivial⟩, ⟨rfl, rfl, trivial⟩⟩
  · have hge : k - i = 0 := by simp at b1; omega
    rw [hge] at hf
    have hf' : aS k D1 S = (E, L) := hf.symm
    rw [hf']
    repeat (first | ((with_reducible refine zI ?_); refine zJ rfl ?_) | ((with_reducible refine zE ?_); refine zF rfl ?_) | ((with_reducible refine zt ?_); refine yL rfl (by first | rfl | assumption) rfl ?_)  | refine zK ?_ | refine zB rfl ?_ | refine yV rfl rfl (by first | rfl | assumption) ?_ | with_reducible (first | refine zG ?_ | refine zd ?_ | refine zH ?_ | refine zw ?_ | refine zS ?_) | ((with_reducible refine zb ?_ ?_); rfl) | ((with_reducible refine zA ?_ ?_); kernel_rfl) | refine zm rfl (by first | rfl | assumption) ?_)
    exact lG (by first | exact .inr rfl | exact .inl rfl) rfl rfl (by repeat' exact Ren.own _ _ _ _ ⟨_, rfl⟩) rfl hv (by repeat' (first | exact trivial | exact Ren.v _ | exact Ren.sl _ _ | refine ⟨?_, ?_⟩))
def iH : List Int → Dk → List Int → Dk × List Int
  | [], D, E => (D, E)
  | m :: l, D, E => if ¬ m = 1 ∧ ¬ m = 2 then iH l D.next (E ++ [1 + D.val 2]) else iH l D (E ++ [m])
def witP (m : List Int) (D : Dk) : Dk × List Int := iH m D []
theorem lK : ∀ (l : List Int) (D : Dk) (E : List Int), DkOk D → (∀ x ∈ l, isB x = true) → DkOk (iH l D E).1 ∧ ∃ F, (iH l D E).2 = E ++ F ∧ Agr l F
  | [], D, E, h, _ => ⟨h, [], by simp [iH], ⟨rfl, fun k x y hx => by simp at hx⟩⟩
  | m :: l, D, E, h, hp => by
    have hm := hp m (by simp)
    unfold isB at hm
    simp at hm
    rw [iH]
    have ext : ∀ (z : Int) (F : List Int), (m = 3 ∧ (z = 1 ∨ z = 2)) ∨ (m ≠ 3 ∧ z = m) → Agr l F → Agr (m :: l) (z :: F) := fun z F hz A => by
      refine ⟨by simp [A.l], fun k x y hx hy => ?_⟩
      cases k with
      | zero => simp at hx hy; subst hx; subst hy; exact hz
      | succ k => exact A.at_ k x y (by simpa using hx) (by simpa using hy)
    split
    · obtain ⟨a, F, e, A⟩ := lK l D.next (E ++ [1 + D.val 2]) h.next (fun x hx => hp x (by simp [hx]))
      have hv := D.in_ (n := 2) (by decide) (by decide)
      exact ⟨a, (1 + D.val 2) :: F, by rw [e]; simp, ext _ _ (.inl ⟨by omega, by omega⟩) A⟩
    · obtain ⟨a, F, e, A⟩ := lK l D (E ++ [m]) h (fun x hx => hp x (by simp [hx]))
      exact ⟨a, m :: F, by rw [e]; simp, ext _ _ (.inr ⟨by omega, rfl⟩) A⟩
theorem witP_ok {m : List Int} {D : Dk} (h : DkOk D) (hp : ∀ x ∈ m, isB x = true) : DkOk (witP m D).1 ∧ Agr m (witP m D).2 := by
  obtain ⟨a, F, e, A⟩ := lK m D [] h hp
  rw [List.nil_append] at e
  refine ⟨a, ?_⟩
  rw [show (witP m D).2 = F from e]; exact A
set_option maxHeartbeats 4000000 in
theorem within_A (m : List Int) (D : Dk) (hD : DkOk D) (hm : m.length ≤ 64) :
    zl Tryz.prog G 11 [.ptr (refB + 0) 0 0, .sl 1 (m.map iv)] [D.cells] (.sl 1 ((witP m D).2.map iv)) [(witP m D).1.cells] := by
  have hmm : (m.map iv).length = m.length := by simp
  refine zY tbOk (zM Tryz.func11 (by kernel_rfl) rfl) Tryz.func11 rfl _ Tryz.ntmps11 (Nat.le_of_ble_eq_true rfl) fun X hX => ?_
  subst hX
  repeat (first | ((with_reducible refine zE ?_); refine zF rfl ?_)  | refine zK ?_ | refine zB rfl ?_ | with_reducible (first | refine zG ?_ | refine zH ?_ | refine zW ?_) | ((with_reducible refine zA ?_ ?_); kernel_rfl))
  refine aW (t := 5) (s := 30) 3 1 rfl rfl ?_
  refine ym (ι := Nat × Dk × List Int) (fun v i => v (refB + 0) = 0 ∧ DkOk i.2.1 ∧ i.1 ≤ m.length ∧ i.2.2.length = i.1 ∧ iH (m.drop i.1) i.2.1 i.2.2 = witP m D) (fun i => m.length - i.1) (fun v i => [(0, .ptr (refB + 0) (v (refB + 0)) 0), (1, .sl 1 (m.map iv)), (5, .own 30 (v 30)), (6, .v (.int .i64 (i.1 : Nat)))]) (fun v i => [(refB + 0, .box i.2.1.cells), (30, .buf 3 1 (i.2.2.map iv))]) ?_ ?_
  · exact ⟨(0, D, []), ⟨rfl, hD, Nat.zero_le _, rfl, rfl⟩, trivial, ⟨rfl, rfl, rfl, rfl, trivial⟩, ⟨rfl, rfl, trivial⟩⟩
  rintro v ⟨i, E, L⟩ ⟨hv0, hE, hi, hl, hf⟩
  dsimp only at hv0 hE hi hl hf ⊢
  have hml : (L.map iv).length = L.length := by simp
  repeat (first | ((with_reducible refine zI ?_); refine zJ rfl ?_) | ((with_reducible refine yB ?_); refine yj tbOk rfl rfl ?_) | ((with_reducible refine zP ?_); refine zV rfl rfl rfl ?_)  | refine zK ?_ | refine zB rfl ?_ | with_reducible (first | refine zG ?_ | refine zH ?_) | ((with_reducible refine zA ?_ ?_); kernel_rfl))
  refine zh rfl (fun h => ?_) (fun h => ?_)
  · have hlt : i < m.length := by simpa using h
    obtain ⟨x, hx⟩ := zT hlt
    have hy := cW hx
    rw [yq hx, iH] at hf
    repeat (first | ((with_reducible refine zI ?_); refine zJ rfl ?_) | ((with_reducible refine zE ?_); refine zF rfl ?_) | ((with_reducible refine zQ ?_); refine zj tbOk rfl rfl rfl ?_) | ((with_reducible refine zU ?_); refine zg tbOk rfl rfl rfl rfl (by assumption) ?_) | ((with_reducible refine zP ?_); refine zV rfl rfl rfl ?_)  | refine zK ?_ | refine zB rfl ?_ | with_reducible (first | refine zG ?_ | refine zH ?_ | refine zW ?_ | refine zR ?_) | ((with_reducible refine zA ?_ ?_); kernel_rfl))
    by_cases c1 : x = 1
    · have b1 : (x != 1) = false := by simp [c1]
      rw [if_neg (fun h => h.1 c1)] at hf
      repeat (first | ((with_reducible refine zI ?_); refine zJ rfl ?_) | ((with_reducible refine zt ?_); refine yL rfl (by first | rfl | assumption) rfl ?_) | ((with_reducible refine yE ?_); refine yD tbOk rfl rfl rfl rfl rfl (by omega) rfl rfl rfl ?_) | refine zK ?_ | refine zB rfl ?_ | refine yV rfl rfl (by first | rfl | assumption) ?_ | with_reducible (first | refine zG ?_ | refine zR ?_) | ((with_reducible refine zA ?_ ?_); kernel_rfl) | refine zm rfl (by first | rfl | assumption) ?_)
      refine yT tbOk rfl rfl rfl rfl rfl (by decide) rfl rfl rfl rfl rfl (fun x hx => by simp at hx; subst hx; rfl) (by simp only [List.length_map, List.length_cons, List.length_nil]; omega) (by simp only [List.length_map, List.length_cons, List.length_nil]; omega) ?_
      repeat (first | ((with_reducible refine zI ?_); refine zJ rfl ?_) | ((with_reducible refine zE ?_); refine zF rfl ?_) | ((with_reducible refine zP ?_); refine zX rfl rfl (by omega) ?_)  | refine zK ?_ | refine zB rfl ?_ | with_reducible (first | refine zG ?_ | refine ze ?_) | ((with_reducible refine zA ?_ ?_); kernel_rfl))
      exact ⟨(i + 1, E, L ++ [x]), ⟨hv0, hE, by show i + 1 ≤ m.length; omega, by simp; omega, hf⟩, by show m.length - (i + 1) < m.length - i; omega, ⟨rfl, rfl, rfl, rfl, trivial⟩, ⟨rfl, jB (by rw [List.map_append]; rfl), trivial⟩⟩
    have b1 : (x != 1) = true := by simpa using c1
    by_cases c2 : x = 2
    · have b2 : (x != 2) = false := by simp [c2]
      rw [if_neg (fun h => h.2 c2)] at hf
      repeat (first | ((with_reducible refine zI ?_); refine zJ rfl ?_) | ((with_reducible refine zt ?_); refine yM rfl (by first | rfl | assumption) rfl ?_) | ((with_reducible refine zP ?_); refine zV rfl rfl rfl ?_) | ((with_reducible refine yE ?_); refine yD tbOk rfl rfl rfl rfl rfl (by omega) rfl rfl rfl ?_) | refine zK ?_ | refine zB rfl ?_ | refine yJ rfl rfl (by first | rfl | assumption) ?_ | with_reducible (first | refine zG ?_ | refine zR ?_) | ((with_reducible refine zA ?_ ?_); kernel_rfl) | refine zm rfl (by first | rfl | assumption) ?_)
      refine yT tbOk rfl rfl rfl rfl rfl (by decide) rfl rfl rfl rfl rfl (fun x hx => by simp at hx; subst hx; rfl) (by simp only [List.length_map, List.length_cons, List.length_nil]; omega) (by simp only [List.length_map, List.length_cons, List.length_nil]; omega) ?_
      repeat (first | ((with_reducible refine zI ?_); refine zJ rfl ?_) | ((with_reducible refine zE ?_); refine zF rfl ?_) | ((with_reducible refine zP ?_); refine zX rfl rfl (by omega) ?_)  | refine zK ?_ | refine zB rfl ?_ | with_reducible (first | refine zG ?_ | refine ze ?_) | ((with_reducible refine zA ?_ ?_); kernel_rfl))
      exact ⟨(i + 1, E, L ++ [x]), ⟨hv0, hE, by show i + 1 ≤ m.length; omega, by simp; omega, hf⟩, by show m.length - (i + 1) < m.length - i; omega, ⟨rfl, rfl, rfl, rfl, trivial⟩, ⟨rfl, jB (by rw [List.map_append]; rfl), trivial⟩⟩
    · have b2 : (x != 2) = true := by simpa using c2
      rw [if_pos ⟨c1, c2⟩] at hf
      have hin := E.in_ (n := 2) (by decide) (by decide)
      repeat (first | ((with_reducible refine zI ?_); refine zJ rfl ?_) | ((with_reducible refine zt ?_); refine yM rfl (by first | rfl | assumption) rfl ?_) | ((with_reducible refine zP ?_); refine zV rfl rfl rfl ?_)  | refine zK ?_ | refine zB rfl ?_ | refine yJ rfl rfl (by first | rfl | assumption) ?_ | with_reducible refine zG ?_ | ((with_reducible refine zA ?_ ?_); kernel_rfl) | refine yb rfl (by first | rfl | assumption) ?_)
      refine yg (ss := [(refB + 0, v (refB + 0))]) (jS E 2 hE (by omega) (by omega)) (by repeat' (first | exact trivial | exact Ren.v _ | exact Ren.ptr _ _ _ _ rfl | refine ⟨?_, ?_⟩)) (by simp) (in1 rfl rfl) rfl (yx rfl) (by repeat' exact RenB.v _) ?_
      repeat (first | ((with_reducible refine zI ?_); refine zJ rfl ?_) | ((with_reducible refine zE ?_); refine zF rfl ?_) | ((with_reducible refine zP ?_); refine zX rfl rfl (by omega) ?_) | ((with_reducible refine yE ?_); refine yD tbOk rfl rfl rfl rfl rfl (by omega) rfl rfl rfl ?_) | refine zK ?_ | refine zB rfl ?_ | with_reducible refine zG ?_ | ((with_reducible refine zA ?_ ?_); kernel_rfl))
      refine yT tbOk rfl rfl rfl rfl rfl (by decide) rfl rfl rfl rfl rfl (fun x hx => by simp at hx; subst hx; rfl) (by simp only [List.length_map, List.length_cons, List.length_nil]; omega) (by simp only [List.length_map, List.length_cons, List.length_nil]; omega) ?_
      repeat (first | ((with_reducible refine zI ?_); refine zJ rfl ?_) | ((with_reducible refine zE ?_); refine zF rfl ?_) | ((with_reducible refine zP ?_); refine zX rfl rfl (by omega) ?_)  | refine zK ?_ | refine zB rfl ?_ | with_reducible (first | refine zG ?_ | refine ze ?_) | ((with_reducible refine zA ?_ ?_); kernel_rfl))
      exact ⟨(i + 1, E.next, L ++ [1 + E.val 2]), ⟨hv0, hE.next, by show i + 1 ≤ m.length; omega, by simp; omega, hf⟩, by show m.length - (i + 1) < m.length - i; omega, ⟨rfl, rfl, rfl, rfl, trivial⟩, ⟨rfl, jB (by rw [List.map_append]; rfl), trivial⟩⟩
  · have hge : ¬ i < m.length := by simpa using h
    rw [List.drop_of_length_le (by omega)] at hf
    have hf' : witP m D = (E, L) := hf.symm
    rw [hf']
    repeat (first | ((with_reducible refine zI ?_); refine zJ rfl ?_) | ((with_reducible refine zE ?_); refine zF rfl ?_)  | refine zK ?_ | refine zB rfl ?_ | with_reducible (first | refine zG ?_ | refine zd ?_ | refine zH ?_ | refine zw ?_ | refine zS ?_) | ((with_reducible refine zb ?_ ?_); rfl) | ((with_reducible refine zA ?_ ?_); kernel_rfl))
    exact lG (by first | exact .inr rfl | exact .inl rfl) rfl rfl (by repeat' exact Ren.own _ _ _ _ ⟨_, rfl⟩) rfl hv0 (by repeat' (first | exact trivial | exact Ren.v _ | exact Ren.sl _ _ | refine ⟨?_, ?_⟩))
theorem mop_A (N : List Nd) (V : List Dv) (D : Dk) (hD : DkOk D) (hn : V.length ≤ 64) :
    zl Tryz.prog G 14 [.ptr (refB + 0) 0 0, ja N V] [D.cells] (.ag [.v (.int .i64 (D.val (V.length : Nat))), .v (.int .i64 (1 + D.next.val 2))]) [D.next.next.cells] := by
  have hvl : (V.map Dv.av).length = V.length := by simp
  have h1 := jS (G := G) D ((V.map Dv.av).length : Nat) hD (by omega) (by omega)
  have h2 := jS (G := G) D.next 2 hD.next (by omega) (by omega)
  have hin := D.next.in_ (n := 2) (by decide) (by decide)
  rw [← hvl]
  refine zY tbOk (zM Tryz.func14 (by kernel_rfl) rfl) Tryz.func14 rfl _ Tryz.ntmps14 (Nat.le_of_ble_eq_true rfl) fun X hX => ?_
  subst hX
  repeat (first | ((with_reducible refine zI ?_); refine zJ rfl ?_) | ((with_reducible refine zO ?_); refine zL tbOk rfl rfl rfl rfl ?_) | ((with_reducible refine zQ ?_); refine zN tbOk rfl rfl rfl rfl rfl ?_) | ((with_reducible refine yw ?_); refine yu tbOk rfl rfl ?_) | ((with_reducible refine yz ?_); refine jA rfl rfl rfl ?_) | ((with_reducible refine yB ?_); refine yj tbOk rfl rfl ?_)  | refine zK ?_ | refine zB rfl ?_ | with_reducible (first | refine zG ?_ | refine zH ?_) | ((with_reducible refine zA ?_ ?_); kernel_rfl))
  refine yg (ss := [(refB + 0, 0)]) (h1) (by repeat' (first | exact trivial | exact Ren.v _ | exact Ren.ptr _ _ _ _ rfl | refine ⟨?_, ?_⟩)) (by simp) (in1 rfl rfl) rfl (yx rfl) (by repeat' exact RenB.v _) ?_
  repeat (first | ((with_reducible refine zI ?_); refine zJ rfl ?_)  | refine zB rfl ?_  )
  refine yg (ss := [(refB + 0, 0)]) (h2) (by repeat' (first | exact trivial | exact Ren.v _ | exact Ren.ptr _ _ _ _ rfl | refine ⟨?_, ?_⟩)) (by simp) (in1 rfl rfl) rfl (yx rfl) (by repeat' exact RenB.v _) ?_
  repeat (first | ((with_reducible refine zz ?_); refine yN tbOk rfl rfl rfl rfl rfl rfl rfl (Nat.le_of_ble_eq_true rfl) rfl ?_) | ((with_reducible refine jX ?_); refine jh tbOk rfl rfl rfl rfl rfl ?_) | ((with_reducible refine zP ?_); refine zX rfl rfl (by omega) ?_)  | refine zK ?_ | refine zB rfl ?_ | with_reducible (first | refine zG ?_ | refine zS ?_) )
  refine oO (by first | exact .inr rfl | exact .inl rfl) rfl rfl rfl rfl rfl rfl (by first | rfl | assumption) ?_ rfl ?_ rfl <;> rfl
end Go.Proofs.YtnafokinifbfhaaGreatDoor
