/- slices.IndexFunc and DeleteFunc at own numbers with a closure, supply.Lost, by the abstract machine; conditions: a valid network, states of it. -/
import Derived.Test.YtnafokinifbfhaaGreatDoorAbsIp
import Derived.Test.YtnafokinifbfhaaGreatDoorAbsN
set_option linter.unusedVariables false
set_option linter.unusedSimpArgs false
namespace Go.Proofs.YtnafokinifbfhaaGreatDoor
open Go Go.RowKit
set_option maxRecDepth 10000
variable {G : Nat → Option (List Value)}
theorem lcl_A (B : List Int) (x : Int) (hB : B.length ≤ 1000) : zl Tryz.prog G 49 [.v (.int .i64 x), .ptr (refB + 0) 0 0] [[.sl 1 (B.map iv)]] (.v (.bool (hasI B x))) [[.sl 1 (B.map iv)]] := by
  refine zY tbOk (zM Tryz.func49 (by kernel_rfl) rfl) Tryz.func49 rfl _ Tryz.ntmps49 (Nat.le_of_ble_eq_true rfl) fun X hX => ?_
  subst hX
  repeat (first | ((with_reducible refine zI ?_); refine zJ rfl ?_) | ((with_reducible refine zE ?_); refine zF rfl ?_) | ((with_reducible refine zQ ?_); refine zN tbOk rfl rfl rfl rfl rfl ?_)  | refine zK ?_ | refine zB rfl ?_ | with_reducible (first | refine zG ?_ | refine zH ?_) | ((with_reducible refine zA ?_ ?_); kernel_rfl))
  refine zk (con_I B x (by unfold maxLen; omega)) (by repeat' (first | exact trivial | exact Ren.v _ | exact Ren.sl _ _ | refine ⟨?_, ?_⟩)) (by repeat' exact RenB.v _) ?_
  repeat (first | ((with_reducible refine zE ?_); refine zF rfl ?_)  | refine zK ?_ | refine zB rfl ?_ | with_reducible (first | refine zG ?_ | refine zS ?_) )
  exact dV (by first | exact .inr rfl | exact .inl rfl) rfl rfl rfl rfl rfl rfl (by repeat' (first | exact trivial | exact Ren.sl _ _ | refine ⟨?_, ?_⟩))
theorem nZ (p : Int → Bool) : ∀ (L : List Int) (i : Nat), (idxP p L i = -1 ∧ ∀ x ∈ L, p x = false) ∨ ∃ (k : Nat) (x : Int), idxP p L i = ((i + k : Nat) : Int) ∧ L[k]? = some x ∧ p x = true ∧ ∀ y ∈ L.take k, p y = false
  | [], i => .inl ⟨rfl, fun x hx => by cases hx⟩
  | x :: L, i => by
    rw [idxP]
    by_cases h : p x = true
    · rw [if_pos h]
      exact .inr ⟨0, x, rfl, rfl, h, fun y hy => by simp at hy⟩
    · rw [if_neg h]
      rcases nZ p L (i + 1) with ⟨h1, h2⟩ | ⟨k, z, h1, h2, h3, h4⟩
      · refine .inl ⟨h1, fun y hy => ?_⟩
        rcases List.mem_cons.1 hy with rfl | hy
        · simpa using h
        · exact h2 y hy
      · refine .inr ⟨k + 1, z, by rw [h1]; congr 1; omega, by simpa using h2, h3, fun y hy => ?_⟩
        rw [List.take_succ_cons] at hy
        rcases List.mem_cons.1 hy with rfl | hy
        · simpa using h
        · exact h4 y hy
set_option maxHeartbeats 1000000 in
theorem ifn_P (L B : List Int) (hl : L.length ≤ 1000) (hB : B.length ≤ 1000) : qq Tryz.prog G 94 [.own (refB + 0) 0, .fn 49 [.ptr (refB + 1) 0 0]] [.buf 3 1 (L.map iv), .box [.sl 1 (B.map iv)]] (.v (.int .i64 (idxP (hasI B) L 0))) [.buf 3 1 (L.map iv), .box [.sl 1 (B.map iv)]] := by
  have hml : (L.map iv).length = L.length := by simp
  refine qZ tbOk (zM Tryz.func94 (by kernel_rfl) rfl) Tryz.func94 rfl _ Tryz.ntmps94 (Nat.le_of_ble_eq_true rfl) fun X hX => ?_
  subst hX
  repeat (first | ((with_reducible refine zI ?_); refine zJ rfl ?_) | ((with_reducible refine zE ?_); refine zF rfl ?_) | ((with_reducible refine yB ?_); refine jV tbOk rfl rfl rfl rfl ?_)  | refine zK ?_ | refine zB rfl ?_ | with_reducible (first | refine zG ?_ | refine zH ?_ | refine zW ?_) | ((with_reducible refine zA ?_ ?_); kernel_rfl))
  refine ym (ι := Nat) (fun v k => (v (refB + 0) = 0 ∧ v (refB + 1) = 0) ∧ k ≤ L.length ∧ idxP (hasI B) (L.drop k) k = idxP (hasI B) L 0) (fun k => L.length - k) (fun v k => [(0, .own (refB + 0) (v (refB + 0))), (1, .fn 49 [.ptr (refB + 1) (v (refB + 1)) 0]), (7, .v (.int .i64 (L.map iv).length)), (8, .v (.int .i64 (k : Nat)))]) (fun v k => [(refB + 0, .buf 3 1 (L.map iv)), (refB + 1, .box [.sl 1 (B.map iv)])]) ?_ ?_
  · exact ⟨0, ⟨⟨rfl, rfl⟩, Nat.zero_le _, rfl⟩, trivial, ⟨rfl, rfl, rfl, rfl, trivial⟩, ⟨rfl, rfl, trivial⟩⟩
  rintro v k ⟨⟨hv0, hv1⟩, hk, hi⟩
  repeat (first | ((with_reducible refine zP ?_); refine zV rfl rfl rfl ?_)  | refine zK ?_ | refine zB rfl ?_ | with_reducible (first | refine zG ?_ | refine zH ?_) | ((with_reducible refine zA ?_ ?_); kernel_rfl))
  refine zh rfl (fun h => ?_) (fun h => ?_)
  · have hlt : k < L.length := by simpa using h
    obtain ⟨x, hx⟩ := zT hlt
    have ex : L.getD (k : Int).toNat 0 = x := by rw [Int.toNat_natCast]; exact getD_some hx
    rw [xW hx] at hi
    repeat (first | ((with_reducible refine zI ?_); refine zJ rfl ?_) | ((with_reducible refine zE ?_); refine zF rfl ?_)  | refine zK ?_ | refine zB rfl ?_ | with_reducible (first | refine zG ?_ | refine zH ?_ | refine zW ?_ | refine zR ?_) | ((with_reducible refine zA ?_ ?_); kernel_rfl))
    (with_reducible refine zU ?_); refine zq tbOk rfl rfl rfl rfl rfl rfl ⟨by omega, by rw [List.length_map]; omega⟩ ?_
    repeat (first   | refine zB rfl ?_  )
    (with_reducible refine zQ ?_); refine yy tbOk rfl rfl rfl rfl (dF (by omega)) (by rw [List.length_map]; omega) ?_
    rw [ex]
    repeat (first   | refine zB rfl ?_  )
    with_reducible refine yB ?_
    refine cJ (ss := [(refB + 1, v (refB + 1))]) (lcl_A B x hB) rfl (by repeat' (first | exact trivial | exact Ren.v _ | exact Ren.ptr _ _ _ _ rfl | refine ⟨?_, ?_⟩)) (by simp) (in1 rfl rfl) rfl (yx rfl) (by repeat' exact RenB.v _) ?_
    repeat (first   | refine zK ?_ | with_reducible refine zG ?_ )
    refine zh rfl (fun hq => ?_) (fun hq => ?_)
    · rw [if_pos hq] at hi
      repeat (first | ((with_reducible refine zI ?_); refine zJ rfl ?_) | ((with_reducible refine zE ?_); refine zF rfl ?_)  | refine zK ?_ | refine zB rfl ?_ | with_reducible (first | refine zG ?_ | refine zf ?_ | refine zo ?_ | refine zH ?_ | refine zS ?_) | ((with_reducible refine zA ?_ ?_); kernel_rfl))
      rw [← hi]
      exact retP2 (by first | exact .inr rfl | exact .inl rfl) (xs := [.v (.int .i64 (k : Nat))]) ⟨.tmp 4, trivial⟩ (by repeat' exact Ren.v _) rfl hv0 rfl hv1 rfl
    · rw [if_neg (by simp [hq])] at hi
      repeat (first | ((with_reducible refine zI ?_); refine zJ rfl ?_) | ((with_reducible refine zP ?_); refine zX rfl rfl (by omega) ?_)  | refine zK ?_ | refine zB rfl ?_ | with_reducible (first | refine zG ?_ | refine ze ?_ | refine zR ?_) | ((with_reducible refine zA ?_ ?_); kernel_rfl))
      exact ⟨k + 1, ⟨⟨hv0, hv1⟩, by omega, hi⟩, by omega, ⟨rfl, rfl, rfl, rfl, trivial⟩, ⟨rfl, rfl, trivial⟩⟩
  · have hlt : ¬ k < L.length := by simpa using h
    rw [List.drop_of_length_le (by omega)] at hi
    repeat (first | ((with_reducible refine zE ?_); refine zF rfl ?_)  | refine zK ?_ | refine zB rfl ?_ | with_reducible (first | refine zG ?_ | refine zd ?_ | refine zH ?_ | refine zw ?_ | refine zS ?_) | ((with_reducible refine zb ?_ ?_); rfl) | ((with_reducible refine zA ?_ ?_); kernel_rfl))
    rw [← hi]
    exact retP2 (by first | exact .inr rfl | exact .inl rfl) (xs := [.v (.int .i64 (-1))]) ⟨.tmp 4, trivial⟩ (by repeat' exact Ren.v _) rfl hv0 rfl hv1 rfl
theorem gJ {α : Type} (A B : List α) : (A ++ B).take A.length = A := by simp
theorem take_iv (F : List Int) (X : List AV) : (F.map iv ++ X).take F.length = F.map iv := by
  have := gJ (F.map iv) X
  rwa [List.length_map] at this
set_option maxHeartbeats 4000000 in
theorem del_J (L B : List Int) (hl : L.length ≤ 900) (hB : B.length ≤ 1000) : qc Tryz.prog G 48 [.own (refB + 0) 0, .fn 49 [.ptr (refB + 1) 0 0]] [.buf 3 1 (L.map iv), .box [.sl 1 (B.map iv)]] (.own (refB + 0) 0) [.buf 3 1 ((L.filter fun v => !hasI B v).map iv), .box [.sl 1 (B.map iv)]] := by
  have hml : (L.map iv).length = L.length := by simp
  have hj := ifn_P (G := G) L B (by omega) hB
  have hw := nZ (hasI B) L 0
  refine aC tbOk (zM Tryz.func48 (by kernel_rfl) rfl) Tryz.func48 rfl _ Tryz.ntmps48 (Nat.le_of_ble_eq_true rfl) fun X hX => ?_
  subst hX
  repeat (first | ((with_reducible refine zI ?_); refine zJ rfl ?_) | ((with_reducible refine zE ?_); refine zF rfl ?_)  | refine zK ?_ | refine zB rfl ?_ | with_reducible (first | refine zG ?_ | refine zH ?_) | ((with_reducible refine zA ?_ ?_); kernel_rfl))
  refine cR (ss := [(refB + 0, 0), (refB + 1, 0)]) (cs' := [.buf 3 1 (L.map iv), .box [.sl 1 (B.map iv)]]) (y := .v (.int .i64 (idxP (hasI B) L 0))) hj (by repeat' (first | exact trivial | exact Ren.ptr _ _ _ _ rfl | exact Ren.ownr _ _ _ rfl | refine yo ?_ | refine ⟨?_, ?_⟩)) (by simp) ⟨rfl, ⟨_, rfl, by repeat' (first | exact trivial | exact Ren.sl _ _ | refine ⟨?_, ?_⟩)⟩, trivial⟩ ⟨rfl, ⟨_, rfl, by repeat' (first | exact trivial | exact RenB.sl _ _ | refine ⟨?_, ?_⟩)⟩, trivial⟩ (by repeat' exact RenB.v _) ?_
  rcases hw with ⟨e1, h2⟩ | ⟨k, x, e1, h2, h3, h4⟩
  · rw [e1]
    have ef : (L.filter fun v => !hasI B v) = L := List.filter_eq_self.2 fun v hv => by rw [h2 v hv]; rfl
    rw [ef]
    repeat (first | ((with_reducible refine zI ?_); refine zJ rfl ?_) | ((with_reducible refine zE ?_); refine zF rfl ?_) | ((with_reducible refine zP ?_); refine zV rfl rfl rfl ?_)  | refine zK ?_ | refine zB rfl ?_ | with_reducible (first | refine zG ?_ | refine zf ?_ | refine zH ?_ | refine zS ?_) | ((with_reducible refine zA ?_ ?_); kernel_rfl) | refine yb rfl (by first | rfl | assumption) ?_)
    exact retJ (by first | exact .inr rfl | exact .inl rfl) (xs := [.own (refB + 0) 0]) (fs := [(refB + 0, 0), (refB + 1, 0)]) ⟨.tmp 4, trivial⟩ (by decide) (by repeat' exact Ren.ownr _ _ _ rfl) ⟨rfl, ⟨⟨_, rfl, by repeat' (first | exact trivial | exact Ren.sl _ _ | refine ⟨?_, ?_⟩)⟩, fun _ => ⟨rfl, rfl⟩⟩, trivial⟩
  rw [Nat.zero_add] at e1
  rw [e1]
  have hkl := zi h2
  have ne : (((k : Nat) : Int) == -1) = false := by simp
  repeat (first | ((with_reducible refine zI ?_); refine zJ rfl ?_) | ((with_reducible refine zE ?_); refine zF rfl ?_) | ((with_reducible refine zP ?_); (first | refine zX rfl rfl (by omega) ?_ | refine zV rfl rfl rfl ?_))  | refine zK ?_ | refine zB rfl ?_ | with_reducible (first | refine zG ?_ | refine zH ?_ | refine zW ?_ | refine zR ?_) | ((with_reducible refine zA ?_ ?_); kernel_rfl) | refine zm rfl (by first | rfl | assumption) ?_)
  refine ym (ι := Nat × List Int × List Int) (fun v i => (v (refB + 0) = 0 ∧ v (refB + 1) = 0) ∧ i.1 ≤ L.length ∧ i.2.1 = (L.take i.1).filter (fun v => !hasI B v) ∧ i.2.1.length + i.2.2.length = i.1 ∧ 0 < i.2.2.length) (fun i => L.length - i.1) (fun v i => [(0, .own (refB + 0) (v (refB + 0))), (1, .fn 49 [.ptr (refB + 1) (v (refB + 1)) 0]), (5, .v (.int .i64 (i.2.1.length : Nat))), (6, .v (.int .i64 (i.1 : Nat)))]) (fun v i => [(refB + 0, .buf 3 1 ((i.2.1 ++ i.2.2 ++ L.drop i.1).map iv)), (refB + 1, .box [.sl 1 (B.map iv)])]) ?_ ?_
  · refine ⟨(k + 1, L.take k, [x]), ⟨⟨rfl, rfl⟩, hkl, ?_, by simp; omega, by simp⟩, trivial, ⟨rfl, rfl, ?_, rfl, trivial⟩, ⟨jB ?_, rfl, trivial⟩⟩
    · dsimp only
      rw [qM h2, List.filter_append, List.filter_eq_self.2 (fun v hv => by rw [h4 v hv]; rfl)]
      simp [h3]
    · dsimp only
      rw [List.length_take, Nat.min_eq_left (by omega)]; rfl
    · dsimp only
      rw [List.append_assoc, List.singleton_append, ← yq h2, List.take_append_drop]
  rintro v ⟨j, F, Q⟩ ⟨⟨hv0, hv1⟩, hj, hF, hlen, hq0⟩
  dsimp only at hv0 hv1 hj hF hlen hq0 ⊢
  obtain ⟨E, hE⟩ : ∃ E, E = F ++ Q ++ L.drop j := ⟨_, rfl⟩
  have hEl : E.length = L.length := by rw [hE]; simp; omega
  have hEm : (E.map iv).length = L.length := by rw [List.length_map, hEl]
  rw [← hE]
  repeat (first | ((with_reducible refine zI ?_); refine zJ rfl ?_) | ((with_reducible refine yB ?_); refine jV tbOk rfl rfl rfl rfl ?_) | ((with_reducible refine zP ?_); refine zV rfl rfl rfl ?_)  | refine zK ?_ | refine zB rfl ?_ | with_reducible (first | refine zG ?_ | refine zH ?_) | ((with_reducible refine zA ?_ ?_); kernel_rfl))
  refine zh rfl (fun h => ?_) (fun h => ?_)
  · have hlt : j < L.length := by rw [hEm] at h; simpa using h
    obtain ⟨z, hz⟩ := zT hlt
    have hFj : F.length < j := by omega
    have ez : E.getD (j : Int).toNat 0 = z := by
      rw [Int.toNat_natCast, hE, List.getD_eq_getElem?_getD, List.getElem?_append_right (by simp; omega), List.length_append, hlen, Nat.sub_self, List.getElem?_drop, Nat.add_zero, hz]; rfl
    repeat (first | ((with_reducible refine zI ?_); refine zJ rfl ?_)  | refine zB rfl ?_ | with_reducible (first | refine zG ?_ | refine zH ?_ | refine zW ?_ | refine zR ?_) | ((with_reducible refine zA ?_ ?_); kernel_rfl))
    (with_reducible refine zU ?_); refine zq tbOk rfl rfl rfl rfl rfl rfl ⟨by omega, by rw [List.length_map]; omega⟩ ?_
    repeat (first   | refine zB rfl ?_  )
    (with_reducible refine zQ ?_); refine yy tbOk rfl rfl rfl rfl (dF (by omega)) (by rw [List.length_map]; omega) ?_
    rw [ez]
    repeat (first | ((with_reducible refine zI ?_); refine zJ rfl ?_) | ((with_reducible refine zE ?_); refine zF rfl ?_)  | refine zK ?_ | refine zB rfl ?_ | with_reducible (first | refine zG ?_ | refine zH ?_) | ((with_reducible refine zA ?_ ?_); kernel_rfl))
    with_reducible refine yB ?_
    refine cJ (ss := [(refB + 1, v (refB + 1))]) (lcl_A B z hB) rfl (by repeat' (first | exact trivial | exact Ren.v _ | exact Ren.ptr _ _ _ _ rfl | refine ⟨?_, ?_⟩)) (by simp) (in1 rfl rfl) rfl (yx rfl) (by repeat' exact RenB.v _) ?_
    repeat (first | ((with_reducible refine k_un ?_); refine jy rfl ?_)  | refine zK ?_ | refine zB rfl ?_ | with_reducible refine zG ?_ )
    refine zh rfl (fun c => ?_) (fun c => ?_)
    · have c' : hasI B z = false := by simpa using c
      obtain ⟨m, Q', rfl⟩ : ∃ m Q', Q = m :: Q' := by
        cases Q with
        | nil => simp at hq0
        | cons m Q' => exact ⟨m, Q', rfl⟩
      have eS : E.set (F.length : Int).toNat z = (F ++ [z]) ++ (Q' ++ [z]) ++ L.drop (j + 1) := by
        rw [Int.toNat_natCast, hE, List.append_assoc, List.set_append, if_neg (by omega), Nat.sub_self, yq hz]
        simp
      repeat (first | ((with_reducible refine zI ?_); refine zJ rfl ?_)  | refine zB rfl ?_ | with_reducible refine zH ?_ | ((with_reducible refine zA ?_ ?_); kernel_rfl))
      (with_reducible refine zU ?_); refine zq tbOk rfl rfl rfl rfl rfl rfl ⟨by omega, by rw [List.length_map]; omega⟩ ?_
      repeat (first   | refine zB rfl ?_  )
      (with_reducible refine zz ?_); refine jG (L' := (E.set (F.length : Int).toNat z).map iv) tbOk rfl rfl rfl rfl rfl rfl rfl rfl rfl (by rw [jP, List.length_map]; omega) (by simp) (je _) (aD _ _ _) ?_
      repeat (first | ((with_reducible refine zI ?_); refine zJ rfl ?_) | ((with_reducible refine zE ?_); refine zF rfl ?_) | ((with_reducible refine zP ?_); refine zX rfl rfl (by omega) ?_)  | refine zK ?_ | refine zB rfl ?_ | with_reducible (first | refine zG ?_ | refine ze ?_) | ((with_reducible refine zA ?_ ?_); kernel_rfl))
      rw [eS]
      refine ⟨(j + 1, F ++ [z], Q' ++ [z]), ⟨⟨hv0, hv1⟩, hlt, ?_, by simp at hlen ⊢; omega, by simp⟩, by show L.length - (j + 1) < L.length - j; omega, ⟨rfl, rfl, ?_, rfl, trivial⟩, ⟨rfl, rfl, trivial⟩⟩
      · dsimp only
        rw [qM hz, List.filter_append, ← hF]
        simp [c']
      · dsimp only
        rw [List.length_append]; rfl
    · have c' : hasI B z = true := by simpa using c
      have eS : E = F ++ (Q ++ [z]) ++ L.drop (j + 1) := by rw [hE, yq hz]; simp
      rw [eS]
      repeat (first | ((with_reducible refine zI ?_); refine zJ rfl ?_) | ((with_reducible refine zE ?_); refine zF rfl ?_) | ((with_reducible refine zP ?_); refine zX rfl rfl (by omega) ?_)  | refine zK ?_ | refine zB rfl ?_ | with_reducible (first | refine zG ?_ | refine ze ?_ | refine zR ?_) | ((with_reducible refine zA ?_ ?_); kernel_rfl))
      refine ⟨(j + 1, F, Q ++ [z]), ⟨⟨hv0, hv1⟩, hlt, ?_, by simp at hlen ⊢; omega, by simp⟩, by show L.length - (j + 1) < L.length - j; omega, ⟨rfl, rfl, rfl, rfl, trivial⟩, ⟨rfl, rfl, trivial⟩⟩
      dsimp only
      rw [qM hz, List.filter_append, ← hF]
      simp [c']
  · have hge : ¬ j < L.length := by rw [hEm] at h; simpa using h
    have hjl : j = L.length := by omega
    rw [hjl, List.take_of_length_le (Nat.le_refl _)] at hF
    have hFl : F.length < L.length := by omega
    have hFE : (E.map iv).take F.length = F.map iv := by
      rw [← List.map_take, hE, List.append_assoc, gJ]
    repeat (first | ((with_reducible refine zI ?_); refine zJ rfl ?_)  | refine zB rfl ?_ | with_reducible (first | refine zG ?_ | refine zd ?_ | refine zH ?_ | refine zw ?_) | ((with_reducible refine zb ?_ ?_); rfl) | ((with_reducible refine zA ?_ ?_); kernel_rfl))
    with_reducible refine lD ?_
    refine vX (l := (F.length : Nat)) (h := ((E.map iv).length : Nat)) tbOk rfl rfl rfl rfl rfl rfl rfl (by refine ⟨?_, ?_, ?_⟩ <;> omega) (by omega) ?_
    repeat (first   | refine zB rfl ?_  )
    with_reducible refine yB ?_
    refine vK (z := .int .i64 0) tbOk rfl rfl rfl uQ rfl rfl rfl rfl rfl (by omega) (by omega) (fun y hy => by obtain ⟨b, _, rfl⟩ := List.mem_map.1 hy; rfl) ?_
    rw [Int.toNat_natCast, Int.toNat_natCast, hFE]
    repeat (first | ((with_reducible refine zI ?_); refine zJ rfl ?_)  | refine zK ?_ | refine zB rfl ?_ | with_reducible (first | refine zG ?_ | refine zH ?_) | ((with_reducible refine zA ?_ ?_); kernel_rfl))
    with_reducible refine lD ?_
    refine uD (h := (F.length : Nat)) tbOk rfl rfl rfl rfl rfl rfl ⟨by omega, by simp; omega⟩ (by simp; omega) ?_
    rw [Int.toNat_natCast, show (F.map iv ++ List.replicate ((E.map iv).length - F.length) (AV.v (.int .i64 0))).take F.length = F.map iv from take_iv F _]
    repeat (first | ((with_reducible refine zE ?_); refine zF rfl ?_)  | refine zK ?_ | refine zB rfl ?_ | with_reducible (first | refine zG ?_ | refine zS ?_) )
    rw [hF]
    exact retJ (by first | exact .inr rfl | exact .inl rfl) (xs := [.own (refB + 0) (v (refB + 0) + 1)]) (fs := [(refB + 0, v (refB + 0) + 1), (refB + 1, v (refB + 1))]) ⟨.tmp 4, trivial⟩ (by simp) (by repeat' exact Ren.ownr _ _ _ rfl) ⟨rfl, ⟨⟨_, rfl, by repeat' (first | exact trivial | exact Ren.sl _ _ | refine ⟨?_, ?_⟩)⟩, fun _ => ⟨rfl, hv1⟩⟩, trivial⟩
theorem lostP_len {N : List Nd} {V : List Dv} {a b : List Int} : (qT N V a b).length ≤ N.length := Nat.le_trans (List.length_filter_le _ _) dB
set_option maxHeartbeats 4000000 in
theorem lost_A (N : List Nd) (V : List Dv) (a b : List Int) (U : NwU G N V) (Sa : StOk V a) (Sb : StOk V b) : zl Tryz.prog G 17 [ja N V, .sl 1 (a.map iv), .sl 1 (b.map iv)] [] (.tu [.sl 1 ((qT N V a b).map iv), .v (.int .i64 (qA N (qT N V a b))), .v (.int .i64 0)]) [] := by
  have hn := U.n
  have la := dB (N := N) (V := V) (st := a)
  have lb := dB (N := N) (V := V) (st := b)
  have ha := Supd_J (G := G) N V a U Sa
  have hb := Supd_A (G := G) N V b U Sb
  have hd := del_J (G := G) (supP N V a) (supP N V b) (by omega) (by omega)
  have hc := vC (G := G) N V (qT N V a b) U (by have := lostP_len (N := N) (V := V) (a := a) (b := b); omega) (fun v hv => rW v (List.mem_filter.1 hv).1)
  refine zY tbOk (zM Tryz.func17 (by kernel_rfl) rfl) Tryz.func17 rfl _ Tryz.ntmps17 (Nat.le_of_ble_eq_true rfl) fun X hX => ?_
  subst hX
  repeat (first | ((with_reducible refine zI ?_); refine zJ rfl ?_) | ((with_reducible refine zE ?_); refine zF rfl ?_) | ((with_reducible refine zQ ?_); refine zZ tbOk rfl rfl rfl rfl (Nat.le_of_ble_eq_true rfl) ?_) | ((with_reducible refine yz ?_); refine jA rfl rfl rfl ?_)  | refine zK ?_ | refine zB rfl ?_ | with_reducible (first | refine zG ?_ | refine zH ?_) | ((with_reducible refine zA ?_ ?_); kernel_rfl))
  refine kS (s1 := 900) (y := .tu [.own 900 1, .v (.int .i64 0)]) ha (by repeat' (first | exact trivial | exact Ren.sl _ _ | refine zp ?_ | refine ⟨?_, ?_⟩)) (by repeat' (first | exact trivial | exact RenB.v _ | exact RenB.own _ _ _ rfl | refine yQ ?_ | refine ⟨?_, ?_⟩)) rfl ?_
  repeat (first | ((with_reducible refine zI ?_); refine zJ rfl ?_) | ((with_reducible refine zE ?_); refine zF rfl ?_) | ((with_reducible refine zQ ?_); refine zZ tbOk rfl rfl rfl rfl (Nat.le_of_ble_eq_true rfl) ?_) | ((with_reducible refine yZ ?_); refine yX rfl rfl ?_) | ((with_reducible refine zP ?_); refine zV rfl rfl rfl ?_)  | refine zK ?_ | refine zB rfl ?_ | with_reducible (first | refine zG ?_ | refine zH ?_ | refine zR ?_) | ((with_reducible refine zA ?_ ?_); kernel_rfl) | refine zm rfl (by first | rfl | assumption) ?_)
  refine zk (hb) (by repeat' (first | exact trivial | exact Ren.sl _ _ | refine zp ?_ | refine ⟨?_, ?_⟩)) (by repeat' (first | exact trivial | exact RenB.v _ | exact RenB.sl _ _ | refine yQ ?_ | refine ⟨?_, ?_⟩)) ?_
  repeat (first | ((with_reducible refine zI ?_); refine zJ rfl ?_) | ((with_reducible refine zE ?_); refine zF rfl ?_) | ((with_reducible refine zz ?_); refine yN tbOk rfl rfl rfl rfl rfl rfl rfl (Nat.le_of_ble_eq_true rfl) rfl ?_) | ((with_reducible refine yw ?_); refine yu tbOk rfl rfl ?_) | ((with_reducible refine yZ ?_); refine yX rfl rfl ?_) | ((with_reducible refine aO ?_); refine m_fn1 rfl ?_) | ((with_reducible refine zP ?_); refine zV rfl rfl rfl ?_)  | refine zK ?_ | refine zB rfl ?_ | with_reducible (first | refine zG ?_ | refine zH ?_ | refine zR ?_) | ((with_reducible refine zA ?_ ?_); kernel_rfl) | refine zm rfl (by first | rfl | assumption) ?_)
  refine xO (ss := [(900, 1), (11, 1)]) (ss' := [(900, 2), (11, 1)]) (cs' := [.buf 3 1 ((qT N V a b).map iv), .box [.sl 1 ((supP N V b).map iv)]]) (y := .own 900 2) hd (by repeat' (first | exact trivial | exact Ren.ptr _ _ _ _ rfl | exact Ren.ownr _ _ _ rfl | refine yo ?_ | refine ⟨?_, ?_⟩)) (by simp) ⟨rfl, ⟨_, rfl, by repeat' (first | exact trivial | exact Ren.sl _ _ | refine ⟨?_, ?_⟩)⟩, trivial⟩ ⟨⟨⟨rfl, rfl⟩, rfl⟩, ⟨⟨rfl, rfl⟩, _, rfl, by repeat' (first | exact trivial | exact RenB.sl _ _ | refine ⟨?_, ?_⟩)⟩, trivial⟩ (by repeat' exact RenB.own _ _ _ rfl) ?_
  repeat (first | ((with_reducible refine zE ?_); refine zF rfl ?_) | refine zK ?_ | refine zB rfl ?_ | with_reducible (first | refine zG ?_ | refine zH ?_))
  refine gE (t := 9) (s := 900) rfl rfl ?_
  repeat (first | ((with_reducible refine zI ?_); refine zJ rfl ?_) | ((with_reducible refine zQ ?_); refine zZ tbOk rfl rfl rfl rfl (Nat.le_of_ble_eq_true rfl) ?_)  | refine zB rfl ?_  | ((with_reducible refine zA ?_ ?_); kernel_rfl))
  refine zk (hc) (by repeat' (first | exact trivial | exact Ren.sl _ _ | refine zp ?_ | refine ⟨?_, ?_⟩)) (by repeat' exact RenB.v _) ?_
  repeat (first | ((with_reducible refine zE ?_); refine zF rfl ?_)  | refine zK ?_ | refine zB rfl ?_ | with_reducible (first | refine zG ?_ | refine zS ?_) )
  refine ret0_3 (by first | exact .inr rfl | exact .inl rfl) rfl rfl rfl rfl ?_
  repeat' (first | exact trivial | exact Ren.v _ | exact Ren.sl _ _ | refine yR ?_ | refine ⟨?_, ?_⟩)
end Go.Proofs.YtnafokinifbfhaaGreatDoor
