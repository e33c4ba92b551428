/- slices.IndexFunc and DeleteFunc at own numbers with a closure, supply.Lost, by the abstract machine; conditions: a valid network, states of it / hazard.check, lives, bad, list, in, by the abstract machine; conditions: a valid network, a state of it, an operation of one of its devices, no locks. -/
import Derived.Test.YtnafokinifbfhaaGreatDoorHzP
import Derived.Test.YtnafokinifbfhaaGreatDoorAbsN
import Derived.Test.YtnafokinifbfhaaGreatDoorAbsIp
import Derived.Test.YtnafokinifbfhaaGreatDoorZg
set_option linter.unusedVariables false
set_option linter.unusedSimpArgs false
namespace Go.Proofs.YtnafokinifbfhaaGreatDoor
open Go Go.RowKit
set_option maxRecDepth 10000
variable {G : Nat → Option (List Value)}
theorem lcl_A (B : List Int) (x : Int) (hB : B.length ≤ 1000) : zJ Tryz.prog G 49 [.v (.int .i64 x), .ptr (refB + 0) 0 0] [[.sl 1 (B.map iv)]] (.v (.bool (hasI B x))) [[.sl 1 (B.map iv)]] := by
  refine zE tbOk (zA Tryz.func49 (by kernel_rfl) rfl) Tryz.func49 rfl _ Tryz.ntmps49 (Nat.le_of_ble_eq_true rfl) fun X hX => ?_
  subst hX
  refine zg6 ?_
  refine zG (con_I B x (by unfold maxLen; omega)) (by repeat' (first | exact trivial | exact Ren.v _ | exact Ren.sl _ _ | refine ⟨?_, ?_⟩)) (by repeat' exact RenB.v _) ?_
  refine zg5 ?_
  exact dC (by first | exact .inr rfl | exact .inl rfl) rfl rfl rfl rfl rfl rfl (by repeat' (first | exact trivial | exact Ren.sl _ _ | refine ⟨?_, ?_⟩))
theorem rS (p : Int → Bool) : ∀ (L : List Int) (i : Nat), (idxP p L i = -1 ∧ ∀ x ∈ L, p x = false) ∨ ∃ (k : Nat) (x : Int), idxP p L i = ((i + k : Nat) : Int) ∧ L[k]? = some x ∧ p x = true ∧ ∀ y ∈ L.take k, p y = false
  | [], i => .inl ⟨rfl, fun x hx => by cases hx⟩
  | x :: L, i => by
    rw [idxP]
    by_cases h : p x = true
    · rw [if_pos h]
      exact .inr ⟨0, x, rfl, rfl, h, fun y hy => by simp at hy⟩
    · rw [if_neg h]
      rcases rS p L (i + 1) with ⟨h1, h2⟩ | ⟨k, z, h1, h2, h3, h4⟩
      · refine .inl ⟨h1, fun y hy => ?_⟩
        rcases List.mem_cons.1 hy with rfl | hy
        · simpa using h
        · exact h2 y hy
      · refine .inr ⟨k + 1, z, by rw [h1]; congr 1; omega, by simpa using h2, h3, fun y hy => ?_⟩
        rw [List.take_succ_cons] at hy
        rcases List.mem_cons.1 hy with rfl | hy
        · simpa using h
        · exact h4 y hy
set_option maxHeartbeats 1000000 in
theorem ifn_P (L B : List Int) (hl : L.length ≤ 1000) (hB : B.length ≤ 1000) : qy Tryz.prog G 94 [.own (refB + 0) 0, .fn 49 [.ptr (refB + 1) 0 0]] [.buf 3 1 (L.map iv), .box [.sl 1 (B.map iv)]] (.v (.int .i64 (idxP (hasI B) L 0))) [.buf 3 1 (L.map iv), .box [.sl 1 (B.map iv)]] := by
  have hml : (L.map iv).length = L.length := by simp
  refine qW tbOk (zA Tryz.func94 (by kernel_rfl) rfl) Tryz.func94 rfl _ Tryz.ntmps94 (Nat.le_of_ble_eq_true rfl) fun X hX => ?_
  subst hX
  refine zg3 ?_
  refine yK (ι := Nat) (fun v k => (v (refB + 0) = 0 ∧ v (refB + 1) = 0) ∧ k ≤ L.length ∧ idxP (hasI B) (L.drop k) k = idxP (hasI B) L 0) (fun k => L.length - k) (fun v k => [(0, .own (refB + 0) (v (refB + 0))), (1, .fn 49 [.ptr (refB + 1) (v (refB + 1)) 0]), (7, .v (.int .i64 (L.map iv).length)), (8, .v (.int .i64 (k : Nat)))]) (fun v k => [(refB + 0, .buf 3 1 (L.map iv)), (refB + 1, .box [.sl 1 (B.map iv)])]) ?_ ?_
  · exact ⟨0, ⟨⟨rfl, rfl⟩, Nat.zero_le _, rfl⟩, trivial, ⟨rfl, rfl, rfl, rfl, trivial⟩, ⟨rfl, rfl, trivial⟩⟩
  rintro v k ⟨⟨hv0, hv1⟩, hk, hi⟩
  refine zg1 ?_
  refine zF rfl (fun h => ?_) (fun h => ?_)
  · have hlt : k < L.length := by simpa using h
    obtain ⟨x, hx⟩ := zB hlt
    have ex : L.getD (k : Int).toNat 0 = x := by rw [Int.toNat_natCast]; exact getD_some hx
    rw [uM hx] at hi
    refine zg0 ?_
    (with_reducible refine zH ?_); refine zK tbOk rfl rfl rfl rfl rfl rfl ⟨by omega, by rw [List.length_map]; omega⟩ ?_
    refine zg1 ?_
    (with_reducible refine ze ?_); refine zk tbOk rfl rfl rfl rfl (qG (by omega)) (by rw [List.length_map]; omega) ?_
    rw [ex]
    refine zg1 ?_
    with_reducible refine yV ?_
    refine bH (ss := [(refB + 1, v (refB + 1))]) (lcl_A B x hB) rfl (by repeat' (first | exact trivial | exact Ren.v _ | exact Ren.ptr _ _ _ _ rfl | refine ⟨?_, ?_⟩)) (by simp) (in1 rfl rfl) rfl (yP rfl) (by repeat' exact RenB.v _) ?_
    refine zg1 ?_
    refine zF rfl (fun hq => ?_) (fun hq => ?_)
    · rw [if_pos hq] at hi
      refine zg6 ?_
      rw [← hi]
      exact retP2 (by first | exact .inr rfl | exact .inl rfl) (xs := [.v (.int .i64 (k : Nat))]) ⟨.tmp 4, trivial⟩ (by repeat' exact Ren.v _) rfl hv0 rfl hv1 rfl
    · rw [if_neg (by simp [hq])] at hi
      refine zg2 ?_
      exact ⟨k + 1, ⟨⟨hv0, hv1⟩, by omega, hi⟩, by omega, ⟨rfl, rfl, rfl, rfl, trivial⟩, ⟨rfl, rfl, trivial⟩⟩
  · have hlt : ¬ k < L.length := by simpa using h
    rw [List.drop_of_length_le (by omega)] at hi
    refine zg2 ?_
    rw [← hi]
    exact retP2 (by first | exact .inr rfl | exact .inl rfl) (xs := [.v (.int .i64 (-1))]) ⟨.tmp 4, trivial⟩ (by repeat' exact Ren.v _) rfl hv0 rfl hv1 rfl
theorem iV {α : Type} (A B : List α) : (A ++ B).take A.length = A := by simp
theorem take_iv (F : List Int) (X : List AV) : (F.map iv ++ X).take F.length = F.map iv := by
  have := iV (F.map iv) X
  rwa [List.length_map] at this
set_option maxHeartbeats 4000000 in
theorem del_J (L B : List Int) (hl : L.length ≤ 900) (hB : B.length ≤ 1000) : qa Tryz.prog G 48 [.own (refB + 0) 0, .fn 49 [.ptr (refB + 1) 0 0]] [.buf 3 1 (L.map iv), .box [.sl 1 (B.map iv)]] (.own (refB + 0) 0) [.buf 3 1 ((L.filter fun v => !hasI B v).map iv), .box [.sl 1 (B.map iv)]] := by
  have hml : (L.map iv).length = L.length := by simp
  have hj := ifn_P (G := G) L B (by omega) hB
  have hw := rS (hasI B) L 0
  refine aO tbOk (zA Tryz.func48 (by kernel_rfl) rfl) Tryz.func48 rfl _ Tryz.ntmps48 (Nat.le_of_ble_eq_true rfl) fun X hX => ?_
  subst hX
  refine zg1 ?_
  refine dA (ss := [(refB + 0, 0), (refB + 1, 0)]) (cs' := [.buf 3 1 (L.map iv), .box [.sl 1 (B.map iv)]]) (y := .v (.int .i64 (idxP (hasI B) L 0))) hj (by repeat' (first | exact trivial | exact Ren.ptr _ _ _ _ rfl | exact Ren.ownr _ _ _ rfl | refine yJ ?_ | refine ⟨?_, ?_⟩)) (by simp) ⟨rfl, ⟨_, rfl, by repeat' (first | exact trivial | exact Ren.sl _ _ | refine ⟨?_, ?_⟩)⟩, trivial⟩ ⟨rfl, ⟨_, rfl, by repeat' (first | exact trivial | exact RenB.sl _ _ | refine ⟨?_, ?_⟩)⟩, trivial⟩ (by repeat' exact RenB.v _) ?_
  rcases hw with ⟨e1, h2⟩ | ⟨k, x, e1, h2, h3, h4⟩
  · rw [e1]
    have ef : (L.filter fun v => !hasI B v) = L := List.filter_eq_self.2 fun v hv => by rw [h2 v hv]; rfl
    rw [ef]
    refine zg14 ?_
    exact retJ (by first | exact .inr rfl | exact .inl rfl) (xs := [.own (refB + 0) 0]) (fs := [(refB + 0, 0), (refB + 1, 0)]) ⟨.tmp 4, trivial⟩ (by decide) (by repeat' exact Ren.ownr _ _ _ rfl) ⟨rfl, ⟨⟨_, rfl, by repeat' (first | exact trivial | exact Ren.sl _ _ | refine ⟨?_, ?_⟩)⟩, fun _ => ⟨rfl, rfl⟩⟩, trivial⟩
  rw [Nat.zero_add] at e1
  rw [e1]
  have hkl := zM h2
  have ne : (((k : Nat) : Int) == -1) = false := by simp
  refine zg4 ?_
  refine yK (ι := Nat × List Int × List Int) (fun v i => (v (refB + 0) = 0 ∧ v (refB + 1) = 0) ∧ i.1 ≤ L.length ∧ i.2.1 = (L.take i.1).filter (fun v => !hasI B v) ∧ i.2.1.length + i.2.2.length = i.1 ∧ 0 < i.2.2.length) (fun i => L.length - i.1) (fun v i => [(0, .own (refB + 0) (v (refB + 0))), (1, .fn 49 [.ptr (refB + 1) (v (refB + 1)) 0]), (5, .v (.int .i64 (i.2.1.length : Nat))), (6, .v (.int .i64 (i.1 : Nat)))]) (fun v i => [(refB + 0, .buf 3 1 ((i.2.1 ++ i.2.2 ++ L.drop i.1).map iv)), (refB + 1, .box [.sl 1 (B.map iv)])]) ?_ ?_
  · refine ⟨(k + 1, L.take k, [x]), ⟨⟨rfl, rfl⟩, hkl, ?_, by simp; omega, by simp⟩, trivial, ⟨rfl, rfl, ?_, rfl, trivial⟩, ⟨zq ?_, rfl, trivial⟩⟩
    · dsimp only
      rw [yr h2, List.filter_append, List.filter_eq_self.2 (fun v hv => by rw [h4 v hv]; rfl)]
      simp [h3]
    · dsimp only
      rw [List.length_take, Nat.min_eq_left (by omega)]; rfl
    · dsimp only
      rw [List.append_assoc, List.singleton_append, ← zv h2, List.take_append_drop]
  rintro v ⟨j, F, Q⟩ ⟨⟨hv0, hv1⟩, hj, hF, hlen, hq0⟩
  dsimp only at hv0 hv1 hj hF hlen hq0 ⊢
  obtain ⟨E, hE⟩ : ∃ E, E = F ++ Q ++ L.drop j := ⟨_, rfl⟩
  have hEl : E.length = L.length := by rw [hE]; simp; omega
  have hEm : (E.map iv).length = L.length := by rw [List.length_map, hEl]
  rw [← hE]
  refine zg3 ?_
  refine zF rfl (fun h => ?_) (fun h => ?_)
  · have hlt : j < L.length := by rw [hEm] at h; simpa using h
    obtain ⟨z, hz⟩ := zB hlt
    have hFj : F.length < j := by omega
    have ez : E.getD (j : Int).toNat 0 = z := by
      rw [Int.toNat_natCast, hE, List.getD_eq_getElem?_getD, List.getElem?_append_right (by simp; omega), List.length_append, hlen, Nat.sub_self, List.getElem?_drop, Nat.add_zero, hz]; rfl
    refine zg0 ?_
    (with_reducible refine zH ?_); refine zK tbOk rfl rfl rfl rfl rfl rfl ⟨by omega, by rw [List.length_map]; omega⟩ ?_
    refine zg1 ?_
    (with_reducible refine ze ?_); refine zk tbOk rfl rfl rfl rfl (qG (by omega)) (by rw [List.length_map]; omega) ?_
    rw [ez]
    refine zg1 ?_
    with_reducible refine yV ?_
    refine bH (ss := [(refB + 1, v (refB + 1))]) (lcl_A B z hB) rfl (by repeat' (first | exact trivial | exact Ren.v _ | exact Ren.ptr _ _ _ _ rfl | refine ⟨?_, ?_⟩)) (by simp) (in1 rfl rfl) rfl (yP rfl) (by repeat' exact RenB.v _) ?_
    refine zg5 ?_
    refine zF rfl (fun c => ?_) (fun c => ?_)
    · have c' : hasI B z = false := by simpa using c
      obtain ⟨m, Q', rfl⟩ : ∃ m Q', Q = m :: Q' := by
        cases Q with
        | nil => simp at hq0
        | cons m Q' => exact ⟨m, Q', rfl⟩
      have eS : E.set (F.length : Int).toNat z = (F ++ [z]) ++ (Q' ++ [z]) ++ L.drop (j + 1) := by
        rw [Int.toNat_natCast, hE, List.append_assoc, List.set_append, if_neg (by omega), Nat.sub_self, zv hz]
        simp
      refine zg11 ?_
      (with_reducible refine zH ?_); refine zK tbOk rfl rfl rfl rfl rfl rfl ⟨by omega, by rw [List.length_map]; omega⟩ ?_
      refine zg1 ?_
      (with_reducible refine zt ?_); refine zz (L' := (E.set (F.length : Int).toNat z).map iv) tbOk rfl rfl rfl rfl rfl rfl rfl rfl rfl (by rw [yS, List.length_map]; omega) (by simp) (yY _) (jt _ _ _) ?_
      refine zg2 ?_
      rw [eS]
      refine ⟨(j + 1, F ++ [z], Q' ++ [z]), ⟨⟨hv0, hv1⟩, hlt, ?_, by simp at hlen ⊢; omega, by simp⟩, by show L.length - (j + 1) < L.length - j; omega, ⟨rfl, rfl, ?_, rfl, trivial⟩, ⟨rfl, rfl, trivial⟩⟩
      · dsimp only
        rw [yr hz, List.filter_append, ← hF]
        simp [c']
      · dsimp only
        rw [List.length_append]; rfl
    · have c' : hasI B z = true := by simpa using c
      have eS : E = F ++ (Q ++ [z]) ++ L.drop (j + 1) := by rw [hE, zv hz]; simp
      rw [eS]
      refine zg2 ?_
      refine ⟨(j + 1, F, Q ++ [z]), ⟨⟨hv0, hv1⟩, hlt, ?_, by simp at hlen ⊢; omega, by simp⟩, by show L.length - (j + 1) < L.length - j; omega, ⟨rfl, rfl, rfl, rfl, trivial⟩, ⟨rfl, rfl, trivial⟩⟩
      dsimp only
      rw [yr hz, List.filter_append, ← hF]
      simp [c']
  · have hge : ¬ j < L.length := by rw [hEm] at h; simpa using h
    have hjl : j = L.length := by omega
    rw [hjl, List.take_of_length_le (Nat.le_refl _)] at hF
    have hFl : F.length < L.length := by omega
    have hFE : (E.map iv).take F.length = F.map iv := by
      rw [← List.map_take, hE, List.append_assoc, iV]
    refine zg13 ?_
    with_reducible refine iS ?_
    refine x_slice_os (l := (F.length : Nat)) (h := ((E.map iv).length : Nat)) tbOk rfl rfl rfl rfl rfl rfl rfl (by refine ⟨?_, ?_, ?_⟩ <;> omega) (by omega) ?_
    refine zg1 ?_
    with_reducible refine yV ?_
    refine xL (z := .int .i64 0) tbOk rfl rfl rfl wD rfl rfl rfl rfl rfl (by omega) (by omega) (fun y hy => by obtain ⟨b, _, rfl⟩ := List.mem_map.1 hy; rfl) ?_
    rw [Int.toNat_natCast, Int.toNat_natCast, hFE]
    refine zg1 ?_
    with_reducible refine iS ?_
    refine xC (h := (F.length : Nat)) tbOk rfl rfl rfl rfl rfl rfl ⟨by omega, by simp; omega⟩ (by simp; omega) ?_
    rw [Int.toNat_natCast, show (F.map iv ++ List.replicate ((E.map iv).length - F.length) (AV.v (.int .i64 0))).take F.length = F.map iv from take_iv F _]
    refine zg5 ?_
    rw [hF]
    exact retJ (by first | exact .inr rfl | exact .inl rfl) (xs := [.own (refB + 0) (v (refB + 0) + 1)]) (fs := [(refB + 0, v (refB + 0) + 1), (refB + 1, v (refB + 1))]) ⟨.tmp 4, trivial⟩ (by simp) (by repeat' exact Ren.ownr _ _ _ rfl) ⟨rfl, ⟨⟨_, rfl, by repeat' (first | exact trivial | exact Ren.sl _ _ | refine ⟨?_, ?_⟩)⟩, fun _ => ⟨rfl, hv1⟩⟩, trivial⟩
theorem tD {N : List Nd} {V : List Dv} {a b : List Int} : (jZ N V a b).length ≤ N.length := Nat.le_trans (List.length_filter_le _ _) eU
set_option maxHeartbeats 4000000 in
theorem lost_A (N : List Nd) (V : List Dv) (a b : List Int) (U : NwU G N V) (Sa : StOk V a) (Sb : StOk V b) : zJ Tryz.prog G 17 [yR N V, .sl 1 (a.map iv), .sl 1 (b.map iv)] [] (.tu [.sl 1 ((jZ N V a b).map iv), .v (.int .i64 (cW N (jZ N V a b))), .v (.int .i64 0)]) [] := by
  have hn := U.n
  have la := eU (N := N) (V := V) (st := a)
  have lb := eU (N := N) (V := V) (st := b)
  have ha := Supd_J (G := G) N V a U Sa
  have hb := Supd_A (G := G) N V b U Sb
  have hd := del_J (G := G) (supP N V a) (supP N V b) (by omega) (by omega)
  have hc := cust_A (G := G) N V (jZ N V a b) U (by have := tD (N := N) (V := V) (a := a) (b := b); omega) (fun v hv => supP_in v (List.mem_filter.1 hv).1)
  refine zE tbOk (zA Tryz.func17 (by kernel_rfl) rfl) Tryz.func17 rfl _ Tryz.ntmps17 (Nat.le_of_ble_eq_true rfl) fun X hX => ?_
  subst hX
  refine zg0 ?_
  refine mV (s1 := 900) (y := .tu [.own 900 1, .v (.int .i64 0)]) ha (by repeat' (first | exact trivial | exact Ren.sl _ _ | refine zO ?_ | refine ⟨?_, ?_⟩)) (by repeat' (first | exact trivial | exact RenB.v _ | exact RenB.own _ _ _ rfl | refine zZ ?_ | refine ⟨?_, ?_⟩)) rfl ?_
  refine zg13 ?_
  refine zG (hb) (by repeat' (first | exact trivial | exact Ren.sl _ _ | refine zO ?_ | refine ⟨?_, ?_⟩)) (by repeat' (first | exact trivial | exact RenB.v _ | exact RenB.sl _ _ | refine zZ ?_ | refine ⟨?_, ?_⟩)) ?_
  refine zg12 ?_
  refine x_callJ (ss := [(900, 1), (11, 1)]) (ss' := [(900, 2), (11, 1)]) (cs' := [.buf 3 1 ((jZ N V a b).map iv), .box [.sl 1 ((supP N V b).map iv)]]) (y := .own 900 2) hd (by repeat' (first | exact trivial | exact Ren.ptr _ _ _ _ rfl | exact Ren.ownr _ _ _ rfl | refine yJ ?_ | refine ⟨?_, ?_⟩)) (by simp) ⟨rfl, ⟨_, rfl, by repeat' (first | exact trivial | exact Ren.sl _ _ | refine ⟨?_, ?_⟩)⟩, trivial⟩ ⟨⟨⟨rfl, rfl⟩, rfl⟩, ⟨⟨rfl, rfl⟩, _, rfl, by repeat' (first | exact trivial | exact RenB.sl _ _ | refine ⟨?_, ?_⟩)⟩, trivial⟩ (by repeat' exact RenB.own _ _ _ rfl) ?_
  repeat (first | ((with_reducible refine zi ?_); refine zh rfl ?_) | refine yh ?_ | refine zu rfl ?_ | with_reducible (first | refine zw ?_ | refine zp ?_))
  refine gV (t := 9) (s := 900) rfl rfl ?_
  refine zg11 ?_
  refine zG (hc) (by repeat' (first | exact trivial | exact Ren.sl _ _ | refine zO ?_ | refine ⟨?_, ?_⟩)) (by repeat' exact RenB.v _) ?_
  refine zg5 ?_
  refine ret0_3 (by first | exact .inr rfl | exact .inl rfl) rfl rfl rfl rfl ?_
  repeat' (first | exact trivial | exact Ren.v _ | exact Ren.sl _ _ | refine zf ?_ | refine ⟨?_, ?_⟩)
end Go.Proofs.YtnafokinifbfhaaGreatDoor
namespace Go.Proofs.YtnafokinifbfhaaGreatDoor
open Go Go.RowKit
set_option maxRecDepth 10000
variable {G : Nat → Option (List Value)}
def opAV (i : Nat) (p : Int) : AV := .ag [.v (.int .i64 (i : Nat)), .v (.int .i64 p)]
def grAV (pr : List Int) : AV := .ag [.v (.int .i64 0), .sl 3 [], .sl 1 (pr.map iv)]
theorem hcheck_A (N : List Nd) (V : List Dv) (i : Nat) (p : Int) (pr : List Int) (hi : i < V.length) (hp : p = 1 ∨ p = 2) : zJ Tryz.prog G 84 [yR N V, opAV i p, grAV pr] [] (.v (.int .i64 0)) [] := by
  have hvl : (V.map Dv.av).length = V.length := by simp
  have d0 : decide (((i : Nat) : Int) < 0) = false := decide_eq_false (by omega)
  have d1 : decide (((i : Nat) : Int) ≥ ((V.map Dv.av).length : Nat)) = false := decide_eq_false (by omega)
  refine zE tbOk (zA Tryz.func84 (by kernel_rfl) rfl) Tryz.func84 rfl _ Tryz.ntmps84 (Nat.le_of_ble_eq_true rfl) fun X hX => ?_
  subst hX
  rcases hp with rfl | rfl
  · refine zg15 ?_
    refine zL (by first | exact .inr rfl | exact .inl rfl) rfl rfl ?_
    rfl
  · refine zg15 ?_
    refine zL (by first | exact .inr rfl | exact .inl rfl) rfl rfl ?_
    rfl
theorem hlives_A (N : List Nd) (V : List Dv) (st : List Int) (i : Nat) (d : Dv) (U : NwU G N V) (S : StOk V st) (hd : V[i]? = some d) (hj : yH d.k = true) : zJ Tryz.prog G 128 [yR N V, .sl 1 (st.map iv), .v (.int .i64 (i : Nat))] [] (.v (.bool (bits .and .i64 (bits .or .i64 ((zd N V st).getD d.a.toNat 0) ((zd N V st).getD d.b.toNat 0)) 1 != 0))) [] := by
  have he := U.ends d (List.mem_of_getElem? hd)
  obtain ⟨a0, a1⟩ := qP he
  obtain ⟨b0, b1⟩ := eY he hj
  have hy : (V.map Dv.av)[i]? = some d.av := gM hd
  have hb := nM (G := G) N V st U.ends S.l U.n U.v
  have hcl : (zd N V st).length = N.length := jS
  generalize zd N V st = c at hb hcl ⊢
  have hcm : (c.map iv).length = N.length := by rw [List.length_map, hcl]
  have hya := yU (L := c) (k := d.a.toNat) (by omega)
  have hyb := yU (L := c) (k := d.b.toNat) (by omega)
  refine zE tbOk (zA Tryz.func128 (by kernel_rfl) rfl) Tryz.func128 rfl _ Tryz.ntmps128 (Nat.le_of_ble_eq_true rfl) fun X hX => ?_
  subst hX
  refine zg0 ?_
  refine zG (hb) (by repeat' (first | exact trivial | exact Ren.sl _ _ | refine zO ?_ | refine ⟨?_, ?_⟩)) (by repeat' (first | exact trivial | exact RenB.sl _ _ | refine zZ ?_ | refine ⟨?_, ?_⟩)) ?_
  refine zg14 ?_
  refine zL (by first | exact .inr rfl | exact .inl rfl) rfl rfl ?_
  rfl
theorem hbad_A (N : List Nd) (V : List Dv) (st : List Int) (i : Nat) (d : Dv) (p x : Int) (U : NwU G N V) (S : StOk V st) (hd : V[i]? = some d) : zJ Tryz.prog G 90 [yR N V, .sl 1 (st.map iv), opAV i p, .v (.int .i64 d.k), .v (.int .i64 x)] [] (.v (.bool (badP N V st d p x))) [] := by
  have hl := hlives_A (G := G) N V st i d U S hd
  unfold badP
  refine zE tbOk (zA Tryz.func90 (by kernel_rfl) rfl) Tryz.func90 rfl _ Tryz.ntmps90 (Nat.le_of_ble_eq_true rfl) fun X hX => ?_
  subst hX
  refine zg3 ?_
  refine zF rfl (fun c => ?_) (fun c => ?_)
  · rw [if_pos (by simpa using c)]
    refine zg11 ?_
    refine zX rfl rfl (fun q1 => ?_) (fun q1 => ?_)
    · rw [q1]
      refine zg7 ?_
      refine zL (by first | exact .inr rfl | exact .inl rfl) rfl rfl ?_
      rfl
    rw [q1]
    refine zg8 ?_
    refine zX rfl rfl (fun q2 => ?_) (fun q2 => ?_)
    · rw [q2]
      refine zg7 ?_
      refine zL (by first | exact .inr rfl | exact .inl rfl) rfl rfl ?_
      rfl
    rw [q2]
    refine zg7 ?_
    refine zL (by first | exact .inr rfl | exact .inl rfl) rfl rfl ?_
    rfl
  rw [if_neg (by simpa using c)]
  refine zg1 ?_
  refine zF rfl (fun c => ?_) (fun c => ?_)
  · have hk : d.k = 1 := by simpa using c
    rw [if_pos hk]
    refine zg13 ?_
    refine zG (hl (by rw [hk]; rfl)) (by repeat' (first | exact trivial | exact Ren.v _ | exact Ren.sl _ _ | refine zO ?_ | refine ⟨?_, ?_⟩)) (by repeat' exact RenB.v _) ?_
    refine zg6 ?_
    refine zL (by first | exact .inr rfl | exact .inl rfl) rfl rfl ?_
    rfl
  rw [if_neg (by simpa using c)]
  refine zg1 ?_
  refine zF rfl (fun c => ?_) (fun c => ?_)
  · rw [if_pos (by simpa using c)]
    refine zg11 ?_
    refine zX rfl rfl (fun q1 => ?_) (fun q1 => ?_)
    · rw [q1]
      refine zg7 ?_
      refine zL (by first | exact .inr rfl | exact .inl rfl) rfl rfl ?_
      rfl
    rw [q1]
    refine zg7 ?_
    refine zL (by first | exact .inr rfl | exact .inl rfl) rfl rfl ?_
    rfl
  rw [if_neg (by simpa using c)]
  refine zg1 ?_
  refine zF rfl (fun c => ?_) (fun c => ?_)
  · rw [if_pos (by simpa using c)]
    refine zg11 ?_
    refine zX rfl rfl (fun q1 => ?_) (fun q1 => ?_)
    · rw [q1]
      refine zg7 ?_
      refine zL (by first | exact .inr rfl | exact .inl rfl) rfl rfl ?_
      rfl
    rw [q1]
    refine zg7 ?_
    refine zL (by first | exact .inr rfl | exact .inl rfl) rfl rfl ?_
    rfl
  rw [if_neg (by simpa using c)]
  refine zg12 ?_
  refine zL (by first | exact .inr rfl | exact .inl rfl) rfl rfl ?_
  rfl
def fnd (h : Int × Bool) : AV := .ag [.v (.int .i64 h.1), .v (.bool h.2)]
set_option maxHeartbeats 1000000 in
theorem hlist_A (l : List (Int × Bool)) (hl : l.length ≤ 12) : zJ Tryz.prog G 87 [.sl 2 (l.map fnd)] [] (.sl 1 ((lstP l).map iv)) [] := by
  have hml : (l.map fnd).length = l.length := by simp
  unfold lstP
  refine zE tbOk (zA Tryz.func87 (by kernel_rfl) rfl) Tryz.func87 rfl _ Tryz.ntmps87 (Nat.le_of_ble_eq_true rfl) fun X hX => ?_
  subst hX
  refine zg0 ?_
  refine jm (t := 3) (s := 18) 3 1 rfl rfl ?_
  refine zQ (ι := Nat × List Int) (fun i => i.1 ≤ l.length ∧ i.2.length ≤ i.1 ∧ i.2 ++ bU (l.drop i.1) = bU l) (fun i => l.length - i.1) (fun v i => [(3, .own 18 (v 18)), (6, .sl 2 (l.map fnd)), (7, .v (.int .i64 (l.map fnd).length)), (8, .v (.int .i64 (i.1 : Nat)))]) (fun v i => [(18, .buf 3 1 (i.2.map iv))]) ?_ ?_
  · exact ⟨(0, []), ⟨Nat.zero_le _, Nat.le_refl _, rfl⟩, trivial, ⟨rfl, rfl, rfl, rfl, trivial⟩, ⟨rfl, trivial⟩⟩
  rintro v ⟨i, E⟩ ⟨hi, hE, hf⟩
  dsimp only at hi hE hf ⊢
  have hEl : (E.map iv).length = E.length := by simp
  refine zg1 ?_
  refine zF rfl (fun h => ?_) (fun h => ?_)
  · have hlt : i < l.length := by simpa using h
    obtain ⟨x, hx⟩ := zB hlt
    have hy : (l.map fnd)[i]? = some (fnd x) := by rw [List.getElem?_map, hx]; rfl
    obtain ⟨z, b⟩ := x
    rw [zv hx, bU] at hf
    refine zg14 ?_
    cases b with
    | true =>
      rw [if_pos rfl] at hf
      refine zg15 ?_
      refine za tbOk rfl rfl rfl rfl rfl (by decide) rfl rfl rfl rfl rfl (fun x hx => by simp at hx; subst hx; rfl) (by simp only [List.length_map, List.length_cons, List.length_nil]; omega) (by simp only [List.length_map, List.length_cons, List.length_nil]; omega) ?_
      refine zg2 ?_
      exact ⟨(i + 1, E ++ [z]), ⟨hlt, by simp; omega, by rw [← hf]; simp⟩, by show l.length - (i + 1) < l.length - i; omega, ⟨rfl, rfl, rfl, rfl, trivial⟩, ⟨zq (by rw [List.map_append]; rfl), trivial⟩⟩
    | false =>
      rw [if_neg (fun e => Bool.noConfusion e)] at hf
      refine zg10 ?_
      exact ⟨(i + 1, E), ⟨hlt, by show E.length ≤ i + 1; omega, hf⟩, by show l.length - (i + 1) < l.length - i; omega, ⟨rfl, rfl, rfl, rfl, trivial⟩, ⟨rfl, trivial⟩⟩
  · have hge : ¬ i < l.length := by simpa using h
    rw [List.drop_of_length_le (by omega)] at hf
    have hf' : bU l = E := by rw [← hf]; simp [bU]
    rw [hf']
    have hs := sort_P (G := X.G) E (by omega)
    refine zg13 ?_
    refine dA (ss := [(18, v 18)]) (cs' := [.buf 3 1 ((srtI E).map iv)]) (y := .tu []) hs (by repeat' (first | exact trivial | exact Ren.ownr _ _ _ rfl | refine ⟨?_, ?_⟩)) (by simp) ⟨rfl, trivial⟩ ⟨rfl, trivial⟩ (by repeat' (first | exact trivial | refine zZ ?_)) ?_
    refine zg6 ?_
    refine qs (by first | exact .inr rfl | exact .inl rfl) rfl rfl ?_
    repeat' exact Ren.own _ _ _ _ ⟨_, rfl⟩
theorem lif_A (c : List AV) (hc : js c = true) : zJ Tryz.prog G 125 [.sl 3 [], .fn 86 [.ptr (refB + 0) 0 0]] [c] (.v (.int .i64 (-1))) [c] := by
  refine zE tbOk (zA Tryz.func125 (by kernel_rfl) rfl) Tryz.func125 rfl _ Tryz.ntmps125 (Nat.le_of_ble_eq_true rfl) fun X hX => ?_
  subst hX
  refine zg0 ?_
  refine yK (ι := Unit) (fun v _ => v (refB + 0) = 0) (fun _ => 0) (fun v _ => [(7, .v (.int .i64 0)), (8, .v (.int .i64 0))]) (fun v _ => [(refB + 0, .box c)]) ?_ ?_
  · exact ⟨(), rfl, trivial, ⟨rfl, rfl, trivial⟩, ⟨rfl, trivial⟩⟩
  rintro v ⟨⟩ hv0
  refine zg4 ?_
  exact eZ (by first | exact .inr rfl | exact .inl rfl) rfl rfl (by repeat' exact Ren.v _) rfl hv0 (jG hc)
theorem lcf_A (c : List AV) (hc : js c = true) : zJ Tryz.prog G 85 [.sl 3 [], .fn 86 [.ptr (refB + 0) 0 0]] [c] (.v (.bool false)) [c] := by
  have h := lif_A (G := G) c hc
  refine zE tbOk (zA Tryz.func85 (by kernel_rfl) rfl) Tryz.func85 rfl _ Tryz.ntmps85 (Nat.le_of_ble_eq_true rfl) fun X hX => ?_
  subst hX
  refine zg1 ?_
  refine zy (ss := [(refB + 0, 0)]) h (by repeat' (first | exact trivial | exact Ren.sl _ _ | exact Ren.ptr _ _ _ _ rfl | refine yJ ?_ | refine ⟨?_, ?_⟩)) (by simp) (in1 rfl hc) rfl (yP hc) (by repeat' exact RenB.v _) ?_
  refine zg5 ?_
  exact eZ (by first | exact .inr rfl | exact .inl rfl) rfl rfl (by repeat' exact Ren.v _) rfl rfl (jG hc)
theorem inL_eq {N : List Nd} {V : List Dv} {st : List Int} {i : Nat} {d : Dv} {p : Int} {pr : List Int} (h : st.getD i 0 = p) : inL N V st i d p pr = [(4, false), (6, d.co != 0), (7, true)] := by unfold inL; rw [if_pos h]
theorem tP {N : List Nd} {V : List Dv} {st : List Int} {i : Nat} {d : Dv} {p : Int} {pr : List Int} (h : ¬ st.getD i 0 = p) : inL N V st i d p pr = [(4, false), (6, d.co != 0), (1, (p == 2) && (ofP N V st i d == 4)), (2, badP N V st d p (ofP N V st i d)), (3, decide (((jZ N V st (st.set i p)).length : Int) > 0)), (5, (p == 2) && (d.k == 4) && !hasI pr d.a)] := by unfold inL; rw [if_neg h]
set_option maxHeartbeats 4000000 in
theorem hin_A (N : List Nd) (V : List Dv) (st : List Int) (i : Nat) (d : Dv) (p : Int) (pr : List Int) (U : NwU G N V) (S : StOk V st) (hd : V[i]? = some d) (hp : p = 1 ∨ p = 2) (hpr : pr.length ≤ 1000) : zJ Tryz.prog G 45 [yR N V, .sl 1 (st.map iv), opAV i p, grAV pr] [] (.sl 1 ((inP N V st i d p pr).map iv)) [] := by
  have hi := zM hd
  have hv := U.v
  have hsl := S.l
  have hstl : (st.map iv).length = st.length := by simp
  have hy : (V.map Dv.av)[i]? = some d.av := gM hd
  have hyi := yU (L := st) (k := i) (by omega)
  have hcf := lcf_A (G := G) [.v (.int .i64 (i : Nat)), .v (.int .i64 p)] rfl
  have hof := dOf_A (G := G) N V st i d U S hd
  have hwi := uE (G := G) st i p (by omega) (by omega)
  have hlo := lost_A (G := G) N V st (st.set i p) U S (xQ hp S)
  have hba := hbad_A (G := G) N V st i d p (ofP N V st i d) U S hd
  have hco := con_I (G := G) pr d.a (by unfold maxLen; omega)
  have hel := hlist_A (G := G) (inL N V st i d p pr) (by have := inL_len (N := N) (V := V) (st := st) (i := i) (d := d) (pos := p) (pr := pr); omega)
  unfold inP
  refine zE tbOk (zA Tryz.func45 (by kernel_rfl) rfl) Tryz.func45 rfl _ Tryz.ntmps45 (Nat.le_of_ble_eq_true rfl) fun X hX => ?_
  subst hX
  refine zg14 ?_
  refine zy (ss := [(6, 1)]) (hcf) (by repeat' (first | exact trivial | exact Ren.sl _ _ | exact Ren.ptr _ _ _ _ rfl | refine yJ ?_ | refine ⟨?_, ?_⟩)) (by simp) (in1 rfl rfl) rfl (yP rfl) (by repeat' exact RenB.v _) ?_
  refine zg14 ?_
  refine zF rfl (fun c => ?_) (fun c => ?_)
  · rw [inL_eq (by simpa using c)] at hel ⊢
    refine zg4 ?_
    refine zG (hel) (by repeat' (first | exact trivial | exact Ren.sl _ _ | refine ⟨?_, ?_⟩)) (by repeat' exact RenB.sl _ _) ?_
    refine zg5 ?_
    refine qs (by first | exact .inr rfl | exact .inl rfl) rfl rfl ?_
    repeat' exact Ren.sl _ _
  have c' : ¬ st.getD i 0 = p := fun e => by rw [e] at c; simp at c
  refine zg13 ?_
  refine zG (hof) (by repeat' (first | exact trivial | exact Ren.v _ | exact Ren.sl _ _ | refine zO ?_ | refine ⟨?_, ?_⟩)) (by repeat' (first | exact trivial | exact RenB.v _ | refine zZ ?_ | refine ⟨?_, ?_⟩)) ?_
  refine zg12 ?_
  refine zG (hwi) (by repeat' (first | exact trivial | exact Ren.v _ | exact Ren.sl _ _ | refine ⟨?_, ?_⟩)) (by repeat' exact RenB.sl _ _) ?_
  refine zg1 ?_
  refine zG (hlo) (by repeat' (first | exact trivial | exact Ren.sl _ _ | refine zO ?_ | refine ⟨?_, ?_⟩)) (by repeat' (first | exact trivial | exact RenB.v _ | exact RenB.sl _ _ | refine zZ ?_ | refine ⟨?_, ?_⟩)) ?_
  refine zg14 ?_
  rcases hp with rfl | rfl
  · have e : inL N V st i d 1 pr = [(4, false), (6, d.co != 0), (1, false), (2, badP N V st d 1 (ofP N V st i d)), (3, decide ((((jZ N V st (st.set i 1)).map iv).length : Int) > 0)), (5, false)] := by rw [tP c', List.length_map]; rfl
    rw [e] at hel ⊢
    refine zg8 ?_
    refine zG (hba) (by repeat' (first | exact trivial | exact Ren.v _ | exact Ren.sl _ _ | refine zO ?_ | refine ⟨?_, ?_⟩)) (by repeat' exact RenB.v _) ?_
    refine zg8 ?_
    refine zG (hel) (by repeat' (first | exact trivial | exact Ren.sl _ _ | refine ⟨?_, ?_⟩)) (by repeat' exact RenB.sl _ _) ?_
    refine zg5 ?_
    refine qs (by first | exact .inr rfl | exact .inl rfl) rfl rfl ?_
    repeat' exact Ren.sl _ _
  · have e : inL N V st i d 2 pr = [(4, false), (6, d.co != 0), (1, ofP N V st i d == 4), (2, badP N V st d 2 (ofP N V st i d)), (3, decide ((((jZ N V st (st.set i 2)).map iv).length : Int) > 0)), (5, (d.k == 4) && !hasI pr d.a)] := by rw [tP c', List.length_map]; rfl
    rw [e] at hel ⊢
    refine zg8 ?_
    refine zG (hba) (by repeat' (first | exact trivial | exact Ren.v _ | exact Ren.sl _ _ | refine zO ?_ | refine ⟨?_, ?_⟩)) (by repeat' exact RenB.v _) ?_
    refine zg8 ?_
    refine zX rfl rfl (fun k4 => ?_) (fun k4 => ?_)
    · rw [k4, Bool.true_and] at hel ⊢
      refine zg8 ?_
      refine zG (hco) (by repeat' (first | exact trivial | exact Ren.v _ | exact Ren.sl _ _ | refine ⟨?_, ?_⟩)) (by repeat' exact RenB.v _) ?_
      refine zg8 ?_
      refine zG (hel) (by repeat' (first | exact trivial | exact Ren.sl _ _ | refine ⟨?_, ?_⟩)) (by repeat' exact RenB.sl _ _) ?_
      refine zg5 ?_
      refine qs (by first | exact .inr rfl | exact .inl rfl) rfl rfl ?_
      repeat' exact Ren.sl _ _
    · rw [k4, Bool.false_and] at hel ⊢
      refine zg8 ?_
      refine zG (hel) (by repeat' (first | exact trivial | exact Ren.sl _ _ | refine ⟨?_, ?_⟩)) (by repeat' exact RenB.sl _ _) ?_
      refine zg5 ?_
      refine qs (by first | exact .inr rfl | exact .inl rfl) rfl rfl ?_
      repeat' exact Ren.sl _ _
end Go.Proofs.YtnafokinifbfhaaGreatDoor
