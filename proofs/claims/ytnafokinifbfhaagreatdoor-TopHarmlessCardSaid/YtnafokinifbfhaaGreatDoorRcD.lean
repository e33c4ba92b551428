/- colour.Parts, Colours, Faults, hazard.Safe and Witness, the law's list of all nodes, by the abstract machine; conditions: a valid network, valid masks with at most eight unknown devices / ref11.Supplied, sum, Lost and mk.After, by the abstract machine; conditions: a valid network, states of it. -/
import Derived.Test.YtnafokinifbfhaaGreatDoorFdB
import Derived.Test.YtnafokinifbfhaaGreatDoorRcC
import Derived.Test.YtnafokinifbfhaaGreatDoorZg
import Derived.Test.YtnafokinifbfhaaGreatDoorHaA
set_option linter.unusedVariables false
set_option linter.unusedSimpArgs false
namespace Go.Proofs.YtnafokinifbfhaaGreatDoor
open Go Go.RowKit
set_option maxRecDepth 10000
variable {G : Nat → Option (List Value)}
theorem cparts_A (N : List Nd) (V : List Dv) (st : List Int) (U : NwU G N V) (S : StOk V st) : zJ Tryz.prog G 97 [yR N V, .sl 1 (st.map iv)] [] (.tu [.sl 1 ((ptsP N V st).map iv), .v (.int .i64 0)]) [] := by
  have hm := iW (G := G) N V st U.g U.p U.nn U.vn U.n U.v U.e S.l S.p
  have hp := parts_A (G := G) N V st U.ends S.l U.n U.v
  unfold ptsP
  refine zE tbOk (zA Tryz.func97 (by kernel_rfl) rfl) Tryz.func97 rfl _ Tryz.ntmps97 (Nat.le_of_ble_eq_true rfl) fun X hX => ?_
  subst hX
  refine zg0 ?_
  refine zG (hm) (by repeat' (first | exact trivial | exact Ren.sl _ _ | refine zO ?_ | refine ⟨?_, ?_⟩)) (by repeat' exact RenB.v _) ?_
  refine zg13 ?_
  refine zG (hp) (by repeat' (first | exact trivial | exact Ren.sl _ _ | refine zO ?_ | refine ⟨?_, ?_⟩)) (by repeat' exact RenB.sl _ _) ?_
  refine zg5 ?_
  refine jH (by first | exact .inr rfl | exact .inl rfl) rfl rfl rfl ?_
  repeat' (first | exact trivial | exact Ren.v _ | exact Ren.sl _ _ | refine zf ?_ | refine ⟨?_, ?_⟩)
theorem ccols_A (N : List Nd) (V : List Dv) (st : List Int) (U : NwU G N V) (S : StOk V st) : zJ Tryz.prog G 53 [yR N V, .sl 1 (st.map iv)] [] (.tu [.sl 1 ((zd N V st).map iv), .v (.int .i64 0)]) [] := by
  have hp := cparts_A (G := G) N V st U S
  have hc := sU (G := G) N V st (ptsP N V st) U.ends S.l fA U.n U.v
  unfold zd
  refine zE tbOk (zA Tryz.func53 (by kernel_rfl) rfl) Tryz.func53 rfl _ Tryz.ntmps53 (Nat.le_of_ble_eq_true rfl) fun X hX => ?_
  subst hX
  refine zg0 ?_
  refine zG (hp) (by repeat' (first | exact trivial | exact Ren.sl _ _ | refine zO ?_ | refine ⟨?_, ?_⟩)) (by repeat' (first | exact trivial | exact RenB.v _ | exact RenB.sl _ _ | refine zZ ?_ | refine ⟨?_, ?_⟩)) ?_
  refine zg13 ?_
  refine zG (hc) (by repeat' (first | exact trivial | exact Ren.sl _ _ | refine zO ?_ | refine ⟨?_, ?_⟩)) (by repeat' exact RenB.sl _ _) ?_
  refine zg5 ?_
  refine jH (by first | exact .inr rfl | exact .inl rfl) rfl rfl rfl ?_
  repeat' (first | exact trivial | exact Ren.v _ | exact Ren.sl _ _ | refine zf ?_ | refine ⟨?_, ?_⟩)
set_option maxHeartbeats 4000000 in
theorem cfaults_A (N : List Nd) (V : List Dv) (st : List Int) (U : NwU G N V) (S : StOk V st) : zJ Tryz.prog G 21 [yR N V, .sl 1 (st.map iv)] [] (.tu [.sl 1 ((fltP N V st).map iv), .v (.int .i64 0)]) [] := by
  have hn := U.n
  have hc := ccols_A (G := G) N V st U S
  unfold fltP
  have hcl : (zd N V st).length = N.length := jS
  generalize zd N V st = c at hc hcl ⊢
  have hcm : (c.map iv).length = N.length := by rw [List.length_map, hcl]
  refine zE tbOk (zA Tryz.func21 (by kernel_rfl) rfl) Tryz.func21 rfl _ Tryz.ntmps21 (Nat.le_of_ble_eq_true rfl) fun X hX => ?_
  subst hX
  refine zg0 ?_
  refine zG (hc) (by repeat' (first | exact trivial | exact Ren.sl _ _ | refine zO ?_ | refine ⟨?_, ?_⟩)) (by repeat' (first | exact trivial | exact RenB.v _ | exact RenB.sl _ _ | refine zZ ?_ | refine ⟨?_, ?_⟩)) ?_
  refine zg13 ?_
  refine jm (t := 8) (s := 29) 3 1 rfl rfl ?_
  skip
  refine zQ (ι := Nat) (fun i => i ≤ N.length) (fun i => N.length - i) (fun v i => [(7, .v (.int .i64 0)), (8, .own 29 (v 29)), (17, .sl 1 (c.map iv)), (18, .v (.int .i64 (c.map iv).length)), (19, .v (.int .i64 (i : Nat)))]) (fun v i => [(29, .buf 3 1 ((jK c i).map iv))]) ?_ ?_
  · exact ⟨0, Nat.zero_le _, trivial, ⟨rfl, rfl, rfl, rfl, rfl, trivial⟩, ⟨rfl, trivial⟩⟩
  rintro v i hi
  have hfl := cA c i
  have hfm : ((jK c i).map iv).length = (jK c i).length := by simp
  refine zg1 ?_
  refine zF rfl (fun h => ?_) (fun h => ?_)
  · have hlt : i < N.length := by rw [hcm] at h; simpa using h
    have hyi := yU (L := c) (k := i) (by omega)
    refine zg3 ?_
    refine zF rfl (fun q => ?_) (fun q => ?_)
    · have e : jK c (i + 1) = jK c i ++ [(i : Int)] := by rw [jK, if_pos (by simpa using q)]
      refine zg11 ?_
      refine za tbOk rfl rfl rfl rfl rfl (by decide) rfl rfl rfl rfl rfl (fun x hx => by simp at hx; subst hx; rfl) (by simp only [List.length_map, List.length_cons, List.length_nil]; omega) (by simp only [List.length_map, List.length_cons, List.length_nil]; omega) ?_
      refine zg2 ?_
      exact ⟨i + 1, hlt, by omega, ⟨rfl, rfl, rfl, rfl, rfl, trivial⟩, ⟨zq (by rw [e, List.map_append]; rfl), trivial⟩⟩
    · have e : jK c (i + 1) = jK c i := by rw [jK, if_neg (fun h => by rw [h] at q; simp at q)]
      refine zg2 ?_
      exact ⟨i + 1, hlt, by omega, ⟨rfl, rfl, rfl, rfl, rfl, trivial⟩, ⟨zq (by rw [e]), trivial⟩⟩
  · have hge : ¬ i < N.length := by rw [hcm] at h; simpa using h
    obtain rfl : i = N.length := by omega
    refine zg2 ?_
    refine jH (by first | exact .inr rfl | exact .inl rfl) rfl rfl rfl ?_
    repeat' (first | exact trivial | exact Ren.v _ | exact Ren.own _ _ _ _ ⟨_, rfl⟩ | refine zf ?_ | refine ⟨?_, ?_⟩)
def allN (n : Nat) : List Int := (List.range n).map (fun k : Nat => (k : Int))
theorem uT (n : Nat) : (allN n).length = n := by simp [allN]
theorem allN_succ (n : Nat) : allN (n + 1) = allN n ++ [(n : Int)] := by unfold allN; rw [List.range_succ, List.map_append]; rfl
theorem all_A (N : List Nd) (V : List Dv) (hn : N.length ≤ 32) : zJ Tryz.prog G 18 [yR N V] [] (.sl 1 ((allN N.length).map iv)) [] := by
  have hnl : (N.map Nd.av).length = N.length := by simp
  refine zE tbOk (zA Tryz.func18 (by kernel_rfl) rfl) Tryz.func18 rfl _ Tryz.ntmps18 (Nat.le_of_ble_eq_true rfl) fun X hX => ?_
  subst hX
  refine zg12 ?_
  refine jm (t := 3) (s := 14) 3 1 rfl rfl ?_
  refine zQ (ι := Nat) (fun i => i ≤ N.length) (fun i => N.length - i) (fun v i => [(3, .own 14 (v 14)), (7, .v (.int .i64 (N.map Nd.av).length)), (8, .v (.int .i64 (i : Nat)))]) (fun v i => [(14, .buf 3 1 ((allN i).map iv))]) ?_ ?_
  · exact ⟨0, Nat.zero_le _, trivial, ⟨rfl, rfl, rfl, trivial⟩, ⟨rfl, trivial⟩⟩
  rintro v i hi
  have hal := uT i
  have ham : ((allN i).map iv).length = i := by rw [List.length_map, hal]
  refine zg1 ?_
  refine zF rfl (fun h => ?_) (fun h => ?_)
  · have hlt : i < N.length := by rw [hnl] at h; simpa using h
    refine zg7 ?_
    refine za tbOk rfl rfl rfl rfl rfl (by decide) rfl rfl rfl rfl rfl (fun x hx => by simp at hx; subst hx; rfl) (by simp only [List.length_map, List.length_cons, List.length_nil]; omega) (by simp only [List.length_map, List.length_cons, List.length_nil]; omega) ?_
    refine zg2 ?_
    exact ⟨i + 1, hlt, by omega, ⟨rfl, rfl, rfl, trivial⟩, ⟨zq (by rw [allN_succ, List.map_append]; rfl), trivial⟩⟩
  · have hge : ¬ i < N.length := by rw [hnl] at h; simpa using h
    obtain rfl : i = N.length := by omega
    refine zg2 ?_
    refine qs (by first | exact .inr rfl | exact .inl rfl) rfl rfl ?_
    repeat' exact Ren.own _ _ _ _ ⟨_, rfl⟩
theorem scl_A (B : List Int) (x : Int) (hB : B.length ≤ 1000) : zJ Tryz.prog G 51 [.v (.int .i64 x), .ptr (refB + 0) 0 0] [[.sl 1 (B.map iv)]] (.v (.bool (!hasI B x))) [[.sl 1 (B.map iv)]] := by
  refine zE tbOk (zA Tryz.func51 (by kernel_rfl) rfl) Tryz.func51 rfl _ Tryz.ntmps51 (Nat.le_of_ble_eq_true rfl) fun X hX => ?_
  subst hX
  refine zg6 ?_
  refine zG (con_I B x (by unfold maxLen; omega)) (by repeat' (first | exact trivial | exact Ren.v _ | exact Ren.sl _ _ | refine ⟨?_, ?_⟩)) (by repeat' exact RenB.v _) ?_
  refine zg5 ?_
  exact dC (by first | exact .inr rfl | exact .inl rfl) rfl rfl rfl rfl rfl rfl (by repeat' (first | exact trivial | exact Ren.sl _ _ | refine ⟨?_, ?_⟩))
set_option maxHeartbeats 1000000 in
theorem ifnC_A (L : List Int) (f : FuncId) (c : List AV) (p : Int → Bool) (hc : js c = true) (hf : ∀ x ∈ L, zJ Tryz.prog G f [.v (.int .i64 x), .ptr (refB + 0) 0 0] [c] (.v (.bool (p x))) [c]) (hm : L.length ≤ 1000) :
    zJ Tryz.prog G 94 [.sl 1 (L.map iv), .fn f [.ptr (refB + 0) 0 0]] [c] (.v (.int .i64 (idxP p L 0))) [c] := by
  refine zE tbOk (zA Tryz.func94 (by kernel_rfl) rfl) Tryz.func94 rfl _ Tryz.ntmps94 (Nat.le_of_ble_eq_true rfl) fun X hX => ?_
  subst hX
  refine zg0 ?_
  refine yK (ι := Nat) (fun v k => v (refB + 0) = 0 ∧ k ≤ L.length ∧ idxP p (L.drop k) k = idxP p L 0) (fun k => L.length - k) (fun v k => [(0, .sl 1 (L.map iv)), (1, .fn f [.ptr (refB + 0) (v (refB + 0)) 0]), (7, .v (.int .i64 (L.map iv).length)), (8, .v (.int .i64 (k : Nat)))]) (fun v k => [(refB + 0, .box c)]) ?_ ?_
  · exact ⟨0, ⟨rfl, Nat.zero_le _, rfl⟩, trivial, ⟨rfl, rfl, rfl, rfl, trivial⟩, ⟨rfl, trivial⟩⟩
  · rintro v k ⟨hv0, hk, hi⟩
    refine zg1 ?_
    refine zF rfl (fun h => ?_) (fun h => ?_)
    · have hlt : k < L.length := by simpa using h
      obtain ⟨x, hx⟩ := zB hlt
      have hy := qA hx
      rw [uM hx] at hi
      refine zg3 ?_
      with_reducible refine yV ?_
      refine bH (ss := [(refB + 0, v (refB + 0))]) (hf x (List.mem_of_getElem? hx)) rfl (by repeat' (first | exact trivial | exact Ren.v _ | exact Ren.ptr _ _ _ _ rfl | refine ⟨?_, ?_⟩)) (by simp) (in1 rfl hc) rfl (yP hc) (by repeat' exact RenB.v _) ?_
      refine zg1 ?_
      refine zF rfl (fun hq => ?_) (fun hq => ?_)
      · rw [if_pos hq] at hi
        refine zg6 ?_
        rw [← hi]
        exact eZ (by first | exact .inr rfl | exact .inl rfl) rfl rfl (by repeat' exact Ren.v _) rfl hv0 (jG hc)
      · rw [if_neg (by simp [hq])] at hi
        refine zg2 ?_
        exact ⟨k + 1, ⟨hv0, by omega, hi⟩, by omega, ⟨rfl, rfl, rfl, rfl, trivial⟩, ⟨rfl, trivial⟩⟩
    · have hlt : ¬ k < L.length := by simpa using h
      rw [List.drop_of_length_le (by omega)] at hi
      refine zg2 ?_
      rw [← hi]
      exact eZ (by first | exact .inr rfl | exact .inl rfl) rfl rfl (by repeat' exact Ren.v _) rfl hv0 (jG hc)
theorem cfnC_A (L : List Int) (f : FuncId) (c : List AV) (p : Int → Bool) (hc : js c = true) (hf : ∀ x ∈ L, zJ Tryz.prog G f [.v (.int .i64 x), .ptr (refB + 0) 0 0] [c] (.v (.bool (p x))) [c]) (hm : L.length ≤ 1000) :
    zJ Tryz.prog G 50 [.sl 1 (L.map iv), .fn f [.ptr (refB + 0) 0 0]] [c] (.v (.bool (L.any p))) [c] := by
  have h := ifnC_A (G := G) L f c p hc hf hm
  rw [← pK p L 0]
  refine zE tbOk (zA Tryz.func50 (by kernel_rfl) rfl) Tryz.func50 rfl _ Tryz.ntmps50 (Nat.le_of_ble_eq_true rfl) fun X hX => ?_
  subst hX
  refine zg1 ?_
  refine zy (ss := [(refB + 0, 0)]) h (by repeat' (first | exact trivial | exact Ren.sl _ _ | exact Ren.ptr _ _ _ _ rfl | refine yJ ?_ | refine ⟨?_, ?_⟩)) (by simp) (in1 rfl hc) rfl (yP hc) (by repeat' exact RenB.v _) ?_
  refine zg5 ?_
  exact eZ (by first | exact .inr rfl | exact .inl rfl) rfl rfl (by repeat' exact Ren.v _) rfl rfl (jG hc)
theorem mayP_len {N : List Nd} {V : List Dv} {m : List Int} {i : Nat} {d : Dv} {p : Int} {pr : List Int} : (mayP N V m i d p pr).length ≤ 1000 := by
  unfold mayP
  rw [vR]
  have := (hzG (q := m.getD i 0 == p) (L := (allP m).map fun s => inP N V s i d p pr) (out := []) ⟨List.nodup_nil, fun x hx => by cases hx⟩ (fun hs hh x hx => by
    obtain ⟨s, _, rfl⟩ := List.mem_map.1 hh
    exact inP_in hx)).len
  omega
theorem safe_A (N : List Nd) (V : List Dv) (m : List Int) (i : Nat) (d : Dv) (p : Int) (pr B : List Int) (U : NwU G N V) (M : MkOk V m) (hd : V[i]? = some d) (hp : p = 1 ∨ p = 2) (hpr : pr.length ≤ 1000) (hB : B.length ≤ 1000) : zJ Tryz.prog G 19 [yR N V, .sl 1 (m.map iv), opAV i p, grAV pr, .sl 1 (B.map iv)] [] (.tu [.v (.bool (!(mayP N V m i d p pr).any fun x => !hasI B x)), .v (.int .i64 0)]) [] := by
  have hm := may_A (G := G) N V m i d p pr U M hd hp hpr
  have hl := mayP_len (N := N) (V := V) (m := m) (i := i) (d := d) (p := p) (pr := pr)
  generalize mayP N V m i d p pr = Y at hm hl ⊢
  have hc := cfnC_A (G := G) Y 51 [.sl 1 (B.map iv)] (fun x => !hasI B x) rfl (fun x _ => scl_A B x hB) hl
  refine zE tbOk (zA Tryz.func19 (by kernel_rfl) rfl) Tryz.func19 rfl _ Tryz.ntmps19 (Nat.le_of_ble_eq_true rfl) fun X hX => ?_
  subst hX
  refine zg0 ?_
  refine zG (hm) (by repeat' (first | exact trivial | exact Ren.v _ | exact Ren.sl _ _ | refine zO ?_ | refine ⟨?_, ?_⟩)) (by repeat' (first | exact trivial | exact RenB.v _ | exact RenB.sl _ _ | refine zZ ?_ | refine ⟨?_, ?_⟩)) ?_
  refine zg12 ?_
  refine zy (ss := [(9, 1)]) (hc) (by repeat' (first | exact trivial | exact Ren.sl _ _ | exact Ren.ptr _ _ _ _ rfl | refine yJ ?_ | refine ⟨?_, ?_⟩)) (by simp) (in1 rfl rfl) rfl (yP rfl) (by repeat' exact RenB.v _) ?_
  refine zg15 ?_
  refine jH (by first | exact .inr rfl | exact .inl rfl) rfl rfl rfl ?_
  repeat' (first | exact trivial | exact Ren.v _ | refine zf ?_ | refine ⟨?_, ?_⟩)
set_option maxHeartbeats 4000000 in
theorem wit_A (N : List Nd) (V : List Dv) (m : List Int) (i : Nat) (d : Dv) (p h : Int) (pr w : List Int) (U : NwU G N V) (M : MkOk V m) (hd : V[i]? = some d) (hp : p = 1 ∨ p = 2) (hpr : pr.length ≤ 1000) (hw : (allP m).find? (fun s => hasI (inP N V s i d p pr) h) = some w) : zJ Tryz.prog G 22 [yR N V, .sl 1 (m.map iv), opAV i p, grAV pr, .v (.int .i64 h)] [] (.tu [.sl 1 (w.map iv), .v (.bool true), .v (.int .i64 0)]) [] := by
  have hi := zM hd
  have hst := vN (G := G) N V m i p pr U M hi hp
  have hin := fun (s : List Int) (hs : s ∈ allP m) => hin_A (G := G) N V s i d p pr U (lU M s hs) hd hp hpr
  have hll : (allP m).length ≤ 256 := by
    have : (allP m).length = 2 ^ (unkP m).length := by simp [allP]
    rw [this]
    exact Nat.pow_le_pow_right (n := 2) (by decide) M.u
  obtain ⟨F, hF⟩ : ∃ F, F = fun s => inP N V s i d p pr := ⟨_, rfl⟩
  have hFl : ∀ s, (F s).length ≤ 6 := fun s => by rw [hF]; exact inP_len
  have hin : ∀ s ∈ allP m, zJ Tryz.prog G 45 [yR N V, .sl 1 (s.map iv), opAV i p, grAV pr] [] (.sl 1 ((F s).map iv)) [] := fun s hs => by rw [hF]; exact hin s hs
  have hw : (allP m).find? (fun s => hasI (F s) h) = some w := by rw [hF]; exact hw
  clear hF
  generalize allP m = A at hst hin hll hw
  have hal : (A.map slI).length = A.length := by simp
  refine zE tbOk (zA Tryz.func22 (by kernel_rfl) rfl) Tryz.func22 rfl _ Tryz.ntmps22 (Nat.le_of_ble_eq_true rfl) fun X hX => ?_
  subst hX
  refine zg0 ?_
  refine zG (hst) (by repeat' (first | exact trivial | exact Ren.v _ | exact Ren.sl _ _ | refine zO ?_ | refine ⟨?_, ?_⟩)) (by repeat' (first | exact trivial | exact RenB.v _ | exact RenB.sl _ _ | refine zZ ?_ | refine ⟨?_, ?_⟩)) ?_
  refine zg13 ?_
  refine zQ (ι := Nat) (fun k => k ≤ A.length ∧ (A.drop k).find? (fun s => hasI (F s) h) = some w) (fun k => A.length - k) (fun v k => [(4, .v (.int .i64 h)), (5, .ptr 5 (v 5) 0), (7, .ptr 7 (v 7) 0), (8, .ptr 8 (v 8) 0), (25, .sl 1 (A.map slI)), (26, .v (.int .i64 (A.map slI).length)), (27, .v (.int .i64 (k : Nat)))]) (fun v k => [(5, .box [.sl 3 (N.map Nd.av), .sl 5 (V.map Dv.av)]), (7, .box [.v (.int .i64 (i : Nat)), .v (.int .i64 p)]), (8, .box [.v (.int .i64 0), .sl 3 [], .sl 1 (pr.map iv)])]) ?_ ?_
  · exact ⟨0, ⟨Nat.zero_le _, hw⟩, trivial, ⟨rfl, rfl, rfl, rfl, rfl, rfl, rfl, trivial⟩, ⟨rfl, rfl, rfl, trivial⟩⟩
  rintro v k ⟨hk, hf⟩
  refine zg1 ?_
  refine zF rfl (fun hh => ?_) (fun hh => ?_)
  · have hlt : k < A.length := by simpa using hh
    obtain ⟨s, hs⟩ := zB hlt
    have hy : (A.map slI)[k]? = some (slI s) := by rw [List.getElem?_map, hs]; rfl
    have hsi := hin s (List.mem_of_getElem? hs)
    have hl6 := hFl s
    rw [zv hs, List.find?_cons] at hf
    refine zg14 ?_
    refine zG (hsi) (by repeat' (first | exact trivial | exact Ren.v _ | exact Ren.sl _ _ | refine zO ?_ | refine ⟨?_, ?_⟩)) (by repeat' exact RenB.sl _ _) ?_
    refine zg11 ?_
    refine zG (con_I (F s) h (by unfold maxLen; omega)) (by repeat' (first | exact trivial | exact Ren.v _ | exact Ren.sl _ _ | refine ⟨?_, ?_⟩)) (by repeat' exact RenB.v _) ?_
    refine zg1 ?_
    refine zF rfl (fun c => ?_) (fun c => ?_)
    · have c' : hasI (F s) h = true := c
      rw [c'] at hf
      injection hf with hf
      subst hf
      refine zg6 ?_
      refine ret0_3 (by first | exact .inr rfl | exact .inl rfl) rfl rfl rfl rfl ?_
      repeat' (first | exact trivial | exact Ren.v _ | exact Ren.sl _ _ | refine zf ?_ | refine ⟨?_, ?_⟩)
    · have c' : hasI (F s) h = false := c
      rw [c'] at hf
      refine zg2 ?_
      exact ⟨k + 1, ⟨hlt, hf⟩, by omega, ⟨rfl, rfl, rfl, rfl, rfl, rfl, rfl, trivial⟩, ⟨rfl, rfl, rfl, trivial⟩⟩
  · exfalso
    have hge : ¬ k < A.length := by simpa using hh
    rw [List.drop_of_length_le (by omega)] at hf
    cases hf
end Go.Proofs.YtnafokinifbfhaaGreatDoor
namespace Go.Proofs.YtnafokinifbfhaaGreatDoor
open Go Go.RowKit
set_option maxRecDepth 10000
variable {G : Nat → Option (List Value)}
set_option maxHeartbeats 4000000 in
theorem rsup_A (N : List Nd) (V : List Dv) (st : List Int) (U : NwU G N V) (S : StOk V st) (hK : ∀ d ∈ V, 1 ≤ d.k ∧ d.k ≤ 6) : zJ Tryz.prog G 55 [yR N V, .sl 1 (st.map iv)] [] (.tu [.sl 1 ((supP N V st).map iv), .v (.int .i64 0)]) [] := by
  have hn := U.n
  have hc := rcols_A (G := G) N V st U S hK
  unfold supP
  have hcl : (zd N V st).length = N.length := jS
  generalize zd N V st = c at hc hcl ⊢
  have hcm : (c.map iv).length = N.length := by rw [List.length_map, hcl]
  refine zE tbOk (zA Tryz.func55 (by kernel_rfl) rfl) Tryz.func55 rfl _ Tryz.ntmps55 (Nat.le_of_ble_eq_true rfl) fun X hX => ?_
  subst hX
  refine zg0 ?_
  refine zG (hc) (by repeat' (first | exact trivial | exact Ren.sl _ _ | refine zO ?_ | refine ⟨?_, ?_⟩)) (by repeat' (first | exact trivial | exact RenB.v _ | exact RenB.sl _ _ | refine zZ ?_ | refine ⟨?_, ?_⟩)) ?_
  refine zg13 ?_
  refine jm (t := 8) (s := 39) 3 1 rfl rfl ?_
  skip
  refine zQ (ι := Nat × List Int) (fun i => i.1 ≤ N.length ∧ i.2.length ≤ i.1 ∧ i.2 ++ jJ c i.1 (N.drop i.1) = jJ c 0 N) (fun i => N.length - i.1) (fun v i => [(2, .ptr 2 (v 2) 0), (6, .sl 1 (c.map iv)), (7, .v (.int .i64 0)), (8, .own 39 (v 39)), (9, .v (.int .i64 (i.1 : Nat)))]) (fun v i => [(2, .box [.sl 3 (N.map Nd.av), .sl 5 (V.map Dv.av)]), (39, .buf 3 1 (i.2.map iv))]) ?_ ?_
  · exact ⟨(0, []), ⟨Nat.zero_le _, Nat.le_refl _, rfl⟩, trivial, ⟨rfl, rfl, rfl, rfl, rfl, trivial⟩, ⟨rfl, rfl, trivial⟩⟩
  rintro v ⟨i, E⟩ ⟨hi, hE, hf⟩
  dsimp only at hi hE hf ⊢
  have hml : (E.map iv).length = E.length := by simp
  refine zg6 ?_
  refine zF rfl (fun h => ?_) (fun h => ?_)
  · have hlt : i < N.length := by rw [hcm] at h; simpa using h
    obtain ⟨x, hx⟩ := zB hlt
    have hy : (N.map Nd.av)[i]? = some x.av := by rw [List.getElem?_map, hx]; rfl
    have hyc := yU (L := c) (k := i) (by omega)
    rw [zv hx, jJ] at hf
    refine zg3 ?_
    refine zX rfl rfl (fun c1 => ?_) (fun c1 => ?_)
    · have e1 : c.getD i 0 = 1 := by simpa using c1
      refine zg15 ?_
      refine zF rfl (fun q => ?_) (fun q => ?_)
      · rw [if_pos ⟨by simpa using q, e1⟩] at hf
        refine zg11 ?_
        refine za tbOk rfl rfl rfl rfl rfl (by decide) rfl rfl rfl rfl rfl (fun x hx => by simp at hx; subst hx; rfl) (by simp only [List.length_map, List.length_cons, List.length_nil]; omega) (by simp only [List.length_map, List.length_cons, List.length_nil]; omega) ?_
        refine zg2 ?_
        exact ⟨(i + 1, E ++ [(i : Int)]), ⟨hlt, by simp; omega, by rw [← hf]; simp⟩, by show N.length - (i + 1) < N.length - i; omega, ⟨rfl, rfl, rfl, rfl, rfl, trivial⟩, ⟨rfl, zq (by rw [List.map_append]; rfl), trivial⟩⟩
      · rw [if_neg (fun h => by have := h.1; simp at q; omega)] at hf
        refine zg2 ?_
        exact ⟨(i + 1, E), ⟨hlt, by show E.length ≤ i + 1; omega, hf⟩, by show N.length - (i + 1) < N.length - i; omega, ⟨rfl, rfl, rfl, rfl, rfl, trivial⟩, ⟨rfl, rfl, trivial⟩⟩
    · rw [if_neg (fun h => by rw [h.2] at c1; simp at c1)] at hf
      refine zg10 ?_
      exact ⟨(i + 1, E), ⟨hlt, by show E.length ≤ i + 1; omega, hf⟩, by show N.length - (i + 1) < N.length - i; omega, ⟨rfl, rfl, rfl, rfl, rfl, trivial⟩, ⟨rfl, rfl, trivial⟩⟩
  · have hge : ¬ i < N.length := by rw [hcm] at h; simpa using h
    rw [List.drop_of_length_le (by omega)] at hf
    have hf' : jJ c 0 N = E := by rw [← hf]; simp [jJ]
    rw [hf']
    refine zg2 ?_
    refine jH (by first | exact .inr rfl | exact .inl rfl) rfl rfl rfl ?_
    repeat' (first | exact trivial | exact Ren.v _ | exact Ren.own _ _ _ _ ⟨_, rfl⟩ | refine zf ?_ | refine ⟨?_, ?_⟩)
set_option maxHeartbeats 1000000 in
theorem rsum_A (N : List Nd) (V : List Dv) (l : List Int) (U : NwU G N V) (hl : l.length ≤ 64) (hi : ∀ v ∈ l, 0 ≤ v ∧ v < N.length) : zJ Tryz.prog G 56 [yR N V, .sl 1 (l.map iv)] [] (.v (.int .i64 (cW N l))) [] := by
  have hcu := U.cu
  have hnl : (N.map Nd.av).length = N.length := by simp
  have hll : (l.map iv).length = l.length := by simp
  refine zE tbOk (zA Tryz.func56 (by kernel_rfl) rfl) Tryz.func56 rfl _ Tryz.ntmps56 (Nat.le_of_ble_eq_true rfl) fun X hX => ?_
  subst hX
  refine zg3 ?_
  refine zQ (ι := Nat × Int) (fun i => i.1 ≤ l.length ∧ i.2 = cW N (l.take i.1) ∧ 0 ≤ i.2 ∧ i.2 ≤ 1048576 * (i.1 : Int)) (fun i => l.length - i.1) (fun v i => [(1, .sl 1 (l.map iv)), (2, .ptr 2 (v 2) 0), (5, .v (.int .i64 i.2)), (6, .v (.int .i64 (i.1 : Nat)))]) (fun v i => [(2, .box [.sl 3 (N.map Nd.av), .sl 5 (V.map Dv.av)])]) ?_ ?_
  · exact ⟨(0, 0), ⟨Nat.zero_le _, rfl, Int.le_refl _, by simp⟩, trivial, ⟨rfl, rfl, rfl, rfl, trivial⟩, ⟨rfl, trivial⟩⟩
  rintro v ⟨k, s⟩ ⟨hk, hs, s0, s1⟩
  dsimp only at hk hs s0 s1 ⊢
  refine zg6 ?_
  refine zF rfl (fun h => ?_) (fun h => ?_)
  · have hlt : k < l.length := by simpa using h
    obtain ⟨z, hz⟩ := zB hlt
    have hy := qA hz
    have hzr := hi z (List.mem_of_getElem? hz)
    obtain ⟨x, hx⟩ := zB (L := N) (k := z.toNat) (by omega)
    have hx' : (N.map Nd.av)[z.toNat]? = some x.av := by rw [List.getElem?_map, hx]; rfl
    have hc := hcu x (List.mem_of_getElem? hx)
    have ec : cuAt N z = x.cu := by unfold cuAt; rw [hx]
    refine zg15 ?_
    exact ⟨(k + 1, s + x.cu), ⟨hlt, by rw [mJ hz, hs, ec], by show 0 ≤ s + x.cu; omega, by show s + x.cu ≤ 1048576 * ((k + 1 : Nat) : Int); omega⟩, by show l.length - (k + 1) < l.length - k; omega, ⟨rfl, rfl, rfl, rfl, trivial⟩, ⟨rfl, trivial⟩⟩
  · have hge : ¬ k < l.length := by simpa using h
    rw [List.take_of_length_le (by omega)] at hs
    refine zg2 ?_
    refine zL (by first | exact .inr rfl | exact .inl rfl) rfl rfl ?_
    rw [hs]
set_option maxHeartbeats 4000000 in
theorem rlost_A (N : List Nd) (V : List Dv) (a b : List Int) (U : NwU G N V) (Sa : StOk V a) (Sb : StOk V b) (hK : ∀ d ∈ V, 1 ≤ d.k ∧ d.k ≤ 6) : zJ Tryz.prog G 24 [yR N V, .sl 1 (a.map iv), .sl 1 (b.map iv)] [] (.tu [.sl 1 ((jZ N V a b).map iv), .v (.int .i64 (cW N (jZ N V a b))), .v (.int .i64 0)]) [] := by
  have hn := U.n
  have la := eU (N := N) (V := V) (st := a)
  have lb := eU (N := N) (V := V) (st := b)
  have ha := rsup_A (G := G) N V a U Sa hK
  have hb := rsup_A (G := G) N V b U Sb hK
  have hc := rsum_A (G := G) N V (jZ N V a b) U (by have := tD (N := N) (V := V) (a := a) (b := b); omega) (fun v hv => supP_in v (List.mem_filter.1 hv).1)
  unfold jZ at hc ⊢
  generalize supP N V a = A at ha la hc ⊢
  generalize supP N V b = B at hb lb hc ⊢
  have hAm : (A.map iv).length = A.length := by simp
  refine zE tbOk (zA Tryz.func24 (by kernel_rfl) rfl) Tryz.func24 rfl _ Tryz.ntmps24 (Nat.le_of_ble_eq_true rfl) fun X hX => ?_
  subst hX
  refine zg0 ?_
  refine zG (ha) (by repeat' (first | exact trivial | exact Ren.sl _ _ | refine zO ?_ | refine ⟨?_, ?_⟩)) (by repeat' (first | exact trivial | exact RenB.v _ | exact RenB.sl _ _ | refine zZ ?_ | refine ⟨?_, ?_⟩)) ?_
  refine zg13 ?_
  refine zG (hb) (by repeat' (first | exact trivial | exact Ren.sl _ _ | refine zO ?_ | refine ⟨?_, ?_⟩)) (by repeat' (first | exact trivial | exact RenB.v _ | exact RenB.sl _ _ | refine zZ ?_ | refine ⟨?_, ?_⟩)) ?_
  refine zg13 ?_
  refine jm (t := 12) (s := 51) 3 1 rfl rfl ?_
  skip
  refine zQ (ι := Nat) (fun i => i ≤ A.length) (fun i => A.length - i) (fun v i => [(3, .ptr 3 (v 3) 0), (9, .sl 1 (A.map iv)), (11, .sl 1 (B.map iv)), (12, .own 51 (v 51)), (13, .v (.int .i64 (i : Nat)))]) (fun v i => [(3, .box [.sl 3 (N.map Nd.av), .sl 5 (V.map Dv.av)]), (51, .buf 3 1 (((A.take i).filter fun v => !hasI B v).map iv))]) ?_ ?_
  · exact ⟨0, Nat.zero_le _, trivial, ⟨rfl, rfl, rfl, rfl, rfl, trivial⟩, ⟨rfl, rfl, trivial⟩⟩
  rintro v i hi
  have hfl : ((A.take i).filter fun v => !hasI B v).length ≤ A.length := Nat.le_trans (List.length_filter_le _ _) (by rw [List.length_take]; omega)
  have hfm : (((A.take i).filter fun v => !hasI B v).map iv).length = ((A.take i).filter fun v => !hasI B v).length := by simp
  refine zg6 ?_
  refine zF rfl (fun h => ?_) (fun h => ?_)
  · have hlt : i < A.length := by simpa using h
    obtain ⟨x, hx⟩ := zB hlt
    have hy := qA hx
    refine zg3 ?_
    refine zG (has_A B x (by unfold maxLen; omega)) (by repeat' (first | exact trivial | exact Ren.v _ | exact Ren.sl _ _ | refine ⟨?_, ?_⟩)) (by repeat' exact RenB.v _) ?_
    refine zg5 ?_
    refine zF rfl (fun c => ?_) (fun c => ?_)
    · have e : ((A.take (i + 1)).filter fun v => !hasI B v) = ((A.take i).filter fun v => !hasI B v) ++ [x] := by
        rw [yr hx, List.filter_append]
        have c' : (!hasI B x) = true := c
        simp [c']
      refine zg15 ?_
      refine za tbOk rfl rfl rfl rfl rfl (by decide) rfl rfl rfl rfl rfl (fun x hx => by simp at hx; subst hx; rfl) (by simp only [List.length_map, List.length_cons, List.length_nil]; omega) (by simp only [List.length_map, List.length_cons, List.length_nil]; omega) ?_
      refine zg2 ?_
      exact ⟨i + 1, hlt, by omega, ⟨rfl, rfl, rfl, rfl, rfl, trivial⟩, ⟨rfl, zq (by rw [e, List.map_append]; rfl), trivial⟩⟩
    · have e : ((A.take (i + 1)).filter fun v => !hasI B v) = ((A.take i).filter fun v => !hasI B v) := by
        rw [yr hx, List.filter_append]
        have c' : hasI B x = true := by simpa using c
        simp [c']
      refine zg2 ?_
      exact ⟨i + 1, hlt, by omega, ⟨rfl, rfl, rfl, rfl, rfl, trivial⟩, ⟨rfl, zq (by rw [e]), trivial⟩⟩
  · have hge : ¬ i < A.length := by simpa using h
    have e : A.take i = A := List.take_of_length_le (by omega)
    rw [e]
    refine gV (t := 12) (s := 51) rfl rfl ?_
    refine zg13 ?_
    refine zG (hc) (by repeat' (first | exact trivial | exact Ren.sl _ _ | refine zO ?_ | refine ⟨?_, ?_⟩)) (by repeat' exact RenB.v _) ?_
    refine zg5 ?_
    refine ret0_3 (by first | exact .inr rfl | exact .inl rfl) rfl rfl rfl rfl ?_
    repeat' (first | exact trivial | exact Ren.v _ | exact Ren.sl _ _ | refine zf ?_ | refine ⟨?_, ?_⟩)
def aftL (L : List Int) (i : Nat) (p : Int) (j : Nat) : List Int := if j = 0 then L else L.set i p
set_option maxHeartbeats 4000000 in
theorem after_A (L : List Int) (i : Nat) (p : Int) (hi : i < L.length) (hl : L.length ≤ 64) : zJ Tryz.prog G 25 [.sl 1 (L.map iv), .sl 2 [opAV i p]] [] (.sl 1 ((L.set i p).map iv)) [] := by
  have hml : (L.map iv).length = L.length := by simp
  have d0 : decide (((i : Nat) : Int) ≥ 0) = true := decide_eq_true (by omega)
  have d1 : decide (((i : Nat) : Int) < ((L.map iv).length : Nat)) = true := decide_eq_true (by omega)
  have ho : ([opAV i p] : List AV).length = 1 := rfl
  refine zE tbOk (zA Tryz.func25 (by kernel_rfl) rfl) Tryz.func25 rfl _ Tryz.ntmps25 (Nat.le_of_ble_eq_true rfl) fun X hX => ?_
  subst hX
  refine zg1 ?_
  with_reducible refine yV ?_
  refine kC tbOk rfl rfl rfl rfl rfl (by decide) rfl rfl rfl (oY L) (by simp only [List.length_map]; omega) ?_
  refine zg0 ?_
  refine zQ (ι := Nat) (fun j => j ≤ 1) (fun j => 1 - j) (fun v j => [(1, .sl 2 [opAV i p]), (5, .own 8 (v 8)), (6, .v (.int .i64 (j : Nat)))]) (fun v j => [(8, .buf 3 1 ((aftL L i p j).map iv))]) ?_ ?_
  · exact ⟨0, Nat.zero_le _, trivial, ⟨rfl, rfl, rfl, trivial⟩, ⟨rfl, trivial⟩⟩
  rintro v j hj
  refine zg6 ?_
  refine zF rfl (fun h => ?_) (fun h => ?_)
  · have hlt : j < 1 := by rw [ho] at h; have := of_decide_eq_true h; omega
    have hy : ([opAV i p] : List AV)[j]? = some (opAV i p) := by
      have : j = 0 := by omega
      rw [this]; rfl
    have e0 : aftL L i p j = L := by unfold aftL; rw [if_pos (by omega)]
    have e1 : aftL L i p (j + 1) = L.set i p := by unfold aftL; rw [if_neg (by omega)]
    rw [e0]
    refine zg15 ?_
    (with_reducible refine zH ?_); refine zK tbOk rfl rfl rfl rfl rfl rfl ⟨by omega, by rw [List.length_map]; omega⟩ ?_
    refine zg1 ?_
    (with_reducible refine zt ?_); refine zz (L' := (L.set (i : Int).toNat p).map iv) tbOk rfl rfl rfl rfl rfl rfl rfl rfl rfl (by rw [yS, List.length_map]; omega) (by simp) (yY _) (jt _ _ _) ?_
    refine zg10 ?_
    exact ⟨j + 1, by omega, by omega, ⟨rfl, rfl, rfl, trivial⟩, ⟨zq (by rw [e1, Int.toNat_natCast]), trivial⟩⟩
  · have hge : j = 1 := by rw [ho] at h; have := of_decide_eq_false h; omega
    have e1 : aftL L i p j = L.set i p := by unfold aftL; rw [if_neg (by omega)]
    rw [e1]
    refine zg2 ?_
    refine qs (by first | exact .inr rfl | exact .inl rfl) rfl rfl ?_
    repeat' exact Ren.own _ _ _ _ ⟨_, rfl⟩
end Go.Proofs.YtnafokinifbfhaaGreatDoor
