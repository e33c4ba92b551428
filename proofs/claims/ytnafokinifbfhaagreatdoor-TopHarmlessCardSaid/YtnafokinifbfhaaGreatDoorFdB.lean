/- hazard.states and May, by the abstract machine; conditions: a valid network, valid masks with at most eight unknown devices, an operation of one of its devices, no locks / ref06.positions, State, masked and Agrees, by the abstract machine; conditions: a valid network, a state of it, masks that it agrees with / zone.enough, lockset.those, Gaps, zone.locked, Isolated, by the abstract machine; conditions: a valid network, valid locks, a zone of it. -/
import Derived.Test.YtnafokinifbfhaaGreatDoorHaA
import Derived.Test.YtnafokinifbfhaaGreatDoorZg
import Derived.Test.YtnafokinifbfhaaGreatDoorHzP
import Derived.Test.YtnafokinifbfhaaGreatDoorNetC
import Derived.Test.YtnafokinifbfhaaGreatDoorFdA
set_option linter.unusedVariables false
set_option linter.unusedSimpArgs false
namespace Go.Proofs.YtnafokinifbfhaaGreatDoor
open Go Go.RowKit
set_option maxRecDepth 10000
variable {G : Nat → Option (List Value)}
theorem idx_P (L : List Int) (x : Int) (hm : L.length ≤ 1000) : qy Tryz.prog G 91 [.own (refB + 0) 0, .v (.int .i64 x)] [.buf 3 1 (L.map iv)] (.v (.int .i64 (fstI x L 0))) [.buf 3 1 (L.map iv)] := by
  have hml : (L.map iv).length = L.length := by simp
  refine qW tbOk (zA Tryz.func91 (by kernel_rfl) rfl) Tryz.func91 rfl _ Tryz.ntmps91 (Nat.le_of_ble_eq_true rfl) fun X hX => ?_
  subst hX
  refine zg3 ?_
  refine yK (ι := Nat) (fun v k => v (refB + 0) = 0 ∧ k ≤ L.length ∧ fstI x (L.drop k) k = fstI x L 0) (fun k => L.length - k) (fun v k => [(0, .own (refB + 0) (v (refB + 0))), (1, .v (.int .i64 x)), (7, .v (.int .i64 (L.map iv).length)), (8, .v (.int .i64 (k : Nat)))]) (fun v k => [(refB + 0, .buf 3 1 (L.map iv))]) ?_ ?_
  · exact ⟨0, ⟨rfl, Nat.zero_le _, rfl⟩, trivial, ⟨rfl, rfl, rfl, rfl, trivial⟩, ⟨rfl, trivial⟩⟩
  · rintro v k ⟨hv0, hk, hi⟩
    refine zg1 ?_
    refine zF rfl (fun h => ?_) (fun h => ?_)
    · have hlt : k < L.length := by simpa using h
      obtain ⟨y, hy0⟩ := zB hlt
      have ey : L.getD (k : Int).toNat 0 = y := by rw [Int.toNat_natCast]; exact getD_some hy0
      rw [zv hy0, fstI] at hi
      refine zg0 ?_
      (with_reducible refine zH ?_); refine zK tbOk rfl rfl rfl rfl rfl rfl ⟨by omega, by rw [List.length_map]; omega⟩ ?_
      refine zg1 ?_
      (with_reducible refine ze ?_); refine zk tbOk rfl rfl rfl rfl (qG (by omega)) (by rw [List.length_map]; omega) ?_
      rw [ey]
      refine zg1 ?_
      refine zF rfl (fun h => ?_) (fun h => ?_)
      · rw [if_pos (by have e := of_decide_eq_true h; omega)] at hi
        refine zg6 ?_
        rw [← hi]
        exact sH (by first | exact .inr rfl | exact .inl rfl) (xs := [.v (.int .i64 (k : Nat))]) ⟨.tmp 4, trivial⟩ (by repeat' exact Ren.v _) rfl hv0
      · rw [if_neg (by have e := of_decide_eq_false h; omega)] at hi
        refine zg2 ?_
        exact ⟨k + 1, ⟨hv0, by omega, hi⟩, by omega, ⟨rfl, rfl, rfl, rfl, trivial⟩, ⟨rfl, trivial⟩⟩
    · have hlt : ¬ k < L.length := by simpa using h
      rw [List.drop_of_length_le (by omega)] at hi
      refine zg2 ?_
      rw [← hi]
      exact sH (by first | exact .inr rfl | exact .inl rfl) (xs := [.v (.int .i64 (-1))]) ⟨.tmp 4, trivial⟩ (by repeat' exact Ren.v _) rfl hv0
theorem con_P (L : List Int) (x : Int) (hm : L.length ≤ 1000) : qy Tryz.prog G 46 [.own (refB + 0) 0, .v (.int .i64 x)] [.buf 3 1 (L.map iv)] (.v (.bool (hasI L x))) [.buf 3 1 (L.map iv)] := by
  have hi := idx_P (G := G) L x hm
  rw [← oI x L 0]
  refine qW tbOk (zA Tryz.func46 (by kernel_rfl) rfl) Tryz.func46 rfl _ Tryz.ntmps46 (Nat.le_of_ble_eq_true rfl) fun X hX => ?_
  subst hX
  refine zg1 ?_
  refine dA (ss := [(refB + 0, 0)]) (cs' := [.buf 3 1 (L.map iv)]) (y := .v (.int .i64 (fstI x L 0))) hi (by repeat' (first | exact trivial | exact Ren.v _ | exact Ren.ownr _ _ _ rfl | refine ⟨?_, ?_⟩)) (by simp) ⟨rfl, trivial⟩ ⟨rfl, trivial⟩ (by repeat' exact RenB.v _) ?_
  refine zg5 ?_
  exact sH (by first | exact .inr rfl | exact .inl rfl) (xs := [.v (.bool (decide (fstI x L 0 ≥ 0)))]) ⟨.tmp 4, trivial⟩ (by repeat' exact Ren.v _) rfl rfl
theorem vN (N : List Nd) (V : List Dv) (m : List Int) (i : Nat) (p : Int) (pr : List Int) (U : NwU G N V) (M : MkOk V m) (hi : i < V.length) (hp : p = 1 ∨ p = 2) : zJ Tryz.prog G 44 [yR N V, .sl 1 (m.map iv), opAV i p, grAV pr] [] (.tu [.sl 1 ((allP m).map slI), .v (.int .i64 0)]) [] := by
  have hv := U.v
  have hck := mCheck_A (G := G) N V m U.g U.p U.nn U.vn U.n U.v U.e M.l M.p
  have hal := mall_A (G := G) m U.p M.p (by have := M.l; omega) M.u
  have hc := hcheck_A (G := G) N V i p pr hi hp
  refine zE tbOk (zA Tryz.func44 (by kernel_rfl) rfl) Tryz.func44 rfl _ Tryz.ntmps44 (Nat.le_of_ble_eq_true rfl) fun X hX => ?_
  subst hX
  refine zg0 ?_
  refine zG (hck) (by repeat' (first | exact trivial | exact Ren.sl _ _ | refine zO ?_ | refine ⟨?_, ?_⟩)) (by repeat' exact RenB.v _) ?_
  refine zg12 ?_
  refine zG (hc) (by repeat' (first | exact trivial | exact Ren.v _ | exact Ren.sl _ _ | refine zO ?_ | refine ⟨?_, ?_⟩)) (by repeat' exact RenB.v _) ?_
  refine zg13 ?_
  refine zG (hal) (by repeat' (first | exact trivial | exact Ren.sl _ _ | refine ⟨?_, ?_⟩)) (by repeat' (first | exact trivial | exact RenB.v _ | exact RenB.sl _ _ | refine zZ ?_ | refine ⟨?_, ?_⟩)) ?_
  refine zg5 ?_
  refine jH (by first | exact .inr rfl | exact .inl rfl) rfl rfl rfl ?_
  repeat' (first | exact trivial | exact Ren.v _ | exact Ren.sl _ _ | refine zf ?_ | refine ⟨?_, ?_⟩)
set_option maxHeartbeats 8000000 in
theorem may_A (N : List Nd) (V : List Dv) (m : List Int) (i : Nat) (d : Dv) (p : Int) (pr : List Int) (U : NwU G N V) (M : MkOk V m) (hd : V[i]? = some d) (hp : p = 1 ∨ p = 2) (hpr : pr.length ≤ 1000) : zJ Tryz.prog G 15 [yR N V, .sl 1 (m.map iv), opAV i p, grAV pr] [] (.tu [.sl 1 ((mayP N V m i d p pr).map iv), .v (.int .i64 0)]) [] := by
  have hi := zM hd
  have hv := U.v
  have hml := M.l
  have hmm : (m.map iv).length = m.length := by simp
  have hym := yU (L := m) (k := i) (by omega)
  have hst := vN (G := G) N V m i p pr U M hi hp
  have hin := fun (s : List Int) (hs : s ∈ allP m) => hin_A (G := G) N V s i d p pr U (lU M s hs) hd hp hpr
  have hll : (allP m).length ≤ 256 := by
    have : (allP m).length = 2 ^ (unkP m).length := by simp [allP]
    rw [this]
    exact Nat.pow_le_pow_right (n := 2) (by decide) M.u
  unfold mayP
  obtain ⟨F, hF⟩ : ∃ F, F = fun s => inP N V s i d p pr := ⟨_, rfl⟩
  have hFr : ∀ s, ∀ h ∈ F s, 1 ≤ h ∧ h ≤ 7 := fun s h hh => by rw [hF] at hh; exact inP_in hh
  have hFl : ∀ s, (F s).length ≤ 6 := fun s => by rw [hF]; exact inP_len
  have hin : ∀ s ∈ allP m, zJ Tryz.prog G 45 [yR N V, .sl 1 (s.map iv), opAV i p, grAV pr] [] (.sl 1 ((F s).map iv)) [] := fun s hs => by rw [hF]; exact hin s hs
  rw [← hF]
  clear hF
  obtain ⟨A, hA⟩ : ∃ A, A = allP m := ⟨_, rfl⟩
  rw [← hA] at hst hin hll ⊢
  have hal : (A.map slI).length = A.length := by simp
  obtain ⟨q, hq⟩ : ∃ q, q = (m.getD i 0 == p) := ⟨_, rfl⟩
  rw [← hq]
  refine zE tbOk (zA Tryz.func15 (by kernel_rfl) rfl) Tryz.func15 rfl _ Tryz.ntmps15 (Nat.le_of_ble_eq_true rfl) fun X hX => ?_
  subst hX
  refine zg0 ?_
  refine zG (hst) (by repeat' (first | exact trivial | exact Ren.v _ | exact Ren.sl _ _ | refine zO ?_ | refine ⟨?_, ?_⟩)) (by repeat' (first | exact trivial | exact RenB.v _ | exact RenB.sl _ _ | refine zZ ?_ | refine ⟨?_, ?_⟩)) ?_
  refine zg13 ?_
  refine jm (t := 12) (s := 65) 3 1 rfl rfl ?_
  refine zQ (ι := Nat × List Int) (fun k => k.1 ≤ A.length ∧ HzOk k.2 ∧ mayG q ((A.drop k.1).map F) k.2 = mayG q (A.map F) []) (fun k => A.length - k.1) (fun v k => [(1, .sl 1 (m.map iv)), (4, .ptr 4 (v 4) 0), (6, .ptr 6 (v 6) 0), (7, .ptr 7 (v 7) 0), (12, .own 65 (v 65)), (28, .sl 1 (A.map slI)), (29, .v (.int .i64 (A.map slI).length)), (30, .v (.int .i64 (k.1 : Nat)))]) (fun v k => [(4, .box [.sl 3 (N.map Nd.av), .sl 5 (V.map Dv.av)]), (6, .box [.v (.int .i64 (i : Nat)), .v (.int .i64 p)]), (7, .box [.v (.int .i64 0), .sl 3 [], .sl 1 (pr.map iv)]), (65, .buf 3 1 (k.2.map iv))]) ?_ ?_
  · exact ⟨(0, []), ⟨Nat.zero_le _, ⟨List.nodup_nil, fun x hx => by cases hx⟩, rfl⟩, trivial, ⟨rfl, rfl, rfl, rfl, rfl, rfl, rfl, rfl, trivial⟩, ⟨rfl, rfl, rfl, rfl, trivial⟩⟩
  rintro v ⟨k, E⟩ ⟨hk, hE, hf⟩
  dsimp only at hk hE hf ⊢
  refine zg1 ?_
  refine zF rfl (fun h => ?_) (fun h => ?_)
  · have hlt : k < A.length := by simpa using h
    obtain ⟨s, hs⟩ := zB hlt
    have hy : (A.map slI)[k]? = some (slI s) := by rw [List.getElem?_map, hs]; rfl
    have hsi := hin s (List.mem_of_getElem? hs)
    have hr := hFr s
    have hl6 := hFl s
    rw [zv hs, List.map_cons, show mayG q (F s :: (A.drop (k + 1)).map F) E = mayG q ((A.drop (k + 1)).map F) (mayI q E (F s)) from rfl] at hf
    generalize F s = H at hsi hr hl6 hf
    have hHl : (H.map iv).length = H.length := by simp
    refine zg14 ?_
    refine zG (hsi) (by repeat' (first | exact trivial | exact Ren.v _ | exact Ren.sl _ _ | refine zO ?_ | refine ⟨?_, ?_⟩)) (by repeat' exact RenB.sl _ _) ?_
    refine zg0 ?_
    refine zQ (ι := Nat × List Int) (fun j => j.1 ≤ H.length ∧ HzOk j.2 ∧ mayI q j.2 (H.drop j.1) = mayI q E H) (fun j => H.length - j.1) (fun v j => [(1, .sl 1 (m.map iv)), (4, .ptr 4 (v 4) 0), (6, .ptr 6 (v 6) 0), (7, .ptr 7 (v 7) 0), (12, .own 65 (v 65)), (28, .sl 1 (A.map slI)), (29, .v (.int .i64 (A.map slI).length)), (30, .v (.int .i64 (k : Nat))), (38, .sl 1 (H.map iv)), (39, .v (.int .i64 (H.map iv).length)), (40, .v (.int .i64 (j.1 : Nat)))]) (fun v j => [(4, .box [.sl 3 (N.map Nd.av), .sl 5 (V.map Dv.av)]), (6, .box [.v (.int .i64 (i : Nat)), .v (.int .i64 p)]), (7, .box [.v (.int .i64 0), .sl 3 [], .sl 1 (pr.map iv)]), (65, .buf 3 1 (j.2.map iv))]) ?_ ?_
    · exact ⟨(0, E), ⟨Nat.zero_le _, hE, rfl⟩, trivial, ⟨rfl, rfl, rfl, rfl, rfl, rfl, rfl, rfl, rfl, rfl, rfl, trivial⟩, ⟨rfl, rfl, rfl, rfl, trivial⟩⟩
    clear v h
    rintro v ⟨j, D⟩ ⟨hj, hD, hg⟩
    dsimp only at hj hD hg ⊢
    have hDl := hD.len
    have hDm : (D.map iv).length = D.length := by simp
    refine zg1 ?_
    refine zF rfl (fun h => ?_) (fun h => ?_)
    · have hltj : j < H.length := by simpa using h
      obtain ⟨z, hz⟩ := zB hltj
      have hyz := qA hz
      have hzr := hr z (List.mem_of_getElem? hz)
      rw [zv hz, show mayI q D (z :: H.drop (j + 1)) = mayI q (mayS q D z) (H.drop (j + 1)) from rfl] at hg
      have hD2 : HzOk (mayS q D z) := hzS hD hzr
      have hc := con_P (G := X.G) D z (by omega)
      refine zg14 ?_
      refine dA (ss := [(65, v 65)]) (cs' := [.buf 3 1 (D.map iv)]) (y := .v (.bool (hasI D z))) hc (by repeat' (first | exact trivial | exact Ren.v _ | exact Ren.ownr _ _ _ rfl | refine ⟨?_, ?_⟩)) (by simp) ⟨rfl, trivial⟩ ⟨rfl, trivial⟩ (by repeat' exact RenB.v _) ?_
      refine zg11 ?_
      refine zX rfl rfl (fun c1 => ?_) (fun c1 => ?_)
      rotate_left
      · have e : mayS q D z = D := by unfold mayS; rw [if_neg (by rw [c1]; simp)]
        rw [e] at hg
        refine zg10 ?_
        exact ⟨(j + 1, D), ⟨hltj, hD, hg⟩, by show H.length - (j + 1) < H.length - j; omega, ⟨rfl, rfl, rfl, rfl, rfl, rfl, rfl, rfl, rfl, rfl, rfl, trivial⟩, ⟨rfl, rfl, rfl, rfl, trivial⟩⟩
      refine zg15 ?_
      refine zX rfl rfl (fun c2 => ?_) (fun c2 => ?_)
      · have e : mayS q D z = D ++ [z] := by unfold mayS; rw [if_pos (by rw [c1, c2]; rfl)]
        rw [e] at hg hD2
        refine zg7 ?_
        refine za tbOk rfl rfl rfl rfl rfl (by decide) rfl rfl rfl rfl rfl (fun x hx => by simp at hx; subst hx; rfl) (by simp only [List.length_map, List.length_cons, List.length_nil]; omega) (by simp only [List.length_map, List.length_cons, List.length_nil]; omega) ?_
        refine zg2 ?_
        exact ⟨(j + 1, D ++ [z]), ⟨hltj, hD2, hg⟩, by show H.length - (j + 1) < H.length - j; omega, ⟨rfl, rfl, rfl, rfl, rfl, rfl, rfl, rfl, rfl, rfl, rfl, trivial⟩, ⟨rfl, rfl, rfl, zq (by rw [List.map_append]; rfl), trivial⟩⟩
      refine zg15 ?_
      rcases (show q = true ∨ q = false by cases q <;> simp) with hqq | hqq
      · have e : mayS q D z = D ++ [z] := by unfold mayS; rw [if_pos (by rw [c1, hqq]; simp)]
        rw [e] at hg hD2
        have hq' : (m.getD i 0 == p) = true := by rw [← hq, hqq]
        refine zg15 ?_
        refine za tbOk rfl rfl rfl rfl rfl (by decide) rfl rfl rfl rfl rfl (fun x hx => by simp at hx; subst hx; rfl) (by simp only [List.length_map, List.length_cons, List.length_nil]; omega) (by simp only [List.length_map, List.length_cons, List.length_nil]; omega) ?_
        refine zg2 ?_
        exact ⟨(j + 1, D ++ [z]), ⟨hltj, hD2, hg⟩, by show H.length - (j + 1) < H.length - j; omega, ⟨rfl, rfl, rfl, rfl, rfl, rfl, rfl, rfl, rfl, rfl, rfl, trivial⟩, ⟨rfl, rfl, rfl, zq (by rw [List.map_append]; rfl), trivial⟩⟩
      · have e : mayS q D z = D := by unfold mayS; rw [if_neg (by rw [c1, c2, hqq]; decide)]
        rw [e] at hg
        have hq' : (m.getD i 0 == p) = false := by rw [← hq, hqq]
        refine zg10 ?_
        exact ⟨(j + 1, D), ⟨hltj, hD, hg⟩, by show H.length - (j + 1) < H.length - j; omega, ⟨rfl, rfl, rfl, rfl, rfl, rfl, rfl, rfl, rfl, rfl, rfl, trivial⟩, ⟨rfl, rfl, rfl, rfl, trivial⟩⟩
    · have hge : ¬ j < H.length := by simpa using h
      rw [List.drop_of_length_le (by omega)] at hg
      have hg : D = mayI q E H := hg
      rw [← hg] at hf
      refine zg2 ?_
      exact ⟨(k + 1, D), ⟨hlt, hD, hf⟩, by show A.length - (k + 1) < A.length - k; omega, ⟨rfl, rfl, rfl, rfl, rfl, rfl, rfl, rfl, trivial⟩, ⟨rfl, rfl, rfl, rfl, trivial⟩⟩
  · have hge : ¬ k < A.length := by simpa using h
    rw [List.drop_of_length_le (by omega)] at hf
    have hf : E = mayG q (A.map F) [] := hf
    have hEl := hE.len
    have hs := sort_P (G := X.G) E (by omega)
    rw [← hf]
    refine zg13 ?_
    refine dA (ss := [(65, v 65)]) (cs' := [.buf 3 1 ((srtI E).map iv)]) (y := .tu []) hs (by repeat' (first | exact trivial | exact Ren.ownr _ _ _ rfl | refine ⟨?_, ?_⟩)) (by simp) ⟨rfl, trivial⟩ ⟨rfl, trivial⟩ (by repeat' (first | exact trivial | refine zZ ?_)) ?_
    refine zg6 ?_
    refine jH (by first | exact .inr rfl | exact .inl rfl) rfl rfl rfl ?_
    repeat' (first | exact trivial | exact Ren.v _ | exact Ren.own _ _ _ _ ⟨_, rfl⟩ | refine zf ?_ | refine ⟨?_, ?_⟩)
end Go.Proofs.YtnafokinifbfhaaGreatDoor
namespace Go.Proofs.YtnafokinifbfhaaGreatDoor
open Go Go.RowKit
set_option maxRecDepth 10000
variable {G : Nat → Option (List Value)}
theorem rpos_A (N : List Nd) (V : List Dv) (st : List Int) (U : NwU G N V) (S : StOk V st) : zJ Tryz.prog G 178 [yR N V, .sl 1 (st.map iv), .v (.int .i64 2)] [] (.v (.int .i64 0)) [] := by
  have hv := U.v
  have hn := U.n
  have hsl := S.l
  have hvl : (V.map Dv.av).length = V.length := by simp
  have hml : (st.map iv).length = st.length := by simp
  have hnc := rnet_A (G := G) N V U.nn U.vn (by unfold maxLen; omega) (by unfold maxLen; omega)
  rw [U.e] at hnc
  refine zE tbOk (zA Tryz.func178 (by kernel_rfl) rfl) Tryz.func178 rfl _ Tryz.ntmps178 (Nat.le_of_ble_eq_true rfl) fun X hX => ?_
  subst hX
  refine zg0 ?_
  refine zG (hnc) (by repeat' (first | exact trivial | exact Ren.sl _ _ | refine zO ?_ | refine ⟨?_, ?_⟩)) (by repeat' exact RenB.v _) ?_
  refine zg13 ?_
  refine zF rfl (fun h => ?_) (fun h => ?_)
  · exfalso; rw [hml, hvl, hsl] at h; simp at h
  refine zg0 ?_
  refine zQ (ι := Nat) (fun k => k ≤ st.length) (fun k => st.length - k) (fun v k => [(1, .sl 1 (st.map iv)), (2, .v (.int .i64 2)), (8, .v (.int .i64 (k : Nat)))]) (fun v k => []) ?_ ?_
  · exact ⟨0, Nat.zero_le _, trivial, ⟨rfl, rfl, rfl, trivial⟩, trivial⟩
  rintro v k hk
  refine zg6 ?_
  refine zF rfl (fun h => ?_) (fun h => ?_)
  · have hlt : k < st.length := by simpa using h
    obtain ⟨x, hx⟩ := zB hlt
    have hy := qA hx
    have hp := S.p x (List.mem_of_getElem? hx)
    unfold posB at hp
    simp at hp
    have d1 : decide (x < 1) = false := decide_eq_false (by omega)
    have d2 : decide (x > 2) = false := decide_eq_false (by omega)
    refine zg15 ?_
    exact ⟨k + 1, by omega, by omega, ⟨rfl, rfl, rfl, trivial⟩, trivial⟩
  · refine zg2 ?_
    refine zL (by first | exact .inr rfl | exact .inl rfl) rfl rfl ?_
    rfl
theorem rstate_A (N : List Nd) (V : List Dv) (st : List Int) (U : NwU G N V) (S : StOk V st) : zJ Tryz.prog G 140 [yR N V, .sl 1 (st.map iv)] [] (.v (.int .i64 0)) [] := by
  have h := rpos_A (G := G) N V st U S
  refine zE tbOk (zA Tryz.func140 (by kernel_rfl) rfl) Tryz.func140 rfl _ Tryz.ntmps140 (Nat.le_of_ble_eq_true rfl) fun X hX => ?_
  subst hX
  refine zg0 ?_
  refine zG (h) (by repeat' (first | exact trivial | exact Ren.v _ | exact Ren.sl _ _ | refine zO ?_ | refine ⟨?_, ?_⟩)) (by repeat' exact RenB.v _) ?_
  refine zg5 ?_
  refine zL (by first | exact .inr rfl | exact .inl rfl) rfl rfl ?_
  rfl
theorem rmasked_A (m : List Int) (hm : m.length ≤ 1000) (hp : ∀ x ∈ m, isB x = true) : zJ Tryz.prog G 54 [.sl 1 (m.map iv)] [] (.v (.bool true)) [] := by
  have hml : (m.map iv).length = m.length := by simp
  refine zE tbOk (zA Tryz.func54 (by kernel_rfl) rfl) Tryz.func54 rfl _ Tryz.ntmps54 (Nat.le_of_ble_eq_true rfl) fun X hX => ?_
  subst hX
  refine zg0 ?_
  refine zQ (ι := Nat) (fun k => k ≤ m.length) (fun k => m.length - k) (fun v k => [(0, .sl 1 (m.map iv)), (3, .v (.int .i64 (k : Nat)))]) (fun v k => []) ?_ ?_
  · exact ⟨0, Nat.zero_le _, trivial, ⟨rfl, rfl, trivial⟩, trivial⟩
  rintro v k hk
  refine zg6 ?_
  refine zF rfl (fun h => ?_) (fun h => ?_)
  · have hlt : k < m.length := by simpa using h
    obtain ⟨x, hx⟩ := zB hlt
    have hy := qA hx
    have hp := hp x (List.mem_of_getElem? hx)
    unfold isB at hp
    simp at hp
    have d1 : decide (x < 1) = false := decide_eq_false (by omega)
    have d2 : decide (x > 3) = false := decide_eq_false (by omega)
    refine zg15 ?_
    exact ⟨k + 1, by omega, by omega, ⟨rfl, rfl, trivial⟩, trivial⟩
  · refine zg2 ?_
    refine zL (by first | exact .inr rfl | exact .inl rfl) rfl rfl ?_
    rfl
theorem ragree_A (m s : List Int) (hm : m.length ≤ 1000) (hp : ∀ x ∈ m, isB x = true) (A : Agr m s) : zJ Tryz.prog G 23 [.sl 1 (s.map iv), .sl 1 (m.map iv)] [] (.v (.bool true)) [] := by
  have hsl := A.l
  have hml : (m.map iv).length = m.length := by simp
  have hsm : (s.map iv).length = s.length := by simp
  have hk := rmasked_A (G := G) m hm hp
  have ne : (((s.map iv).length : Int) != ((m.map iv).length : Int)) = false := by rw [hsm, hml, hsl]; simp
  refine zE tbOk (zA Tryz.func23 (by kernel_rfl) rfl) Tryz.func23 rfl _ Tryz.ntmps23 (Nat.le_of_ble_eq_true rfl) fun X hX => ?_
  subst hX
  refine zg4 ?_
  refine zG (hk) (by repeat' (first | exact trivial | exact Ren.sl _ _ | refine ⟨?_, ?_⟩)) (by repeat' exact RenB.v _) ?_
  refine zg4 ?_
  refine zQ (ι := Nat) (fun k => k ≤ s.length) (fun k => s.length - k) (fun v k => [(0, .sl 1 (s.map iv)), (1, .sl 1 (m.map iv)), (5, .v (.int .i64 (k : Nat)))]) (fun v k => []) ?_ ?_
  · exact ⟨0, Nat.zero_le _, trivial, ⟨rfl, rfl, rfl, trivial⟩, trivial⟩
  rintro v k hkk
  refine zg6 ?_
  refine zF rfl (fun h => ?_) (fun h => ?_)
  · have hlt : k < s.length := by simpa using h
    obtain ⟨y, hy0⟩ := zB hlt
    obtain ⟨x, hx0⟩ := zB (L := m) (k := k) (by omega)
    have hy := qA hy0
    have hx := qA hx0
    have hxb := hp x (List.mem_of_getElem? hx0)
    unfold isB at hxb
    simp at hxb
    have ha := A.at_ k x y hx0 hy0
    have hc : (x = 3 ∧ y = 1) ∨ (x = 3 ∧ y = 2) ∨ (x = 1 ∧ y = 1) ∨ (x = 2 ∧ y = 2) := by omega
    clear ha hxb hx0 hy0
    rcases hc with ⟨rfl, rfl⟩ | ⟨rfl, rfl⟩ | ⟨rfl, rfl⟩ | ⟨rfl, rfl⟩
    · refine zg15 ?_
      exact ⟨k + 1, by omega, by omega, ⟨rfl, rfl, rfl, trivial⟩, trivial⟩
    · refine zg15 ?_
      exact ⟨k + 1, by omega, by omega, ⟨rfl, rfl, rfl, trivial⟩, trivial⟩
    · refine zg15 ?_
      exact ⟨k + 1, by omega, by omega, ⟨rfl, rfl, rfl, trivial⟩, trivial⟩
    · refine zg15 ?_
      exact ⟨k + 1, by omega, by omega, ⟨rfl, rfl, rfl, trivial⟩, trivial⟩
  · refine zg2 ?_
    refine zL (by first | exact .inr rfl | exact .inl rfl) rfl rfl ?_
    rfl
end Go.Proofs.YtnafokinifbfhaaGreatDoor
namespace Go.Proofs.YtnafokinifbfhaaGreatDoor
open Go Go.RowKit
set_option maxRecDepth 10000
variable {G : Nat → Option (List Value)}
theorem rd_getD (O : List Int) (x : Nat) : (rd O).getD x false = decide (0 ≤ O.getD x (-1)) := by
  unfold rd
  rw [List.getD_eq_getElem?_getD, List.getD_eq_getElem?_getD, List.getElem?_map]
  cases O[x]? <;> simp
end Go.Proofs.YtnafokinifbfhaaGreatDoor
