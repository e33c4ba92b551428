/- hazard.states and May, by the abstract machine; conditions: a valid network, valid masks with at most eight unknown devices, an operation of one of its devices, no locks. -/
import Derived.Test.YtnafokinifbfhaaGreatDoorHaA
set_option linter.unusedVariables false
set_option linter.unusedSimpArgs false
namespace Go.Proofs.YtnafokinifbfhaaGreatDoor
open Go Go.RowKit
set_option maxRecDepth 10000
variable {G : Nat → Option (List Value)}
theorem idx_P (L : List Int) (x : Int) (hm : L.length ≤ 1000) : qq Tryz.prog G 91 [.own (refB + 0) 0, .v (.int .i64 x)] [.buf 3 1 (L.map iv)] (.v (.int .i64 (fstI x L 0))) [.buf 3 1 (L.map iv)] := by
  have hml : (L.map iv).length = L.length := by simp
  refine qZ tbOk (zM Tryz.func91 (by kernel_rfl) rfl) Tryz.func91 rfl _ Tryz.ntmps91 (Nat.le_of_ble_eq_true rfl) fun X hX => ?_
  subst hX
  repeat (first | ((with_reducible refine zI ?_); refine zJ rfl ?_) | ((with_reducible refine zE ?_); refine zF rfl ?_) | ((with_reducible refine yB ?_); refine jV tbOk rfl rfl rfl rfl ?_)  | refine zK ?_ | refine zB rfl ?_ | with_reducible (first | refine zG ?_ | refine zH ?_ | refine zW ?_) | ((with_reducible refine zA ?_ ?_); kernel_rfl))
  refine ym (ι := Nat) (fun v k => v (refB + 0) = 0 ∧ k ≤ L.length ∧ fstI x (L.drop k) k = fstI x L 0) (fun k => L.length - k) (fun v k => [(0, .own (refB + 0) (v (refB + 0))), (1, .v (.int .i64 x)), (7, .v (.int .i64 (L.map iv).length)), (8, .v (.int .i64 (k : Nat)))]) (fun v k => [(refB + 0, .buf 3 1 (L.map iv))]) ?_ ?_
  · exact ⟨0, ⟨rfl, Nat.zero_le _, rfl⟩, trivial, ⟨rfl, rfl, rfl, rfl, trivial⟩, ⟨rfl, trivial⟩⟩
  · rintro v k ⟨hv0, hk, hi⟩
    repeat (first | ((with_reducible refine zP ?_); refine zV rfl rfl rfl ?_)  | refine zK ?_ | refine zB rfl ?_ | with_reducible (first | refine zG ?_ | refine zH ?_) | ((with_reducible refine zA ?_ ?_); kernel_rfl))
    refine zh rfl (fun h => ?_) (fun h => ?_)
    · have hlt : k < L.length := by simpa using h
      obtain ⟨y, hy0⟩ := zT hlt
      have ey : L.getD (k : Int).toNat 0 = y := by rw [Int.toNat_natCast]; exact getD_some hy0
      rw [yq hy0, fstI] at hi
      repeat (first | ((with_reducible refine zI ?_); refine zJ rfl ?_) | ((with_reducible refine zE ?_); refine zF rfl ?_)  | refine zK ?_ | refine zB rfl ?_ | with_reducible (first | refine zG ?_ | refine zH ?_ | refine zW ?_ | refine zR ?_) | ((with_reducible refine zA ?_ ?_); kernel_rfl))
      (with_reducible refine zU ?_); refine zq tbOk rfl rfl rfl rfl rfl rfl ⟨by omega, by rw [List.length_map]; omega⟩ ?_
      repeat (first   | refine zB rfl ?_  )
      (with_reducible refine zQ ?_); refine yy tbOk rfl rfl rfl rfl (dF (by omega)) (by rw [List.length_map]; omega) ?_
      rw [ey]
      repeat (first | ((with_reducible refine zP ?_); refine zV rfl rfl rfl ?_)  | refine zK ?_ | refine zB rfl ?_ | with_reducible refine zG ?_ )
      refine zh rfl (fun h => ?_) (fun h => ?_)
      · rw [if_pos (by have e := of_decide_eq_true h; omega)] at hi
        repeat (first | ((with_reducible refine zI ?_); refine zJ rfl ?_) | ((with_reducible refine zE ?_); refine zF rfl ?_)  | refine zK ?_ | refine zB rfl ?_ | with_reducible (first | refine zG ?_ | refine zf ?_ | refine zo ?_ | refine zH ?_ | refine zS ?_) | ((with_reducible refine zA ?_ ?_); kernel_rfl))
        rw [← hi]
        exact pJ (by first | exact .inr rfl | exact .inl rfl) (xs := [.v (.int .i64 (k : Nat))]) ⟨.tmp 4, trivial⟩ (by repeat' exact Ren.v _) rfl hv0
      · rw [if_neg (by have e := of_decide_eq_false h; omega)] at hi
        repeat (first | ((with_reducible refine zI ?_); refine zJ rfl ?_) | ((with_reducible refine zP ?_); refine zX rfl rfl (by omega) ?_)  | refine zK ?_ | refine zB rfl ?_ | with_reducible (first | refine zG ?_ | refine ze ?_ | refine zR ?_) | ((with_reducible refine zA ?_ ?_); kernel_rfl))
        exact ⟨k + 1, ⟨hv0, by omega, hi⟩, by omega, ⟨rfl, rfl, rfl, rfl, trivial⟩, ⟨rfl, trivial⟩⟩
    · have hlt : ¬ k < L.length := by simpa using h
      rw [List.drop_of_length_le (by omega)] at hi
      repeat (first | ((with_reducible refine zE ?_); refine zF rfl ?_)  | refine zK ?_ | refine zB rfl ?_ | with_reducible (first | refine zG ?_ | refine zd ?_ | refine zH ?_ | refine zw ?_ | refine zS ?_) | ((with_reducible refine zb ?_ ?_); rfl) | ((with_reducible refine zA ?_ ?_); kernel_rfl))
      rw [← hi]
      exact pJ (by first | exact .inr rfl | exact .inl rfl) (xs := [.v (.int .i64 (-1))]) ⟨.tmp 4, trivial⟩ (by repeat' exact Ren.v _) rfl hv0
theorem con_P (L : List Int) (x : Int) (hm : L.length ≤ 1000) : qq Tryz.prog G 46 [.own (refB + 0) 0, .v (.int .i64 x)] [.buf 3 1 (L.map iv)] (.v (.bool (hasI L x))) [.buf 3 1 (L.map iv)] := by
  have hi := idx_P (G := G) L x hm
  rw [← mS x L 0]
  refine qZ tbOk (zM Tryz.func46 (by kernel_rfl) rfl) Tryz.func46 rfl _ Tryz.ntmps46 (Nat.le_of_ble_eq_true rfl) fun X hX => ?_
  subst hX
  repeat (first | ((with_reducible refine zI ?_); refine zJ rfl ?_) | ((with_reducible refine zE ?_); refine zF rfl ?_)  | refine zK ?_ | refine zB rfl ?_ | with_reducible (first | refine zG ?_ | refine zH ?_) | ((with_reducible refine zA ?_ ?_); kernel_rfl))
  refine cR (ss := [(refB + 0, 0)]) (cs' := [.buf 3 1 (L.map iv)]) (y := .v (.int .i64 (fstI x L 0))) hi (by repeat' (first | exact trivial | exact Ren.v _ | exact Ren.ownr _ _ _ rfl | refine ⟨?_, ?_⟩)) (by simp) ⟨rfl, trivial⟩ ⟨rfl, trivial⟩ (by repeat' exact RenB.v _) ?_
  repeat (first | ((with_reducible refine zE ?_); refine zF rfl ?_) | ((with_reducible refine zP ?_); refine zV rfl rfl rfl ?_)  | refine zK ?_ | refine zB rfl ?_ | with_reducible (first | refine zG ?_ | refine zS ?_) )
  exact pJ (by first | exact .inr rfl | exact .inl rfl) (xs := [.v (.bool (decide (fstI x L 0 ≥ 0)))]) ⟨.tmp 4, trivial⟩ (by repeat' exact Ren.v _) rfl rfl
theorem states_A (N : List Nd) (V : List Dv) (m : List Int) (i : Nat) (p : Int) (pr : List Int) (U : NwU G N V) (M : MkOk V m) (hi : i < V.length) (hp : p = 1 ∨ p = 2) : zl Tryz.prog G 44 [ja N V, .sl 1 (m.map iv), opAV i p, grAV pr] [] (.tu [.sl 1 ((allP m).map slI), .v (.int .i64 0)]) [] := by
  have hv := U.v
  have hck := uX (G := G) N V m U.g U.p U.nn U.vn U.n U.v U.e M.l M.p
  have hal := mall_A (G := G) m U.p M.p (by have := M.l; omega) M.u
  have hc := hcheck_A (G := G) N V i p pr hi hp
  refine zY tbOk (zM Tryz.func44 (by kernel_rfl) rfl) Tryz.func44 rfl _ Tryz.ntmps44 (Nat.le_of_ble_eq_true rfl) fun X hX => ?_
  subst hX
  repeat (first | ((with_reducible refine zI ?_); refine zJ rfl ?_) | ((with_reducible refine zE ?_); refine zF rfl ?_) | ((with_reducible refine zQ ?_); refine zZ tbOk rfl rfl rfl rfl (Nat.le_of_ble_eq_true rfl) ?_) | ((with_reducible refine yz ?_); refine jA rfl rfl rfl ?_)  | refine zK ?_ | refine zB rfl ?_ | with_reducible (first | refine zG ?_ | refine zH ?_) | ((with_reducible refine zA ?_ ?_); kernel_rfl))
  refine zk (hck) (by repeat' (first | exact trivial | exact Ren.sl _ _ | refine zp ?_ | refine ⟨?_, ?_⟩)) (by repeat' exact RenB.v _) ?_
  repeat (first | ((with_reducible refine zI ?_); refine zJ rfl ?_) | ((with_reducible refine zE ?_); refine zF rfl ?_) | ((with_reducible refine zQ ?_); refine zZ tbOk rfl rfl rfl rfl (Nat.le_of_ble_eq_true rfl) ?_) | ((with_reducible refine zP ?_); refine zV rfl rfl rfl ?_)  | refine zK ?_ | refine zB rfl ?_ | with_reducible (first | refine zG ?_ | refine zH ?_) | ((with_reducible refine zA ?_ ?_); kernel_rfl) | refine yb rfl (by first | rfl | assumption) ?_)
  refine zk (hc) (by repeat' (first | exact trivial | exact Ren.v _ | exact Ren.sl _ _ | refine zp ?_ | refine ⟨?_, ?_⟩)) (by repeat' exact RenB.v _) ?_
  repeat (first | ((with_reducible refine zI ?_); refine zJ rfl ?_) | ((with_reducible refine zE ?_); refine zF rfl ?_) | ((with_reducible refine zP ?_); refine zV rfl rfl rfl ?_)  | refine zK ?_ | refine zB rfl ?_ | with_reducible (first | refine zG ?_ | refine zH ?_ | refine zR ?_) | ((with_reducible refine zA ?_ ?_); kernel_rfl) | refine zm rfl (by first | rfl | assumption) ?_)
  refine zk (hal) (by repeat' (first | exact trivial | exact Ren.sl _ _ | refine ⟨?_, ?_⟩)) (by repeat' (first | exact trivial | exact RenB.v _ | exact RenB.sl _ _ | refine yQ ?_ | refine ⟨?_, ?_⟩)) ?_
  repeat (first | ((with_reducible refine zE ?_); refine zF rfl ?_) | ((with_reducible refine yZ ?_); refine yX rfl rfl ?_)  | refine zK ?_ | refine zB rfl ?_ | with_reducible (first | refine zG ?_ | refine zS ?_) )
  refine qN (by first | exact .inr rfl | exact .inl rfl) rfl rfl rfl ?_
  repeat' (first | exact trivial | exact Ren.v _ | exact Ren.sl _ _ | refine yR ?_ | refine ⟨?_, ?_⟩)
set_option maxHeartbeats 8000000 in
theorem may_A (N : List Nd) (V : List Dv) (m : List Int) (i : Nat) (d : Dv) (p : Int) (pr : List Int) (U : NwU G N V) (M : MkOk V m) (hd : V[i]? = some d) (hp : p = 1 ∨ p = 2) (hpr : pr.length ≤ 1000) : zl Tryz.prog G 15 [ja N V, .sl 1 (m.map iv), opAV i p, grAV pr] [] (.tu [.sl 1 ((mayP N V m i d p pr).map iv), .v (.int .i64 0)]) [] := by
  have hi := zi hd
  have hv := U.v
  have hml := M.l
  have hmm : (m.map iv).length = m.length := by simp
  have hym := ji (L := m) (k := i) (by omega)
  have hst := states_A (G := G) N V m i p pr U M hi hp
  have hin := fun (s : List Int) (hs : s ∈ allP m) => hin_A (G := G) N V s i d p pr U (mG M s hs) hd hp hpr
  have hll : (allP m).length ≤ 256 := by
    have : (allP m).length = 2 ^ (unkP m).length := by simp [allP]
    rw [this]
    exact Nat.pow_le_pow_right (n := 2) (by decide) M.u
  unfold mayP
  obtain ⟨F, hF⟩ : ∃ F, F = fun s => inP N V s i d p pr := ⟨_, rfl⟩
  have hFr : ∀ s, ∀ h ∈ F s, 1 ≤ h ∧ h ≤ 7 := fun s h hh => by rw [hF] at hh; exact inP_in hh
  have hFl : ∀ s, (F s).length ≤ 6 := fun s => by rw [hF]; exact inP_len
  have hin : ∀ s ∈ allP m, zl Tryz.prog G 45 [ja N V, .sl 1 (s.map iv), opAV i p, grAV pr] [] (.sl 1 ((F s).map iv)) [] := fun s hs => by rw [hF]; exact hin s hs
  rw [← hF]
  clear hF
  obtain ⟨A, hA⟩ : ∃ A, A = allP m := ⟨_, rfl⟩
  rw [← hA] at hst hin hll ⊢
  have hal : (A.map slI).length = A.length := by simp
  obtain ⟨q, hq⟩ : ∃ q, q = (m.getD i 0 == p) := ⟨_, rfl⟩
  rw [← hq]
  refine zY tbOk (zM Tryz.func15 (by kernel_rfl) rfl) Tryz.func15 rfl _ Tryz.ntmps15 (Nat.le_of_ble_eq_true rfl) fun X hX => ?_
  subst hX
  repeat (first | ((with_reducible refine zI ?_); refine zJ rfl ?_) | ((with_reducible refine zE ?_); refine zF rfl ?_) | ((with_reducible refine zQ ?_); refine zZ tbOk rfl rfl rfl rfl (Nat.le_of_ble_eq_true rfl) ?_) | ((with_reducible refine yz ?_); refine jA rfl rfl rfl ?_)  | refine zK ?_ | refine zB rfl ?_ | with_reducible (first | refine zG ?_ | refine zH ?_) | ((with_reducible refine zA ?_ ?_); kernel_rfl))
  refine zk (hst) (by repeat' (first | exact trivial | exact Ren.v _ | exact Ren.sl _ _ | refine zp ?_ | refine ⟨?_, ?_⟩)) (by repeat' (first | exact trivial | exact RenB.v _ | exact RenB.sl _ _ | refine yQ ?_ | refine ⟨?_, ?_⟩)) ?_
  repeat (first | ((with_reducible refine zI ?_); refine zJ rfl ?_) | ((with_reducible refine zE ?_); refine zF rfl ?_) | ((with_reducible refine yZ ?_); refine yX rfl rfl ?_) | ((with_reducible refine yB ?_); refine yj tbOk rfl rfl ?_) | ((with_reducible refine zP ?_); refine zV rfl rfl rfl ?_)  | refine zK ?_ | refine zB rfl ?_ | with_reducible (first | refine zG ?_ | refine zH ?_ | refine zW ?_ | refine zR ?_) | ((with_reducible refine zA ?_ ?_); kernel_rfl) | refine zm rfl (by first | rfl | assumption) ?_)
  refine aW (t := 12) (s := 65) 3 1 rfl rfl ?_
  refine ya (ι := Nat × List Int) (fun k => k.1 ≤ A.length ∧ HzOk k.2 ∧ mayG q ((A.drop k.1).map F) k.2 = mayG q (A.map F) []) (fun k => A.length - k.1) (fun v k => [(1, .sl 1 (m.map iv)), (4, .ptr 4 (v 4) 0), (6, .ptr 6 (v 6) 0), (7, .ptr 7 (v 7) 0), (12, .own 65 (v 65)), (28, .sl 1 (A.map slI)), (29, .v (.int .i64 (A.map slI).length)), (30, .v (.int .i64 (k.1 : Nat)))]) (fun v k => [(4, .box [.sl 3 (N.map Nd.av), .sl 5 (V.map Dv.av)]), (6, .box [.v (.int .i64 (i : Nat)), .v (.int .i64 p)]), (7, .box [.v (.int .i64 0), .sl 3 [], .sl 1 (pr.map iv)]), (65, .buf 3 1 (k.2.map iv))]) ?_ ?_
  · exact ⟨(0, []), ⟨Nat.zero_le _, ⟨List.nodup_nil, fun x hx => by cases hx⟩, rfl⟩, trivial, ⟨rfl, rfl, rfl, rfl, rfl, rfl, rfl, rfl, trivial⟩, ⟨rfl, rfl, rfl, rfl, trivial⟩⟩
  rintro v ⟨k, E⟩ ⟨hk, hE, hf⟩
  dsimp only at hk hE hf ⊢
  repeat (first | ((with_reducible refine zP ?_); refine zV rfl rfl rfl ?_)  | refine zK ?_ | refine zB rfl ?_ | with_reducible (first | refine zG ?_ | refine zH ?_) | ((with_reducible refine zA ?_ ?_); kernel_rfl))
  refine zh rfl (fun h => ?_) (fun h => ?_)
  · have hlt : k < A.length := by simpa using h
    obtain ⟨s, hs⟩ := zT hlt
    have hy : (A.map slI)[k]? = some (slI s) := by rw [List.getElem?_map, hs]; rfl
    have hsi := hin s (List.mem_of_getElem? hs)
    have hr := hFr s
    have hl6 := hFl s
    rw [yq hs, List.map_cons, show mayG q (F s :: (A.drop (k + 1)).map F) E = mayG q ((A.drop (k + 1)).map F) (mayI q E (F s)) from rfl] at hf
    generalize F s = H at hsi hr hl6 hf
    have hHl : (H.map iv).length = H.length := by simp
    repeat (first | ((with_reducible refine zI ?_); refine zJ rfl ?_) | ((with_reducible refine zE ?_); refine zF rfl ?_) | ((with_reducible refine zQ ?_); (first | refine zZ tbOk rfl rfl rfl rfl (Nat.le_of_ble_eq_true rfl) ?_ | refine zj tbOk rfl rfl rfl ?_)) | ((with_reducible refine zU ?_); refine zg tbOk rfl rfl rfl rfl (by assumption) ?_)  | refine zK ?_ | refine zB rfl ?_ | with_reducible (first | refine zG ?_ | refine zH ?_ | refine zW ?_ | refine zR ?_) | ((with_reducible refine zA ?_ ?_); kernel_rfl))
    refine zk (hsi) (by repeat' (first | exact trivial | exact Ren.v _ | exact Ren.sl _ _ | refine zp ?_ | refine ⟨?_, ?_⟩)) (by repeat' exact RenB.sl _ _) ?_
    repeat (first | ((with_reducible refine zI ?_); refine zJ rfl ?_) | ((with_reducible refine yB ?_); refine yj tbOk rfl rfl ?_)  | refine zK ?_ | refine zB rfl ?_ | with_reducible (first | refine zG ?_ | refine zW ?_) )
    refine ya (ι := Nat × List Int) (fun j => j.1 ≤ H.length ∧ HzOk j.2 ∧ mayI q j.2 (H.drop j.1) = mayI q E H) (fun j => H.length - j.1) (fun v j => [(1, .sl 1 (m.map iv)), (4, .ptr 4 (v 4) 0), (6, .ptr 6 (v 6) 0), (7, .ptr 7 (v 7) 0), (12, .own 65 (v 65)), (28, .sl 1 (A.map slI)), (29, .v (.int .i64 (A.map slI).length)), (30, .v (.int .i64 (k : Nat))), (38, .sl 1 (H.map iv)), (39, .v (.int .i64 (H.map iv).length)), (40, .v (.int .i64 (j.1 : Nat)))]) (fun v j => [(4, .box [.sl 3 (N.map Nd.av), .sl 5 (V.map Dv.av)]), (6, .box [.v (.int .i64 (i : Nat)), .v (.int .i64 p)]), (7, .box [.v (.int .i64 0), .sl 3 [], .sl 1 (pr.map iv)]), (65, .buf 3 1 (j.2.map iv))]) ?_ ?_
    · exact ⟨(0, E), ⟨Nat.zero_le _, hE, rfl⟩, trivial, ⟨rfl, rfl, rfl, rfl, rfl, rfl, rfl, rfl, rfl, rfl, rfl, trivial⟩, ⟨rfl, rfl, rfl, rfl, trivial⟩⟩
    clear v h
    rintro v ⟨j, D⟩ ⟨hj, hD, hg⟩
    dsimp only at hj hD hg ⊢
    have hDl := hD.len
    have hDm : (D.map iv).length = D.length := by simp
    repeat (first | ((with_reducible refine zP ?_); refine zV rfl rfl rfl ?_)  | refine zK ?_ | refine zB rfl ?_ | with_reducible (first | refine zG ?_ | refine zH ?_) | ((with_reducible refine zA ?_ ?_); kernel_rfl))
    refine zh rfl (fun h => ?_) (fun h => ?_)
    · have hltj : j < H.length := by simpa using h
      obtain ⟨z, hz⟩ := zT hltj
      have hyz := cW hz
      have hzr := hr z (List.mem_of_getElem? hz)
      rw [yq hz, show mayI q D (z :: H.drop (j + 1)) = mayI q (mayS q D z) (H.drop (j + 1)) from rfl] at hg
      have hD2 : HzOk (mayS q D z) := hzS hD hzr
      have hc := con_P (G := X.G) D z (by omega)
      repeat (first | ((with_reducible refine zI ?_); refine zJ rfl ?_) | ((with_reducible refine zE ?_); refine zF rfl ?_) | ((with_reducible refine zQ ?_); refine zj tbOk rfl rfl rfl ?_) | ((with_reducible refine zU ?_); refine zg tbOk rfl rfl rfl rfl (by assumption) ?_)  | refine zK ?_ | refine zB rfl ?_ | with_reducible (first | refine zG ?_ | refine zH ?_ | refine zW ?_ | refine zR ?_) | ((with_reducible refine zA ?_ ?_); kernel_rfl) | ((with_reducible refine jQ mixd ?_ ?_); kernel_rfl))
      refine cR (ss := [(65, v 65)]) (cs' := [.buf 3 1 (D.map iv)]) (y := .v (.bool (hasI D z))) hc (by repeat' (first | exact trivial | exact Ren.v _ | exact Ren.ownr _ _ _ rfl | refine ⟨?_, ?_⟩)) (by simp) ⟨rfl, trivial⟩ ⟨rfl, trivial⟩ (by repeat' exact RenB.v _) ?_
      repeat (first | ((with_reducible refine zI ?_); refine zJ rfl ?_) | ((with_reducible refine k_un ?_); refine jy rfl ?_)  | refine zB rfl ?_  )
      refine yv rfl rfl (fun c1 => ?_) (fun c1 => ?_)
      rotate_left
      · have e : mayS q D z = D := by unfold mayS; rw [if_neg (by rw [c1]; simp)]
        rw [e] at hg
        repeat (first | ((with_reducible refine zI ?_); refine zJ rfl ?_) | ((with_reducible refine zt ?_); refine yL rfl (by first | rfl | assumption) rfl ?_) | ((with_reducible refine zP ?_); refine zX rfl rfl (by omega) ?_)  | refine zK ?_ | refine jR (by kernel_rfl) ?_ | refine zB rfl ?_ | refine yV rfl rfl (by first | rfl | assumption) ?_ | refine x_skip' rfl rfl rfl ?_ | with_reducible (first | refine zG ?_ | refine ze ?_ | refine zR ?_) | ((with_reducible refine zA ?_ ?_); kernel_rfl) | refine zm rfl (by first | rfl | assumption) ?_)
        exact ⟨(j + 1, D), ⟨hltj, hD, hg⟩, by show H.length - (j + 1) < H.length - j; omega, ⟨rfl, rfl, rfl, rfl, rfl, rfl, rfl, rfl, rfl, rfl, rfl, trivial⟩, ⟨rfl, rfl, rfl, rfl, trivial⟩⟩
      repeat (first | ((with_reducible refine zI ?_); refine zJ rfl ?_) | ((with_reducible refine zP ?_); refine zV rfl rfl rfl ?_)  | refine yJ rfl rfl (by first | rfl | assumption) ?_  )
      refine yv rfl rfl (fun c2 => ?_) (fun c2 => ?_)
      · have e : mayS q D z = D ++ [z] := by unfold mayS; rw [if_pos (by rw [c1, c2]; rfl)]
        rw [e] at hg hD2
        repeat (first | ((with_reducible refine zI ?_); refine zJ rfl ?_) | ((with_reducible refine zt ?_); refine yM rfl (by first | rfl | assumption) rfl ?_) | ((with_reducible refine yE ?_); refine yD tbOk rfl rfl rfl rfl rfl (by omega) rfl rfl rfl ?_) | refine jR (by kernel_rfl) ?_ | refine zB rfl ?_ | refine yJ rfl rfl (by first | rfl | assumption) ?_ | refine jk rfl rfl (by first | rfl | assumption) ?_ | with_reducible refine zG ?_ | ((with_reducible refine zA ?_ ?_); kernel_rfl) | refine yb rfl (by first | rfl | assumption) ?_)
        refine yT tbOk rfl rfl rfl rfl rfl (by decide) rfl rfl rfl rfl rfl (fun x hx => by simp at hx; subst hx; rfl) (by simp only [List.length_map, List.length_cons, List.length_nil]; omega) (by simp only [List.length_map, List.length_cons, List.length_nil]; omega) ?_
        repeat (first | ((with_reducible refine zI ?_); refine zJ rfl ?_) | ((with_reducible refine zE ?_); refine zF rfl ?_) | ((with_reducible refine zP ?_); refine zX rfl rfl (by omega) ?_)  | refine zK ?_ | refine zB rfl ?_ | with_reducible (first | refine zG ?_ | refine ze ?_) | ((with_reducible refine zA ?_ ?_); kernel_rfl))
        exact ⟨(j + 1, D ++ [z]), ⟨hltj, hD2, hg⟩, by show H.length - (j + 1) < H.length - j; omega, ⟨rfl, rfl, rfl, rfl, rfl, rfl, rfl, rfl, rfl, rfl, rfl, trivial⟩, ⟨rfl, rfl, rfl, jB (by rw [List.map_append]; rfl), trivial⟩⟩
      repeat (first | ((with_reducible refine zI ?_); refine zJ rfl ?_) | ((with_reducible refine zO ?_); refine zL tbOk rfl rfl rfl rfl ?_) | ((with_reducible refine zQ ?_); (first | refine zN tbOk rfl rfl rfl rfl rfl ?_ | refine zj tbOk rfl rfl rfl ?_)) | ((with_reducible refine zt ?_); (first | refine yM rfl (by first | rfl | assumption) rfl ?_ | refine yL rfl (by first | rfl | assumption) rfl ?_)) | ((with_reducible refine zU ?_); refine zg tbOk rfl rfl rfl rfl (by assumption) ?_) | ((with_reducible refine zP ?_); refine zV rfl rfl rfl ?_)  | refine jR (by kernel_rfl) ?_ | refine zB rfl ?_ | refine yJ rfl rfl (by first | rfl | assumption) ?_ | refine yr rfl rfl (by first | rfl | assumption) ?_ | with_reducible refine zG ?_ )
      rcases (show q = true ∨ q = false by cases q <;> simp) with hqq | hqq
      · have e : mayS q D z = D ++ [z] := by unfold mayS; rw [if_pos (by rw [c1, hqq]; simp)]
        rw [e] at hg hD2
        have hq' : (m.getD i 0 == p) = true := by rw [← hq, hqq]
        repeat (first | ((with_reducible refine zI ?_); refine zJ rfl ?_) | ((with_reducible refine yE ?_); refine yD tbOk rfl rfl rfl rfl rfl (by omega) rfl rfl rfl ?_) | refine zB rfl ?_  | ((with_reducible refine zA ?_ ?_); kernel_rfl) | refine yb rfl (by first | rfl | assumption) ?_)
        refine yT tbOk rfl rfl rfl rfl rfl (by decide) rfl rfl rfl rfl rfl (fun x hx => by simp at hx; subst hx; rfl) (by simp only [List.length_map, List.length_cons, List.length_nil]; omega) (by simp only [List.length_map, List.length_cons, List.length_nil]; omega) ?_
        repeat (first | ((with_reducible refine zI ?_); refine zJ rfl ?_) | ((with_reducible refine zE ?_); refine zF rfl ?_) | ((with_reducible refine zP ?_); refine zX rfl rfl (by omega) ?_)  | refine zK ?_ | refine zB rfl ?_ | with_reducible (first | refine zG ?_ | refine ze ?_) | ((with_reducible refine zA ?_ ?_); kernel_rfl))
        exact ⟨(j + 1, D ++ [z]), ⟨hltj, hD2, hg⟩, by show H.length - (j + 1) < H.length - j; omega, ⟨rfl, rfl, rfl, rfl, rfl, rfl, rfl, rfl, rfl, rfl, rfl, trivial⟩, ⟨rfl, rfl, rfl, jB (by rw [List.map_append]; rfl), trivial⟩⟩
      · have e : mayS q D z = D := by unfold mayS; rw [if_neg (by rw [c1, c2, hqq]; decide)]
        rw [e] at hg
        have hq' : (m.getD i 0 == p) = false := by rw [← hq, hqq]
        repeat (first | ((with_reducible refine zI ?_); refine zJ rfl ?_) | ((with_reducible refine zP ?_); refine zX rfl rfl (by omega) ?_)  | refine zK ?_ | refine zB rfl ?_ | with_reducible (first | refine zG ?_ | refine ze ?_ | refine zR ?_) | ((with_reducible refine zA ?_ ?_); kernel_rfl) | refine zm rfl (by first | rfl | assumption) ?_)
        exact ⟨(j + 1, D), ⟨hltj, hD, hg⟩, by show H.length - (j + 1) < H.length - j; omega, ⟨rfl, rfl, rfl, rfl, rfl, rfl, rfl, rfl, rfl, rfl, rfl, trivial⟩, ⟨rfl, rfl, rfl, rfl, trivial⟩⟩
    · have hge : ¬ j < H.length := by simpa using h
      rw [List.drop_of_length_le (by omega)] at hg
      have hg : D = mayI q E H := hg
      rw [← hg] at hf
      repeat (first | ((with_reducible refine zI ?_); refine zJ rfl ?_) | ((with_reducible refine zP ?_); refine zX rfl rfl (by omega) ?_)  | refine zK ?_ | refine zB rfl ?_ | with_reducible (first | refine zG ?_ | refine zd ?_ | refine ze ?_ | refine zw ?_) | ((with_reducible refine zb ?_ ?_); rfl) | ((with_reducible refine zA ?_ ?_); kernel_rfl))
      exact ⟨(k + 1, D), ⟨hlt, hD, hf⟩, by show A.length - (k + 1) < A.length - k; omega, ⟨rfl, rfl, rfl, rfl, rfl, rfl, rfl, rfl, trivial⟩, ⟨rfl, rfl, rfl, rfl, trivial⟩⟩
  · have hge : ¬ k < A.length := by simpa using h
    rw [List.drop_of_length_le (by omega)] at hf
    have hf : E = mayG q (A.map F) [] := hf
    have hEl := hE.len
    have hs := sort_P (G := X.G) E (by omega)
    rw [← hf]
    repeat (first | ((with_reducible refine zI ?_); refine zJ rfl ?_)  | refine zB rfl ?_ | with_reducible (first | refine zG ?_ | refine zd ?_ | refine zH ?_ | refine zw ?_) | ((with_reducible refine zb ?_ ?_); rfl) | ((with_reducible refine zA ?_ ?_); kernel_rfl))
    refine cR (ss := [(65, v 65)]) (cs' := [.buf 3 1 ((srtI E).map iv)]) (y := .tu []) hs (by repeat' (first | exact trivial | exact Ren.ownr _ _ _ rfl | refine ⟨?_, ?_⟩)) (by simp) ⟨rfl, trivial⟩ ⟨rfl, trivial⟩ (by repeat' (first | exact trivial | refine yQ ?_)) ?_
    repeat (first | ((with_reducible refine zI ?_); refine zJ rfl ?_) | ((with_reducible refine zE ?_); refine zF rfl ?_)  | refine zK ?_ | refine zB rfl ?_ | with_reducible (first | refine zG ?_ | refine zH ?_ | refine zS ?_) | ((with_reducible refine zA ?_ ?_); kernel_rfl))
    refine qN (by first | exact .inr rfl | exact .inl rfl) rfl rfl rfl ?_
    repeat' (first | exact trivial | exact Ren.v _ | exact Ren.own _ _ _ _ ⟨_, rfl⟩ | refine yR ?_ | refine ⟨?_, ?_⟩)
end Go.Proofs.YtnafokinifbfhaaGreatDoor
