/- permitofficetop.TopWays, by the abstract machine: for every list of numbers it answers true; conditions: the tables of positions and of classes stand. -/
import Derived.Test.YtnafokinifbfhaaGreatDoorWyA
import Derived.Test.YtnafokinifbfhaaGreatDoorFdB
import Derived.Test.YtnafokinifbfhaaGreatDoorSzA
import Derived.Test.YtnafokinifbfhaaGreatDoorLcM
import Derived.Test.YtnafokinifbfhaaGreatDoorNwB
import Derived.Test.YtnafokinifbfhaaGreatDoorFiA
set_option linter.unusedVariables false
set_option linter.unusedSimpArgs false
namespace Go.Proofs.YtnafokinifbfhaaGreatDoor
open Go Go.RowKit
set_option maxRecDepth 10000
variable {G : Nat → Option (List Value)}
theorem nJ {N : List Nd} {V : List Dv} {S : List Int} : ∀ (m i : Nat) {D : Dk} (L : List Lk), DkOk D → DkOk (jg N V S m i D L).1
  | 0, _, _, _, h => h
  | m + 1, i, D, L, h => by
    refine nJ m (i + 1) (aK N V S i D L).2 ?_
    unfold aK
    split
    · exact h.next
    · exact h.next.next.next
/-- A made network as the law needs it. -/
structure NwT (N : List Nd) (V : List Dv) : Prop where
  n0 : 0 < N.length
  n : N.length ≤ 32
  v0 : 0 < V.length
  v : V.length ≤ 64
  nn : ∀ x ∈ N, x.n.size ≤ maxLen
  vn : ∀ x ∈ V, x.n.size ≤ maxLen
  e : netE N V = 0
  ends : ∀ d ∈ V, yY d N.length = true
theorem nwT {D : Dk} (h : DkOk D) : NwT (net1 D 7).1 (net5 D 7 12).1 := by
  have hk := bS D (nodes := 7) (by decide) (by decide)
  have hN : (net1 D 7).1.length = netK D 7 := qy _ _
  have hv := pQ h 12 (nodes := 7) (by decide) (by decide)
  have hp := net5_pos D 7 (m := 12) (by decide)
  have hK : netK D 7 ≤ 32 := by
    have := D.in_ (n := max 1 (7 - 1)) (by omega) (by omega)
    omega
  refine ⟨by omega, by omega, by omega, by have := hv.len; omega, fun x hx => ?_, fun x hx => ?_, wL h (by decide) (by decide) (by decide), fun d hd => ?_⟩
  · obtain ⟨j, hj⟩ := List.getElem?_of_mem hx
    rw [(gP _ _ j x hj).1, sA]; decide
  · obtain ⟨j, hj⟩ := List.getElem?_of_mem hx
    rw [(hv.at_ j x hj).nm, sA]; decide
  · obtain ⟨j, hj⟩ := List.getElem?_of_mem hd
    rw [hN]; exact (hv.at_ j d hj).ends
/-- Which devices may be used, as far as it is written. -/
def usP (U : Nat → Bool) (i m : Nat) : List Bool := (List.range m).map fun j => if j < i then U j else false
theorem pJ (U : Nat → Bool) (i m : Nat) : (usP U i m).length = m := by simp [usP]
theorem usP_set {U : Nat → Bool} {i m : Nat} (h : i < m) : (usP U i m).set i (U i) = usP U (i + 1) m := by
  refine List.ext_getElem? fun j => ?_
  unfold usP
  by_cases e : j = i
  · subst e
    rw [List.getElem?_set_self (by simp; omega), List.getElem?_map, List.getElem?_range h]
    simp
  · rw [List.getElem?_set_ne (Ne.symm e), List.getElem?_map, List.getElem?_map]
    by_cases hj : j < m
    · rw [List.getElem?_range hj]
      simp only [Option.map_some]
      by_cases h1 : j < i
      · rw [if_pos h1, if_pos (by omega)]
      · rw [if_neg h1, if_neg (by omega)]
    · rw [List.getElem?_eq_none (by simp; omega)]; rfl
theorem usP_all {U : Nat → Bool} {m : Nat} : ∀ i, i < m → (usP U m m)[i]? = some (U i) := fun i h => by
  unfold usP
  rw [List.getElem?_map, List.getElem?_range h]
  simp [h]
theorem us_put (U : Nat → Bool) {i m : Nat} (h : i < m) : (bsv (usP U (i + 1) m)).flatMap AV.cells = putL ((bsv (usP U i m)).flatMap AV.cells) ((i : Int).toNat * 1) [.v (.bool (U i))] := by
  rw [qJ, qJ, Nat.mul_one, Int.toNat_natCast, vK, usP_set h]
theorem nF {U : Nat → Bool} {V : List Dv} {n x y : Nat} (hV : ∀ d ∈ V, yY d n = true) (hx : x < n) (hy : y < n) : (wayP U V n x y).2 = at0 (flood U V n [(y : Int)]) x ∧ ((wayP U V n x y).2 = true → (wayP U V n x y).1.length < n) := by
  have hL : ∀ v ∈ [(y : Int)], 0 ≤ v ∧ v < n := fun v hv => by simp at hv; subst hv; omega
  have hI := jn (U := U) hV hL
  have hl : (flood U V n [(y : Int)]).length = n := hI.ok.len
  obtain ⟨z, hz⟩ := zT (L := flood U V n [(y : Int)]) (k := x) (by omega)
  have hg : (flood U V n [(y : Int)]).getD (x : Int).toNat 0 = z := by rw [Int.toNat_natCast]; exact getD_some hz
  have ha : at0 (flood U V n [(y : Int)]) x = decide (0 ≤ z) := by
    unfold at0
    rw [Int.toNat_natCast, List.getD_eq_getElem?_getD, hz]; rfl
  unfold wayP
  rw [hg, ha]
  by_cases h : z < 0
  · rw [if_pos h, decide_eq_false (by omega)]
    exact ⟨rfl, fun h => by cases h⟩
  · rw [if_neg h, decide_eq_true (by omega)]
    refine ⟨rfl, fun _ => ?_⟩
    obtain ⟨k, rfl⟩ := Int.eq_ofNat_of_zero_le (show 0 ≤ z by omega)
    have h1 := nA (U := U) hV hL k x hz
    have h2 := rO (U := U) hV hL hz
    show (qm U V (flood U V n [(y : Int)]) (k : Int).toNat x).1.length < n
    rw [Int.toNat_natCast]
    omega
set_option maxRecDepth 100000 in
set_option maxHeartbeats 16000000 in
theorem ways_A (l : List Int) (hG0 : G 0 = some Cx.posV) (hG1 : G 1 = some Cx.clsV) (hG : GCls G) : zu Tryz.prog G 5 [.sl 1 (l.map iv)] [] (.v (.bool true)) [] := by
  refine zf tbOk (zM Tryz.func5 (by kernel_rfl) rfl) Tryz.func5 rfl _ Tryz.ntmps5 (Nat.le_of_ble_eq_true rfl) fun X hX => ?_
  subst hX
  repeat (first | ((with_reducible refine zI ?_); refine zH rfl ?_) | ((with_reducible refine zE ?_); refine zD rfl ?_)  | refine zJ ?_ | refine zB rfl ?_ | with_reducible (first | refine zC ?_ | refine zF ?_) | ((with_reducible refine zA ?_ ?_); kernel_rfl))
  refine zl (few_A (l.map iv)) (by repeat' (first | exact trivial | exact Ren.sl _ _ | refine ⟨?_, ?_⟩)) (by repeat' exact RenB.v _) ?_
  repeat (first | ((with_reducible refine k_un ?_); refine jL rfl ?_)  | refine zJ ?_ | refine zB rfl ?_ | with_reducible refine zC ?_ )
  refine zX rfl (fun h => ?_) (fun h => ?_)
  · repeat (first   | refine zB rfl ?_ | with_reducible refine zF ?_ | ((with_reducible refine zA ?_ ?_); kernel_rfl))
    refine zl (wF hG0 hG1) (by repeat' exact trivial) (by repeat' exact RenB.v _) ?_
    repeat (first | ((with_reducible refine zE ?_); refine zD rfl ?_)  | refine zJ ?_ | refine zB rfl ?_ | with_reducible (first | refine zC ?_ | refine zR ?_ | refine zQ ?_) )
    refine zj (by first | exact .inr rfl | exact .inl rfl) rfl rfl ?_
    rfl
  have hl : l.length ≤ 400 := by simp at h; omega
  have dk := DkOk.new hl
  have T := nwT dk
  have hnet := wX (G := X.G) (dk0 l) 7 12 dk (by decide) (by decide) (by decide)
  have hd1 := (pQ dk 12 (nodes := 7) (by decide) (by decide)).dk
  obtain ⟨N, hN⟩ : ∃ N, N = (net1 (dk0 l) 7).1 := ⟨_, rfl⟩
  obtain ⟨V, hV⟩ : ∃ V, V = (net5 (dk0 l) 7 12).1 := ⟨_, rfl⟩
  obtain ⟨D1, hD1⟩ : ∃ E, E = (net5 (dk0 l) 7 12).2 := ⟨_, rfl⟩
  rw [← hN, ← hV, ← hD1] at hnet
  rw [← hN, ← hV] at T
  rw [← hD1] at hd1
  obtain ⟨n0, nle, v0, vle, nn, vn, ne, nends⟩ := id T
  have hnl : (N.map Nd.av).length = N.length := by simp
  have hvl : (V.map Dv.av).length = V.length := by simp
  have hst := state_A (G := X.G) N V D1 hd1 (by omega)
  obtain ⟨hd2, hsl, hs12⟩ := stP_ok (V := V) hd1
  obtain ⟨S, hS⟩ : ∃ S, S = (stP V D1).2 := ⟨_, rfl⟩
  obtain ⟨D2, hD2⟩ : ∃ E, E = (stP V D1).1 := ⟨_, rfl⟩
  rw [← hS, ← hD2] at hst
  rw [← hD2] at hd2
  rw [← hS] at hsl hs12
  have hlk := locksM_A (G := X.G) 7 (by decide) D2 N V S hd2 nn vn (by unfold maxLen; omega) v0 vle hsl hs12
  obtain ⟨hlok, hll⟩ := nT (N := N) (V := V) (S := S) 7 0 D2 [] ⟨by simp, List.Pairwise.nil⟩
  have hd3 := nJ (N := N) (V := V) (S := S) 7 0 [] hd2
  obtain ⟨L, hL⟩ : ∃ L, L = (jg N V S 7 0 D2 []).2 := ⟨_, rfl⟩
  obtain ⟨D3, hD3⟩ : ∃ E, E = (jg N V S 7 0 D2 []).1 := ⟨_, rfl⟩
  rw [← hL, ← hD3] at hlk
  rw [← hL] at hlok hll
  rw [← hD3] at hd3
  have hll : L.length ≤ 7 := by simpa using hll
  have hle := hlok.lksE ne (by omega)
  have hzn := zone_A (G := X.G) N V D3 hd3 n0 (by omega)
  obtain ⟨hd4, hzl, hz0, hzris⟩ := zoneP_ok (n := N.length) hd3 (by omega) (by omega)
  obtain ⟨z, hz⟩ : ∃ z, z = (dX N.length D3).2 := ⟨_, rfl⟩
  obtain ⟨D4, hD4⟩ : ∃ E, E = (dX N.length D3).1 := ⟨_, rfl⟩
  rw [← hz, ← hD4] at hzn
  rw [← hz] at hzl hz0 hzris
  have hzr : ∀ v ∈ z, 0 ≤ v ∧ v < N.length := fun v hv => by have := ris_in hzris v hv; omega
  have hga := gaps_A (G := X.G) N V L hG nn vn (by unfold maxLen; omega) vle (by unfold maxLen; omega) hle
  have hiso := tI (G := X.G) N V L z hG nn vn nends nle vle (by unfold maxLen; omega) ne hle hz0 hzris (by omega) hzr
  have hlaw := ways_law (U := fun i : Nat => !hasI (fH V L) (i : Int)) (V := V) (n := N.length) (z := z) nends hzr
  have hgl := nY V L
  obtain ⟨g, hg⟩ : ∃ g, g = fH V L := ⟨_, rfl⟩
  rw [← hg] at hga hiso hlaw hgl
  obtain ⟨U, hU⟩ : ∃ U : Nat → Bool, U = fun i : Nat => !hasI g (i : Int) := ⟨_, rfl⟩
  rw [← hU] at hiso hlaw
  obtain ⟨is, his⟩ : ∃ b, b = jv U (flood U V N.length z) 0 V := ⟨_, rfl⟩
  rw [← his] at hiso hlaw
  have hgm : g.length ≤ maxLen := by unfold maxLen; omega
  have hUi : ∀ i : Nat, U i = !hasI g i := fun i => by rw [hU]
  repeat (first | ((with_reducible refine zI ?_); refine zH rfl ?_)  | refine zB rfl ?_ | with_reducible (first | refine zC ?_ | refine zF ?_ | refine zN ?_) | ((with_reducible refine zA ?_ ?_); kernel_rfl))
  refine uH (new_A l) (by repeat' (first | exact trivial | exact Ren.sl _ _ | refine ⟨?_, ?_⟩)) ⟨.sl _ _, .v _, .v _, trivial⟩ rfl ?_
  repeat (first | ((with_reducible refine zI ?_); refine zH rfl ?_) | ((with_reducible refine zE ?_); refine zD rfl ?_)  | refine zJ ?_ | refine zB rfl ?_ | with_reducible (first | refine zC ?_ | refine zF ?_) | ((with_reducible refine zA ?_ ?_); kernel_rfl))
  refine yW (y := .ag [.sl 3 (N.map Nd.av), .sl 5 (V.map Dv.av)]) (ss := [(26, 1)]) (hnet) (by repeat' (first | exact trivial | exact Ren.v _ | exact Ren.ptr _ _ _ _ rfl | refine ⟨?_, ?_⟩)) (by simp) (in1 rfl rfl) rfl (ym rfl) (by repeat' (first | exact trivial | exact RenB.sl _ _ | refine yi ?_ | refine ⟨?_, ?_⟩)) ?_
  repeat (first | ((with_reducible refine zI ?_); refine zH rfl ?_) | ((with_reducible refine zO ?_); refine zk tbOk rfl rfl rfl rfl (Nat.le_of_ble_eq_true rfl) ?_) | ((with_reducible refine yN ?_); refine yT tbOk rfl rfl rfl rfl rfl rfl rfl (Nat.le_of_ble_eq_true rfl) rfl ?_) | ((with_reducible refine jB ?_); refine jA tbOk rfl rfl ?_)  | refine zJ ?_ | refine zB rfl ?_ | with_reducible (first | refine zC ?_ | refine zF ?_) | ((with_reducible refine yz mixd ?_ ?_); kernel_rfl))
  refine yW (ss := [(26, 1)]) (hst) (by repeat' (first | exact trivial | exact Ren.sl _ _ | exact Ren.ptr _ _ _ _ rfl | refine zn ?_ | refine ⟨?_, ?_⟩)) (by simp) (in1 rfl rfl) rfl (ym rfl) (by repeat' exact RenB.sl _ _) ?_
  repeat (first   | refine zB rfl ?_  )
  refine yW (ss := [(26, 1)]) (hlk) (by repeat' (first | exact trivial | exact Ren.v _ | exact Ren.sl _ _ | exact Ren.ptr _ _ _ _ rfl | refine zn ?_ | refine ⟨?_, ?_⟩)) (by simp) (in1 rfl rfl) rfl (ym rfl) (by repeat' exact RenB.sl _ _) ?_
  repeat (first | ((with_reducible refine zI ?_); refine zH rfl ?_) | ((with_reducible refine zE ?_); refine zD rfl ?_) | ((with_reducible refine zO ?_); refine zk tbOk rfl rfl rfl rfl (Nat.le_of_ble_eq_true rfl) ?_)  | refine jD (by kernel_rfl) ?_ | refine zB rfl ?_ | with_reducible (first | refine zC ?_ | refine zF ?_) | ((with_reducible refine zA ?_ ?_); kernel_rfl))
  refine yW (ss := [(26, 1)]) (hzn) (by repeat' (first | exact trivial | exact Ren.sl _ _ | exact Ren.ptr _ _ _ _ rfl | refine zn ?_ | refine ⟨?_, ?_⟩)) (by simp) (in1 rfl rfl) rfl (ym rfl) (by repeat' exact RenB.sl _ _) ?_
  repeat (first | ((with_reducible refine zI ?_); refine zH rfl ?_) | ((with_reducible refine zE ?_); refine zD rfl ?_) | ((with_reducible refine zO ?_); refine zk tbOk rfl rfl rfl rfl (Nat.le_of_ble_eq_true rfl) ?_)  | refine zJ ?_ | refine zB rfl ?_ | with_reducible (first | refine zC ?_ | refine zF ?_) | ((with_reducible refine zA ?_ ?_); kernel_rfl))
  refine zl (hga) (by repeat' (first | exact trivial | exact Ren.sl _ _ | refine zn ?_ | refine ⟨?_, ?_⟩)) (by repeat' (first | exact trivial | exact RenB.v _ | exact RenB.sl _ _ | refine yM ?_ | refine ⟨?_, ?_⟩)) ?_
  repeat (first | ((with_reducible refine zI ?_); refine zH rfl ?_) | ((with_reducible refine zE ?_); refine zD rfl ?_) | ((with_reducible refine zO ?_); refine zk tbOk rfl rfl rfl rfl (Nat.le_of_ble_eq_true rfl) ?_) | ((with_reducible refine jP ?_); refine jN rfl rfl ?_)  | refine zJ ?_ | refine zB rfl ?_ | with_reducible (first | refine zC ?_ | refine zF ?_) | ((with_reducible refine zA ?_ ?_); kernel_rfl))
  refine zl (hiso) (by repeat' (first | exact trivial | exact Ren.sl _ _ | refine zn ?_ | refine ⟨?_, ?_⟩)) (by repeat' (first | exact trivial | exact RenB.v _ | refine yM ?_ | refine ⟨?_, ?_⟩)) ?_
  repeat (first | ((with_reducible refine zI ?_); refine zH rfl ?_) | ((with_reducible refine zE ?_); refine zD rfl ?_) | ((with_reducible refine zK ?_); refine zG tbOk rfl rfl rfl rfl ?_) | ((with_reducible refine zO ?_); refine zL tbOk rfl rfl rfl rfl rfl ?_) | ((with_reducible refine jP ?_); refine jN rfl rfl ?_) | ((with_reducible refine zZ ?_); refine zi rfl (by first | rfl | assumption) rfl ?_) | ((with_reducible refine zp ?_); refine yU tbOk rfl rfl ?_) | ((with_reducible refine zP ?_); refine zS rfl rfl rfl ?_)  | refine zJ ?_ | refine zB rfl ?_ | refine zt rfl rfl (by first | rfl | assumption) ?_ | with_reducible (first | refine zC ?_ | refine zF ?_ | refine zN ?_) | ((with_reducible refine zA ?_ ?_); kernel_rfl) | refine zy rfl (by first | rfl | assumption) ?_)
  with_reducible refine iX ?_
  refine lF (zc := .v (.bool false)) tbOk rfl rfl rfl rfl rfl (by decide) rfl (by intro z hz; simp at hz; subst hz; rfl) rfl rfl (by omega) (by omega) rfl ?_
  repeat (first | ((with_reducible refine zI ?_); refine zH rfl ?_) | ((with_reducible refine zE ?_); refine zD rfl ?_) | ((with_reducible refine zp ?_); refine bG tbOk rfl rfl rfl rfl ?_)  | refine zJ ?_ | refine zB rfl ?_ | with_reducible (first | refine zC ?_ | refine zF ?_ | refine zU ?_) | ((with_reducible refine zA ?_ ?_); kernel_rfl))
  refine yL (ι := Nat) (fun i => i ≤ V.length) (fun i => V.length - i) (fun v i => [(4, .ptr 4 (v 4) 0), (6, .sl 1 (z.map iv)), (7, .sl 1 (g.map iv)), (9, .v (.bool is)), (11, .own 60 (v 60)), (62, .v (.int .i64 V.length)), (63, .v (.int .i64 (i : Nat)))]) (fun v i => [(4, .box [.sl 3 (N.map Nd.av), .sl 5 (V.map Dv.av)]), (60, .buf 4 1 (bsv (usP U i V.length)))]) ?_ ?_
  · refine ⟨0, Nat.zero_le _, trivial, ⟨rfl, rfl, rfl, rfl, rfl, ?_, rfl, trivial⟩, ⟨rfl, jV ?_, trivial⟩⟩
    · show AV.v (.int .i64 ((List.replicate (V.map Dv.av).length (AV.v (.bool false))).length : Int)) = _
      rw [List.length_replicate, hvl]
    · rw [hvl]
      unfold bsv usP
      rw [List.map_map]
      refine List.ext_getElem? fun j => ?_
      by_cases hj : j < V.length
      · rw [List.getElem?_replicate, if_pos hj, List.getElem?_map, List.getElem?_range hj]; rfl
      · rw [List.getElem?_replicate, if_neg hj, List.getElem?_eq_none (by simp; omega)]
  rintro v i hi
  have hul : (bsv (usP U i V.length)).length = V.length := by rw [yr, pJ]
  repeat (first | ((with_reducible refine zP ?_); refine zS rfl rfl rfl ?_)  | refine zJ ?_ | refine zB rfl ?_ | with_reducible (first | refine zC ?_ | refine zF ?_) | ((with_reducible refine zA ?_ ?_); kernel_rfl))
  refine zX rfl (fun h => ?_) (fun h => ?_)
  · have hlt : i < V.length := by simpa using h
    repeat (first | ((with_reducible refine zI ?_); refine zH rfl ?_) | ((with_reducible refine zE ?_); refine zD rfl ?_)  | refine zJ ?_ | refine zB rfl ?_ | with_reducible (first | refine zC ?_ | refine zF ?_ | refine zU ?_ | refine zN ?_) | ((with_reducible refine zA ?_ ?_); kernel_rfl))
    refine zl (has_A g i hgm) (by repeat' (first | exact trivial | exact Ren.v _ | exact Ren.sl _ _ | refine ⟨?_, ?_⟩)) (by repeat' exact RenB.v _) ?_
    repeat (first | ((with_reducible refine k_un ?_); refine jL rfl ?_)  | refine zB rfl ?_  )
    with_reducible refine zW ?_
    refine jY tbOk rfl rfl rfl rfl rfl rfl ⟨by omega, by rw [hul]; omega⟩ ?_
    repeat (first   | refine zB rfl ?_  )
    with_reducible refine yN ?_
    refine fE (L' := bsv (usP U (i + 1) V.length)) tbOk rfl rfl rfl rfl rfl rfl rfl rfl rfl (by rw [qJ, hul, Int.toNat_natCast]; omega) (by simp [yr, pJ]) (iI _) (by have hp := us_put U hlt; rw [hUi i] at hp; exact hp) ?_
    repeat (first | ((with_reducible refine zI ?_); refine zH rfl ?_) | ((with_reducible refine zP ?_); refine zY rfl rfl (by omega) ?_)  | refine zJ ?_ | refine zB rfl ?_ | with_reducible (first | refine zC ?_ | refine zd ?_) | ((with_reducible refine zA ?_ ?_); kernel_rfl))
    exact ⟨i + 1, by omega, by omega, ⟨rfl, rfl, rfl, rfl, rfl, rfl, rfl, trivial⟩, ⟨rfl, rfl, trivial⟩⟩
  obtain rfl : i = V.length := by simp at h; omega
  refine tQ (t := 11) (s := 60) rfl rfl ?_
  have hus := usP_all (U := U) (m := V.length)
  have husl := pJ U V.length V.length
  obtain ⟨us, husq⟩ : ∃ us, us = usP U V.length V.length := ⟨_, rfl⟩
  rw [← husq] at hus husl ⊢
  repeat (first | ((with_reducible refine zI ?_); refine zH rfl ?_) | ((with_reducible refine zE ?_); refine zD rfl ?_) | ((with_reducible refine zK ?_); refine zG tbOk rfl rfl rfl rfl ?_) | ((with_reducible refine zO ?_); refine zL tbOk rfl rfl rfl rfl rfl ?_) | ((with_reducible refine zp ?_); refine yU tbOk rfl rfl ?_)  | refine zJ ?_ | refine zB rfl ?_ | with_reducible (first | refine zC ?_ | refine ze ?_ | refine zF ?_ | refine zU ?_ | refine zr ?_) | ((with_reducible refine za ?_ ?_); rfl) | ((with_reducible refine zA ?_ ?_); kernel_rfl))
  refine yL (ι := Nat × Bool) (fun i => i.1 ≤ V.length ∧ jr U V N.length z i.1 (V.drop i.1) i.2 = jr U V N.length z 0 V false) (fun i => V.length - i.1) (fun v i => [(4, .ptr 4 (v 4) 0), (6, .sl 1 (z.map iv)), (7, .sl 1 (g.map iv)), (9, .v (.bool is)), (11, .sl 1 (bsv us)), (13, .v (.bool i.2)), (75, .sl 5 (V.map Dv.av)), (76, .v (.int .i64 (V.map Dv.av).length)), (77, .v (.int .i64 (i.1 : Nat)))]) (fun v i => [(4, .box [.sl 3 (N.map Nd.av), .sl 5 (V.map Dv.av)])]) ?_ ?_
  · exact ⟨(0, false), ⟨Nat.zero_le _, rfl⟩, trivial, ⟨rfl, rfl, rfl, rfl, rfl, rfl, rfl, rfl, rfl, trivial⟩, ⟨rfl, trivial⟩⟩
  clear v h hi hul
  rintro v ⟨i, b⟩ ⟨hi, hf⟩
  dsimp only at hi hf ⊢
  repeat (first | ((with_reducible refine zP ?_); refine zS rfl rfl rfl ?_)  | refine zJ ?_ | refine zB rfl ?_ | with_reducible (first | refine zC ?_ | refine zF ?_) | ((with_reducible refine zA ?_ ?_); kernel_rfl))
  refine zX rfl (fun h => ?_) (fun h => ?_)
  · have hlt : i < V.length := by simpa using h
    obtain ⟨d, hd⟩ := zT hlt
    have hy := fW hd
    rw [yq hd, jr] at hf
    have hda : 0 ≤ d.a ∧ d.a < N.length := by
      have := nends d (List.mem_of_getElem? hd)
      unfold yY at this
      split at this
      · cases this
      · omega
    obtain ⟨an, han⟩ := Int.eq_ofNat_of_zero_le hda.1
    repeat (first | ((with_reducible refine zI ?_); refine zH rfl ?_) | ((with_reducible refine zE ?_); refine zD rfl ?_) | ((with_reducible refine zK ?_); refine zG tbOk rfl rfl rfl rfl ?_) | ((with_reducible refine zO ?_); (first | refine zL tbOk rfl rfl rfl rfl rfl ?_ | refine yQ tbOk rfl rfl (Nat.le_of_ble_eq_true rfl) ?_)) | ((with_reducible refine yN ?_); refine yT tbOk rfl rfl rfl rfl rfl rfl rfl (Nat.le_of_ble_eq_true rfl) rfl ?_) | ((with_reducible refine jB ?_); refine jA tbOk rfl rfl ?_) | ((with_reducible refine zW ?_); refine zb tbOk rfl rfl rfl rfl (by assumption) ?_) | ((with_reducible refine zP ?_); refine zS rfl rfl rfl ?_)  | refine zJ ?_ | refine zB rfl ?_ | with_reducible (first | refine zC ?_ | refine zF ?_ | refine zU ?_ | refine zN ?_) | ((with_reducible refine zA ?_ ?_); kernel_rfl))
    by_cases k5 : d.k = 5
    · have b5 : (d.k != 5) = false := by simpa using k5
      have el : jd U i d = true := by unfold jd; simp [k5]
      rw [if_pos el] at hf
      repeat (first | ((with_reducible refine zI ?_); refine zH rfl ?_) | ((with_reducible refine zZ ?_); refine zi rfl (by first | rfl | assumption) rfl ?_) | ((with_reducible refine zp ?_); refine yU tbOk rfl rfl ?_)  | refine zJ ?_ | refine zB rfl ?_ | refine yH rfl rfl (by first | rfl | assumption) ?_ | refine qF rfl rfl rfl ?_ | with_reducible (first | refine zC ?_ | refine zF ?_ | refine zU ?_ | refine zN ?_) | ((with_reducible refine zA ?_ ?_); kernel_rfl) | refine zy rfl (by first | rfl | assumption) ?_)
      refine yL (ι := Nat × Bool) (fun j => j.1 ≤ z.length ∧ j.2 = (b || (z.take j.1).any fun v => at0 (flood U V N.length [d.a]) v)) (fun j => z.length - j.1) (fun v j => [(4, .ptr 4 (v 4) 0), (6, .sl 1 (z.map iv)), (7, .sl 1 (g.map iv)), (9, .v (.bool is)), (11, .sl 1 (bsv us)), (13, .v (.bool j.2)), (15, .ptr 15 (v 15) 0), (75, .sl 5 (V.map Dv.av)), (76, .v (.int .i64 (V.map Dv.av).length)), (77, .v (.int .i64 (i : Nat))), (95, .sl 1 (z.map iv)), (96, .v (.int .i64 (z.map iv).length)), (97, .v (.int .i64 (j.1 : Nat)))]) (fun v j => [(4, .box [.sl 3 (N.map Nd.av), .sl 5 (V.map Dv.av)]), (15, .box [.v (.string d.n), .v (.int .i64 d.k), .v (.int .i64 d.a), .v (.int .i64 d.b), .v (.int .i64 d.co)])]) ?_ ?_
      · exact ⟨(0, b), ⟨Nat.zero_le _, by simp⟩, trivial, ⟨rfl, rfl, rfl, rfl, rfl, rfl, rfl, rfl, rfl, rfl, rfl, rfl, rfl, trivial⟩, ⟨rfl, rfl, trivial⟩⟩
      clear v h
      rintro v ⟨j, acc⟩ ⟨hj, hacc⟩
      dsimp only at hj hacc ⊢
      repeat (first | ((with_reducible refine zP ?_); refine zS rfl rfl rfl ?_)  | refine zJ ?_ | refine zB rfl ?_ | with_reducible (first | refine zC ?_ | refine zF ?_) | ((with_reducible refine zA ?_ ?_); kernel_rfl))
      refine zX rfl (fun h => ?_) (fun h => ?_)
      · have hltj : j < z.length := by simpa using h
        obtain ⟨x, hx⟩ := zT hltj
        have hyx := mM hx
        have hxr := hzr x (List.mem_of_getElem? hx)
        obtain ⟨xn, rfl⟩ := Int.eq_ofNat_of_zero_le hxr.1
        have hw := way_A (G := X.G) N V us U xn an hG T.nn T.vn T.e T.ends hus husl T.n T.v (by omega) (by omega)
        obtain ⟨hw1, hw2⟩ := nF (U := U) (V := V) (n := N.length) (x := xn) (y := an) T.ends (by omega) (by omega)
        rw [← han] at hw hw1 hw2
        obtain ⟨⟨W, ok⟩, hWq⟩ : ∃ q, q = wayP U V N.length xn d.a := ⟨_, rfl⟩
        rw [← hWq] at hw hw1 hw2
        dsimp only at hw hw1 hw2
        have hnew : (acc || ok) = (b || (z.take (j + 1)).any fun v => at0 (flood U V N.length [d.a]) v) := by
          rw [qX hx, List.any_append, hacc, hw1]; simp [Bool.or_assoc]
        have hWl : (W.map iv).length = W.length := by simp
        repeat (first | ((with_reducible refine zI ?_); refine zH rfl ?_) | ((with_reducible refine zE ?_); refine zD rfl ?_) | ((with_reducible refine zK ?_); refine zG tbOk rfl rfl rfl rfl ?_) | ((with_reducible refine zO ?_); (first | refine zL tbOk rfl rfl rfl rfl rfl ?_ | refine zk tbOk rfl rfl rfl rfl (Nat.le_of_ble_eq_true rfl) ?_ | refine zm tbOk rfl rfl rfl ?_)) | ((with_reducible refine zW ?_); refine zb tbOk rfl rfl rfl rfl (by assumption) ?_)  | refine zJ ?_ | refine zB rfl ?_ | with_reducible (first | refine zC ?_ | refine zF ?_ | refine zU ?_ | refine zN ?_) | ((with_reducible refine zA ?_ ?_); kernel_rfl))
        refine zl (hw) (by repeat' (first | exact trivial | exact Ren.v _ | exact Ren.sl _ _ | refine zn ?_ | refine ⟨?_, ?_⟩)) (by repeat' (first | exact trivial | exact RenB.v _ | exact RenB.sl _ _ | refine yM ?_ | refine ⟨?_, ?_⟩)) ?_
        repeat (first | ((with_reducible refine zI ?_); refine zH rfl ?_) | ((with_reducible refine zE ?_); refine zD rfl ?_) | ((with_reducible refine jP ?_); refine jN rfl rfl ?_) | ((with_reducible refine zP ?_); refine zS rfl rfl rfl ?_)  | refine zJ ?_ | refine zB rfl ?_ | refine zt rfl rfl (by first | rfl | assumption) ?_ | with_reducible (first | refine zC ?_ | refine zF ?_) | ((with_reducible refine zA ?_ ?_); kernel_rfl))
        cases ok with
        | false =>
          rw [Bool.or_false] at hnew
          repeat (first | ((with_reducible refine zI ?_); refine zH rfl ?_) | ((with_reducible refine zZ ?_); refine zi rfl (by first | rfl | assumption) rfl ?_)  | refine zJ ?_ | refine zB rfl ?_ | refine yH rfl rfl (by first | rfl | assumption) ?_ | refine zt rfl rfl (by first | rfl | assumption) ?_ | with_reducible (first | refine zC ?_ | refine zN ?_) | ((with_reducible refine zA ?_ ?_); kernel_rfl) | refine zy rfl (by first | rfl | assumption) ?_)
          cases acc with
          | true =>
            repeat (first | ((with_reducible refine zI ?_); refine zH rfl ?_) | ((with_reducible refine zE ?_); refine zD rfl ?_) | ((with_reducible refine zZ ?_); refine zh rfl (by first | rfl | assumption) rfl ?_) | ((with_reducible refine zP ?_); refine zY rfl rfl (by omega) ?_)  | refine zJ ?_ | refine zB rfl ?_ | refine yF rfl rfl (by first | rfl | assumption) ?_ | with_reducible (first | refine zC ?_ | refine zd ?_) | ((with_reducible refine zA ?_ ?_); kernel_rfl))
            exact ⟨(j + 1, true), ⟨hltj, hnew⟩, by show z.length - (j + 1) < z.length - j; omega, ⟨rfl, rfl, rfl, rfl, rfl, rfl, rfl, rfl, rfl, rfl, rfl, rfl, rfl, trivial⟩, ⟨rfl, rfl, trivial⟩⟩
          | false =>
            repeat (first | ((with_reducible refine zI ?_); refine zH rfl ?_) | ((with_reducible refine zE ?_); refine zD rfl ?_) | ((with_reducible refine zZ ?_); refine zi rfl (by first | rfl | assumption) rfl ?_) | ((with_reducible refine zP ?_); refine zY rfl rfl (by omega) ?_)  | refine zJ ?_ | refine zB rfl ?_ | refine zt rfl rfl (by first | rfl | assumption) ?_ | with_reducible (first | refine zC ?_ | refine zd ?_) | ((with_reducible refine zA ?_ ?_); kernel_rfl))
            exact ⟨(j + 1, false), ⟨hltj, hnew⟩, by show z.length - (j + 1) < z.length - j; omega, ⟨rfl, rfl, rfl, rfl, rfl, rfl, rfl, rfl, rfl, rfl, rfl, rfl, rfl, trivial⟩, ⟨rfl, rfl, trivial⟩⟩
        | true =>
          have hsh := hw2 rfl
          have bsh : decide (((W.map iv).length : Int) ≥ ((N.map Nd.av).length : Int)) = false := decide_eq_false (by rw [hWl, hnl]; omega)
          rw [Bool.or_true] at hnew
          repeat (first | ((with_reducible refine zI ?_); refine zH rfl ?_) | ((with_reducible refine zK ?_); refine zG tbOk rfl rfl rfl rfl ?_) | ((with_reducible refine zO ?_); refine zL tbOk rfl rfl rfl rfl rfl ?_) | ((with_reducible refine zZ ?_); (first | refine zh rfl (by first | rfl | assumption) rfl ?_ | refine zi rfl (by first | rfl | assumption) rfl ?_)) | ((with_reducible refine zp ?_); refine yU tbOk rfl rfl ?_) | ((with_reducible refine zP ?_); refine zS rfl rfl rfl ?_)  | refine zJ ?_ | refine zB rfl ?_ | refine zq rfl rfl (by first | rfl | assumption) ?_ | refine zt rfl rfl (by first | rfl | assumption) ?_ | with_reducible (first | refine zC ?_ | refine zN ?_) | ((with_reducible refine zA ?_ ?_); kernel_rfl) | refine zy rfl (by first | rfl | assumption) ?_)
          cases acc with
          | true =>
            repeat (first | ((with_reducible refine zI ?_); refine zH rfl ?_) | ((with_reducible refine zE ?_); refine zD rfl ?_) | ((with_reducible refine zZ ?_); refine zh rfl (by first | rfl | assumption) rfl ?_) | ((with_reducible refine zP ?_); refine zY rfl rfl (by omega) ?_)  | refine zJ ?_ | refine zB rfl ?_ | refine yF rfl rfl (by first | rfl | assumption) ?_ | with_reducible (first | refine zC ?_ | refine zd ?_) | ((with_reducible refine zA ?_ ?_); kernel_rfl))
            exact ⟨(j + 1, true), ⟨hltj, hnew⟩, by show z.length - (j + 1) < z.length - j; omega, ⟨rfl, rfl, rfl, rfl, rfl, rfl, rfl, rfl, rfl, rfl, rfl, rfl, rfl, trivial⟩, ⟨rfl, rfl, trivial⟩⟩
          | false =>
            repeat (first | ((with_reducible refine zI ?_); refine zH rfl ?_) | ((with_reducible refine zE ?_); refine zD rfl ?_) | ((with_reducible refine zZ ?_); refine zi rfl (by first | rfl | assumption) rfl ?_) | ((with_reducible refine zP ?_); refine zY rfl rfl (by omega) ?_)  | refine zJ ?_ | refine zB rfl ?_ | refine zt rfl rfl (by first | rfl | assumption) ?_ | with_reducible (first | refine zC ?_ | refine zd ?_) | ((with_reducible refine zA ?_ ?_); kernel_rfl))
            exact ⟨(j + 1, true), ⟨hltj, hnew⟩, by show z.length - (j + 1) < z.length - j; omega, ⟨rfl, rfl, rfl, rfl, rfl, rfl, rfl, rfl, rfl, rfl, rfl, rfl, rfl, trivial⟩, ⟨rfl, rfl, trivial⟩⟩
      · have hge : ¬ j < z.length := by simpa using h
        rw [List.take_of_length_le (by omega)] at hacc
        have hacc : acc = (b || gR U V N.length z d) := hacc
        rw [← hacc] at hf
        repeat (first | ((with_reducible refine zI ?_); refine zH rfl ?_) | ((with_reducible refine zP ?_); refine zY rfl rfl (by omega) ?_)  | refine zJ ?_ | refine zB rfl ?_ | with_reducible (first | refine zC ?_ | refine ze ?_ | refine zd ?_ | refine zr ?_) | ((with_reducible refine za ?_ ?_); rfl) | ((with_reducible refine zA ?_ ?_); kernel_rfl))
        exact ⟨(i + 1, acc), ⟨hlt, hf⟩, by show V.length - (i + 1) < V.length - i; omega, ⟨rfl, rfl, rfl, rfl, rfl, rfl, rfl, rfl, rfl, trivial⟩, ⟨rfl, trivial⟩⟩
    · have b5 : (d.k != 5) = true := by simpa using k5
      by_cases k6 : d.k = 6
      · have b6 : (d.k != 6) = false := by simpa using k6
        repeat (first | ((with_reducible refine zI ?_); refine zH rfl ?_) | ((with_reducible refine zK ?_); refine zG tbOk rfl rfl rfl rfl ?_) | ((with_reducible refine zO ?_); refine zL tbOk rfl rfl rfl rfl rfl ?_) | ((with_reducible refine zP ?_); refine zS rfl rfl rfl ?_)  | refine zq rfl rfl (by first | rfl | assumption) ?_ | refine zt rfl rfl (by first | rfl | assumption) ?_  )
        refine zl (has_A g i hgm) (by repeat' (first | exact trivial | exact Ren.v _ | exact Ren.sl _ _ | refine ⟨?_, ?_⟩)) (by repeat' exact RenB.v _) ?_
        cases hgi : hasI g i with
        | true =>
          have el : ¬ jd U i d = true := by unfold jd; rw [hUi i, hgi]; simp [k5]
          rw [if_neg el] at hf
          repeat (first | ((with_reducible refine zI ?_); refine zH rfl ?_) | ((with_reducible refine zZ ?_); (first | refine zh rfl (by first | rfl | assumption) rfl ?_ | refine zi rfl (by first | rfl | assumption) rfl ?_)) | ((with_reducible refine zP ?_); refine zY rfl rfl (by omega) ?_)  | refine zJ ?_ | refine zB rfl ?_ | refine zq rfl rfl (by first | rfl | assumption) ?_ | with_reducible (first | refine zC ?_ | refine ze ?_ | refine zr ?_) | ((with_reducible refine za ?_ ?_); rfl) | ((with_reducible refine zA ?_ ?_); kernel_rfl) | refine yJ rfl (by first | rfl | assumption) ?_)
          exact ⟨(i + 1, b), ⟨hlt, hf⟩, by show V.length - (i + 1) < V.length - i; omega, ⟨rfl, rfl, rfl, rfl, rfl, rfl, rfl, rfl, rfl, trivial⟩, ⟨rfl, trivial⟩⟩
        | false =>
          have el : jd U i d = true := by unfold jd; rw [hUi i, hgi]; simp [k6]
          rw [if_pos el] at hf
          repeat (first | ((with_reducible refine zI ?_); refine zH rfl ?_) | ((with_reducible refine zZ ?_); (first | refine zh rfl (by first | rfl | assumption) rfl ?_ | refine zi rfl (by first | rfl | assumption) rfl ?_)) | ((with_reducible refine zp ?_); refine yU tbOk rfl rfl ?_)  | refine zJ ?_ | refine zB rfl ?_ | refine zq rfl rfl (by first | rfl | assumption) ?_ | with_reducible (first | refine zC ?_ | refine zF ?_ | refine zU ?_ | refine zN ?_) | ((with_reducible refine zA ?_ ?_); kernel_rfl) | refine zy rfl (by first | rfl | assumption) ?_)
          refine yL (ι := Nat × Bool) (fun j => j.1 ≤ z.length ∧ j.2 = (b || (z.take j.1).any fun v => at0 (flood U V N.length [d.a]) v)) (fun j => z.length - j.1) (fun v j => [(4, .ptr 4 (v 4) 0), (6, .sl 1 (z.map iv)), (7, .sl 1 (g.map iv)), (9, .v (.bool is)), (11, .sl 1 (bsv us)), (13, .v (.bool j.2)), (15, .ptr 15 (v 15) 0), (75, .sl 5 (V.map Dv.av)), (76, .v (.int .i64 (V.map Dv.av).length)), (77, .v (.int .i64 (i : Nat))), (95, .sl 1 (z.map iv)), (96, .v (.int .i64 (z.map iv).length)), (97, .v (.int .i64 (j.1 : Nat)))]) (fun v j => [(4, .box [.sl 3 (N.map Nd.av), .sl 5 (V.map Dv.av)]), (15, .box [.v (.string d.n), .v (.int .i64 d.k), .v (.int .i64 d.a), .v (.int .i64 d.b), .v (.int .i64 d.co)])]) ?_ ?_
          · exact ⟨(0, b), ⟨Nat.zero_le _, by simp⟩, trivial, ⟨rfl, rfl, rfl, rfl, rfl, rfl, rfl, rfl, rfl, rfl, rfl, rfl, rfl, trivial⟩, ⟨rfl, rfl, trivial⟩⟩
          clear v h
          rintro v ⟨j, acc⟩ ⟨hj, hacc⟩
          dsimp only at hj hacc ⊢
          repeat (first | ((with_reducible refine zP ?_); refine zS rfl rfl rfl ?_)  | refine zJ ?_ | refine zB rfl ?_ | with_reducible (first | refine zC ?_ | refine zF ?_) | ((with_reducible refine zA ?_ ?_); kernel_rfl))
          refine zX rfl (fun h => ?_) (fun h => ?_)
          · have hltj : j < z.length := by simpa using h
            obtain ⟨x, hx⟩ := zT hltj
            have hyx := mM hx
            have hxr := hzr x (List.mem_of_getElem? hx)
            obtain ⟨xn, rfl⟩ := Int.eq_ofNat_of_zero_le hxr.1
            have hw := way_A (G := X.G) N V us U xn an hG T.nn T.vn T.e T.ends hus husl T.n T.v (by omega) (by omega)
            obtain ⟨hw1, hw2⟩ := nF (U := U) (V := V) (n := N.length) (x := xn) (y := an) T.ends (by omega) (by omega)
            rw [← han] at hw hw1 hw2
            obtain ⟨⟨W, ok⟩, hWq⟩ : ∃ q, q = wayP U V N.length xn d.a := ⟨_, rfl⟩
            rw [← hWq] at hw hw1 hw2
            dsimp only at hw hw1 hw2
            have hnew : (acc || ok) = (b || (z.take (j + 1)).any fun v => at0 (flood U V N.length [d.a]) v) := by
              rw [qX hx, List.any_append, hacc, hw1]; simp [Bool.or_assoc]
            have hWl : (W.map iv).length = W.length := by simp
            repeat (first | ((with_reducible refine zI ?_); refine zH rfl ?_) | ((with_reducible refine zE ?_); refine zD rfl ?_) | ((with_reducible refine zK ?_); refine zG tbOk rfl rfl rfl rfl ?_) | ((with_reducible refine zO ?_); (first | refine zL tbOk rfl rfl rfl rfl rfl ?_ | refine zk tbOk rfl rfl rfl rfl (Nat.le_of_ble_eq_true rfl) ?_ | refine zm tbOk rfl rfl rfl ?_)) | ((with_reducible refine zW ?_); refine zb tbOk rfl rfl rfl rfl (by assumption) ?_)  | refine zJ ?_ | refine zB rfl ?_ | with_reducible (first | refine zC ?_ | refine zF ?_ | refine zU ?_ | refine zN ?_) | ((with_reducible refine zA ?_ ?_); kernel_rfl))
            refine zl (hw) (by repeat' (first | exact trivial | exact Ren.v _ | exact Ren.sl _ _ | refine zn ?_ | refine ⟨?_, ?_⟩)) (by repeat' (first | exact trivial | exact RenB.v _ | exact RenB.sl _ _ | refine yM ?_ | refine ⟨?_, ?_⟩)) ?_
            repeat (first | ((with_reducible refine zI ?_); refine zH rfl ?_) | ((with_reducible refine zE ?_); refine zD rfl ?_) | ((with_reducible refine jP ?_); refine jN rfl rfl ?_) | ((with_reducible refine zP ?_); refine zS rfl rfl rfl ?_)  | refine zJ ?_ | refine zB rfl ?_ | refine zt rfl rfl (by first | rfl | assumption) ?_ | with_reducible (first | refine zC ?_ | refine zF ?_) | ((with_reducible refine zA ?_ ?_); kernel_rfl))
            cases ok with
            | false =>
              rw [Bool.or_false] at hnew
              repeat (first | ((with_reducible refine zI ?_); refine zH rfl ?_) | ((with_reducible refine zZ ?_); refine zi rfl (by first | rfl | assumption) rfl ?_)  | refine zJ ?_ | refine zB rfl ?_ | refine yH rfl rfl (by first | rfl | assumption) ?_ | refine zt rfl rfl (by first | rfl | assumption) ?_ | with_reducible (first | refine zC ?_ | refine zN ?_) | ((with_reducible refine zA ?_ ?_); kernel_rfl) | refine zy rfl (by first | rfl | assumption) ?_)
              cases acc with
              | true =>
                repeat (first | ((with_reducible refine zI ?_); refine zH rfl ?_) | ((with_reducible refine zE ?_); refine zD rfl ?_) | ((with_reducible refine zZ ?_); refine zh rfl (by first | rfl | assumption) rfl ?_) | ((with_reducible refine zP ?_); refine zY rfl rfl (by omega) ?_)  | refine zJ ?_ | refine zB rfl ?_ | refine yF rfl rfl (by first | rfl | assumption) ?_ | with_reducible (first | refine zC ?_ | refine zd ?_) | ((with_reducible refine zA ?_ ?_); kernel_rfl))
                exact ⟨(j + 1, true), ⟨hltj, hnew⟩, by show z.length - (j + 1) < z.length - j; omega, ⟨rfl, rfl, rfl, rfl, rfl, rfl, rfl, rfl, rfl, rfl, rfl, rfl, rfl, trivial⟩, ⟨rfl, rfl, trivial⟩⟩
              | false =>
                repeat (first | ((with_reducible refine zI ?_); refine zH rfl ?_) | ((with_reducible refine zE ?_); refine zD rfl ?_) | ((with_reducible refine zZ ?_); refine zi rfl (by first | rfl | assumption) rfl ?_) | ((with_reducible refine zP ?_); refine zY rfl rfl (by omega) ?_)  | refine zJ ?_ | refine zB rfl ?_ | refine zt rfl rfl (by first | rfl | assumption) ?_ | with_reducible (first | refine zC ?_ | refine zd ?_) | ((with_reducible refine zA ?_ ?_); kernel_rfl))
                exact ⟨(j + 1, false), ⟨hltj, hnew⟩, by show z.length - (j + 1) < z.length - j; omega, ⟨rfl, rfl, rfl, rfl, rfl, rfl, rfl, rfl, rfl, rfl, rfl, rfl, rfl, trivial⟩, ⟨rfl, rfl, trivial⟩⟩
            | true =>
              have hsh := hw2 rfl
              have bsh : decide (((W.map iv).length : Int) ≥ ((N.map Nd.av).length : Int)) = false := decide_eq_false (by rw [hWl, hnl]; omega)
              rw [Bool.or_true] at hnew
              repeat (first | ((with_reducible refine zI ?_); refine zH rfl ?_) | ((with_reducible refine zK ?_); refine zG tbOk rfl rfl rfl rfl ?_) | ((with_reducible refine zO ?_); refine zL tbOk rfl rfl rfl rfl rfl ?_) | ((with_reducible refine zZ ?_); (first | refine zh rfl (by first | rfl | assumption) rfl ?_ | refine zi rfl (by first | rfl | assumption) rfl ?_)) | ((with_reducible refine zp ?_); refine yU tbOk rfl rfl ?_) | ((with_reducible refine zP ?_); refine zS rfl rfl rfl ?_)  | refine zJ ?_ | refine zB rfl ?_ | refine zq rfl rfl (by first | rfl | assumption) ?_ | refine zt rfl rfl (by first | rfl | assumption) ?_ | with_reducible (first | refine zC ?_ | refine zN ?_) | ((with_reducible refine zA ?_ ?_); kernel_rfl) | refine zy rfl (by first | rfl | assumption) ?_)
              cases acc with
              | true =>
                repeat (first | ((with_reducible refine zI ?_); refine zH rfl ?_) | ((with_reducible refine zE ?_); refine zD rfl ?_) | ((with_reducible refine zZ ?_); refine zh rfl (by first | rfl | assumption) rfl ?_) | ((with_reducible refine zP ?_); refine zY rfl rfl (by omega) ?_)  | refine zJ ?_ | refine zB rfl ?_ | refine yF rfl rfl (by first | rfl | assumption) ?_ | with_reducible (first | refine zC ?_ | refine zd ?_) | ((with_reducible refine zA ?_ ?_); kernel_rfl))
                exact ⟨(j + 1, true), ⟨hltj, hnew⟩, by show z.length - (j + 1) < z.length - j; omega, ⟨rfl, rfl, rfl, rfl, rfl, rfl, rfl, rfl, rfl, rfl, rfl, rfl, rfl, trivial⟩, ⟨rfl, rfl, trivial⟩⟩
              | false =>
                repeat (first | ((with_reducible refine zI ?_); refine zH rfl ?_) | ((with_reducible refine zE ?_); refine zD rfl ?_) | ((with_reducible refine zZ ?_); refine zi rfl (by first | rfl | assumption) rfl ?_) | ((with_reducible refine zP ?_); refine zY rfl rfl (by omega) ?_)  | refine zJ ?_ | refine zB rfl ?_ | refine zt rfl rfl (by first | rfl | assumption) ?_ | with_reducible (first | refine zC ?_ | refine zd ?_) | ((with_reducible refine zA ?_ ?_); kernel_rfl))
                exact ⟨(j + 1, true), ⟨hltj, hnew⟩, by show z.length - (j + 1) < z.length - j; omega, ⟨rfl, rfl, rfl, rfl, rfl, rfl, rfl, rfl, rfl, rfl, rfl, rfl, rfl, trivial⟩, ⟨rfl, rfl, trivial⟩⟩
          · have hge : ¬ j < z.length := by simpa using h
            rw [List.take_of_length_le (by omega)] at hacc
            have hacc : acc = (b || gR U V N.length z d) := hacc
            rw [← hacc] at hf
            repeat (first | ((with_reducible refine zI ?_); refine zH rfl ?_) | ((with_reducible refine zP ?_); refine zY rfl rfl (by omega) ?_)  | refine zJ ?_ | refine zB rfl ?_ | with_reducible (first | refine zC ?_ | refine ze ?_ | refine zd ?_ | refine zr ?_) | ((with_reducible refine za ?_ ?_); rfl) | ((with_reducible refine zA ?_ ?_); kernel_rfl))
            exact ⟨(i + 1, acc), ⟨hlt, hf⟩, by show V.length - (i + 1) < V.length - i; omega, ⟨rfl, rfl, rfl, rfl, rfl, rfl, rfl, rfl, rfl, trivial⟩, ⟨rfl, trivial⟩⟩
      · have b6 : (d.k != 6) = true := by simpa using k6
        have el : ¬ jd U i d = true := by unfold jd; simp [k5, k6]
        rw [if_neg el] at hf
        repeat (first | ((with_reducible refine zI ?_); refine zH rfl ?_) | ((with_reducible refine zK ?_); refine zG tbOk rfl rfl rfl rfl ?_) | ((with_reducible refine zO ?_); refine zL tbOk rfl rfl rfl rfl rfl ?_) | ((with_reducible refine zZ ?_); refine zh rfl (by first | rfl | assumption) rfl ?_) | ((with_reducible refine zP ?_); (first | refine zY rfl rfl (by omega) ?_ | refine zS rfl rfl rfl ?_))  | refine zJ ?_ | refine zB rfl ?_ | refine zq rfl rfl (by first | rfl | assumption) ?_ | refine yF rfl rfl (by first | rfl | assumption) ?_ | with_reducible (first | refine zC ?_ | refine ze ?_ | refine zr ?_) | ((with_reducible refine za ?_ ?_); rfl) | ((with_reducible refine zA ?_ ?_); kernel_rfl) | refine yJ rfl (by first | rfl | assumption) ?_)
        exact ⟨(i + 1, b), ⟨hlt, hf⟩, by show V.length - (i + 1) < V.length - i; omega, ⟨rfl, rfl, rfl, rfl, rfl, rfl, rfl, rfl, rfl, trivial⟩, ⟨rfl, trivial⟩⟩
  · have hge : ¬ i < V.length := by simpa using h
    rw [List.drop_of_length_le (by omega)] at hf
    have hf : b = jr U V N.length z 0 V false := hf
    rw [← hf] at hlaw
    have bne : (is != b) = true := by rw [hlaw]; cases b <;> rfl
    repeat (first | ((with_reducible refine zI ?_); refine zH rfl ?_) | ((with_reducible refine zP ?_); refine vY (by exact Tryz.underlying4) rfl rfl ?_)  | refine zB rfl ?_ | refine zq rfl rfl (by first | rfl | assumption) ?_ | with_reducible (first | refine zC ?_ | refine ze ?_ | refine zF ?_ | refine zr ?_) | ((with_reducible refine za ?_ ?_); rfl) | ((with_reducible refine zA ?_ ?_); kernel_rfl))
    refine zl (wF hG0 hG1) (by repeat' exact trivial) (by repeat' exact RenB.v _) ?_
    repeat (first | ((with_reducible refine zE ?_); refine zD rfl ?_) | ((with_reducible refine zZ ?_); refine zh rfl (by first | rfl | assumption) rfl ?_)  | refine zJ ?_ | refine zB rfl ?_ | with_reducible (first | refine zC ?_ | refine zQ ?_) )
    refine zj (by first | exact .inr rfl | exact .inl rfl) rfl rfl ?_
    rfl
end Go.Proofs.YtnafokinifbfhaaGreatDoor
