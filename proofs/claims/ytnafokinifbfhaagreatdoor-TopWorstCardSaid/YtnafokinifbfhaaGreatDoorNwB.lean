/- permitofficemake.Network, by the abstract machine: it makes the network of the plain functions; conditions: none. -/
import Derived.Test.YtnafokinifbfhaaGreatDoorNwA
import Derived.Test.YtnafokinifbfhaaGreatDoorAbsW
set_option linter.unusedVariables false
set_option linter.unusedSimpArgs false
namespace Go.Proofs.YtnafokinifbfhaaGreatDoor
open Go Go.RowKit
set_option maxRecDepth 10000
variable {G : Nat → Option (List Value)}
set_option maxHeartbeats 16000000 in
theorem network_A (D : Dk) (nodes : Int) (m : Nat) (hD : DkOk D) (h1 : 1 ≤ nodes) (h2 : nodes ≤ 30) (hm : m ≤ 60) :
    zl Tryz.prog G 9 [.ptr (refB + 0) 0 0, .v (.int .i64 nodes), .v (.int .i64 (m : Nat))] [D.cells] (.ag [.sl 3 ((net1 D nodes).1.map Nd.av), .sl 5 ((net5 D nodes m).1.map Dv.av)]) [(net5 D nodes m).2.cells] := by
  have hk := cG D h1 (by omega)
  have hK : netK D nodes ≤ 32 := by
    have := D.in_ (n := max 1 (nodes - 1)) (by omega) (by omega)
    omega
  refine zY tbOk (zM Tryz.func9 (by kernel_rfl) rfl) Tryz.func9 rfl _ Tryz.ntmps9 (Nat.le_of_ble_eq_true rfl) fun X hX => ?_
  subst hX
  repeat (first | ((with_reducible refine zI ?_); refine zJ rfl ?_) | ((with_reducible refine zQ ?_); refine zN tbOk rfl rfl rfl rfl rfl ?_) | ((with_reducible refine yw ?_); refine yu tbOk rfl rfl ?_) | ((with_reducible refine yz ?_); refine jA rfl rfl rfl ?_) | ((with_reducible refine zP ?_); refine jd rfl rfl (by omega) ?_)  | refine zK ?_ | refine zB rfl ?_ | with_reducible (first | refine zG ?_ | refine zH ?_) | ((with_reducible refine zA ?_ ?_); kernel_rfl))
  (with_reducible refine yB ?_); refine x_max rfl rfl ?_
  repeat (first   | refine zB rfl ?_  )
  refine yg (ss := [(refB + 0, 0)]) (jS D (max 1 (nodes - 1)) hD (by omega) (by omega)) (by repeat' (first | exact trivial | exact Ren.v _ | exact Ren.ptr _ _ _ _ rfl | refine ⟨?_, ?_⟩)) (by simp) (in1 rfl rfl) rfl (yx rfl) (by repeat' exact RenB.v _) ?_
  repeat (first | ((with_reducible refine zE ?_); refine zF rfl ?_) | ((with_reducible refine zP ?_); refine zX rfl rfl (by omega) ?_)  | refine zK ?_ | refine zB rfl ?_ | with_reducible (first | refine zG ?_ | refine zH ?_ | refine zW ?_) | ((with_reducible refine zA ?_ ?_); kernel_rfl))
  refine nR (s := 48) 67 3 [] [(7, [.own 48 1, .v (.slice none 0 0)])] rfl trivial ⟨⟨_, _, rfl, .hit (.same .nil)⟩, trivial⟩ ?_
  refine ym (ι := Nat) (fun v i => v (refB + 0) = 0 ∧ i ≤ netK D nodes) (fun i => netK D nodes - i) (fun v i => [(3, .ptr 3 (v 3) 0), (5, .ptr 5 (v 5) 0), (6, .ptr 6 (v 6) 0), (7, .ptr 7 (v 7) 0), (8, .v (.int .i64 (netK D nodes : Nat))), (9, .v (.int .i64 (i : Nat)))]) (fun v i => [(refB + 0, .box (yO D.next i).2.cells), (3, .box [.ptr (refB + 0) (v (refB + 0)) 0]), (5, .box [.v (.int .i64 (m : Nat))]), (6, .box [.v (.slice none 0 0), .v (.slice none 0 0)]), (7, .box [.own 48 (v 48), .v (.slice none 0 0)]), (48, .buf 67 3 ((yO D.next i).1.map Nd.av))]) ?_ ?_
  · exact ⟨0, ⟨rfl, Nat.zero_le _⟩, trivial, ⟨rfl, rfl, rfl, rfl, congrArg (fun z : Int => AV.v (.int .i64 z)) hk.2.2.symm, rfl, trivial⟩, ⟨rfl, rfl, rfl, rfl, rfl, rfl, trivial⟩⟩
  rintro v i ⟨hv0, hi⟩
  have hE := iR hD.next i
  have hLl := aK D.next i
  repeat (first | ((with_reducible refine zI ?_); refine zJ rfl ?_) | ((with_reducible refine zP ?_); refine zV rfl rfl rfl ?_)  | refine zK ?_ | refine zB rfl ?_ | with_reducible (first | refine zG ?_ | refine zH ?_) | ((with_reducible refine zA ?_ ?_); kernel_rfl))
  refine zh rfl (fun h => ?_) (fun h => ?_)
  · have hlt : i < netK D nodes := by simpa using h
    repeat (first | ((with_reducible refine zI ?_); refine zJ rfl ?_)  | refine zB rfl ?_ | with_reducible (first | refine zG ?_ | refine zH ?_ | refine zW ?_ | refine zR ?_) | ((with_reducible refine zA ?_ ?_); kernel_rfl))
    refine zk (tZ 78 i (by omega)) (by repeat' (first | exact trivial | exact Ren.v _ | refine ⟨?_, ?_⟩)) (by repeat' exact RenB.v _) ?_
    repeat (first | ((with_reducible refine zQ ?_); refine zN tbOk rfl rfl rfl rfl rfl ?_) | ((with_reducible refine zz ?_); refine yN tbOk rfl rfl rfl rfl rfl rfl rfl (Nat.le_of_ble_eq_true rfl) rfl ?_) | ((with_reducible refine yw ?_); refine yu tbOk rfl rfl ?_) | ((with_reducible refine jX ?_); refine jh tbOk rfl rfl rfl rfl rfl ?_)  | refine zK ?_ | refine zB rfl ?_ | with_reducible (first | refine zG ?_ | refine zH ?_) | ((with_reducible refine zA ?_ ?_); kernel_rfl))
    refine yg (ss := [(refB + 0, v (refB + 0))]) (lU (yO D.next i).2 2 hE (by omega) (by omega)) (by repeat' (first | exact trivial | exact Ren.v _ | exact Ren.ptr _ _ _ _ rfl | refine ⟨?_, ?_⟩)) (by simp) (in1 rfl rfl) rfl (yx rfl) (by repeat' exact RenB.v _) ?_
    repeat (first   | refine zK ?_ | with_reducible refine zG ?_ )
    refine zh rfl (fun h => ?_) (fun h => ?_)
    · have h0 : (yO D.next i).2.val 2 = 0 := by simpa using h
      have r5 := (yO D.next i).2.next.in_ (n := 50) (by decide) (by decide)
      have e0 : optD (yO D.next i).2 2 50 = (1 + (yO D.next i).2.next.val 50, (yO D.next i).2.next.next) := by unfold optD; rw [if_pos h0]
      repeat (first | ((with_reducible refine zQ ?_); refine zN tbOk rfl rfl rfl rfl rfl ?_)  | refine zB rfl ?_  | ((with_reducible refine zA ?_ ?_); kernel_rfl))
      refine yg (ss := [(refB + 0, v (refB + 0))]) (jS (yO D.next i).2.next 50 hE.next (by omega) (by omega)) (by repeat' (first | exact trivial | exact Ren.v _ | exact Ren.ptr _ _ _ _ rfl | refine ⟨?_, ?_⟩)) (by simp) (in1 rfl rfl) rfl (yx rfl) (by repeat' exact RenB.v _) ?_
      repeat (first | ((with_reducible refine zO ?_); refine zL tbOk rfl rfl rfl rfl ?_) | ((with_reducible refine zQ ?_); refine zN tbOk rfl rfl rfl rfl rfl ?_) | ((with_reducible refine zz ?_); refine yN tbOk rfl rfl rfl rfl rfl rfl rfl (Nat.le_of_ble_eq_true rfl) rfl ?_) | ((with_reducible refine zP ?_); refine zX rfl rfl (by omega) ?_)  | refine zK ?_ | refine zB rfl ?_ | with_reducible (first | refine zG ?_ | refine zH ?_) | ((with_reducible refine zA ?_ ?_); kernel_rfl))
      refine yg (ss := [(refB + 0, v (refB + 0))]) (lU (yO D.next i).2.next.next 8 hE.next.next (by omega) (by omega)) (by repeat' (first | exact trivial | exact Ren.v _ | exact Ren.ptr _ _ _ _ rfl | refine ⟨?_, ?_⟩)) (by simp) (in1 rfl rfl) rfl (yx rfl) (by repeat' exact RenB.v _) ?_
      repeat (first   | refine zK ?_ | with_reducible refine zG ?_ )
      refine zh rfl (fun h => ?_) (fun h => ?_)
      · have hh : (yO D.next i).2.next.next.val 8 = 0 := by simpa using h
        have r2 := (yO D.next i).2.next.next.next.in_ (n := 2) (by decide) (by decide)
        have eN : dH (yO D.next i).2 i = (⟨nmS 78 i, 1 + (yO D.next i).2.next.val 50, 1 + (yO D.next i).2.next.next.next.val 2⟩, (yO D.next i).2.next.next.next.next) := by unfold dH; rw [e0]; simp only [optD, if_pos hh]
        repeat (first | ((with_reducible refine zQ ?_); refine zN tbOk rfl rfl rfl rfl rfl ?_)  | refine zB rfl ?_  | ((with_reducible refine zA ?_ ?_); kernel_rfl))
        refine yg (ss := [(refB + 0, v (refB + 0))]) (jS (yO D.next i).2.next.next.next 2 hE.next.next.next (by omega) (by omega)) (by repeat' (first | exact trivial | exact Ren.v _ | exact Ren.ptr _ _ _ _ rfl | refine ⟨?_, ?_⟩)) (by simp) (in1 rfl rfl) rfl (yx rfl) (by repeat' exact RenB.v _) ?_
        repeat (first | ((with_reducible refine zO ?_); refine zL tbOk rfl rfl rfl rfl ?_) | ((with_reducible refine zQ ?_); (first | refine zN tbOk rfl rfl rfl rfl rfl ?_ | refine zZ tbOk rfl rfl rfl rfl (Nat.le_of_ble_eq_true rfl) ?_)) | ((with_reducible refine zz ?_); refine yN tbOk rfl rfl rfl rfl rfl rfl rfl (Nat.le_of_ble_eq_true rfl) rfl ?_) | ((with_reducible refine zP ?_); refine zX rfl rfl (by omega) ?_) | ((with_reducible refine yE ?_); refine yD tbOk rfl rfl rfl rfl rfl (by omega) rfl rfl rfl ?_) | refine zK ?_ | refine zB rfl ?_ | with_reducible refine zG ?_ | ((with_reducible refine zA ?_ ?_); kernel_rfl))
        refine yT tbOk rfl rfl rfl rfl rfl (by decide) rfl rfl rfl rfl rfl (fun x hx => by simp at hx; subst hx; rfl) (by simp only [List.length_map, List.length_cons, List.length_nil]; omega) (by simp only [List.length_map, List.length_cons, List.length_nil]; omega) ?_
        repeat (first | ((with_reducible refine zI ?_); refine zJ rfl ?_) | ((with_reducible refine zE ?_); refine zF rfl ?_) | ((with_reducible refine zO ?_); refine zL tbOk rfl rfl rfl rfl ?_) | ((with_reducible refine zz ?_); refine yN tbOk rfl rfl rfl rfl rfl rfl rfl (Nat.le_of_ble_eq_true rfl) rfl ?_) | ((with_reducible refine zP ?_); refine zX rfl rfl (by omega) ?_)  | refine zK ?_ | refine zB rfl ?_ | with_reducible (first | refine zG ?_ | refine ze ?_) | ((with_reducible refine zA ?_ ?_); kernel_rfl))
        exact ⟨i + 1, ⟨hv0, by omega⟩, by omega, ⟨rfl, rfl, rfl, rfl, rfl, rfl, trivial⟩, ⟨qn (by rw [yO, eN]), rfl, rfl, rfl, rfl, jB (by rw [yO, eN, List.map_append]; rfl), trivial⟩⟩
      · have hh : ¬ (yO D.next i).2.next.next.val 8 = 0 := by simpa using h
        have eN : dH (yO D.next i).2 i = (⟨nmS 78 i, 1 + (yO D.next i).2.next.val 50, 0⟩, (yO D.next i).2.next.next.next) := by unfold dH; rw [e0]; simp only [optD, if_neg hh]
        repeat (first | ((with_reducible refine zO ?_); refine zL tbOk rfl rfl rfl rfl ?_) | ((with_reducible refine zQ ?_); (first | refine zN tbOk rfl rfl rfl rfl rfl ?_ | refine zZ tbOk rfl rfl rfl rfl (Nat.le_of_ble_eq_true rfl) ?_)) | ((with_reducible refine yE ?_); refine yD tbOk rfl rfl rfl rfl rfl (by omega) rfl rfl rfl ?_) | refine zB rfl ?_ | with_reducible (first | refine zG ?_ | refine zR ?_) | ((with_reducible refine zA ?_ ?_); kernel_rfl))
        refine yT tbOk rfl rfl rfl rfl rfl (by decide) rfl rfl rfl rfl rfl (fun x hx => by simp at hx; subst hx; rfl) (by simp only [List.length_map, List.length_cons, List.length_nil]; omega) (by simp only [List.length_map, List.length_cons, List.length_nil]; omega) ?_
        repeat (first | ((with_reducible refine zI ?_); refine zJ rfl ?_) | ((with_reducible refine zE ?_); refine zF rfl ?_) | ((with_reducible refine zO ?_); refine zL tbOk rfl rfl rfl rfl ?_) | ((with_reducible refine zz ?_); refine yN tbOk rfl rfl rfl rfl rfl rfl rfl (Nat.le_of_ble_eq_true rfl) rfl ?_) | ((with_reducible refine zP ?_); refine zX rfl rfl (by omega) ?_)  | refine zK ?_ | refine zB rfl ?_ | with_reducible (first | refine zG ?_ | refine ze ?_) | ((with_reducible refine zA ?_ ?_); kernel_rfl))
        exact ⟨i + 1, ⟨hv0, by omega⟩, by omega, ⟨rfl, rfl, rfl, rfl, rfl, rfl, trivial⟩, ⟨qn (by rw [yO, eN]), rfl, rfl, rfl, rfl, jB (by rw [yO, eN, List.map_append]; rfl), trivial⟩⟩
    · have h0 : ¬ (yO D.next i).2.val 2 = 0 := by simpa using h
      have e0 : optD (yO D.next i).2 2 50 = (0, (yO D.next i).2.next) := by unfold optD; rw [if_neg h0]
      repeat (first | ((with_reducible refine zQ ?_); refine zN tbOk rfl rfl rfl rfl rfl ?_)  | refine zB rfl ?_ | with_reducible (first | refine zG ?_ | refine zH ?_ | refine zR ?_) | ((with_reducible refine zA ?_ ?_); kernel_rfl))
      refine yg (ss := [(refB + 0, v (refB + 0))]) (lU (yO D.next i).2.next 8 hE.next (by omega) (by omega)) (by repeat' (first | exact trivial | exact Ren.v _ | exact Ren.ptr _ _ _ _ rfl | refine ⟨?_, ?_⟩)) (by simp) (in1 rfl rfl) rfl (yx rfl) (by repeat' exact RenB.v _) ?_
      repeat (first   | refine zK ?_ | with_reducible refine zG ?_ )
      refine zh rfl (fun h => ?_) (fun h => ?_)
      · have hh : (yO D.next i).2.next.val 8 = 0 := by simpa using h
        have r2 := (yO D.next i).2.next.next.in_ (n := 2) (by decide) (by decide)
        have eN : dH (yO D.next i).2 i = (⟨nmS 78 i, 0, 1 + (yO D.next i).2.next.next.val 2⟩, (yO D.next i).2.next.next.next) := by unfold dH; rw [e0]; simp only [optD, if_pos hh]
        repeat (first | ((with_reducible refine zQ ?_); refine zN tbOk rfl rfl rfl rfl rfl ?_)  | refine zB rfl ?_  | ((with_reducible refine zA ?_ ?_); kernel_rfl))
        refine yg (ss := [(refB + 0, v (refB + 0))]) (jS (yO D.next i).2.next.next 2 hE.next.next (by omega) (by omega)) (by repeat' (first | exact trivial | exact Ren.v _ | exact Ren.ptr _ _ _ _ rfl | refine ⟨?_, ?_⟩)) (by simp) (in1 rfl rfl) rfl (yx rfl) (by repeat' exact RenB.v _) ?_
        repeat (first | ((with_reducible refine zO ?_); refine zL tbOk rfl rfl rfl rfl ?_) | ((with_reducible refine zQ ?_); (first | refine zN tbOk rfl rfl rfl rfl rfl ?_ | refine zZ tbOk rfl rfl rfl rfl (Nat.le_of_ble_eq_true rfl) ?_)) | ((with_reducible refine zz ?_); refine yN tbOk rfl rfl rfl rfl rfl rfl rfl (Nat.le_of_ble_eq_true rfl) rfl ?_) | ((with_reducible refine zP ?_); refine zX rfl rfl (by omega) ?_) | ((with_reducible refine yE ?_); refine yD tbOk rfl rfl rfl rfl rfl (by omega) rfl rfl rfl ?_) | refine zK ?_ | refine zB rfl ?_ | with_reducible refine zG ?_ | ((with_reducible refine zA ?_ ?_); kernel_rfl))
        refine yT tbOk rfl rfl rfl rfl rfl (by decide) rfl rfl rfl rfl rfl (fun x hx => by simp at hx; subst hx; rfl) (by simp only [List.length_map, List.length_cons, List.length_nil]; omega) (by simp only [List.length_map, List.length_cons, List.length_nil]; omega) ?_
        repeat (first | ((with_reducible refine zI ?_); refine zJ rfl ?_) | ((with_reducible refine zE ?_); refine zF rfl ?_) | ((with_reducible refine zO ?_); refine zL tbOk rfl rfl rfl rfl ?_) | ((with_reducible refine zz ?_); refine yN tbOk rfl rfl rfl rfl rfl rfl rfl (Nat.le_of_ble_eq_true rfl) rfl ?_) | ((with_reducible refine zP ?_); refine zX rfl rfl (by omega) ?_)  | refine zK ?_ | refine zB rfl ?_ | with_reducible (first | refine zG ?_ | refine ze ?_) | ((with_reducible refine zA ?_ ?_); kernel_rfl))
        exact ⟨i + 1, ⟨hv0, by omega⟩, by omega, ⟨rfl, rfl, rfl, rfl, rfl, rfl, trivial⟩, ⟨qn (by rw [yO, eN]), rfl, rfl, rfl, rfl, jB (by rw [yO, eN, List.map_append]; rfl), trivial⟩⟩
      · have hh : ¬ (yO D.next i).2.next.val 8 = 0 := by simpa using h
        have eN : dH (yO D.next i).2 i = (⟨nmS 78 i, 0, 0⟩, (yO D.next i).2.next.next) := by unfold dH; rw [e0]; simp only [optD, if_neg hh]
        repeat (first | ((with_reducible refine zO ?_); refine zL tbOk rfl rfl rfl rfl ?_) | ((with_reducible refine zQ ?_); (first | refine zN tbOk rfl rfl rfl rfl rfl ?_ | refine zZ tbOk rfl rfl rfl rfl (Nat.le_of_ble_eq_true rfl) ?_)) | ((with_reducible refine yE ?_); refine yD tbOk rfl rfl rfl rfl rfl (by omega) rfl rfl rfl ?_) | refine zB rfl ?_ | with_reducible (first | refine zG ?_ | refine zR ?_) | ((with_reducible refine zA ?_ ?_); kernel_rfl))
        refine yT tbOk rfl rfl rfl rfl rfl (by decide) rfl rfl rfl rfl rfl (fun x hx => by simp at hx; subst hx; rfl) (by simp only [List.length_map, List.length_cons, List.length_nil]; omega) (by simp only [List.length_map, List.length_cons, List.length_nil]; omega) ?_
        repeat (first | ((with_reducible refine zI ?_); refine zJ rfl ?_) | ((with_reducible refine zE ?_); refine zF rfl ?_) | ((with_reducible refine zO ?_); refine zL tbOk rfl rfl rfl rfl ?_) | ((with_reducible refine zz ?_); refine yN tbOk rfl rfl rfl rfl rfl rfl rfl (Nat.le_of_ble_eq_true rfl) rfl ?_) | ((with_reducible refine zP ?_); refine zX rfl rfl (by omega) ?_)  | refine zK ?_ | refine zB rfl ?_ | with_reducible (first | refine zG ?_ | refine ze ?_) | ((with_reducible refine zA ?_ ?_); kernel_rfl))
        exact ⟨i + 1, ⟨hv0, by omega⟩, by omega, ⟨rfl, rfl, rfl, rfl, rfl, rfl, trivial⟩, ⟨qn (by rw [yO, eN]), rfl, rfl, rfl, rfl, jB (by rw [yO, eN, List.map_append]; rfl), trivial⟩⟩
  obtain rfl : i = netK D nodes := by simp at h; omega
  refine bC (s := 48) [] [(7, [.sl 3 ((net1 D nodes).1.map Nd.av), .v (.slice none 0 0)])] rfl trivial ⟨⟨_, _, rfl, .hit (.same .nil)⟩, trivial⟩ ?_
  refine nR (s := 900) 56 5 [] [(7, [.sl 3 ((net1 D nodes).1.map Nd.av), .own 900 (v 900 + 1)])] rfl trivial ⟨⟨_, _, rfl, .same (.hit .nil)⟩, trivial⟩ ?_
  obtain ⟨NN, hNN⟩ : ∃ NN, NN = (net1 D nodes).1.map Nd.av := ⟨_, rfl⟩
  rw [← hNN]
  have ok2 := xE hD m h1 (by omega)
  repeat (first   | refine zB rfl ?_ | with_reducible (first | refine zG ?_ | refine zd ?_ | refine zH ?_ | refine zw ?_) | ((with_reducible refine zb ?_ ?_); rfl) | ((with_reducible refine zA ?_ ?_); kernel_rfl))
  with_reducible refine aO ?_
  refine tA (.ptr 7 (v 7) 0) (.ptr 5 (v 5) 0) (.ptr 3 (v 3) 0) rfl rfl rfl ?_
  repeat (first | ((with_reducible refine zI ?_); refine zJ rfl ?_) | ((with_reducible refine zE ?_); refine zF rfl ?_)  | refine zK ?_ | refine zB rfl ?_ | with_reducible (first | refine zG ?_ | refine zH ?_) | ((with_reducible refine zA ?_ ?_); kernel_rfl))
  refine aJ (ss := [(7, v 7), (5, v 5), (3, v 3), (refB + 0, v (refB + 0)), (900, v 900 + 1)]) (ss' := [(7, v 7), (5, v 5), (3, v 3), (refB + 0, v (refB + 0)), (900, v 900 + 1 + 1)]) (cs' := [.box [.sl 3 NN, .own 900 (v 900 + 1 + 1)], .box [.v (.int .i64 (m : Nat))], .box [.ptr (refB + 0) (v (refB + 0)) 0], .box (net2 D nodes m).2.cells, .buf 56 5 ((net2 D nodes m).1.map Dv.av)]) (y := .tu []) (mW NN m ([], (net1 D nodes).2) 5 0 (-1) (xY hD nodes) hm (Nat.zero_le _) (by decide)) rfl (by repeat' (first | exact trivial | exact Ren.v _ | exact Ren.ptr _ _ _ _ rfl | refine ⟨?_, ?_⟩)) (by simp [refB]) ⟨⟨_, rfl, by repeat' (first | exact trivial | exact Ren.sl _ _ | exact Ren.ownr _ _ _ rfl | refine ⟨?_, ?_⟩)⟩, ⟨_, rfl, by repeat' (first | exact trivial | exact Ren.v _ | refine ⟨?_, ?_⟩)⟩, ⟨_, rfl, by repeat' (first | exact trivial | exact Ren.ptr _ _ _ _ rfl | refine ⟨?_, ?_⟩)⟩, ⟨_, rfl, by repeat' (first | exact trivial | exact Ren.v _ | exact Ren.sl _ _ | refine ⟨?_, ?_⟩)⟩, rfl, trivial⟩ ⟨⟨⟨rfl, rfl⟩, _, rfl, by repeat' (first | exact trivial | exact RenB.sl _ _ | exact RenB.own _ _ _ rfl | refine ⟨?_, ?_⟩)⟩, ⟨⟨rfl, rfl⟩, _, rfl, by repeat' (first | exact trivial | exact RenB.v _ | refine ⟨?_, ?_⟩)⟩, ⟨⟨rfl, rfl⟩, _, rfl, by repeat' (first | exact trivial | exact RenB.ptr _ _ _ _ rfl | refine ⟨?_, ?_⟩)⟩, ⟨⟨rfl, rfl⟩, _, rfl, by repeat' (first | exact trivial | exact RenB.v _ | exact RenB.sl _ _ | refine ⟨?_, ?_⟩)⟩, ⟨⟨rfl, rfl⟩, rfl⟩, trivial⟩ (by repeat' (first | exact trivial | refine yQ ?_)) ?_
  repeat (first | ((with_reducible refine zE ?_); refine zF rfl ?_)  | refine zK ?_ | refine zB rfl ?_ | with_reducible (first | refine zG ?_ | refine zH ?_ | refine zW ?_) | ((with_reducible refine zA ?_ ?_); kernel_rfl))
  clear hE hLl h
  refine ym (ι := Nat) (fun v j => v (refB + 0) = 0 ∧ j + 1 ≤ netK D nodes) (fun j => netK D nodes - j) (fun v j => [(3, .ptr 3 (v 3) 0), (5, .ptr 5 (v 5) 0), (6, .ptr 6 (v 6) 0), (7, .ptr 7 (v 7) 0), (8, .v (.int .i64 (netK D nodes : Nat))), (11, .fn 38 [.ptr 7 (v 7) 0, .ptr 5 (v 5) 0, .ptr 3 (v 3) 0]), (12, .v (.int .i64 ((j + 1 : Nat) : Int)))]) (fun v j => [(refB + 0, .box (qt m (net2 D nodes m) j).2.cells), (3, .box [.ptr (refB + 0) (v (refB + 0)) 0]), (5, .box [.v (.int .i64 (m : Nat))]), (6, .box [.v (.slice none 0 0), .v (.slice none 0 0)]), (7, .box [.sl 3 NN, .own 900 (v 900)]), (900, .buf 56 5 ((qt m (net2 D nodes m) j).1.map Dv.av))]) ?_ ?_
  · exact ⟨0, ⟨hv0, by omega⟩, trivial, ⟨rfl, rfl, rfl, rfl, rfl, rfl, rfl, trivial⟩, ⟨rfl, rfl, rfl, rfl, rfl, rfl, trivial⟩⟩
  clear hv0 v hi
  rintro v j ⟨hv0, hj⟩
  have okj := fS ok2 (by omega) j (by omega)
  have eC : qt m (net2 D nodes m) (j + 1) = rC m (qt m (net2 D nodes m) j) (j + 1) := rfl
  unfold rC at eC
  obtain ⟨r, hr⟩ : ∃ r, r = qt m (net2 D nodes m) j := ⟨_, rfl⟩
  rw [← hr] at eC okj ⊢
  have hE := okj.dk
  have hlen := okj.len
  repeat (first | ((with_reducible refine zI ?_); refine zJ rfl ?_) | ((with_reducible refine zP ?_); refine zV rfl rfl rfl ?_)  | refine zK ?_ | refine zB rfl ?_ | with_reducible (first | refine zG ?_ | refine zH ?_) | ((with_reducible refine zA ?_ ?_); kernel_rfl))
  refine zh rfl (fun h => ?_) (fun h => ?_)
  · have hlt : j + 1 < netK D nodes := by simp at h; omega
    repeat (first | ((with_reducible refine zI ?_); refine zJ rfl ?_) | ((with_reducible refine zE ?_); refine zF rfl ?_) | ((with_reducible refine zQ ?_); refine zN tbOk rfl rfl rfl rfl rfl ?_) | ((with_reducible refine zP ?_); refine jd rfl rfl (by omega) ?_)  | refine zK ?_ | refine zB rfl ?_ | with_reducible (first | refine zG ?_ | refine zH ?_ | refine zW ?_ | refine zR ?_) | ((with_reducible refine zA ?_ ?_); kernel_rfl))
    refine yg (ss := [(refB + 0, v (refB + 0))]) (lU r.2 3 hE (by omega) (by omega)) (by repeat' (first | exact trivial | exact Ren.v _ | exact Ren.ptr _ _ _ _ rfl | refine ⟨?_, ?_⟩)) (by simp) (in1 rfl rfl) rfl (yx rfl) (by repeat' exact RenB.v _) ?_
    repeat (first   | refine zK ?_ | with_reducible refine zG ?_ )
    refine zh rfl (fun h => ?_) (fun h => ?_)
    · have h0 : r.2.val 3 = 0 := by simpa using h
      have eb : bH r.2 (j + 1) = (r.2.next.val ((j + 1 : Nat) : Int), r.2.next.next) := by unfold bH; rw [if_pos h0]
      rw [eb] at eC
      have r3 := r.2.next.next.in_ (n := 3) (by decide) (by decide)
      repeat (first | ((with_reducible refine zI ?_); refine zJ rfl ?_) | ((with_reducible refine zQ ?_); refine zN tbOk rfl rfl rfl rfl rfl ?_)  | refine zB rfl ?_  | ((with_reducible refine zA ?_ ?_); kernel_rfl))
      refine yg (ss := [(refB + 0, v (refB + 0))]) (jS r.2.next ((j + 1 : Nat) : Int) hE.next (by omega) (by omega)) (by repeat' (first | exact trivial | exact Ren.v _ | exact Ren.ptr _ _ _ _ rfl | refine ⟨?_, ?_⟩)) (by simp) (in1 rfl rfl) rfl (yx rfl) (by repeat' exact RenB.v _) ?_
      repeat (first | ((with_reducible refine zI ?_); refine zJ rfl ?_) | ((with_reducible refine zE ?_); refine zF rfl ?_) | ((with_reducible refine zQ ?_); refine zN tbOk rfl rfl rfl rfl rfl ?_)  | refine zK ?_ | refine zB rfl ?_ | with_reducible refine zG ?_ | ((with_reducible refine zA ?_ ?_); kernel_rfl))
      refine yg (ss := [(refB + 0, v (refB + 0))]) (jS r.2.next.next 3 hE.next.next (by omega) (by omega)) (by repeat' (first | exact trivial | exact Ren.v _ | exact Ren.ptr _ _ _ _ rfl | refine ⟨?_, ?_⟩)) (by simp) (in1 rfl rfl) rfl (yx rfl) (by repeat' exact RenB.v _) ?_
      repeat (first | ((with_reducible refine zI ?_); refine zJ rfl ?_) | ((with_reducible refine zP ?_); refine zX rfl rfl (by omega) ?_)  | refine zB rfl ?_  )
      refine aJ (ss := [(7, v 7), (5, v 5), (3, v 3), (refB + 0, v (refB + 0)), (900, v 900)]) (ss' := [(7, v 7), (5, v 5), (3, v 3), (refB + 0, v (refB + 0)), (900, v 900 + 1)]) (cs' := [.box [.sl 3 NN, .own 900 (v 900 + 1)], .box [.v (.int .i64 (m : Nat))], .box [.ptr (refB + 0) (v (refB + 0)) 0], .box (addD m (r.1, r.2.next.next.next) (1 + r.2.next.next.val 3) (r.2.next.val ((j + 1 : Nat) : Int)) ((j + 1 : Nat) : Int)).2.cells, .buf 56 5 ((addD m (r.1, r.2.next.next.next) (1 + r.2.next.next.val 3) (r.2.next.val ((j + 1 : Nat) : Int)) ((j + 1 : Nat) : Int)).1.map Dv.av)]) (y := .tu []) (mW NN m (r.1, r.2.next.next.next) (1 + r.2.next.next.val 3) (r.2.next.val ((j + 1 : Nat) : Int)) ((j + 1 : Nat) : Int) hE.next.next.next hm hlen (by omega)) rfl (by repeat' (first | exact trivial | exact Ren.v _ | exact Ren.ptr _ _ _ _ rfl | refine ⟨?_, ?_⟩)) (by simp [refB]) ⟨⟨_, rfl, by repeat' (first | exact trivial | exact Ren.sl _ _ | exact Ren.ownr _ _ _ rfl | refine ⟨?_, ?_⟩)⟩, ⟨_, rfl, by repeat' (first | exact trivial | exact Ren.v _ | refine ⟨?_, ?_⟩)⟩, ⟨_, rfl, by repeat' (first | exact trivial | exact Ren.ptr _ _ _ _ rfl | refine ⟨?_, ?_⟩)⟩, ⟨_, rfl, by repeat' (first | exact trivial | exact Ren.v _ | exact Ren.sl _ _ | refine ⟨?_, ?_⟩)⟩, rfl, trivial⟩ ⟨⟨⟨rfl, rfl⟩, _, rfl, by repeat' (first | exact trivial | exact RenB.sl _ _ | exact RenB.own _ _ _ rfl | refine ⟨?_, ?_⟩)⟩, ⟨⟨rfl, rfl⟩, _, rfl, by repeat' (first | exact trivial | exact RenB.v _ | refine ⟨?_, ?_⟩)⟩, ⟨⟨rfl, rfl⟩, _, rfl, by repeat' (first | exact trivial | exact RenB.ptr _ _ _ _ rfl | refine ⟨?_, ?_⟩)⟩, ⟨⟨rfl, rfl⟩, _, rfl, by repeat' (first | exact trivial | exact RenB.v _ | exact RenB.sl _ _ | refine ⟨?_, ?_⟩)⟩, ⟨⟨rfl, rfl⟩, rfl⟩, trivial⟩ (by repeat' (first | exact trivial | refine yQ ?_)) ?_
      repeat (first | ((with_reducible refine zI ?_); refine zJ rfl ?_) | ((with_reducible refine zE ?_); refine zF rfl ?_) | ((with_reducible refine zP ?_); refine zX rfl rfl (by omega) ?_)  | refine zK ?_ | refine zB rfl ?_ | with_reducible (first | refine zG ?_ | refine ze ?_) | ((with_reducible refine zA ?_ ?_); kernel_rfl))
      exact ⟨j + 1, ⟨hv0, by omega⟩, by omega, ⟨rfl, rfl, rfl, rfl, rfl, rfl, rfl, trivial⟩, ⟨qn (by rw [eC]), rfl, rfl, rfl, rfl, jB (by rw [eC]), trivial⟩⟩
    · have h0 : ¬ r.2.val 3 = 0 := by simpa using h
      have eb : bH r.2 (j + 1) = (((j + 1 : Nat) : Int) - 1, r.2.next) := by unfold bH; rw [if_neg h0]
      rw [eb] at eC
      have r3 := r.2.next.in_ (n := 3) (by decide) (by decide)
      repeat (first | ((with_reducible refine zI ?_); refine zJ rfl ?_) | ((with_reducible refine zQ ?_); refine zN tbOk rfl rfl rfl rfl rfl ?_)  | refine zB rfl ?_ | with_reducible (first | refine zG ?_ | refine zR ?_) | ((with_reducible refine zA ?_ ?_); kernel_rfl))
      refine yg (ss := [(refB + 0, v (refB + 0))]) (jS r.2.next 3 hE.next (by omega) (by omega)) (by repeat' (first | exact trivial | exact Ren.v _ | exact Ren.ptr _ _ _ _ rfl | refine ⟨?_, ?_⟩)) (by simp) (in1 rfl rfl) rfl (yx rfl) (by repeat' exact RenB.v _) ?_
      repeat (first | ((with_reducible refine zI ?_); refine zJ rfl ?_) | ((with_reducible refine zP ?_); refine zX rfl rfl (by omega) ?_)  | refine zB rfl ?_  )
      refine aJ (ss := [(7, v 7), (5, v 5), (3, v 3), (refB + 0, v (refB + 0)), (900, v 900)]) (ss' := [(7, v 7), (5, v 5), (3, v 3), (refB + 0, v (refB + 0)), (900, v 900 + 1)]) (cs' := [.box [.sl 3 NN, .own 900 (v 900 + 1)], .box [.v (.int .i64 (m : Nat))], .box [.ptr (refB + 0) (v (refB + 0)) 0], .box (addD m (r.1, r.2.next.next) (1 + r.2.next.val 3) (((j + 1 : Nat) : Int) - 1) ((j + 1 : Nat) : Int)).2.cells, .buf 56 5 ((addD m (r.1, r.2.next.next) (1 + r.2.next.val 3) (((j + 1 : Nat) : Int) - 1) ((j + 1 : Nat) : Int)).1.map Dv.av)]) (y := .tu []) (mW NN m (r.1, r.2.next.next) (1 + r.2.next.val 3) (((j + 1 : Nat) : Int) - 1) ((j + 1 : Nat) : Int) hE.next.next hm hlen (by omega)) rfl (by repeat' (first | exact trivial | exact Ren.v _ | exact Ren.ptr _ _ _ _ rfl | refine ⟨?_, ?_⟩)) (by simp [refB]) ⟨⟨_, rfl, by repeat' (first | exact trivial | exact Ren.sl _ _ | exact Ren.ownr _ _ _ rfl | refine ⟨?_, ?_⟩)⟩, ⟨_, rfl, by repeat' (first | exact trivial | exact Ren.v _ | refine ⟨?_, ?_⟩)⟩, ⟨_, rfl, by repeat' (first | exact trivial | exact Ren.ptr _ _ _ _ rfl | refine ⟨?_, ?_⟩)⟩, ⟨_, rfl, by repeat' (first | exact trivial | exact Ren.v _ | exact Ren.sl _ _ | refine ⟨?_, ?_⟩)⟩, rfl, trivial⟩ ⟨⟨⟨rfl, rfl⟩, _, rfl, by repeat' (first | exact trivial | exact RenB.sl _ _ | exact RenB.own _ _ _ rfl | refine ⟨?_, ?_⟩)⟩, ⟨⟨rfl, rfl⟩, _, rfl, by repeat' (first | exact trivial | exact RenB.v _ | refine ⟨?_, ?_⟩)⟩, ⟨⟨rfl, rfl⟩, _, rfl, by repeat' (first | exact trivial | exact RenB.ptr _ _ _ _ rfl | refine ⟨?_, ?_⟩)⟩, ⟨⟨rfl, rfl⟩, _, rfl, by repeat' (first | exact trivial | exact RenB.v _ | exact RenB.sl _ _ | refine ⟨?_, ?_⟩)⟩, ⟨⟨rfl, rfl⟩, rfl⟩, trivial⟩ (by repeat' (first | exact trivial | refine yQ ?_)) ?_
      repeat (first | ((with_reducible refine zI ?_); refine zJ rfl ?_) | ((with_reducible refine zE ?_); refine zF rfl ?_) | ((with_reducible refine zP ?_); refine zX rfl rfl (by omega) ?_)  | refine zK ?_ | refine zB rfl ?_ | with_reducible (first | refine zG ?_ | refine ze ?_) | ((with_reducible refine zA ?_ ?_); kernel_rfl))
      exact ⟨j + 1, ⟨hv0, by omega⟩, by omega, ⟨rfl, rfl, rfl, rfl, rfl, rfl, rfl, trivial⟩, ⟨qn (by rw [eC]), rfl, rfl, rfl, rfl, jB (by rw [eC]), trivial⟩⟩
  have hjK : j = netK D nodes - 1 := by simp at h; omega
  have e3 : r = net3 D nodes m := by rw [hr, hjK]; rfl
  rw [e3]
  clear eC hr hlen hE okj h hjK hj e3 r
  have ok3 := sC hD m h1 (by omega)
  have rc := (net3 D nodes m).2.in_ (n := 4) (by decide) (by decide)
  repeat (first | ((with_reducible refine zQ ?_); refine zN tbOk rfl rfl rfl rfl rfl ?_)  | refine zB rfl ?_ | with_reducible (first | refine zG ?_ | refine zd ?_ | refine zH ?_ | refine zw ?_) | ((with_reducible refine zb ?_ ?_); rfl) | ((with_reducible refine zA ?_ ?_); kernel_rfl))
  refine yg (ss := [(refB + 0, v (refB + 0))]) (jS (net3 D nodes m).2 4 ok3.dk (by omega) (by omega)) (by repeat' (first | exact trivial | exact Ren.v _ | exact Ren.ptr _ _ _ _ rfl | refine ⟨?_, ?_⟩)) (by simp) (in1 rfl rfl) rfl (yx rfl) (by repeat' exact RenB.v _) ?_
  repeat (first | ((with_reducible refine zE ?_); refine zF rfl ?_)  | refine zK ?_ | refine zB rfl ?_ | with_reducible (first | refine zG ?_ | refine zW ?_) )
  obtain ⟨c, hc⟩ : ∃ c, c = (net3 D nodes m).2.val 4 := ⟨_, rfl⟩
  rw [← hc] at rc ⊢
  refine ym (ι := Nat) (fun v j => v (refB + 0) = 0 ∧ (j : Int) ≤ c) (fun j => (c).toNat - j) (fun v j => [(3, .ptr 3 (v 3) 0), (5, .ptr 5 (v 5) 0), (6, .ptr 6 (v 6) 0), (7, .ptr 7 (v 7) 0), (8, .v (.int .i64 (netK D nodes : Nat))), (11, .fn 38 [.ptr 7 (v 7) 0, .ptr 5 (v 5) 0, .ptr 3 (v 3) 0]), (14, .v (.int .i64 (c - (j : Int))))]) (fun v j => [(refB + 0, .box (bE (qk m ((netK D nodes : Nat) : Int)) ((net3 D nodes m).1, (net3 D nodes m).2.next) j).2.cells), (3, .box [.ptr (refB + 0) (v (refB + 0)) 0]), (5, .box [.v (.int .i64 (m : Nat))]), (6, .box [.v (.slice none 0 0), .v (.slice none 0 0)]), (7, .box [.sl 3 NN, .own 900 (v 900)]), (900, .buf 56 5 ((bE (qk m ((netK D nodes : Nat) : Int)) ((net3 D nodes m).1, (net3 D nodes m).2.next) j).1.map Dv.av))]) ?_ ?_
  · exact ⟨0, ⟨hv0, by omega⟩, trivial, ⟨rfl, rfl, rfl, rfl, rfl, rfl, congrArg (fun z : Int => AV.v (.int .i64 z)) (by omega), trivial⟩, ⟨rfl, rfl, rfl, rfl, rfl, rfl, trivial⟩⟩
  clear hv0 v
  rintro v j ⟨hv0, hj⟩
  have okj := eF (Q := VsOk m ((netK D nodes : Nat) : Int)) (f := qk m ((netK D nodes : Nat) : Int)) (ok3.dk' ok3.dk.next) (fun r hr => oP hr (by omega) (by omega)) j
  obtain ⟨r, hr⟩ : ∃ r, r = bE (qk m ((netK D nodes : Nat) : Int)) ((net3 D nodes m).1, (net3 D nodes m).2.next) j := ⟨_, rfl⟩
  have eC : bE (qk m ((netK D nodes : Nat) : Int)) ((net3 D nodes m).1, (net3 D nodes m).2.next) (j + 1) = qk m ((netK D nodes : Nat) : Int) r := by rw [hr]; rfl
  generalize hq : qk m ((netK D nodes : Nat) : Int) r = q at eC
  unfold qk at hq
  rw [← hr] at okj ⊢
  have hE := okj.dk
  have hlen := okj.len
  repeat (first | ((with_reducible refine zI ?_); refine zJ rfl ?_) | ((with_reducible refine zP ?_); refine zV rfl rfl rfl ?_)  | refine zK ?_ | refine zB rfl ?_ | with_reducible (first | refine zG ?_ | refine zH ?_) | ((with_reducible refine zA ?_ ?_); kernel_rfl))
  refine zh rfl (fun h => ?_) (fun h => ?_)
  · have hlt : (j : Int) < c := by simp at h; omega
    have r4 := r.2.in_ (n := 4) (by decide) (by decide)
    have ra := r.2.next.in_ (n := ((netK D nodes : Nat) : Int)) (by omega) (by omega)
    have rb := r.2.next.next.in_ (n := ((netK D nodes : Nat) : Int) - 1) (by omega) (by omega)
    have rk := r.2.next.next.next.in_ (n := 3) (by decide) (by decide)
    repeat (first | ((with_reducible refine zQ ?_); refine zN tbOk rfl rfl rfl rfl rfl ?_)  | refine zB rfl ?_ | with_reducible (first | refine zG ?_ | refine zH ?_ | refine zW ?_ | refine zR ?_) | ((with_reducible refine zA ?_ ?_); kernel_rfl))
    refine yg (ss := [(refB + 0, v (refB + 0))]) (jS r.2 4 hE (by omega) (by omega)) (by repeat' (first | exact trivial | exact Ren.v _ | exact Ren.ptr _ _ _ _ rfl | refine ⟨?_, ?_⟩)) (by simp) (in1 rfl rfl) rfl (yx rfl) (by repeat' exact RenB.v _) ?_
    repeat (first | ((with_reducible refine zE ?_); refine zF rfl ?_) | ((with_reducible refine zP ?_); refine zV rfl rfl rfl ?_)  | refine zK ?_ | refine zB rfl ?_ | with_reducible (first | refine zG ?_ | refine zH ?_ | refine zW ?_) | ((with_reducible refine zA ?_ ?_); kernel_rfl))
    refine zh rfl (fun h => ?_) (fun h => ?_)
    · have h0 : r.2.val 4 = 0 := by simpa using h
      rw [if_pos h0] at hq
      have eb : (r.2.next.val ((netK D nodes : Nat) : Int) + 1 + r.2.next.next.val (((netK D nodes : Nat) : Int) - 1)).tmod ((netK D nodes : Nat) : Int) = (r.2.next.val ((netK D nodes : Nat) : Int) + 1 + r.2.next.next.val (((netK D nodes : Nat) : Int) - 1)) % ((netK D nodes : Nat) : Int) := Int.tmod_eq_emod_of_nonneg (by omega)
      rw [← eb] at hq
      repeat (first | ((with_reducible refine zI ?_); refine zJ rfl ?_) | ((with_reducible refine zQ ?_); refine zN tbOk rfl rfl rfl rfl rfl ?_)  | refine zB rfl ?_ | with_reducible refine zH ?_ | ((with_reducible refine zA ?_ ?_); kernel_rfl))
      refine yg (ss := [(refB + 0, v (refB + 0))]) (jS r.2.next ((netK D nodes : Nat) : Int) hE.next (by omega) (by omega)) (by repeat' (first | exact trivial | exact Ren.v _ | exact Ren.ptr _ _ _ _ rfl | refine ⟨?_, ?_⟩)) (by simp) (in1 rfl rfl) rfl (yx rfl) (by repeat' exact RenB.v _) ?_
      repeat (first | ((with_reducible refine zI ?_); refine zJ rfl ?_) | ((with_reducible refine zE ?_); refine zF rfl ?_) | ((with_reducible refine zQ ?_); refine zN tbOk rfl rfl rfl rfl rfl ?_) | ((with_reducible refine zP ?_); (first | refine zX rfl rfl (by omega) ?_ | refine jd rfl rfl (by omega) ?_))  | refine zK ?_ | refine zB rfl ?_ | with_reducible (first | refine zG ?_ | refine zH ?_) | ((with_reducible refine zA ?_ ?_); kernel_rfl))
      refine yg (ss := [(refB + 0, v (refB + 0))]) (jS r.2.next.next (((netK D nodes : Nat) : Int) - 1) hE.next.next (by omega) (by omega)) (by repeat' (first | exact trivial | exact Ren.v _ | exact Ren.ptr _ _ _ _ rfl | refine ⟨?_, ?_⟩)) (by simp) (in1 rfl rfl) rfl (yx rfl) (by repeat' exact RenB.v _) ?_
      repeat (first | ((with_reducible refine zI ?_); refine zJ rfl ?_) | ((with_reducible refine zE ?_); refine zF rfl ?_) | ((with_reducible refine zQ ?_); refine zN tbOk rfl rfl rfl rfl rfl ?_) | ((with_reducible refine zP ?_); (first | refine zX rfl rfl (by omega) ?_ | refine xN rfl rfl (by first | decide | assumption | omega) ?_))  | refine zK ?_ | refine zB rfl ?_ | with_reducible refine zG ?_ | ((with_reducible refine zA ?_ ?_); kernel_rfl))
      refine yg (ss := [(refB + 0, v (refB + 0))]) (jS r.2.next.next.next 3 hE.next.next.next (by omega) (by omega)) (by repeat' (first | exact trivial | exact Ren.v _ | exact Ren.ptr _ _ _ _ rfl | refine ⟨?_, ?_⟩)) (by simp) (in1 rfl rfl) rfl (yx rfl) (by repeat' exact RenB.v _) ?_
      repeat (first | ((with_reducible refine zI ?_); refine zJ rfl ?_) | ((with_reducible refine zP ?_); refine zX rfl rfl (by omega) ?_)  | refine zB rfl ?_  )
      refine aJ (ss := [(7, v 7), (5, v 5), (3, v 3), (refB + 0, v (refB + 0)), (900, v 900)]) (ss' := [(7, v 7), (5, v 5), (3, v 3), (refB + 0, v (refB + 0)), (900, v 900 + 1)]) (cs' := [.box [.sl 3 NN, .own 900 (v 900 + 1)], .box [.v (.int .i64 (m : Nat))], .box [.ptr (refB + 0) (v (refB + 0)) 0], .box (addD m (r.1, r.2.next.next.next.next) (1 + r.2.next.next.next.val 3) (r.2.next.val ((netK D nodes : Nat) : Int)) ((r.2.next.val ((netK D nodes : Nat) : Int) + 1 + r.2.next.next.val (((netK D nodes : Nat) : Int) - 1)).tmod ((netK D nodes : Nat) : Int))).2.cells, .buf 56 5 ((addD m (r.1, r.2.next.next.next.next) (1 + r.2.next.next.next.val 3) (r.2.next.val ((netK D nodes : Nat) : Int)) ((r.2.next.val ((netK D nodes : Nat) : Int) + 1 + r.2.next.next.val (((netK D nodes : Nat) : Int) - 1)).tmod ((netK D nodes : Nat) : Int))).1.map Dv.av)]) (y := .tu []) (mW NN m (r.1, r.2.next.next.next.next) (1 + r.2.next.next.next.val 3) (r.2.next.val ((netK D nodes : Nat) : Int)) ((r.2.next.val ((netK D nodes : Nat) : Int) + 1 + r.2.next.next.val (((netK D nodes : Nat) : Int) - 1)).tmod ((netK D nodes : Nat) : Int)) hE.next.next.next.next hm hlen (by omega)) rfl (by repeat' (first | exact trivial | exact Ren.v _ | exact Ren.ptr _ _ _ _ rfl | refine ⟨?_, ?_⟩)) (by simp [refB]) ⟨⟨_, rfl, by repeat' (first | exact trivial | exact Ren.sl _ _ | exact Ren.ownr _ _ _ rfl | refine ⟨?_, ?_⟩)⟩, ⟨_, rfl, by repeat' (first | exact trivial | exact Ren.v _ | refine ⟨?_, ?_⟩)⟩, ⟨_, rfl, by repeat' (first | exact trivial | exact Ren.ptr _ _ _ _ rfl | refine ⟨?_, ?_⟩)⟩, ⟨_, rfl, by repeat' (first | exact trivial | exact Ren.v _ | exact Ren.sl _ _ | refine ⟨?_, ?_⟩)⟩, rfl, trivial⟩ ⟨⟨⟨rfl, rfl⟩, _, rfl, by repeat' (first | exact trivial | exact RenB.sl _ _ | exact RenB.own _ _ _ rfl | refine ⟨?_, ?_⟩)⟩, ⟨⟨rfl, rfl⟩, _, rfl, by repeat' (first | exact trivial | exact RenB.v _ | refine ⟨?_, ?_⟩)⟩, ⟨⟨rfl, rfl⟩, _, rfl, by repeat' (first | exact trivial | exact RenB.ptr _ _ _ _ rfl | refine ⟨?_, ?_⟩)⟩, ⟨⟨rfl, rfl⟩, _, rfl, by repeat' (first | exact trivial | exact RenB.v _ | exact RenB.sl _ _ | refine ⟨?_, ?_⟩)⟩, ⟨⟨rfl, rfl⟩, rfl⟩, trivial⟩ (by repeat' (first | exact trivial | refine yQ ?_)) ?_
      repeat (first | ((with_reducible refine zI ?_); refine zJ rfl ?_) | ((with_reducible refine zE ?_); refine zF rfl ?_) | ((with_reducible refine zP ?_); refine jd rfl rfl (by omega) ?_)  | refine zK ?_ | refine zB rfl ?_ | with_reducible (first | refine zG ?_ | refine ze ?_) | ((with_reducible refine zA ?_ ?_); kernel_rfl))
      exact ⟨j + 1, ⟨hv0, by omega⟩, by omega, ⟨rfl, rfl, rfl, rfl, rfl, rfl, congrArg (fun z : Int => AV.v (.int .i64 z)) (by omega), trivial⟩, ⟨qn (by rw [eC, ← hq]), rfl, rfl, rfl, rfl, jB (by rw [eC, ← hq]), trivial⟩⟩
    have h0 : ¬ r.2.val 4 = 0 := by simpa using h
    rw [if_neg h0] at hq
    repeat (first | ((with_reducible refine zE ?_); refine zF rfl ?_) | ((with_reducible refine zP ?_); refine zV rfl rfl rfl ?_)  | refine zK ?_ | refine zB rfl ?_ | with_reducible (first | refine zG ?_ | refine zH ?_) | ((with_reducible refine zA ?_ ?_); kernel_rfl))
    refine zh rfl (fun h => ?_) (fun h => ?_)
    · have h1' : r.2.val 4 = 1 := by simpa using h
      rw [if_pos h1'] at hq
      repeat (first | ((with_reducible refine zI ?_); refine zJ rfl ?_) | ((with_reducible refine zQ ?_); refine zN tbOk rfl rfl rfl rfl rfl ?_)  | refine zB rfl ?_  | ((with_reducible refine zA ?_ ?_); kernel_rfl))
      refine yg (ss := [(refB + 0, v (refB + 0))]) (jS r.2.next ((netK D nodes : Nat) : Int) hE.next (by omega) (by omega)) (by repeat' (first | exact trivial | exact Ren.v _ | exact Ren.ptr _ _ _ _ rfl | refine ⟨?_, ?_⟩)) (by simp) (in1 rfl rfl) rfl (yx rfl) (by repeat' exact RenB.v _) ?_
      repeat (first   | refine zB rfl ?_  )
      refine aJ (ss := [(7, v 7), (5, v 5), (3, v 3), (refB + 0, v (refB + 0)), (900, v 900)]) (ss' := [(7, v 7), (5, v 5), (3, v 3), (refB + 0, v (refB + 0)), (900, v 900 + 1)]) (cs' := [.box [.sl 3 NN, .own 900 (v 900 + 1)], .box [.v (.int .i64 (m : Nat))], .box [.ptr (refB + 0) (v (refB + 0)) 0], .box (addD m (r.1, r.2.next.next) 5 (r.2.next.val ((netK D nodes : Nat) : Int)) (-1)).2.cells, .buf 56 5 ((addD m (r.1, r.2.next.next) 5 (r.2.next.val ((netK D nodes : Nat) : Int)) (-1)).1.map Dv.av)]) (y := .tu []) (mW NN m (r.1, r.2.next.next) 5 (r.2.next.val ((netK D nodes : Nat) : Int)) (-1) hE.next.next hm hlen (by decide)) rfl (by repeat' (first | exact trivial | exact Ren.v _ | exact Ren.ptr _ _ _ _ rfl | refine ⟨?_, ?_⟩)) (by simp [refB]) ⟨⟨_, rfl, by repeat' (first | exact trivial | exact Ren.sl _ _ | exact Ren.ownr _ _ _ rfl | refine ⟨?_, ?_⟩)⟩, ⟨_, rfl, by repeat' (first | exact trivial | exact Ren.v _ | refine ⟨?_, ?_⟩)⟩, ⟨_, rfl, by repeat' (first | exact trivial | exact Ren.ptr _ _ _ _ rfl | refine ⟨?_, ?_⟩)⟩, ⟨_, rfl, by repeat' (first | exact trivial | exact Ren.v _ | exact Ren.sl _ _ | refine ⟨?_, ?_⟩)⟩, rfl, trivial⟩ ⟨⟨⟨rfl, rfl⟩, _, rfl, by repeat' (first | exact trivial | exact RenB.sl _ _ | exact RenB.own _ _ _ rfl | refine ⟨?_, ?_⟩)⟩, ⟨⟨rfl, rfl⟩, _, rfl, by repeat' (first | exact trivial | exact RenB.v _ | refine ⟨?_, ?_⟩)⟩, ⟨⟨rfl, rfl⟩, _, rfl, by repeat' (first | exact trivial | exact RenB.ptr _ _ _ _ rfl | refine ⟨?_, ?_⟩)⟩, ⟨⟨rfl, rfl⟩, _, rfl, by repeat' (first | exact trivial | exact RenB.v _ | exact RenB.sl _ _ | refine ⟨?_, ?_⟩)⟩, ⟨⟨rfl, rfl⟩, rfl⟩, trivial⟩ (by repeat' (first | exact trivial | refine yQ ?_)) ?_
      repeat (first | ((with_reducible refine zI ?_); refine zJ rfl ?_) | ((with_reducible refine zE ?_); refine zF rfl ?_) | ((with_reducible refine zP ?_); refine jd rfl rfl (by omega) ?_)  | refine zK ?_ | refine zB rfl ?_ | with_reducible (first | refine zG ?_ | refine ze ?_) | ((with_reducible refine zA ?_ ?_); kernel_rfl))
      exact ⟨j + 1, ⟨hv0, by omega⟩, by omega, ⟨rfl, rfl, rfl, rfl, rfl, rfl, congrArg (fun z : Int => AV.v (.int .i64 z)) (by omega), trivial⟩, ⟨qn (by rw [eC, ← hq]), rfl, rfl, rfl, rfl, jB (by rw [eC, ← hq]), trivial⟩⟩
    have h1' : ¬ r.2.val 4 = 1 := by simpa using h
    rw [if_neg h1'] at hq
    repeat (first | ((with_reducible refine zE ?_); refine zF rfl ?_) | ((with_reducible refine zP ?_); refine zV rfl rfl rfl ?_)  | refine zK ?_ | refine zB rfl ?_ | with_reducible (first | refine zG ?_ | refine zH ?_) | ((with_reducible refine zA ?_ ?_); kernel_rfl))
    refine zh rfl (fun h => ?_) (fun h => ?_)
    · have h2' : r.2.val 4 = 2 := by simpa using h
      rw [if_pos h2'] at hq
      repeat (first | ((with_reducible refine zI ?_); refine zJ rfl ?_) | ((with_reducible refine zQ ?_); refine zN tbOk rfl rfl rfl rfl rfl ?_)  | refine zB rfl ?_  | ((with_reducible refine zA ?_ ?_); kernel_rfl))
      refine yg (ss := [(refB + 0, v (refB + 0))]) (jS r.2.next ((netK D nodes : Nat) : Int) hE.next (by omega) (by omega)) (by repeat' (first | exact trivial | exact Ren.v _ | exact Ren.ptr _ _ _ _ rfl | refine ⟨?_, ?_⟩)) (by simp) (in1 rfl rfl) rfl (yx rfl) (by repeat' exact RenB.v _) ?_
      repeat (first   | refine zB rfl ?_  )
      refine aJ (ss := [(7, v 7), (5, v 5), (3, v 3), (refB + 0, v (refB + 0)), (900, v 900)]) (ss' := [(7, v 7), (5, v 5), (3, v 3), (refB + 0, v (refB + 0)), (900, v 900 + 1)]) (cs' := [.box [.sl 3 NN, .own 900 (v 900 + 1)], .box [.v (.int .i64 (m : Nat))], .box [.ptr (refB + 0) (v (refB + 0)) 0], .box (addD m (r.1, r.2.next.next) 6 (r.2.next.val ((netK D nodes : Nat) : Int)) (-1)).2.cells, .buf 56 5 ((addD m (r.1, r.2.next.next) 6 (r.2.next.val ((netK D nodes : Nat) : Int)) (-1)).1.map Dv.av)]) (y := .tu []) (mW NN m (r.1, r.2.next.next) 6 (r.2.next.val ((netK D nodes : Nat) : Int)) (-1) hE.next.next hm hlen (by decide)) rfl (by repeat' (first | exact trivial | exact Ren.v _ | exact Ren.ptr _ _ _ _ rfl | refine ⟨?_, ?_⟩)) (by simp [refB]) ⟨⟨_, rfl, by repeat' (first | exact trivial | exact Ren.sl _ _ | exact Ren.ownr _ _ _ rfl | refine ⟨?_, ?_⟩)⟩, ⟨_, rfl, by repeat' (first | exact trivial | exact Ren.v _ | refine ⟨?_, ?_⟩)⟩, ⟨_, rfl, by repeat' (first | exact trivial | exact Ren.ptr _ _ _ _ rfl | refine ⟨?_, ?_⟩)⟩, ⟨_, rfl, by repeat' (first | exact trivial | exact Ren.v _ | exact Ren.sl _ _ | refine ⟨?_, ?_⟩)⟩, rfl, trivial⟩ ⟨⟨⟨rfl, rfl⟩, _, rfl, by repeat' (first | exact trivial | exact RenB.sl _ _ | exact RenB.own _ _ _ rfl | refine ⟨?_, ?_⟩)⟩, ⟨⟨rfl, rfl⟩, _, rfl, by repeat' (first | exact trivial | exact RenB.v _ | refine ⟨?_, ?_⟩)⟩, ⟨⟨rfl, rfl⟩, _, rfl, by repeat' (first | exact trivial | exact RenB.ptr _ _ _ _ rfl | refine ⟨?_, ?_⟩)⟩, ⟨⟨rfl, rfl⟩, _, rfl, by repeat' (first | exact trivial | exact RenB.v _ | exact RenB.sl _ _ | refine ⟨?_, ?_⟩)⟩, ⟨⟨rfl, rfl⟩, rfl⟩, trivial⟩ (by repeat' (first | exact trivial | refine yQ ?_)) ?_
      repeat (first | ((with_reducible refine zI ?_); refine zJ rfl ?_) | ((with_reducible refine zE ?_); refine zF rfl ?_) | ((with_reducible refine zP ?_); refine jd rfl rfl (by omega) ?_)  | refine zK ?_ | refine zB rfl ?_ | with_reducible (first | refine zG ?_ | refine ze ?_) | ((with_reducible refine zA ?_ ?_); kernel_rfl))
      exact ⟨j + 1, ⟨hv0, by omega⟩, by omega, ⟨rfl, rfl, rfl, rfl, rfl, rfl, congrArg (fun z : Int => AV.v (.int .i64 z)) (by omega), trivial⟩, ⟨qn (by rw [eC, ← hq]), rfl, rfl, rfl, rfl, jB (by rw [eC, ← hq]), trivial⟩⟩
    have h2' : ¬ r.2.val 4 = 2 := by simpa using h
    rw [if_neg h2'] at hq
    repeat (first | ((with_reducible refine zI ?_); refine zJ rfl ?_) | ((with_reducible refine zE ?_); refine zF rfl ?_) | ((with_reducible refine zP ?_); refine jd rfl rfl (by omega) ?_)  | refine zK ?_ | refine zB rfl ?_ | with_reducible (first | refine zG ?_ | refine ze ?_ | refine zR ?_) | ((with_reducible refine zA ?_ ?_); kernel_rfl))
    exact ⟨j + 1, ⟨hv0, by omega⟩, by omega, ⟨rfl, rfl, rfl, rfl, rfl, rfl, congrArg (fun z : Int => AV.v (.int .i64 z)) (by omega), trivial⟩, ⟨qn (by rw [eC, ← hq]), rfl, rfl, rfl, rfl, jB (by rw [eC, ← hq]), trivial⟩⟩
  have hjc : j = c.toNat := by simp at h; omega
  have e4 : r = net4 D nodes m := by rw [hr, hjc, hc]; rfl
  rw [e4]
  clear hq eC hr hlen hE okj h hjc hj e4 r
  have ok4 := rP hD m h1 (by omega)
  have rd := (net4 D nodes m).2.in_ (n := 3) (by decide) (by decide)
  repeat (first | ((with_reducible refine zQ ?_); refine zN tbOk rfl rfl rfl rfl rfl ?_)  | refine zB rfl ?_ | with_reducible (first | refine zG ?_ | refine zd ?_ | refine zH ?_ | refine zw ?_) | ((with_reducible refine zb ?_ ?_); rfl) | ((with_reducible refine zA ?_ ?_); kernel_rfl))
  refine yg (ss := [(refB + 0, v (refB + 0))]) (jS (net4 D nodes m).2 3 ok4.dk (by omega) (by omega)) (by repeat' (first | exact trivial | exact Ren.v _ | exact Ren.ptr _ _ _ _ rfl | refine ⟨?_, ?_⟩)) (by simp) (in1 rfl rfl) rfl (yx rfl) (by repeat' exact RenB.v _) ?_
  repeat (first | ((with_reducible refine zE ?_); refine zF rfl ?_) | ((with_reducible refine zP ?_); refine zX rfl rfl (by omega) ?_)  | refine zK ?_ | refine zB rfl ?_ | with_reducible (first | refine zG ?_ | refine zW ?_) )
  obtain ⟨b, hb⟩ : ∃ b, b = 1 + (net4 D nodes m).2.val 3 := ⟨_, rfl⟩
  have rb0 : 1 ≤ b ∧ b ≤ 3 := by omega
  refine ym (ι := Nat) (fun v j => v (refB + 0) = 0 ∧ (j : Int) ≤ b) (fun j => (b).toNat - j) (fun v j => [(3, .ptr 3 (v 3) 0), (5, .ptr 5 (v 5) 0), (6, .ptr 6 (v 6) 0), (7, .ptr 7 (v 7) 0), (8, .v (.int .i64 (netK D nodes : Nat))), (11, .fn 38 [.ptr 7 (v 7) 0, .ptr 5 (v 5) 0, .ptr 3 (v 3) 0]), (17, .v (.int .i64 (b - (j : Int))))]) (fun v j => [(refB + 0, .box (bE (bB m ((netK D nodes : Nat) : Int)) ((net4 D nodes m).1, (net4 D nodes m).2.next) j).2.cells), (3, .box [.ptr (refB + 0) (v (refB + 0)) 0]), (5, .box [.v (.int .i64 (m : Nat))]), (6, .box [.v (.slice none 0 0), .v (.slice none 0 0)]), (7, .box [.sl 3 NN, .own 900 (v 900)]), (900, .buf 56 5 ((bE (bB m ((netK D nodes : Nat) : Int)) ((net4 D nodes m).1, (net4 D nodes m).2.next) j).1.map Dv.av))]) ?_ ?_
  · exact ⟨0, ⟨hv0, by omega⟩, trivial, ⟨rfl, rfl, rfl, rfl, rfl, rfl, congrArg (fun z : Int => AV.v (.int .i64 z)) (by omega), trivial⟩, ⟨rfl, rfl, rfl, rfl, rfl, rfl, trivial⟩⟩
  clear hv0 v
  rintro v j ⟨hv0, hj⟩
  have okj := eF (Q := VsOk m ((netK D nodes : Nat) : Int)) (f := bB m ((netK D nodes : Nat) : Int)) (ok4.dk' ok4.dk.next) (fun r hr => oQ hr (by omega) (by omega)) j
  obtain ⟨r, hr⟩ : ∃ r, r = bE (bB m ((netK D nodes : Nat) : Int)) ((net4 D nodes m).1, (net4 D nodes m).2.next) j := ⟨_, rfl⟩
  have eC : bE (bB m ((netK D nodes : Nat) : Int)) ((net4 D nodes m).1, (net4 D nodes m).2.next) (j + 1) = bB m ((netK D nodes : Nat) : Int) r := by rw [hr]; rfl
  generalize hq : bB m ((netK D nodes : Nat) : Int) r = q at eC
  unfold bB at hq
  rw [← hr] at okj ⊢
  have hE := okj.dk
  have hlen := okj.len
  repeat (first | ((with_reducible refine zI ?_); refine zJ rfl ?_) | ((with_reducible refine zP ?_); refine zV rfl rfl rfl ?_)  | refine zK ?_ | refine zB rfl ?_ | with_reducible (first | refine zG ?_ | refine zH ?_) | ((with_reducible refine zA ?_ ?_); kernel_rfl))
  refine zh rfl (fun h => ?_) (fun h => ?_)
  · have hlt : (j : Int) < b := by simp at h; omega
    repeat (first | ((with_reducible refine zI ?_); refine zJ rfl ?_) | ((with_reducible refine zQ ?_); refine zN tbOk rfl rfl rfl rfl rfl ?_)  | refine zB rfl ?_ | with_reducible (first | refine zG ?_ | refine zH ?_ | refine zW ?_ | refine zR ?_) | ((with_reducible refine zA ?_ ?_); kernel_rfl))
    refine yg (ss := [(refB + 0, v (refB + 0))]) (jS r.2 ((netK D nodes : Nat) : Int) hE (by omega) (by omega)) (by repeat' (first | exact trivial | exact Ren.v _ | exact Ren.ptr _ _ _ _ rfl | refine ⟨?_, ?_⟩)) (by simp) (in1 rfl rfl) rfl (yx rfl) (by repeat' exact RenB.v _) ?_
    repeat (first   | refine zB rfl ?_  )
    refine aJ (ss := [(7, v 7), (5, v 5), (3, v 3), (refB + 0, v (refB + 0)), (900, v 900)]) (ss' := [(7, v 7), (5, v 5), (3, v 3), (refB + 0, v (refB + 0)), (900, v 900 + 1)]) (cs' := [.box [.sl 3 NN, .own 900 (v 900 + 1)], .box [.v (.int .i64 (m : Nat))], .box [.ptr (refB + 0) (v (refB + 0)) 0], .box (addD m (r.1, r.2.next) 4 (r.2.val ((netK D nodes : Nat) : Int)) (-1)).2.cells, .buf 56 5 ((addD m (r.1, r.2.next) 4 (r.2.val ((netK D nodes : Nat) : Int)) (-1)).1.map Dv.av)]) (y := .tu []) (mW NN m (r.1, r.2.next) 4 (r.2.val ((netK D nodes : Nat) : Int)) (-1) hE.next hm hlen (by decide)) rfl (by repeat' (first | exact trivial | exact Ren.v _ | exact Ren.ptr _ _ _ _ rfl | refine ⟨?_, ?_⟩)) (by simp [refB]) ⟨⟨_, rfl, by repeat' (first | exact trivial | exact Ren.sl _ _ | exact Ren.ownr _ _ _ rfl | refine ⟨?_, ?_⟩)⟩, ⟨_, rfl, by repeat' (first | exact trivial | exact Ren.v _ | refine ⟨?_, ?_⟩)⟩, ⟨_, rfl, by repeat' (first | exact trivial | exact Ren.ptr _ _ _ _ rfl | refine ⟨?_, ?_⟩)⟩, ⟨_, rfl, by repeat' (first | exact trivial | exact Ren.v _ | exact Ren.sl _ _ | refine ⟨?_, ?_⟩)⟩, rfl, trivial⟩ ⟨⟨⟨rfl, rfl⟩, _, rfl, by repeat' (first | exact trivial | exact RenB.sl _ _ | exact RenB.own _ _ _ rfl | refine ⟨?_, ?_⟩)⟩, ⟨⟨rfl, rfl⟩, _, rfl, by repeat' (first | exact trivial | exact RenB.v _ | refine ⟨?_, ?_⟩)⟩, ⟨⟨rfl, rfl⟩, _, rfl, by repeat' (first | exact trivial | exact RenB.ptr _ _ _ _ rfl | refine ⟨?_, ?_⟩)⟩, ⟨⟨rfl, rfl⟩, _, rfl, by repeat' (first | exact trivial | exact RenB.v _ | exact RenB.sl _ _ | refine ⟨?_, ?_⟩)⟩, ⟨⟨rfl, rfl⟩, rfl⟩, trivial⟩ (by repeat' (first | exact trivial | refine yQ ?_)) ?_
    repeat (first | ((with_reducible refine zI ?_); refine zJ rfl ?_) | ((with_reducible refine zE ?_); refine zF rfl ?_) | ((with_reducible refine zP ?_); refine jd rfl rfl (by omega) ?_)  | refine zK ?_ | refine zB rfl ?_ | with_reducible (first | refine zG ?_ | refine ze ?_) | ((with_reducible refine zA ?_ ?_); kernel_rfl))
    exact ⟨j + 1, ⟨hv0, by omega⟩, by omega, ⟨rfl, rfl, rfl, rfl, rfl, rfl, congrArg (fun z : Int => AV.v (.int .i64 z)) (by omega), trivial⟩, ⟨qn (by rw [eC, ← hq]), rfl, rfl, rfl, rfl, jB (by rw [eC, ← hq]), trivial⟩⟩
  have hjc : j = b.toNat := by simp at h; omega
  have e5 : r = net5 D nodes m := by rw [hr, hjc, hb]; rfl
  rw [e5]
  refine bC (s := 900) [] [(7, [.sl 3 NN, .sl 5 ((net5 D nodes m).1.map Dv.av)])] rfl trivial ⟨⟨_, _, rfl, .same (.hit .nil)⟩, trivial⟩ ?_
  rw [hNN]
  repeat (first | ((with_reducible refine zQ ?_); refine zZ tbOk rfl rfl rfl rfl (Nat.le_of_ble_eq_true rfl) ?_) | ((with_reducible refine zz ?_); refine yN tbOk rfl rfl rfl rfl rfl rfl rfl (Nat.le_of_ble_eq_true rfl) rfl ?_)  | refine zK ?_ | refine zB rfl ?_ | with_reducible (first | refine zG ?_ | refine zd ?_ | refine zH ?_ | refine zw ?_ | refine zS ?_) | ((with_reducible refine zb ?_ ?_); rfl) | ((with_reducible refine zA ?_ ?_); kernel_rfl))
  refine oO (by first | exact .inr rfl | exact .inl rfl) rfl rfl rfl rfl rfl rfl (by first | rfl | assumption) ?_ rfl ?_ rfl
  · rfl
  · rfl
end Go.Proofs.YtnafokinifbfhaaGreatDoor
