/- permitofficemake.Network, by the abstract machine: it makes the network of the plain functions; conditions: none. -/
import Derived.Test.YtnafokinifbfhaaGreatDoorNwA
import Derived.Test.YtnafokinifbfhaaGreatDoorAbsW
import Derived.Test.YtnafokinifbfhaaGreatDoorZg
set_option linter.unusedVariables false
set_option linter.unusedSimpArgs false
namespace Go.Proofs.YtnafokinifbfhaaGreatDoor
open Go Go.RowKit
set_option maxRecDepth 10000
variable {G : Nat → Option (List Value)}
set_option maxHeartbeats 16000000 in
theorem network_A (D : Dk) (nodes : Int) (m : Nat) (hD : DkOk D) (h1 : 1 ≤ nodes) (h2 : nodes ≤ 30) (hm : m ≤ 60) :
    zJ Tryz.prog G 9 [.ptr (refB + 0) 0 0, .v (.int .i64 nodes), .v (.int .i64 (m : Nat))] [D.cells] (.ag [.sl 3 ((net1 D nodes).1.map Nd.av), .sl 5 ((net5 D nodes m).1.map Dv.av)]) [(net5 D nodes m).2.cells] := by
  have hk := dG D h1 (by omega)
  have hK : netK D nodes ≤ 32 := by
    have := D.in_ (n := max 1 (nodes - 1)) (by omega) (by omega)
    omega
  refine zE tbOk (zA Tryz.func9 (by kernel_rfl) rfl) Tryz.func9 rfl _ Tryz.ntmps9 (Nat.le_of_ble_eq_true rfl) fun X hX => ?_
  subst hX
  refine zg12 ?_
  (with_reducible refine yV ?_); refine x_max rfl rfl ?_
  refine zg1 ?_
  refine zy (ss := [(refB + 0, 0)]) (yv D (max 1 (nodes - 1)) hD (by omega) (by omega)) (by repeat' (first | exact trivial | exact Ren.v _ | exact Ren.ptr _ _ _ _ rfl | refine ⟨?_, ?_⟩)) (by simp) (in1 rfl rfl) rfl (yP rfl) (by repeat' exact RenB.v _) ?_
  refine zg10 ?_
  refine oB (s := 48) 67 3 [] [(7, [.own 48 1, .v (.slice none 0 0)])] rfl trivial ⟨⟨_, _, rfl, .hit (.same .nil)⟩, trivial⟩ ?_
  refine yK (ι := Nat) (fun v i => v (refB + 0) = 0 ∧ i ≤ netK D nodes) (fun i => netK D nodes - i) (fun v i => [(3, .ptr 3 (v 3) 0), (5, .ptr 5 (v 5) 0), (6, .ptr 6 (v 6) 0), (7, .ptr 7 (v 7) 0), (8, .v (.int .i64 (netK D nodes : Nat))), (9, .v (.int .i64 (i : Nat)))]) (fun v i => [(refB + 0, .box (zg D.next i).2.cells), (3, .box [.ptr (refB + 0) (v (refB + 0)) 0]), (5, .box [.v (.int .i64 (m : Nat))]), (6, .box [.v (.slice none 0 0), .v (.slice none 0 0)]), (7, .box [.own 48 (v 48), .v (.slice none 0 0)]), (48, .buf 67 3 ((zg D.next i).1.map Nd.av))]) ?_ ?_
  · exact ⟨0, ⟨rfl, Nat.zero_le _⟩, trivial, ⟨rfl, rfl, rfl, rfl, congrArg (fun z : Int => AV.v (.int .i64 z)) hk.2.2.symm, rfl, trivial⟩, ⟨rfl, rfl, rfl, rfl, rfl, rfl, trivial⟩⟩
  rintro v i ⟨hv0, hi⟩
  have hE := mC hD.next i
  have hLl := aK D.next i
  refine zg1 ?_
  refine zF rfl (fun h => ?_) (fun h => ?_)
  · have hlt : i < netK D nodes := by simpa using h
    refine zg0 ?_
    refine zG (vF 78 i (by omega)) (by repeat' (first | exact trivial | exact Ren.v _ | refine ⟨?_, ?_⟩)) (by repeat' exact RenB.v _) ?_
    refine zg4 ?_
    refine zy (ss := [(refB + 0, v (refB + 0))]) (oA (zg D.next i).2 2 hE (by omega) (by omega)) (by repeat' (first | exact trivial | exact Ren.v _ | exact Ren.ptr _ _ _ _ rfl | refine ⟨?_, ?_⟩)) (by simp) (in1 rfl rfl) rfl (yP rfl) (by repeat' exact RenB.v _) ?_
    refine zg1 ?_
    refine zF rfl (fun h => ?_) (fun h => ?_)
    · have h0 : (zg D.next i).2.val 2 = 0 := by simpa using h
      have r5 := (zg D.next i).2.next.in_ (n := 50) (by decide) (by decide)
      have e0 : optD (zg D.next i).2 2 50 = (1 + (zg D.next i).2.next.val 50, (zg D.next i).2.next.next) := by unfold optD; rw [if_pos h0]
      refine zg11 ?_
      refine zy (ss := [(refB + 0, v (refB + 0))]) (yv (zg D.next i).2.next 50 hE.next (by omega) (by omega)) (by repeat' (first | exact trivial | exact Ren.v _ | exact Ren.ptr _ _ _ _ rfl | refine ⟨?_, ?_⟩)) (by simp) (in1 rfl rfl) rfl (yP rfl) (by repeat' exact RenB.v _) ?_
      refine zg4 ?_
      refine zy (ss := [(refB + 0, v (refB + 0))]) (oA (zg D.next i).2.next.next 8 hE.next.next (by omega) (by omega)) (by repeat' (first | exact trivial | exact Ren.v _ | exact Ren.ptr _ _ _ _ rfl | refine ⟨?_, ?_⟩)) (by simp) (in1 rfl rfl) rfl (yP rfl) (by repeat' exact RenB.v _) ?_
      refine zg1 ?_
      refine zF rfl (fun h => ?_) (fun h => ?_)
      · have hh : (zg D.next i).2.next.next.val 8 = 0 := by simpa using h
        have r2 := (zg D.next i).2.next.next.next.in_ (n := 2) (by decide) (by decide)
        have eN : eX (zg D.next i).2 i = (⟨nmS 78 i, 1 + (zg D.next i).2.next.val 50, 1 + (zg D.next i).2.next.next.next.val 2⟩, (zg D.next i).2.next.next.next.next) := by unfold eX; rw [e0]; simp only [optD, if_pos hh]
        refine zg11 ?_
        refine zy (ss := [(refB + 0, v (refB + 0))]) (yv (zg D.next i).2.next.next.next 2 hE.next.next.next (by omega) (by omega)) (by repeat' (first | exact trivial | exact Ren.v _ | exact Ren.ptr _ _ _ _ rfl | refine ⟨?_, ?_⟩)) (by simp) (in1 rfl rfl) rfl (yP rfl) (by repeat' exact RenB.v _) ?_
        refine zg4 ?_
        refine za tbOk rfl rfl rfl rfl rfl (by decide) rfl rfl rfl rfl rfl (fun x hx => by simp at hx; subst hx; rfl) (by simp only [List.length_map, List.length_cons, List.length_nil]; omega) (by simp only [List.length_map, List.length_cons, List.length_nil]; omega) ?_
        refine zg10 ?_
        exact ⟨i + 1, ⟨hv0, by omega⟩, by omega, ⟨rfl, rfl, rfl, rfl, rfl, rfl, trivial⟩, ⟨qr (by rw [zg, eN]), rfl, rfl, rfl, rfl, zq (by rw [zg, eN, List.map_append]; rfl), trivial⟩⟩
      · have hh : ¬ (zg D.next i).2.next.next.val 8 = 0 := by simpa using h
        have eN : eX (zg D.next i).2 i = (⟨nmS 78 i, 1 + (zg D.next i).2.next.val 50, 0⟩, (zg D.next i).2.next.next.next) := by unfold eX; rw [e0]; simp only [optD, if_neg hh]
        refine zg13 ?_
        refine za tbOk rfl rfl rfl rfl rfl (by decide) rfl rfl rfl rfl rfl (fun x hx => by simp at hx; subst hx; rfl) (by simp only [List.length_map, List.length_cons, List.length_nil]; omega) (by simp only [List.length_map, List.length_cons, List.length_nil]; omega) ?_
        refine zg10 ?_
        exact ⟨i + 1, ⟨hv0, by omega⟩, by omega, ⟨rfl, rfl, rfl, rfl, rfl, rfl, trivial⟩, ⟨qr (by rw [zg, eN]), rfl, rfl, rfl, rfl, zq (by rw [zg, eN, List.map_append]; rfl), trivial⟩⟩
    · have h0 : ¬ (zg D.next i).2.val 2 = 0 := by simpa using h
      have e0 : optD (zg D.next i).2 2 50 = (0, (zg D.next i).2.next) := by unfold optD; rw [if_neg h0]
      refine zg10 ?_
      refine zy (ss := [(refB + 0, v (refB + 0))]) (oA (zg D.next i).2.next 8 hE.next (by omega) (by omega)) (by repeat' (first | exact trivial | exact Ren.v _ | exact Ren.ptr _ _ _ _ rfl | refine ⟨?_, ?_⟩)) (by simp) (in1 rfl rfl) rfl (yP rfl) (by repeat' exact RenB.v _) ?_
      refine zg1 ?_
      refine zF rfl (fun h => ?_) (fun h => ?_)
      · have hh : (zg D.next i).2.next.val 8 = 0 := by simpa using h
        have r2 := (zg D.next i).2.next.next.in_ (n := 2) (by decide) (by decide)
        have eN : eX (zg D.next i).2 i = (⟨nmS 78 i, 0, 1 + (zg D.next i).2.next.next.val 2⟩, (zg D.next i).2.next.next.next) := by unfold eX; rw [e0]; simp only [optD, if_pos hh]
        refine zg11 ?_
        refine zy (ss := [(refB + 0, v (refB + 0))]) (yv (zg D.next i).2.next.next 2 hE.next.next (by omega) (by omega)) (by repeat' (first | exact trivial | exact Ren.v _ | exact Ren.ptr _ _ _ _ rfl | refine ⟨?_, ?_⟩)) (by simp) (in1 rfl rfl) rfl (yP rfl) (by repeat' exact RenB.v _) ?_
        refine zg4 ?_
        refine za tbOk rfl rfl rfl rfl rfl (by decide) rfl rfl rfl rfl rfl (fun x hx => by simp at hx; subst hx; rfl) (by simp only [List.length_map, List.length_cons, List.length_nil]; omega) (by simp only [List.length_map, List.length_cons, List.length_nil]; omega) ?_
        refine zg10 ?_
        exact ⟨i + 1, ⟨hv0, by omega⟩, by omega, ⟨rfl, rfl, rfl, rfl, rfl, rfl, trivial⟩, ⟨qr (by rw [zg, eN]), rfl, rfl, rfl, rfl, zq (by rw [zg, eN, List.map_append]; rfl), trivial⟩⟩
      · have hh : ¬ (zg D.next i).2.next.val 8 = 0 := by simpa using h
        have eN : eX (zg D.next i).2 i = (⟨nmS 78 i, 0, 0⟩, (zg D.next i).2.next.next) := by unfold eX; rw [e0]; simp only [optD, if_neg hh]
        refine zg13 ?_
        refine za tbOk rfl rfl rfl rfl rfl (by decide) rfl rfl rfl rfl rfl (fun x hx => by simp at hx; subst hx; rfl) (by simp only [List.length_map, List.length_cons, List.length_nil]; omega) (by simp only [List.length_map, List.length_cons, List.length_nil]; omega) ?_
        refine zg10 ?_
        exact ⟨i + 1, ⟨hv0, by omega⟩, by omega, ⟨rfl, rfl, rfl, rfl, rfl, rfl, trivial⟩, ⟨qr (by rw [zg, eN]), rfl, rfl, rfl, rfl, zq (by rw [zg, eN, List.map_append]; rfl), trivial⟩⟩
  obtain rfl : i = netK D nodes := by simp at h; omega
  refine bQ (s := 48) [] [(7, [.sl 3 ((net1 D nodes).1.map Nd.av), .v (.slice none 0 0)])] rfl trivial ⟨⟨_, _, rfl, .hit (.same .nil)⟩, trivial⟩ ?_
  refine oB (s := 900) 56 5 [] [(7, [.sl 3 ((net1 D nodes).1.map Nd.av), .own 900 (v 900 + 1)])] rfl trivial ⟨⟨_, _, rfl, .same (.hit .nil)⟩, trivial⟩ ?_
  obtain ⟨NN, hNN⟩ : ∃ NN, NN = (net1 D nodes).1.map Nd.av := ⟨_, rfl⟩
  rw [← hNN]
  have ok2 := net2_ok hD m h1 (by omega)
  refine zg13 ?_
  with_reducible refine dF ?_
  refine uX (.ptr 7 (v 7) 0) (.ptr 5 (v 5) 0) (.ptr 3 (v 3) 0) rfl rfl rfl ?_
  refine zg1 ?_
  refine aS (ss := [(7, v 7), (5, v 5), (3, v 3), (refB + 0, v (refB + 0)), (900, v 900 + 1)]) (ss' := [(7, v 7), (5, v 5), (3, v 3), (refB + 0, v (refB + 0)), (900, v 900 + 1 + 1)]) (cs' := [.box [.sl 3 NN, .own 900 (v 900 + 1 + 1)], .box [.v (.int .i64 (m : Nat))], .box [.ptr (refB + 0) (v (refB + 0)) 0], .box (net2 D nodes m).2.cells, .buf 56 5 ((net2 D nodes m).1.map Dv.av)]) (y := .tu []) (oX NN m ([], (net1 D nodes).2) 5 0 (-1) (net1_ok hD nodes) hm (Nat.zero_le _) (by decide)) rfl (by repeat' (first | exact trivial | exact Ren.v _ | exact Ren.ptr _ _ _ _ rfl | refine ⟨?_, ?_⟩)) (by simp [refB]) ⟨⟨_, rfl, by repeat' (first | exact trivial | exact Ren.sl _ _ | exact Ren.ownr _ _ _ rfl | refine ⟨?_, ?_⟩)⟩, ⟨_, rfl, by repeat' (first | exact trivial | exact Ren.v _ | refine ⟨?_, ?_⟩)⟩, ⟨_, rfl, by repeat' (first | exact trivial | exact Ren.ptr _ _ _ _ rfl | refine ⟨?_, ?_⟩)⟩, ⟨_, rfl, by repeat' (first | exact trivial | exact Ren.v _ | exact Ren.sl _ _ | refine ⟨?_, ?_⟩)⟩, rfl, trivial⟩ ⟨⟨⟨rfl, rfl⟩, _, rfl, by repeat' (first | exact trivial | exact RenB.sl _ _ | exact RenB.own _ _ _ rfl | refine ⟨?_, ?_⟩)⟩, ⟨⟨rfl, rfl⟩, _, rfl, by repeat' (first | exact trivial | exact RenB.v _ | refine ⟨?_, ?_⟩)⟩, ⟨⟨rfl, rfl⟩, _, rfl, by repeat' (first | exact trivial | exact RenB.ptr _ _ _ _ rfl | refine ⟨?_, ?_⟩)⟩, ⟨⟨rfl, rfl⟩, _, rfl, by repeat' (first | exact trivial | exact RenB.v _ | exact RenB.sl _ _ | refine ⟨?_, ?_⟩)⟩, ⟨⟨rfl, rfl⟩, rfl⟩, trivial⟩ (by repeat' (first | exact trivial | refine zZ ?_)) ?_
  refine zg0 ?_
  clear hE hLl h
  refine yK (ι := Nat) (fun v j => v (refB + 0) = 0 ∧ j + 1 ≤ netK D nodes) (fun j => netK D nodes - j) (fun v j => [(3, .ptr 3 (v 3) 0), (5, .ptr 5 (v 5) 0), (6, .ptr 6 (v 6) 0), (7, .ptr 7 (v 7) 0), (8, .v (.int .i64 (netK D nodes : Nat))), (11, .fn 38 [.ptr 7 (v 7) 0, .ptr 5 (v 5) 0, .ptr 3 (v 3) 0]), (12, .v (.int .i64 ((j + 1 : Nat) : Int)))]) (fun v j => [(refB + 0, .box (aA m (net2 D nodes m) j).2.cells), (3, .box [.ptr (refB + 0) (v (refB + 0)) 0]), (5, .box [.v (.int .i64 (m : Nat))]), (6, .box [.v (.slice none 0 0), .v (.slice none 0 0)]), (7, .box [.sl 3 NN, .own 900 (v 900)]), (900, .buf 56 5 ((aA m (net2 D nodes m) j).1.map Dv.av))]) ?_ ?_
  · exact ⟨0, ⟨hv0, by omega⟩, trivial, ⟨rfl, rfl, rfl, rfl, rfl, rfl, rfl, trivial⟩, ⟨rfl, rfl, rfl, rfl, rfl, rfl, trivial⟩⟩
  clear hv0 v hi
  rintro v j ⟨hv0, hj⟩
  have okj := iA ok2 (by omega) j (by omega)
  have eC : aA m (net2 D nodes m) (j + 1) = tY m (aA m (net2 D nodes m) j) (j + 1) := rfl
  unfold tY at eC
  obtain ⟨r, hr⟩ : ∃ r, r = aA m (net2 D nodes m) j := ⟨_, rfl⟩
  rw [← hr] at eC okj ⊢
  have hE := okj.dk
  have hlen := okj.len
  refine zg1 ?_
  refine zF rfl (fun h => ?_) (fun h => ?_)
  · have hlt : j + 1 < netK D nodes := by simp at h; omega
    refine zg10 ?_
    refine zy (ss := [(refB + 0, v (refB + 0))]) (oA r.2 3 hE (by omega) (by omega)) (by repeat' (first | exact trivial | exact Ren.v _ | exact Ren.ptr _ _ _ _ rfl | refine ⟨?_, ?_⟩)) (by simp) (in1 rfl rfl) rfl (yP rfl) (by repeat' exact RenB.v _) ?_
    refine zg1 ?_
    refine zF rfl (fun h => ?_) (fun h => ?_)
    · have h0 : r.2.val 3 = 0 := by simpa using h
      have eb : bT r.2 (j + 1) = (r.2.next.val ((j + 1 : Nat) : Int), r.2.next.next) := by unfold bT; rw [if_pos h0]
      rw [eb] at eC
      have r3 := r.2.next.next.in_ (n := 3) (by decide) (by decide)
      refine zg11 ?_
      refine zy (ss := [(refB + 0, v (refB + 0))]) (yv r.2.next ((j + 1 : Nat) : Int) hE.next (by omega) (by omega)) (by repeat' (first | exact trivial | exact Ren.v _ | exact Ren.ptr _ _ _ _ rfl | refine ⟨?_, ?_⟩)) (by simp) (in1 rfl rfl) rfl (yP rfl) (by repeat' exact RenB.v _) ?_
      refine zg6 ?_
      refine zy (ss := [(refB + 0, v (refB + 0))]) (yv r.2.next.next 3 hE.next.next (by omega) (by omega)) (by repeat' (first | exact trivial | exact Ren.v _ | exact Ren.ptr _ _ _ _ rfl | refine ⟨?_, ?_⟩)) (by simp) (in1 rfl rfl) rfl (yP rfl) (by repeat' exact RenB.v _) ?_
      refine zg11 ?_
      refine aS (ss := [(7, v 7), (5, v 5), (3, v 3), (refB + 0, v (refB + 0)), (900, v 900)]) (ss' := [(7, v 7), (5, v 5), (3, v 3), (refB + 0, v (refB + 0)), (900, v 900 + 1)]) (cs' := [.box [.sl 3 NN, .own 900 (v 900 + 1)], .box [.v (.int .i64 (m : Nat))], .box [.ptr (refB + 0) (v (refB + 0)) 0], .box (addD m (r.1, r.2.next.next.next) (1 + r.2.next.next.val 3) (r.2.next.val ((j + 1 : Nat) : Int)) ((j + 1 : Nat) : Int)).2.cells, .buf 56 5 ((addD m (r.1, r.2.next.next.next) (1 + r.2.next.next.val 3) (r.2.next.val ((j + 1 : Nat) : Int)) ((j + 1 : Nat) : Int)).1.map Dv.av)]) (y := .tu []) (oX NN m (r.1, r.2.next.next.next) (1 + r.2.next.next.val 3) (r.2.next.val ((j + 1 : Nat) : Int)) ((j + 1 : Nat) : Int) hE.next.next.next hm hlen (by omega)) rfl (by repeat' (first | exact trivial | exact Ren.v _ | exact Ren.ptr _ _ _ _ rfl | refine ⟨?_, ?_⟩)) (by simp [refB]) ⟨⟨_, rfl, by repeat' (first | exact trivial | exact Ren.sl _ _ | exact Ren.ownr _ _ _ rfl | refine ⟨?_, ?_⟩)⟩, ⟨_, rfl, by repeat' (first | exact trivial | exact Ren.v _ | refine ⟨?_, ?_⟩)⟩, ⟨_, rfl, by repeat' (first | exact trivial | exact Ren.ptr _ _ _ _ rfl | refine ⟨?_, ?_⟩)⟩, ⟨_, rfl, by repeat' (first | exact trivial | exact Ren.v _ | exact Ren.sl _ _ | refine ⟨?_, ?_⟩)⟩, rfl, trivial⟩ ⟨⟨⟨rfl, rfl⟩, _, rfl, by repeat' (first | exact trivial | exact RenB.sl _ _ | exact RenB.own _ _ _ rfl | refine ⟨?_, ?_⟩)⟩, ⟨⟨rfl, rfl⟩, _, rfl, by repeat' (first | exact trivial | exact RenB.v _ | refine ⟨?_, ?_⟩)⟩, ⟨⟨rfl, rfl⟩, _, rfl, by repeat' (first | exact trivial | exact RenB.ptr _ _ _ _ rfl | refine ⟨?_, ?_⟩)⟩, ⟨⟨rfl, rfl⟩, _, rfl, by repeat' (first | exact trivial | exact RenB.v _ | exact RenB.sl _ _ | refine ⟨?_, ?_⟩)⟩, ⟨⟨rfl, rfl⟩, rfl⟩, trivial⟩ (by repeat' (first | exact trivial | refine zZ ?_)) ?_
      refine zg2 ?_
      exact ⟨j + 1, ⟨hv0, by omega⟩, by omega, ⟨rfl, rfl, rfl, rfl, rfl, rfl, rfl, trivial⟩, ⟨qr (by rw [eC]), rfl, rfl, rfl, rfl, zq (by rw [eC]), trivial⟩⟩
    · have h0 : ¬ r.2.val 3 = 0 := by simpa using h
      have eb : bT r.2 (j + 1) = (((j + 1 : Nat) : Int) - 1, r.2.next) := by unfold bT; rw [if_neg h0]
      rw [eb] at eC
      have r3 := r.2.next.in_ (n := 3) (by decide) (by decide)
      refine zg7 ?_
      refine zy (ss := [(refB + 0, v (refB + 0))]) (yv r.2.next 3 hE.next (by omega) (by omega)) (by repeat' (first | exact trivial | exact Ren.v _ | exact Ren.ptr _ _ _ _ rfl | refine ⟨?_, ?_⟩)) (by simp) (in1 rfl rfl) rfl (yP rfl) (by repeat' exact RenB.v _) ?_
      refine zg11 ?_
      refine aS (ss := [(7, v 7), (5, v 5), (3, v 3), (refB + 0, v (refB + 0)), (900, v 900)]) (ss' := [(7, v 7), (5, v 5), (3, v 3), (refB + 0, v (refB + 0)), (900, v 900 + 1)]) (cs' := [.box [.sl 3 NN, .own 900 (v 900 + 1)], .box [.v (.int .i64 (m : Nat))], .box [.ptr (refB + 0) (v (refB + 0)) 0], .box (addD m (r.1, r.2.next.next) (1 + r.2.next.val 3) (((j + 1 : Nat) : Int) - 1) ((j + 1 : Nat) : Int)).2.cells, .buf 56 5 ((addD m (r.1, r.2.next.next) (1 + r.2.next.val 3) (((j + 1 : Nat) : Int) - 1) ((j + 1 : Nat) : Int)).1.map Dv.av)]) (y := .tu []) (oX NN m (r.1, r.2.next.next) (1 + r.2.next.val 3) (((j + 1 : Nat) : Int) - 1) ((j + 1 : Nat) : Int) hE.next.next hm hlen (by omega)) rfl (by repeat' (first | exact trivial | exact Ren.v _ | exact Ren.ptr _ _ _ _ rfl | refine ⟨?_, ?_⟩)) (by simp [refB]) ⟨⟨_, rfl, by repeat' (first | exact trivial | exact Ren.sl _ _ | exact Ren.ownr _ _ _ rfl | refine ⟨?_, ?_⟩)⟩, ⟨_, rfl, by repeat' (first | exact trivial | exact Ren.v _ | refine ⟨?_, ?_⟩)⟩, ⟨_, rfl, by repeat' (first | exact trivial | exact Ren.ptr _ _ _ _ rfl | refine ⟨?_, ?_⟩)⟩, ⟨_, rfl, by repeat' (first | exact trivial | exact Ren.v _ | exact Ren.sl _ _ | refine ⟨?_, ?_⟩)⟩, rfl, trivial⟩ ⟨⟨⟨rfl, rfl⟩, _, rfl, by repeat' (first | exact trivial | exact RenB.sl _ _ | exact RenB.own _ _ _ rfl | refine ⟨?_, ?_⟩)⟩, ⟨⟨rfl, rfl⟩, _, rfl, by repeat' (first | exact trivial | exact RenB.v _ | refine ⟨?_, ?_⟩)⟩, ⟨⟨rfl, rfl⟩, _, rfl, by repeat' (first | exact trivial | exact RenB.ptr _ _ _ _ rfl | refine ⟨?_, ?_⟩)⟩, ⟨⟨rfl, rfl⟩, _, rfl, by repeat' (first | exact trivial | exact RenB.v _ | exact RenB.sl _ _ | refine ⟨?_, ?_⟩)⟩, ⟨⟨rfl, rfl⟩, rfl⟩, trivial⟩ (by repeat' (first | exact trivial | refine zZ ?_)) ?_
      refine zg2 ?_
      exact ⟨j + 1, ⟨hv0, by omega⟩, by omega, ⟨rfl, rfl, rfl, rfl, rfl, rfl, rfl, trivial⟩, ⟨qr (by rw [eC]), rfl, rfl, rfl, rfl, zq (by rw [eC]), trivial⟩⟩
  have hjK : j = netK D nodes - 1 := by simp at h; omega
  have e3 : r = net3 D nodes m := by rw [hr, hjK]; rfl
  rw [e3]
  clear eC hr hlen hE okj h hjK hj e3 r
  have ok3 := tW hD m h1 (by omega)
  have rc := (net3 D nodes m).2.in_ (n := 4) (by decide) (by decide)
  refine zg13 ?_
  refine zy (ss := [(refB + 0, v (refB + 0))]) (yv (net3 D nodes m).2 4 ok3.dk (by omega) (by omega)) (by repeat' (first | exact trivial | exact Ren.v _ | exact Ren.ptr _ _ _ _ rfl | refine ⟨?_, ?_⟩)) (by simp) (in1 rfl rfl) rfl (yP rfl) (by repeat' exact RenB.v _) ?_
  refine zg9 ?_
  obtain ⟨c, hc⟩ : ∃ c, c = (net3 D nodes m).2.val 4 := ⟨_, rfl⟩
  rw [← hc] at rc ⊢
  refine yK (ι := Nat) (fun v j => v (refB + 0) = 0 ∧ (j : Int) ≤ c) (fun j => (c).toNat - j) (fun v j => [(3, .ptr 3 (v 3) 0), (5, .ptr 5 (v 5) 0), (6, .ptr 6 (v 6) 0), (7, .ptr 7 (v 7) 0), (8, .v (.int .i64 (netK D nodes : Nat))), (11, .fn 38 [.ptr 7 (v 7) 0, .ptr 5 (v 5) 0, .ptr 3 (v 3) 0]), (14, .v (.int .i64 (c - (j : Int))))]) (fun v j => [(refB + 0, .box (cF (qo m ((netK D nodes : Nat) : Int)) ((net3 D nodes m).1, (net3 D nodes m).2.next) j).2.cells), (3, .box [.ptr (refB + 0) (v (refB + 0)) 0]), (5, .box [.v (.int .i64 (m : Nat))]), (6, .box [.v (.slice none 0 0), .v (.slice none 0 0)]), (7, .box [.sl 3 NN, .own 900 (v 900)]), (900, .buf 56 5 ((cF (qo m ((netK D nodes : Nat) : Int)) ((net3 D nodes m).1, (net3 D nodes m).2.next) j).1.map Dv.av))]) ?_ ?_
  · exact ⟨0, ⟨hv0, by omega⟩, trivial, ⟨rfl, rfl, rfl, rfl, rfl, rfl, congrArg (fun z : Int => AV.v (.int .i64 z)) (by omega), trivial⟩, ⟨rfl, rfl, rfl, rfl, rfl, rfl, trivial⟩⟩
  clear hv0 v
  rintro v j ⟨hv0, hj⟩
  have okj := eO (Q := VsOk m ((netK D nodes : Nat) : Int)) (f := qo m ((netK D nodes : Nat) : Int)) (ok3.dk' ok3.dk.next) (fun r hr => sC hr (by omega) (by omega)) j
  obtain ⟨r, hr⟩ : ∃ r, r = cF (qo m ((netK D nodes : Nat) : Int)) ((net3 D nodes m).1, (net3 D nodes m).2.next) j := ⟨_, rfl⟩
  have eC : cF (qo m ((netK D nodes : Nat) : Int)) ((net3 D nodes m).1, (net3 D nodes m).2.next) (j + 1) = qo m ((netK D nodes : Nat) : Int) r := by rw [hr]; rfl
  generalize hq : qo m ((netK D nodes : Nat) : Int) r = q at eC
  unfold qo at hq
  rw [← hr] at okj ⊢
  have hE := okj.dk
  have hlen := okj.len
  refine zg1 ?_
  refine zF rfl (fun h => ?_) (fun h => ?_)
  · have hlt : (j : Int) < c := by simp at h; omega
    have r4 := r.2.in_ (n := 4) (by decide) (by decide)
    have ra := r.2.next.in_ (n := ((netK D nodes : Nat) : Int)) (by omega) (by omega)
    have rb := r.2.next.next.in_ (n := ((netK D nodes : Nat) : Int) - 1) (by omega) (by omega)
    have rk := r.2.next.next.next.in_ (n := 3) (by decide) (by decide)
    refine zg10 ?_
    refine zy (ss := [(refB + 0, v (refB + 0))]) (yv r.2 4 hE (by omega) (by omega)) (by repeat' (first | exact trivial | exact Ren.v _ | exact Ren.ptr _ _ _ _ rfl | refine ⟨?_, ?_⟩)) (by simp) (in1 rfl rfl) rfl (yP rfl) (by repeat' exact RenB.v _) ?_
    refine zg3 ?_
    refine zF rfl (fun h => ?_) (fun h => ?_)
    · have h0 : r.2.val 4 = 0 := by simpa using h
      rw [if_pos h0] at hq
      have eb : (r.2.next.val ((netK D nodes : Nat) : Int) + 1 + r.2.next.next.val (((netK D nodes : Nat) : Int) - 1)).tmod ((netK D nodes : Nat) : Int) = (r.2.next.val ((netK D nodes : Nat) : Int) + 1 + r.2.next.next.val (((netK D nodes : Nat) : Int) - 1)) % ((netK D nodes : Nat) : Int) := Int.tmod_eq_emod_of_nonneg (by omega)
      rw [← eb] at hq
      refine zg11 ?_
      refine zy (ss := [(refB + 0, v (refB + 0))]) (yv r.2.next ((netK D nodes : Nat) : Int) hE.next (by omega) (by omega)) (by repeat' (first | exact trivial | exact Ren.v _ | exact Ren.ptr _ _ _ _ rfl | refine ⟨?_, ?_⟩)) (by simp) (in1 rfl rfl) rfl (yP rfl) (by repeat' exact RenB.v _) ?_
      refine zg10 ?_
      refine zy (ss := [(refB + 0, v (refB + 0))]) (yv r.2.next.next (((netK D nodes : Nat) : Int) - 1) hE.next.next (by omega) (by omega)) (by repeat' (first | exact trivial | exact Ren.v _ | exact Ren.ptr _ _ _ _ rfl | refine ⟨?_, ?_⟩)) (by simp) (in1 rfl rfl) rfl (yP rfl) (by repeat' exact RenB.v _) ?_
      refine zg4 ?_
      refine zy (ss := [(refB + 0, v (refB + 0))]) (yv r.2.next.next.next 3 hE.next.next.next (by omega) (by omega)) (by repeat' (first | exact trivial | exact Ren.v _ | exact Ren.ptr _ _ _ _ rfl | refine ⟨?_, ?_⟩)) (by simp) (in1 rfl rfl) rfl (yP rfl) (by repeat' exact RenB.v _) ?_
      refine zg11 ?_
      refine aS (ss := [(7, v 7), (5, v 5), (3, v 3), (refB + 0, v (refB + 0)), (900, v 900)]) (ss' := [(7, v 7), (5, v 5), (3, v 3), (refB + 0, v (refB + 0)), (900, v 900 + 1)]) (cs' := [.box [.sl 3 NN, .own 900 (v 900 + 1)], .box [.v (.int .i64 (m : Nat))], .box [.ptr (refB + 0) (v (refB + 0)) 0], .box (addD m (r.1, r.2.next.next.next.next) (1 + r.2.next.next.next.val 3) (r.2.next.val ((netK D nodes : Nat) : Int)) ((r.2.next.val ((netK D nodes : Nat) : Int) + 1 + r.2.next.next.val (((netK D nodes : Nat) : Int) - 1)).tmod ((netK D nodes : Nat) : Int))).2.cells, .buf 56 5 ((addD m (r.1, r.2.next.next.next.next) (1 + r.2.next.next.next.val 3) (r.2.next.val ((netK D nodes : Nat) : Int)) ((r.2.next.val ((netK D nodes : Nat) : Int) + 1 + r.2.next.next.val (((netK D nodes : Nat) : Int) - 1)).tmod ((netK D nodes : Nat) : Int))).1.map Dv.av)]) (y := .tu []) (oX NN m (r.1, r.2.next.next.next.next) (1 + r.2.next.next.next.val 3) (r.2.next.val ((netK D nodes : Nat) : Int)) ((r.2.next.val ((netK D nodes : Nat) : Int) + 1 + r.2.next.next.val (((netK D nodes : Nat) : Int) - 1)).tmod ((netK D nodes : Nat) : Int)) hE.next.next.next.next hm hlen (by omega)) rfl (by repeat' (first | exact trivial | exact Ren.v _ | exact Ren.ptr _ _ _ _ rfl | refine ⟨?_, ?_⟩)) (by simp [refB]) ⟨⟨_, rfl, by repeat' (first | exact trivial | exact Ren.sl _ _ | exact Ren.ownr _ _ _ rfl | refine ⟨?_, ?_⟩)⟩, ⟨_, rfl, by repeat' (first | exact trivial | exact Ren.v _ | refine ⟨?_, ?_⟩)⟩, ⟨_, rfl, by repeat' (first | exact trivial | exact Ren.ptr _ _ _ _ rfl | refine ⟨?_, ?_⟩)⟩, ⟨_, rfl, by repeat' (first | exact trivial | exact Ren.v _ | exact Ren.sl _ _ | refine ⟨?_, ?_⟩)⟩, rfl, trivial⟩ ⟨⟨⟨rfl, rfl⟩, _, rfl, by repeat' (first | exact trivial | exact RenB.sl _ _ | exact RenB.own _ _ _ rfl | refine ⟨?_, ?_⟩)⟩, ⟨⟨rfl, rfl⟩, _, rfl, by repeat' (first | exact trivial | exact RenB.v _ | refine ⟨?_, ?_⟩)⟩, ⟨⟨rfl, rfl⟩, _, rfl, by repeat' (first | exact trivial | exact RenB.ptr _ _ _ _ rfl | refine ⟨?_, ?_⟩)⟩, ⟨⟨rfl, rfl⟩, _, rfl, by repeat' (first | exact trivial | exact RenB.v _ | exact RenB.sl _ _ | refine ⟨?_, ?_⟩)⟩, ⟨⟨rfl, rfl⟩, rfl⟩, trivial⟩ (by repeat' (first | exact trivial | refine zZ ?_)) ?_
      refine zg10 ?_
      exact ⟨j + 1, ⟨hv0, by omega⟩, by omega, ⟨rfl, rfl, rfl, rfl, rfl, rfl, congrArg (fun z : Int => AV.v (.int .i64 z)) (by omega), trivial⟩, ⟨qr (by rw [eC, ← hq]), rfl, rfl, rfl, rfl, zq (by rw [eC, ← hq]), trivial⟩⟩
    have h0 : ¬ r.2.val 4 = 0 := by simpa using h
    rw [if_neg h0] at hq
    refine zg1 ?_
    refine zF rfl (fun h => ?_) (fun h => ?_)
    · have h1' : r.2.val 4 = 1 := by simpa using h
      rw [if_pos h1'] at hq
      refine zg11 ?_
      refine zy (ss := [(refB + 0, v (refB + 0))]) (yv r.2.next ((netK D nodes : Nat) : Int) hE.next (by omega) (by omega)) (by repeat' (first | exact trivial | exact Ren.v _ | exact Ren.ptr _ _ _ _ rfl | refine ⟨?_, ?_⟩)) (by simp) (in1 rfl rfl) rfl (yP rfl) (by repeat' exact RenB.v _) ?_
      refine zg1 ?_
      refine aS (ss := [(7, v 7), (5, v 5), (3, v 3), (refB + 0, v (refB + 0)), (900, v 900)]) (ss' := [(7, v 7), (5, v 5), (3, v 3), (refB + 0, v (refB + 0)), (900, v 900 + 1)]) (cs' := [.box [.sl 3 NN, .own 900 (v 900 + 1)], .box [.v (.int .i64 (m : Nat))], .box [.ptr (refB + 0) (v (refB + 0)) 0], .box (addD m (r.1, r.2.next.next) 5 (r.2.next.val ((netK D nodes : Nat) : Int)) (-1)).2.cells, .buf 56 5 ((addD m (r.1, r.2.next.next) 5 (r.2.next.val ((netK D nodes : Nat) : Int)) (-1)).1.map Dv.av)]) (y := .tu []) (oX NN m (r.1, r.2.next.next) 5 (r.2.next.val ((netK D nodes : Nat) : Int)) (-1) hE.next.next hm hlen (by decide)) rfl (by repeat' (first | exact trivial | exact Ren.v _ | exact Ren.ptr _ _ _ _ rfl | refine ⟨?_, ?_⟩)) (by simp [refB]) ⟨⟨_, rfl, by repeat' (first | exact trivial | exact Ren.sl _ _ | exact Ren.ownr _ _ _ rfl | refine ⟨?_, ?_⟩)⟩, ⟨_, rfl, by repeat' (first | exact trivial | exact Ren.v _ | refine ⟨?_, ?_⟩)⟩, ⟨_, rfl, by repeat' (first | exact trivial | exact Ren.ptr _ _ _ _ rfl | refine ⟨?_, ?_⟩)⟩, ⟨_, rfl, by repeat' (first | exact trivial | exact Ren.v _ | exact Ren.sl _ _ | refine ⟨?_, ?_⟩)⟩, rfl, trivial⟩ ⟨⟨⟨rfl, rfl⟩, _, rfl, by repeat' (first | exact trivial | exact RenB.sl _ _ | exact RenB.own _ _ _ rfl | refine ⟨?_, ?_⟩)⟩, ⟨⟨rfl, rfl⟩, _, rfl, by repeat' (first | exact trivial | exact RenB.v _ | refine ⟨?_, ?_⟩)⟩, ⟨⟨rfl, rfl⟩, _, rfl, by repeat' (first | exact trivial | exact RenB.ptr _ _ _ _ rfl | refine ⟨?_, ?_⟩)⟩, ⟨⟨rfl, rfl⟩, _, rfl, by repeat' (first | exact trivial | exact RenB.v _ | exact RenB.sl _ _ | refine ⟨?_, ?_⟩)⟩, ⟨⟨rfl, rfl⟩, rfl⟩, trivial⟩ (by repeat' (first | exact trivial | refine zZ ?_)) ?_
      refine zg10 ?_
      exact ⟨j + 1, ⟨hv0, by omega⟩, by omega, ⟨rfl, rfl, rfl, rfl, rfl, rfl, congrArg (fun z : Int => AV.v (.int .i64 z)) (by omega), trivial⟩, ⟨qr (by rw [eC, ← hq]), rfl, rfl, rfl, rfl, zq (by rw [eC, ← hq]), trivial⟩⟩
    have h1' : ¬ r.2.val 4 = 1 := by simpa using h
    rw [if_neg h1'] at hq
    refine zg1 ?_
    refine zF rfl (fun h => ?_) (fun h => ?_)
    · have h2' : r.2.val 4 = 2 := by simpa using h
      rw [if_pos h2'] at hq
      refine zg11 ?_
      refine zy (ss := [(refB + 0, v (refB + 0))]) (yv r.2.next ((netK D nodes : Nat) : Int) hE.next (by omega) (by omega)) (by repeat' (first | exact trivial | exact Ren.v _ | exact Ren.ptr _ _ _ _ rfl | refine ⟨?_, ?_⟩)) (by simp) (in1 rfl rfl) rfl (yP rfl) (by repeat' exact RenB.v _) ?_
      refine zg1 ?_
      refine aS (ss := [(7, v 7), (5, v 5), (3, v 3), (refB + 0, v (refB + 0)), (900, v 900)]) (ss' := [(7, v 7), (5, v 5), (3, v 3), (refB + 0, v (refB + 0)), (900, v 900 + 1)]) (cs' := [.box [.sl 3 NN, .own 900 (v 900 + 1)], .box [.v (.int .i64 (m : Nat))], .box [.ptr (refB + 0) (v (refB + 0)) 0], .box (addD m (r.1, r.2.next.next) 6 (r.2.next.val ((netK D nodes : Nat) : Int)) (-1)).2.cells, .buf 56 5 ((addD m (r.1, r.2.next.next) 6 (r.2.next.val ((netK D nodes : Nat) : Int)) (-1)).1.map Dv.av)]) (y := .tu []) (oX NN m (r.1, r.2.next.next) 6 (r.2.next.val ((netK D nodes : Nat) : Int)) (-1) hE.next.next hm hlen (by decide)) rfl (by repeat' (first | exact trivial | exact Ren.v _ | exact Ren.ptr _ _ _ _ rfl | refine ⟨?_, ?_⟩)) (by simp [refB]) ⟨⟨_, rfl, by repeat' (first | exact trivial | exact Ren.sl _ _ | exact Ren.ownr _ _ _ rfl | refine ⟨?_, ?_⟩)⟩, ⟨_, rfl, by repeat' (first | exact trivial | exact Ren.v _ | refine ⟨?_, ?_⟩)⟩, ⟨_, rfl, by repeat' (first | exact trivial | exact Ren.ptr _ _ _ _ rfl | refine ⟨?_, ?_⟩)⟩, ⟨_, rfl, by repeat' (first | exact trivial | exact Ren.v _ | exact Ren.sl _ _ | refine ⟨?_, ?_⟩)⟩, rfl, trivial⟩ ⟨⟨⟨rfl, rfl⟩, _, rfl, by repeat' (first | exact trivial | exact RenB.sl _ _ | exact RenB.own _ _ _ rfl | refine ⟨?_, ?_⟩)⟩, ⟨⟨rfl, rfl⟩, _, rfl, by repeat' (first | exact trivial | exact RenB.v _ | refine ⟨?_, ?_⟩)⟩, ⟨⟨rfl, rfl⟩, _, rfl, by repeat' (first | exact trivial | exact RenB.ptr _ _ _ _ rfl | refine ⟨?_, ?_⟩)⟩, ⟨⟨rfl, rfl⟩, _, rfl, by repeat' (first | exact trivial | exact RenB.v _ | exact RenB.sl _ _ | refine ⟨?_, ?_⟩)⟩, ⟨⟨rfl, rfl⟩, rfl⟩, trivial⟩ (by repeat' (first | exact trivial | refine zZ ?_)) ?_
      refine zg10 ?_
      exact ⟨j + 1, ⟨hv0, by omega⟩, by omega, ⟨rfl, rfl, rfl, rfl, rfl, rfl, congrArg (fun z : Int => AV.v (.int .i64 z)) (by omega), trivial⟩, ⟨qr (by rw [eC, ← hq]), rfl, rfl, rfl, rfl, zq (by rw [eC, ← hq]), trivial⟩⟩
    have h2' : ¬ r.2.val 4 = 2 := by simpa using h
    rw [if_neg h2'] at hq
    refine zg10 ?_
    exact ⟨j + 1, ⟨hv0, by omega⟩, by omega, ⟨rfl, rfl, rfl, rfl, rfl, rfl, congrArg (fun z : Int => AV.v (.int .i64 z)) (by omega), trivial⟩, ⟨qr (by rw [eC, ← hq]), rfl, rfl, rfl, rfl, zq (by rw [eC, ← hq]), trivial⟩⟩
  have hjc : j = c.toNat := by simp at h; omega
  have e4 : r = net4 D nodes m := by rw [hr, hjc, hc]; rfl
  rw [e4]
  clear hq eC hr hlen hE okj h hjc hj e4 r
  have ok4 := tL hD m h1 (by omega)
  have rd := (net4 D nodes m).2.in_ (n := 3) (by decide) (by decide)
  refine zg13 ?_
  refine zy (ss := [(refB + 0, v (refB + 0))]) (yv (net4 D nodes m).2 3 ok4.dk (by omega) (by omega)) (by repeat' (first | exact trivial | exact Ren.v _ | exact Ren.ptr _ _ _ _ rfl | refine ⟨?_, ?_⟩)) (by simp) (in1 rfl rfl) rfl (yP rfl) (by repeat' exact RenB.v _) ?_
  refine zg9 ?_
  obtain ⟨b, hb⟩ : ∃ b, b = 1 + (net4 D nodes m).2.val 3 := ⟨_, rfl⟩
  have rb0 : 1 ≤ b ∧ b ≤ 3 := by omega
  refine yK (ι := Nat) (fun v j => v (refB + 0) = 0 ∧ (j : Int) ≤ b) (fun j => (b).toNat - j) (fun v j => [(3, .ptr 3 (v 3) 0), (5, .ptr 5 (v 5) 0), (6, .ptr 6 (v 6) 0), (7, .ptr 7 (v 7) 0), (8, .v (.int .i64 (netK D nodes : Nat))), (11, .fn 38 [.ptr 7 (v 7) 0, .ptr 5 (v 5) 0, .ptr 3 (v 3) 0]), (17, .v (.int .i64 (b - (j : Int))))]) (fun v j => [(refB + 0, .box (cF (bP m ((netK D nodes : Nat) : Int)) ((net4 D nodes m).1, (net4 D nodes m).2.next) j).2.cells), (3, .box [.ptr (refB + 0) (v (refB + 0)) 0]), (5, .box [.v (.int .i64 (m : Nat))]), (6, .box [.v (.slice none 0 0), .v (.slice none 0 0)]), (7, .box [.sl 3 NN, .own 900 (v 900)]), (900, .buf 56 5 ((cF (bP m ((netK D nodes : Nat) : Int)) ((net4 D nodes m).1, (net4 D nodes m).2.next) j).1.map Dv.av))]) ?_ ?_
  · exact ⟨0, ⟨hv0, by omega⟩, trivial, ⟨rfl, rfl, rfl, rfl, rfl, rfl, congrArg (fun z : Int => AV.v (.int .i64 z)) (by omega), trivial⟩, ⟨rfl, rfl, rfl, rfl, rfl, rfl, trivial⟩⟩
  clear hv0 v
  rintro v j ⟨hv0, hj⟩
  have okj := eO (Q := VsOk m ((netK D nodes : Nat) : Int)) (f := bP m ((netK D nodes : Nat) : Int)) (ok4.dk' ok4.dk.next) (fun r hr => sI hr (by omega) (by omega)) j
  obtain ⟨r, hr⟩ : ∃ r, r = cF (bP m ((netK D nodes : Nat) : Int)) ((net4 D nodes m).1, (net4 D nodes m).2.next) j := ⟨_, rfl⟩
  have eC : cF (bP m ((netK D nodes : Nat) : Int)) ((net4 D nodes m).1, (net4 D nodes m).2.next) (j + 1) = bP m ((netK D nodes : Nat) : Int) r := by rw [hr]; rfl
  generalize hq : bP m ((netK D nodes : Nat) : Int) r = q at eC
  unfold bP at hq
  rw [← hr] at okj ⊢
  have hE := okj.dk
  have hlen := okj.len
  refine zg1 ?_
  refine zF rfl (fun h => ?_) (fun h => ?_)
  · have hlt : (j : Int) < b := by simp at h; omega
    refine zg10 ?_
    refine zy (ss := [(refB + 0, v (refB + 0))]) (yv r.2 ((netK D nodes : Nat) : Int) hE (by omega) (by omega)) (by repeat' (first | exact trivial | exact Ren.v _ | exact Ren.ptr _ _ _ _ rfl | refine ⟨?_, ?_⟩)) (by simp) (in1 rfl rfl) rfl (yP rfl) (by repeat' exact RenB.v _) ?_
    refine zg1 ?_
    refine aS (ss := [(7, v 7), (5, v 5), (3, v 3), (refB + 0, v (refB + 0)), (900, v 900)]) (ss' := [(7, v 7), (5, v 5), (3, v 3), (refB + 0, v (refB + 0)), (900, v 900 + 1)]) (cs' := [.box [.sl 3 NN, .own 900 (v 900 + 1)], .box [.v (.int .i64 (m : Nat))], .box [.ptr (refB + 0) (v (refB + 0)) 0], .box (addD m (r.1, r.2.next) 4 (r.2.val ((netK D nodes : Nat) : Int)) (-1)).2.cells, .buf 56 5 ((addD m (r.1, r.2.next) 4 (r.2.val ((netK D nodes : Nat) : Int)) (-1)).1.map Dv.av)]) (y := .tu []) (oX NN m (r.1, r.2.next) 4 (r.2.val ((netK D nodes : Nat) : Int)) (-1) hE.next hm hlen (by decide)) rfl (by repeat' (first | exact trivial | exact Ren.v _ | exact Ren.ptr _ _ _ _ rfl | refine ⟨?_, ?_⟩)) (by simp [refB]) ⟨⟨_, rfl, by repeat' (first | exact trivial | exact Ren.sl _ _ | exact Ren.ownr _ _ _ rfl | refine ⟨?_, ?_⟩)⟩, ⟨_, rfl, by repeat' (first | exact trivial | exact Ren.v _ | refine ⟨?_, ?_⟩)⟩, ⟨_, rfl, by repeat' (first | exact trivial | exact Ren.ptr _ _ _ _ rfl | refine ⟨?_, ?_⟩)⟩, ⟨_, rfl, by repeat' (first | exact trivial | exact Ren.v _ | exact Ren.sl _ _ | refine ⟨?_, ?_⟩)⟩, rfl, trivial⟩ ⟨⟨⟨rfl, rfl⟩, _, rfl, by repeat' (first | exact trivial | exact RenB.sl _ _ | exact RenB.own _ _ _ rfl | refine ⟨?_, ?_⟩)⟩, ⟨⟨rfl, rfl⟩, _, rfl, by repeat' (first | exact trivial | exact RenB.v _ | refine ⟨?_, ?_⟩)⟩, ⟨⟨rfl, rfl⟩, _, rfl, by repeat' (first | exact trivial | exact RenB.ptr _ _ _ _ rfl | refine ⟨?_, ?_⟩)⟩, ⟨⟨rfl, rfl⟩, _, rfl, by repeat' (first | exact trivial | exact RenB.v _ | exact RenB.sl _ _ | refine ⟨?_, ?_⟩)⟩, ⟨⟨rfl, rfl⟩, rfl⟩, trivial⟩ (by repeat' (first | exact trivial | refine zZ ?_)) ?_
    refine zg10 ?_
    exact ⟨j + 1, ⟨hv0, by omega⟩, by omega, ⟨rfl, rfl, rfl, rfl, rfl, rfl, congrArg (fun z : Int => AV.v (.int .i64 z)) (by omega), trivial⟩, ⟨qr (by rw [eC, ← hq]), rfl, rfl, rfl, rfl, zq (by rw [eC, ← hq]), trivial⟩⟩
  have hjc : j = b.toNat := by simp at h; omega
  have e5 : r = net5 D nodes m := by rw [hr, hjc, hb]; rfl
  rw [e5]
  refine bQ (s := 900) [] [(7, [.sl 3 NN, .sl 5 ((net5 D nodes m).1.map Dv.av)])] rfl trivial ⟨⟨_, _, rfl, .same (.hit .nil)⟩, trivial⟩ ?_
  rw [hNN]
  refine zg4 ?_
  refine sQ (by first | exact .inr rfl | exact .inl rfl) rfl rfl rfl rfl rfl rfl (by first | rfl | assumption) ?_ rfl ?_ rfl
  · rfl
  · rfl
end Go.Proofs.YtnafokinifbfhaaGreatDoor
