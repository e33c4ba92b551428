/- permitofficemake.Masks, Within and Op, by the abstract machine, and what their answers are; conditions: a network with a device / permitofficemake.Network, by the abstract machine: it makes the network of the plain functions; conditions: none. -/
import Derived.Test.YtnafokinifbfhaaGreatDoorHzP
import Derived.Test.YtnafokinifbfhaaGreatDoorSzA
import Derived.Test.YtnafokinifbfhaaGreatDoorAbsIp
import Derived.Test.YtnafokinifbfhaaGreatDoorZg
import Derived.Test.YtnafokinifbfhaaGreatDoorNetB
import Derived.Test.YtnafokinifbfhaaGreatDoorFdA
import Derived.Test.YtnafokinifbfhaaGreatDoorAbsJ
set_option linter.unusedVariables false
set_option linter.unusedSimpArgs false
namespace Go.Proofs.YtnafokinifbfhaaGreatDoor
open Go Go.RowKit
set_option maxRecDepth 10000
variable {G : Nat → Option (List Value)}
set_option maxHeartbeats 4000000 in
theorem state_J (N : List Nd) (V : List Dv) (D : Dk) (hD : DkOk D) (hn : V.length ≤ 1000) :
    qa Tryz.prog G 28 [.ptr (refB + 0) 0 0, yR N V] [.box D.cells, .buf 3 1 []] (.own (refB + 1) 0) [.box (stP V D).1.cells, .buf 3 1 ((stP V D).2.map iv)] := by
  have hvl : (V.map Dv.av).length = V.length := by simp
  refine aO tbOk (zA Tryz.func28 (by kernel_rfl) rfl) Tryz.func28 rfl _ Tryz.ntmps28 (Nat.le_of_ble_eq_true rfl) fun X hX => ?_
  subst hX
  refine zg3 ?_
  refine jm (t := 5) (s := 28) 3 1 rfl rfl ?_
  refine yK (ι := Nat × Dk × List Int) (fun v i => v (refB + 0) = 0 ∧ DkOk i.2.1 ∧ i.1 ≤ V.length ∧ i.2.2.length = i.1 ∧ stGo (V.drop i.1) i.2.1 i.2.2 = stP V D) (fun i => V.length - i.1) (fun v i => [(0, .ptr (refB + 0) (v (refB + 0)) 0), (3, .ptr 3 (v 3) 0), (5, .own 28 (v 28)), (6, .v (.int .i64 (i.1 : Nat)))]) (fun v i => [(refB + 0, .box i.2.1.cells), (3, .box [.sl 3 (N.map Nd.av), .sl 5 (V.map Dv.av)]), (28, .buf 3 1 (i.2.2.map iv))]) ?_ ?_
  · exact ⟨(0, D, []), ⟨rfl, hD, Nat.zero_le _, rfl, rfl⟩, trivial, ⟨rfl, rfl, rfl, rfl, trivial⟩, ⟨rfl, rfl, rfl, trivial⟩⟩
  rintro v ⟨i, E, L⟩ ⟨hv0, hE, hi, hl, hf⟩
  dsimp only at hv0 hE hi hl hf ⊢
  have hml : (L.map iv).length = L.length := by simp
  refine zg6 ?_
  refine zF rfl (fun h => ?_) (fun h => ?_)
  · have hlt : i < V.length := by simpa using h
    obtain ⟨x, hx⟩ := zB hlt
    have hy := gM hx
    rw [zv hx, stGo] at hf
    refine zg15 ?_
    refine zy (ss := [(refB + 0, v (refB + 0))]) (oA E 4 hE (by omega) (by omega)) (by repeat' (first | exact trivial | exact Ren.v _ | exact Ren.ptr _ _ _ _ rfl | refine ⟨?_, ?_⟩)) (by simp) (in1 rfl rfl) rfl (yP rfl) (by repeat' exact RenB.v _) ?_
    refine zg5 ?_
    refine zF rfl (fun c => ?_) (fun c => ?_)
    · have e : stB E x = 1 := by unfold stB; exact if_pos c
      rw [e] at hf
      refine zg12 ?_
      refine za tbOk rfl rfl rfl rfl rfl (by decide) rfl rfl rfl rfl rfl (fun x hx => by simp at hx; subst hx; rfl) (by simp only [List.length_map, List.length_cons, List.length_nil]; omega) (by simp only [List.length_map, List.length_cons, List.length_nil]; omega) ?_
      refine zg2 ?_
      exact ⟨(i + 1, E.next, L ++ [1]), ⟨hv0, hE.next, by show i + 1 ≤ V.length; omega, by simp; omega, hf⟩, by show V.length - (i + 1) < V.length - i; omega, ⟨rfl, rfl, rfl, rfl, trivial⟩, ⟨rfl, rfl, zq (by rw [List.map_append]; rfl), trivial⟩⟩
    · have e : stB E x = 2 := by unfold stB; exact if_neg fun hc => by have hc' : ((x.k == 4) != (E.val 4 == 0)) = true := hc; rw [c] at hc'; cases hc'
      rw [e] at hf
      refine zg13 ?_
      refine za tbOk rfl rfl rfl rfl rfl (by decide) rfl rfl rfl rfl rfl (fun x hx => by simp at hx; subst hx; rfl) (by simp only [List.length_map, List.length_cons, List.length_nil]; omega) (by simp only [List.length_map, List.length_cons, List.length_nil]; omega) ?_
      refine zg2 ?_
      exact ⟨(i + 1, E.next, L ++ [2]), ⟨hv0, hE.next, by show i + 1 ≤ V.length; omega, by simp; omega, hf⟩, by show V.length - (i + 1) < V.length - i; omega, ⟨rfl, rfl, rfl, rfl, trivial⟩, ⟨rfl, rfl, zq (by rw [List.map_append]; rfl), trivial⟩⟩
  · have hge : ¬ i < V.length := by simpa using h
    rw [List.drop_of_length_le (by omega)] at hf
    have hf' : stP V D = (E, L) := hf.symm
    rw [hf']
    refine zg2 ?_
    exact retJ (by first | exact .inr rfl | exact .inl rfl) (xs := [.own 28 (v 28)]) (fs := [(refB + 0, v (refB + 0)), (28, v 28)]) ⟨.tmp 4, trivial⟩ (by simp [refB]) (by repeat' exact Ren.ownr _ _ _ rfl) ⟨⟨⟨_, rfl, by repeat' (first | exact trivial | exact Ren.v _ | exact Ren.sl _ _ | refine ⟨?_, ?_⟩)⟩, fun _ => ⟨rfl, hv0⟩⟩, rfl, trivial⟩
def bG : Nat → Dk → List Int → Dk × List Int
  | 0, D, L => (D, L)
  | m + 1, D, L => if D.val 2 = 0 then bG m D.next.next (L.set (D.next.val (L.length : Nat)).toNat 3) else bG m D.next L
theorem unk_set3 (L : List Int) (k : Nat) : (unkP (L.set k 3)).length ≤ (unkP L).length + 1 := by
  unfold unkP
  have key : ∀ (L : List Int) (i d : Nat), (jr i (L.set d 3)).length ≤ (jr i L).length + 1 := by
    intro L
    induction L with
    | nil => intro i d; simp
    | cons x L ih =>
      intro i d
      cases d with
      | zero =>
        rw [List.set_cons_zero, jr, jr, if_pos rfl]
        split <;> simp
      | succ d =>
        rw [List.set_cons_succ, jr, jr]
        have := ih (i + 1) d
        split <;> simp <;> omega
  exact key L 0 k
theorem unk_none {L : List Int} (h : ∀ x ∈ L, x = 1 ∨ x = 2) : unkP L = [] := by
  unfold unkP
  have key : ∀ (L : List Int) (i : Nat), (∀ x ∈ L, x = 1 ∨ x = 2) → jr i L = [] := by
    intro L
    induction L with
    | nil => intro i _; rfl
    | cons x L ih =>
      intro i h
      have hx := h x (by simp)
      rw [jr, if_neg (by omega)]
      exact ih (i + 1) fun y hy => h y (by simp [hy])
  exact key L 0 h
theorem pS {n : Nat} : ∀ (m : Nat) (D : Dk) (L : List Int), DkOk D → L.length = n → (∀ x ∈ L, isB x = true) → DkOk (bG m D L).1 ∧ (bG m D L).2.length = n ∧ (∀ x ∈ (bG m D L).2, isB x = true) ∧ (unkP (bG m D L).2).length ≤ (unkP L).length + m
  | 0, D, L, h, hl, hp => ⟨h, hl, hp, Nat.le_refl _⟩
  | m + 1, D, L, h, hl, hp => by
    rw [bG]
    split
    · obtain ⟨a, b, c, d⟩ := pS (n := n) m D.next.next (L.set (D.next.val (L.length : Nat)).toNat 3) h.next.next (by simp [hl]) (fun x hx => by
        rcases List.mem_or_eq_of_mem_set hx with h2 | h2
        · exact hp x h2
        · subst h2; rfl)
      have := unk_set3 L (D.next.val (L.length : Nat)).toNat
      exact ⟨a, b, c, by omega⟩
    · obtain ⟨a, b, c, d⟩ := pS m D.next L h.next hl hp
      exact ⟨a, b, c, by omega⟩
def mskP (V : List Dv) (k : Nat) (D : Dk) : Dk × List Int := bG k (stP V D).1 (stP V D).2
theorem mskP_ok {V : List Dv} {D : Dk} {k : Nat} (h : DkOk D) (hk : k ≤ 8) : DkOk (mskP V k D).1 ∧ MkOk V (mskP V k D).2 := by
  obtain ⟨a, b, c⟩ := stP_ok (V := V) h
  obtain ⟨d, e, f, g⟩ := pS k (stP V D).1 (stP V D).2 a b (fun x hx => by
    rcases c x hx with rfl | rfl <;> rfl)
  rw [unk_none c] at g
  exact ⟨d, e, f, by simp at g; exact Nat.le_trans g hk⟩
set_option maxHeartbeats 4000000 in
theorem masks_A (N : List Nd) (V : List Dv) (k : Nat) (D : Dk) (hD : DkOk D) (hv0 : 0 < V.length) (hn : V.length ≤ 64) (hk : k ≤ 8) :
    zJ Tryz.prog G 10 [.ptr (refB + 0) 0 0, yR N V, .v (.int .i64 (k : Nat))] [D.cells] (.sl 1 ((mskP V k D).2.map iv)) [(mskP V k D).1.cells] := by
  have hst := state_J (G := G) N V D hD (by omega)
  obtain ⟨ha, hb, hc⟩ := stP_ok (V := V) hD
  unfold mskP
  obtain ⟨⟨D1, S⟩, hq⟩ : ∃ q, q = stP V D := ⟨_, rfl⟩
  rw [← hq] at hst ha hb ⊢
  dsimp only at hst ha hb ⊢
  refine zE tbOk (zA Tryz.func10 (by kernel_rfl) rfl) Tryz.func10 rfl _ Tryz.ntmps10 (Nat.le_of_ble_eq_true rfl) fun X hX => ?_
  subst hX
  repeat (first | with_reducible (first | refine zw ?_ | refine jy ?_ | refine zp ?_ | refine aT ?_ | refine yF ?_) | ((with_reducible refine jl ?_ ?_); rfl))
  (with_reducible refine zl ?_ ?_); kernel_rfl
  repeat (first | ((with_reducible refine zi ?_); refine zh rfl ?_) | ((with_reducible refine mG ?_); refine mP rfl rfl rfl ?_) | refine yh ?_ | refine zu rfl ?_ | with_reducible (first | refine zw ?_ | refine zp ?_))
  refine jm (t := 6) (s := 900) 3 1 rfl rfl ?_
  refine zg11 ?_
  refine x_callJ (ss := [(refB + 0, 0), (900, 1)]) (ss' := [(refB + 0, 0), (900, 2)]) (cs' := [.box D1.cells, .buf 3 1 (S.map iv)]) (y := .own 900 2) hst (by repeat' (first | exact trivial | exact Ren.sl _ _ | exact Ren.ptr _ _ _ _ rfl | refine zO ?_ | refine ⟨?_, ?_⟩)) (by decide) ⟨⟨_, rfl, by repeat' (first | exact trivial | exact Ren.v _ | exact Ren.sl _ _ | refine ⟨?_, ?_⟩)⟩, rfl, trivial⟩ ⟨⟨⟨rfl, rfl⟩, _, rfl, by repeat' (first | exact trivial | exact RenB.v _ | exact RenB.sl _ _ | refine ⟨?_, ?_⟩)⟩, ⟨⟨rfl, rfl⟩, rfl⟩, trivial⟩ (by repeat' exact RenB.own _ _ _ rfl) ?_
  refine zg0 ?_
  refine yK (ι := Nat × Dk × List Int) (fun v i => v (refB + 0) = 0 ∧ DkOk i.2.1 ∧ i.1 ≤ k ∧ i.2.2.length = V.length ∧ bG (k - i.1) i.2.1 i.2.2 = bG k D1 S) (fun i => k - i.1) (fun v i => [(0, .ptr (refB + 0) (v (refB + 0)) 0), (2, .v (.int .i64 (k : Nat))), (7, .own 900 (v 900)), (8, .v (.int .i64 (i.1 : Nat)))]) (fun v i => [(refB + 0, .box i.2.1.cells), (900, .buf 3 1 (i.2.2.map iv))]) ?_ ?_
  · exact ⟨(0, D1, S), ⟨rfl, ha, Nat.zero_le _, hb, rfl⟩, trivial, ⟨rfl, rfl, rfl, rfl, trivial⟩, ⟨rfl, rfl, trivial⟩⟩
  rintro v ⟨i, E, L⟩ ⟨hv, hE, hi, hl, hf⟩
  dsimp only at hv hE hi hl hf ⊢
  have hml : (L.map iv).length = L.length := by simp
  refine zg11 ?_
  refine zX rfl rfl (fun b1 => ?_) (fun b1 => ?_)
  · have hlt : i < k := by simp at b1; omega
    obtain ⟨m, hm1, hm2⟩ : ∃ m, k - i = m + 1 ∧ k - (i + 1) = m := ⟨k - 1 - i, by omega, by omega⟩
    have b2 : decide ((((L.map iv).length : Nat) : Int) > 0) = true := decide_eq_true (by omega)
    rw [hm1, bG] at hf
    refine zg7 ?_
    refine zy (ss := [(refB + 0, v (refB + 0))]) (oA E 2 hE (by omega) (by omega)) (by repeat' (first | exact trivial | exact Ren.v _ | exact Ren.ptr _ _ _ _ rfl | refine ⟨?_, ?_⟩)) (by simp) (in1 rfl rfl) rfl (yP rfl) (by repeat' exact RenB.v _) ?_
    refine zg1 ?_
    refine zF rfl (fun h => ?_) (fun h => ?_)
    · have h0 : E.val 2 = 0 := by simpa using h
      rw [if_pos h0] at hf
      have hin := E.next.in_ (n := (L.length : Nat)) (by omega) (by omega)
      have hnx := yv (G := X.G) E.next ((L.map iv).length : Nat) hE.next (by omega) (by omega)
      rw [hml] at hnx
      refine zg7 ?_
      rw [hml]
      refine zy (ss := [(refB + 0, v (refB + 0))]) (hnx) (by repeat' (first | exact trivial | exact Ren.v _ | exact Ren.ptr _ _ _ _ rfl | refine ⟨?_, ?_⟩)) (by simp) (in1 rfl rfl) rfl (yP rfl) (by repeat' exact RenB.v _) ?_
      refine zg1 ?_
      (with_reducible refine zH ?_); refine zK tbOk rfl rfl rfl rfl rfl rfl ⟨by omega, by rw [List.length_map]; omega⟩ ?_
      refine zg1 ?_
      (with_reducible refine zt ?_); refine zz (L' := (L.set (E.next.val (L.length : Nat)).toNat 3).map iv) tbOk rfl rfl rfl rfl rfl rfl rfl rfl rfl (by rw [yS, List.length_map]; omega) (by simp) (yY _) (jt _ _ _) ?_
      refine zg2 ?_
      exact ⟨(i + 1, E.next.next, L.set (E.next.val (L.length : Nat)).toNat 3), ⟨hv, hE.next.next, by show i + 1 ≤ k; omega, by simp [hl], by show bG (k - (i + 1)) _ _ = _; rw [hm2]; exact hf⟩, by show k - (i + 1) < k - i; omega, ⟨rfl, rfl, rfl, rfl, trivial⟩, ⟨rfl, rfl, trivial⟩⟩
    · have h0 : ¬ E.val 2 = 0 := by simpa using h
      rw [if_neg h0] at hf
      refine zg2 ?_
      exact ⟨(i + 1, E.next, L), ⟨hv, hE.next, by show i + 1 ≤ k; omega, hl, by show bG (k - (i + 1)) _ _ = _; rw [hm2]; exact hf⟩, by show k - (i + 1) < k - i; omega, ⟨rfl, rfl, rfl, rfl, trivial⟩, ⟨rfl, rfl, trivial⟩⟩
  · have hge : k - i = 0 := by simp at b1; omega
    rw [hge] at hf
    have hf' : bG k D1 S = (E, L) := hf.symm
    rw [hf']
    refine zg4 ?_
    exact eZ (by first | exact .inr rfl | exact .inl rfl) rfl rfl (by repeat' exact Ren.own _ _ _ _ ⟨_, rfl⟩) rfl hv (by repeat' (first | exact trivial | exact Ren.v _ | exact Ren.sl _ _ | refine ⟨?_, ?_⟩))
def kK : List Int → Dk → List Int → Dk × List Int
  | [], D, E => (D, E)
  | m :: l, D, E => if ¬ m = 1 ∧ ¬ m = 2 then kK l D.next (E ++ [1 + D.val 2]) else kK l D (E ++ [m])
def witP (m : List Int) (D : Dk) : Dk × List Int := kK m D []
theorem pN : ∀ (l : List Int) (D : Dk) (E : List Int), DkOk D → (∀ x ∈ l, isB x = true) → DkOk (kK l D E).1 ∧ ∃ F, (kK l D E).2 = E ++ F ∧ Agr l F
  | [], D, E, h, _ => ⟨h, [], by simp [kK], ⟨rfl, fun k x y hx => by simp at hx⟩⟩
  | m :: l, D, E, h, hp => by
    have hm := hp m (by simp)
    unfold isB at hm
    simp at hm
    rw [kK]
    have ext : ∀ (z : Int) (F : List Int), (m = 3 ∧ (z = 1 ∨ z = 2)) ∨ (m ≠ 3 ∧ z = m) → Agr l F → Agr (m :: l) (z :: F) := fun z F hz A => by
      refine ⟨by simp [A.l], fun k x y hx hy => ?_⟩
      cases k with
      | zero => simp at hx hy; subst hx; subst hy; exact hz
      | succ k => exact A.at_ k x y (by simpa using hx) (by simpa using hy)
    split
    · obtain ⟨a, F, e, A⟩ := pN l D.next (E ++ [1 + D.val 2]) h.next (fun x hx => hp x (by simp [hx]))
      have hv := D.in_ (n := 2) (by decide) (by decide)
      exact ⟨a, (1 + D.val 2) :: F, by rw [e]; simp, ext _ _ (.inl ⟨by omega, by omega⟩) A⟩
    · obtain ⟨a, F, e, A⟩ := pN l D (E ++ [m]) h (fun x hx => hp x (by simp [hx]))
      exact ⟨a, m :: F, by rw [e]; simp, ext _ _ (.inr ⟨by omega, rfl⟩) A⟩
theorem witP_ok {m : List Int} {D : Dk} (h : DkOk D) (hp : ∀ x ∈ m, isB x = true) : DkOk (witP m D).1 ∧ Agr m (witP m D).2 := by
  obtain ⟨a, F, e, A⟩ := pN m D [] h hp
  rw [List.nil_append] at e
  refine ⟨a, ?_⟩
  rw [show (witP m D).2 = F from e]; exact A
set_option maxHeartbeats 4000000 in
theorem within_A (m : List Int) (D : Dk) (hD : DkOk D) (hm : m.length ≤ 64) :
    zJ Tryz.prog G 11 [.ptr (refB + 0) 0 0, .sl 1 (m.map iv)] [D.cells] (.sl 1 ((witP m D).2.map iv)) [(witP m D).1.cells] := by
  have hmm : (m.map iv).length = m.length := by simp
  refine zE tbOk (zA Tryz.func11 (by kernel_rfl) rfl) Tryz.func11 rfl _ Tryz.ntmps11 (Nat.le_of_ble_eq_true rfl) fun X hX => ?_
  subst hX
  refine zg0 ?_
  refine jm (t := 5) (s := 30) 3 1 rfl rfl ?_
  refine yK (ι := Nat × Dk × List Int) (fun v i => v (refB + 0) = 0 ∧ DkOk i.2.1 ∧ i.1 ≤ m.length ∧ i.2.2.length = i.1 ∧ kK (m.drop i.1) i.2.1 i.2.2 = witP m D) (fun i => m.length - i.1) (fun v i => [(0, .ptr (refB + 0) (v (refB + 0)) 0), (1, .sl 1 (m.map iv)), (5, .own 30 (v 30)), (6, .v (.int .i64 (i.1 : Nat)))]) (fun v i => [(refB + 0, .box i.2.1.cells), (30, .buf 3 1 (i.2.2.map iv))]) ?_ ?_
  · exact ⟨(0, D, []), ⟨rfl, hD, Nat.zero_le _, rfl, rfl⟩, trivial, ⟨rfl, rfl, rfl, rfl, trivial⟩, ⟨rfl, rfl, trivial⟩⟩
  rintro v ⟨i, E, L⟩ ⟨hv0, hE, hi, hl, hf⟩
  dsimp only at hv0 hE hi hl hf ⊢
  have hml : (L.map iv).length = L.length := by simp
  refine zg6 ?_
  refine zF rfl (fun h => ?_) (fun h => ?_)
  · have hlt : i < m.length := by simpa using h
    obtain ⟨x, hx⟩ := zB hlt
    have hy := qA hx
    rw [zv hx, kK] at hf
    refine zg3 ?_
    by_cases c1 : x = 1
    · have b1 : (x != 1) = false := by simp [c1]
      rw [if_neg (fun h => h.1 c1)] at hf
      refine zg15 ?_
      refine za tbOk rfl rfl rfl rfl rfl (by decide) rfl rfl rfl rfl rfl (fun x hx => by simp at hx; subst hx; rfl) (by simp only [List.length_map, List.length_cons, List.length_nil]; omega) (by simp only [List.length_map, List.length_cons, List.length_nil]; omega) ?_
      refine zg2 ?_
      exact ⟨(i + 1, E, L ++ [x]), ⟨hv0, hE, by show i + 1 ≤ m.length; omega, by simp; omega, hf⟩, by show m.length - (i + 1) < m.length - i; omega, ⟨rfl, rfl, rfl, rfl, trivial⟩, ⟨rfl, zq (by rw [List.map_append]; rfl), trivial⟩⟩
    have b1 : (x != 1) = true := by simpa using c1
    by_cases c2 : x = 2
    · have b2 : (x != 2) = false := by simp [c2]
      rw [if_neg (fun h => h.2 c2)] at hf
      refine zg15 ?_
      refine za tbOk rfl rfl rfl rfl rfl (by decide) rfl rfl rfl rfl rfl (fun x hx => by simp at hx; subst hx; rfl) (by simp only [List.length_map, List.length_cons, List.length_nil]; omega) (by simp only [List.length_map, List.length_cons, List.length_nil]; omega) ?_
      refine zg2 ?_
      exact ⟨(i + 1, E, L ++ [x]), ⟨hv0, hE, by show i + 1 ≤ m.length; omega, by simp; omega, hf⟩, by show m.length - (i + 1) < m.length - i; omega, ⟨rfl, rfl, rfl, rfl, trivial⟩, ⟨rfl, zq (by rw [List.map_append]; rfl), trivial⟩⟩
    · have b2 : (x != 2) = true := by simpa using c2
      rw [if_pos ⟨c1, c2⟩] at hf
      have hin := E.in_ (n := 2) (by decide) (by decide)
      refine zg15 ?_
      refine zy (ss := [(refB + 0, v (refB + 0))]) (yv E 2 hE (by omega) (by omega)) (by repeat' (first | exact trivial | exact Ren.v _ | exact Ren.ptr _ _ _ _ rfl | refine ⟨?_, ?_⟩)) (by simp) (in1 rfl rfl) rfl (yP rfl) (by repeat' exact RenB.v _) ?_
      refine zg4 ?_
      refine za tbOk rfl rfl rfl rfl rfl (by decide) rfl rfl rfl rfl rfl (fun x hx => by simp at hx; subst hx; rfl) (by simp only [List.length_map, List.length_cons, List.length_nil]; omega) (by simp only [List.length_map, List.length_cons, List.length_nil]; omega) ?_
      refine zg2 ?_
      exact ⟨(i + 1, E.next, L ++ [1 + E.val 2]), ⟨hv0, hE.next, by show i + 1 ≤ m.length; omega, by simp; omega, hf⟩, by show m.length - (i + 1) < m.length - i; omega, ⟨rfl, rfl, rfl, rfl, trivial⟩, ⟨rfl, zq (by rw [List.map_append]; rfl), trivial⟩⟩
  · have hge : ¬ i < m.length := by simpa using h
    rw [List.drop_of_length_le (by omega)] at hf
    have hf' : witP m D = (E, L) := hf.symm
    rw [hf']
    refine zg2 ?_
    exact eZ (by first | exact .inr rfl | exact .inl rfl) rfl rfl (by repeat' exact Ren.own _ _ _ _ ⟨_, rfl⟩) rfl hv0 (by repeat' (first | exact trivial | exact Ren.v _ | exact Ren.sl _ _ | refine ⟨?_, ?_⟩))
theorem mop_A (N : List Nd) (V : List Dv) (D : Dk) (hD : DkOk D) (hn : V.length ≤ 64) :
    zJ Tryz.prog G 14 [.ptr (refB + 0) 0 0, yR N V] [D.cells] (.ag [.v (.int .i64 (D.val (V.length : Nat))), .v (.int .i64 (1 + D.next.val 2))]) [D.next.next.cells] := by
  have hvl : (V.map Dv.av).length = V.length := by simp
  have h1 := yv (G := G) D ((V.map Dv.av).length : Nat) hD (by omega) (by omega)
  have h2 := yv (G := G) D.next 2 hD.next (by omega) (by omega)
  have hin := D.next.in_ (n := 2) (by decide) (by decide)
  rw [← hvl]
  refine zE tbOk (zA Tryz.func14 (by kernel_rfl) rfl) Tryz.func14 rfl _ Tryz.ntmps14 (Nat.le_of_ble_eq_true rfl) fun X hX => ?_
  subst hX
  refine zg12 ?_
  refine zy (ss := [(refB + 0, 0)]) (h1) (by repeat' (first | exact trivial | exact Ren.v _ | exact Ren.ptr _ _ _ _ rfl | refine ⟨?_, ?_⟩)) (by simp) (in1 rfl rfl) rfl (yP rfl) (by repeat' exact RenB.v _) ?_
  refine zg11 ?_
  refine zy (ss := [(refB + 0, 0)]) (h2) (by repeat' (first | exact trivial | exact Ren.v _ | exact Ren.ptr _ _ _ _ rfl | refine ⟨?_, ?_⟩)) (by simp) (in1 rfl rfl) rfl (yP rfl) (by repeat' exact RenB.v _) ?_
  refine zg9 ?_
  refine sQ (by first | exact .inr rfl | exact .inl rfl) rfl rfl rfl rfl rfl rfl (by first | rfl | assumption) ?_ rfl ?_ rfl <;> rfl
end Go.Proofs.YtnafokinifbfhaaGreatDoor
namespace Go.Proofs.YtnafokinifbfhaaGreatDoor
open Go Go.RowKit
set_option maxRecDepth 10000
variable {G : Nat → Option (List Value)}
theorem dig_str (c : UInt8) (k : Nat) (h : k < 100) : ((⟨#[c]⟩ : ByteArray) ++ strOfNums [IntKind.u8.wrap (IntKind.i64.wrap (48 + IntKind.i64.wrap ((k : Int).tdiv 10))), IntKind.u8.wrap (IntKind.i64.wrap (48 + (k : Int).tmod 10))]) = nmS c k := by
  have e1 : (k : Int).tdiv 10 = ((k / 10 : Nat) : Int) := by rw [Int.tdiv_eq_ediv_of_nonneg (by omega)]; omega
  have e2 : (k : Int).tmod 10 = ((k % 10 : Nat) : Int) := by rw [Int.tmod_eq_emod_of_nonneg (by omega)]; omega
  have e3 : ∀ d : Nat, d < 10 → IntKind.u8.wrap (IntKind.i64.wrap (48 + (d : Int))) = ((48 + d : Nat) : Int) := fun d hd => by
    rw [yy (by omega), IntKind.wrap_u8]; omega
  rw [e1, e2, yy (z := ((k / 10 : Nat) : Int)) (by omega), e3 _ (by omega), e3 _ (by omega)]
  rfl
theorem vF (c : UInt8) (k : Nat) (h : k < 100) : zJ Tryz.prog G 36 [.v (.string ⟨#[c]⟩), .v (.int .i64 (k : Nat))] [] (.v (.string (nmS c k))) [] := by
  refine zE tbOk (zA Tryz.func36 (by kernel_rfl) rfl) Tryz.func36 rfl _ Tryz.ntmps36 (Nat.le_of_ble_eq_true rfl) fun X hX => ?_
  subst hX
  refine zg4 ?_
  with_reducible refine jj ?_
  refine tN Tryz.underlying135 Tryz.underlying5 Tryz.underlying9 rfl rfl (by simp) ?_
  refine zg1 ?_
  with_reducible refine yZ ?_
  refine x_add_s rfl rfl (by rw [strOfNums_size]; exact (by decide : (1:Nat) + 2 ≤ 9223372036854775807)) ?_
  refine zg5 ?_
  refine zL (by first | exact .inr rfl | exact .inl rfl) rfl rfl ?_
  exact congrArg (fun s => AV.v (.string s)) (dig_str c k h).symm
/-- What the closure add is handed: the network's box, the bound, the deck. -/
def addR (N : List AV) (m : Nat) (r : List Dv × Dk) : List Cont := [.box [.sl 3 N, .own (refB + 4) 0], .box [.v (.int .i64 (m : Nat))], .box [.ptr (refB + 3) 0 0], .box r.2.cells, .buf 56 5 (r.1.map Dv.av)]
set_option maxHeartbeats 4000000 in
theorem oX (N : List AV) (m : Nat) (r : List Dv × Dk) (k a b : Int) (hD : DkOk r.2) (hm : m ≤ 60) (hr : r.1.length ≤ m) (hk : 1 ≤ k ∧ k ≤ 6) :
    qa Tryz.prog G 38 [.v (.int .i64 k), .v (.int .i64 a), .v (.int .i64 b), .ptr (refB + 0) 0 0, .ptr (refB + 1) 0 0, .ptr (refB + 2) 0 0] (addR N m r) (.tu []) (addR N m (addD m r k a b)) := by
  have hml : (r.1.map Dv.av).length = r.1.length := by simp
  have hidx : ([.v (.string ⟨#[]⟩), .v (.string ⟨#[76]⟩), .v (.string ⟨#[81]⟩), .v (.string ⟨#[68]⟩), .v (.string ⟨#[69]⟩), .v (.string ⟨#[83]⟩), .v (.string ⟨#[71]⟩)] : List AV)[k.toNat]? = some (.v (.string ⟨#[bF k]⟩)) := by
    obtain rfl | rfl | rfl | rfl | rfl | rfl : k = 1 ∨ k = 2 ∨ k = 3 ∨ k = 4 ∨ k = 5 ∨ k = 6 := by omega
    all_goals rfl
  refine aO tbOk (zA Tryz.func38 (by kernel_rfl) rfl) Tryz.func38 rfl _ Tryz.ntmps38 (Nat.le_of_ble_eq_true rfl) fun X hX => ?_
  subst hX
  refine zg7 ?_
  refine zF rfl (fun h => ?_) (fun h => ?_)
  · have h' : m ≤ r.1.length := by simp at h; omega
    have e : addD m r k a b = r := by unfold addD; rw [if_pos h']
    rw [e]
    refine zg6 ?_
    refine retJ (by first | exact .inr rfl | exact .inl rfl) (xs := []) (fs := [(refB + 0, 0), (refB + 1, 0), (refB + 2, 0), (refB + 3, 0), (refB + 4, 0)]) trivial (by decide) (by repeat' (first | exact trivial | exact Ren.v _ | exact Ren.sl _ _ | exact Ren.ep _ | exact Ren.ptr _ _ _ _ rfl | exact Ren.ownr _ _ _ rfl | exact Ren.bs _ _ _ _ _ rfl | refine zO ?_ | refine zf ?_ | refine yJ ?_ | refine ⟨?_, ?_⟩)) ?_
    refine ⟨⟨⟨_, rfl, by repeat' (first | exact trivial | exact Ren.v _ | exact Ren.sl _ _ | exact Ren.ep _ | exact Ren.ptr _ _ _ _ rfl | exact Ren.ownr _ _ _ rfl | exact Ren.bs _ _ _ _ _ rfl | refine zO ?_ | refine zf ?_ | refine yJ ?_ | refine ⟨?_, ?_⟩)⟩, fun _ => ⟨rfl, rfl⟩⟩, ⟨⟨_, rfl, by repeat' (first | exact trivial | exact Ren.v _ | exact Ren.sl _ _ | exact Ren.ep _ | exact Ren.ptr _ _ _ _ rfl | exact Ren.ownr _ _ _ rfl | exact Ren.bs _ _ _ _ _ rfl | refine zO ?_ | refine zf ?_ | refine yJ ?_ | refine ⟨?_, ?_⟩)⟩, fun _ => ⟨rfl, rfl⟩⟩, ⟨⟨_, rfl, by repeat' (first | exact trivial | exact Ren.v _ | exact Ren.sl _ _ | exact Ren.ep _ | exact Ren.ptr _ _ _ _ rfl | exact Ren.ownr _ _ _ rfl | exact Ren.bs _ _ _ _ _ rfl | refine zO ?_ | refine zf ?_ | refine yJ ?_ | refine ⟨?_, ?_⟩)⟩, fun _ => ⟨rfl, rfl⟩⟩, ⟨⟨_, rfl, by repeat' (first | exact trivial | exact Ren.v _ | exact Ren.sl _ _ | exact Ren.ep _ | exact Ren.ptr _ _ _ _ rfl | exact Ren.ownr _ _ _ rfl | exact Ren.bs _ _ _ _ _ rfl | refine zO ?_ | refine zf ?_ | refine yJ ?_ | refine ⟨?_, ?_⟩)⟩, fun _ => ⟨rfl, rfl⟩⟩, rfl, trivial⟩
  have h' : ¬ m ≤ r.1.length := by simp at h; omega
  refine zg15 ?_
  refine zC (vF (bF k) (r.1.map Dv.av).length (by omega)) ?_
  refine zg4 ?_
  refine zD (ss := [(refB + 3, 0)]) (oA r.2 8 hD (by omega) (by omega)) (by simp) (in1 rfl rfl) rfl (yP rfl) ?_
  refine zg1 ?_
  refine zF rfl (fun h => ?_) (fun h => ?_)
  · have h0 : r.2.val 8 = 0 := by simpa using h
    have e : addD m r k a b = (r.1 ++ [⟨nmS (bF k) r.1.length, k, a, b, 1 + r.2.next.val 2⟩], r.2.next.next) := by unfold addD optD; rw [if_neg h', if_pos h0]
    rw [e]
    have hv := r.2.next.in_ (n := 2) (by decide) (by decide)
    refine zg11 ?_
    refine zD (ss := [(refB + 3, 0)]) (yv r.2.next 2 hD.next (by omega) (by omega)) (by simp) (in1 rfl rfl) rfl (yP rfl) ?_
    refine zg4 ?_
    refine za tbOk rfl rfl rfl rfl rfl (by decide) rfl rfl rfl rfl rfl (fun x hx => by simp at hx; subst hx; rfl) (by simp only [List.length_map, List.length_cons, List.length_nil]; omega) (by simp only [List.length_map, List.length_cons, List.length_nil]; omega) ?_
    refine zg10 ?_
    have e1 : r.1.map Dv.av ++ [AV.ag [.v (.string (nmS (bF k) (r.1.map Dv.av).length)), .v (.int .i64 k), .v (.int .i64 a), .v (.int .i64 b), .v (.int .i64 (1 + r.2.next.val 2))]] = (r.1 ++ [(⟨nmS (bF k) r.1.length, k, a, b, 1 + r.2.next.val 2⟩ : Dv)]).map Dv.av := by
      rw [hml]; simp [Dv.av]
    refine retJ (by first | exact .inr rfl | exact .inl rfl) (xs := []) (fs := [(refB + 0, 0), (refB + 1, 0), (refB + 2, 0), (refB + 3, 0), (37, 1)]) trivial (by decide) (by repeat' (first | exact trivial | exact Ren.v _ | exact Ren.sl _ _ | exact Ren.ep _ | exact Ren.ptr _ _ _ _ rfl | exact Ren.ownr _ _ _ rfl | exact Ren.bs _ _ _ _ _ rfl | refine zO ?_ | refine zf ?_ | refine yJ ?_ | refine ⟨?_, ?_⟩)) ?_
    refine ⟨⟨⟨_, rfl, by repeat' (first | exact trivial | exact Ren.v _ | exact Ren.sl _ _ | exact Ren.ep _ | exact Ren.ptr _ _ _ _ rfl | exact Ren.ownr _ _ _ rfl | exact Ren.bs _ _ _ _ _ rfl | refine zO ?_ | refine zf ?_ | refine yJ ?_ | refine ⟨?_, ?_⟩)⟩, fun _ => ⟨rfl, rfl⟩⟩, ⟨⟨_, rfl, by repeat' (first | exact trivial | exact Ren.v _ | exact Ren.sl _ _ | exact Ren.ep _ | exact Ren.ptr _ _ _ _ rfl | exact Ren.ownr _ _ _ rfl | exact Ren.bs _ _ _ _ _ rfl | refine zO ?_ | refine zf ?_ | refine yJ ?_ | refine ⟨?_, ?_⟩)⟩, fun _ => ⟨rfl, rfl⟩⟩, ⟨⟨_, rfl, by repeat' (first | exact trivial | exact Ren.v _ | exact Ren.sl _ _ | exact Ren.ep _ | exact Ren.ptr _ _ _ _ rfl | exact Ren.ownr _ _ _ rfl | exact Ren.bs _ _ _ _ _ rfl | refine zO ?_ | refine zf ?_ | refine yJ ?_ | refine ⟨?_, ?_⟩)⟩, fun _ => ⟨rfl, rfl⟩⟩, ⟨⟨_, rfl, by repeat' (first | exact trivial | exact Ren.v _ | exact Ren.sl _ _ | exact Ren.ep _ | exact Ren.ptr _ _ _ _ rfl | exact Ren.ownr _ _ _ rfl | exact Ren.bs _ _ _ _ _ rfl | refine zO ?_ | refine zf ?_ | refine yJ ?_ | refine ⟨?_, ?_⟩)⟩, fun _ => ⟨rfl, rfl⟩⟩, ?_, trivial⟩
    exact congrArg (fun L => (⟨1, .buf 56 5 L⟩ : HC)) e1
  · have h0 : ¬ r.2.val 8 = 0 := by simpa using h
    have e : addD m r k a b = (r.1 ++ [⟨nmS (bF k) r.1.length, k, a, b, 0⟩], r.2.next) := by unfold addD optD; rw [if_neg h', if_neg h0]
    rw [e]
    refine zg13 ?_
    refine za tbOk rfl rfl rfl rfl rfl (by decide) rfl rfl rfl rfl rfl (fun x hx => by simp at hx; subst hx; rfl) (by simp only [List.length_map, List.length_cons, List.length_nil]; omega) (by simp only [List.length_map, List.length_cons, List.length_nil]; omega) ?_
    refine zg10 ?_
    have e1 : r.1.map Dv.av ++ [AV.ag [.v (.string (nmS (bF k) (r.1.map Dv.av).length)), .v (.int .i64 k), .v (.int .i64 a), .v (.int .i64 b), .v (.int .i64 0)]] = (r.1 ++ [(⟨nmS (bF k) r.1.length, k, a, b, 0⟩ : Dv)]).map Dv.av := by
      rw [hml]; simp [Dv.av]
    refine retJ (by first | exact .inr rfl | exact .inl rfl) (xs := []) (fs := [(refB + 0, 0), (refB + 1, 0), (refB + 2, 0), (refB + 3, 0), (37, 1)]) trivial (by decide) (by repeat' (first | exact trivial | exact Ren.v _ | exact Ren.sl _ _ | exact Ren.ep _ | exact Ren.ptr _ _ _ _ rfl | exact Ren.ownr _ _ _ rfl | exact Ren.bs _ _ _ _ _ rfl | refine zO ?_ | refine zf ?_ | refine yJ ?_ | refine ⟨?_, ?_⟩)) ?_
    refine ⟨⟨⟨_, rfl, by repeat' (first | exact trivial | exact Ren.v _ | exact Ren.sl _ _ | exact Ren.ep _ | exact Ren.ptr _ _ _ _ rfl | exact Ren.ownr _ _ _ rfl | exact Ren.bs _ _ _ _ _ rfl | refine zO ?_ | refine zf ?_ | refine yJ ?_ | refine ⟨?_, ?_⟩)⟩, fun _ => ⟨rfl, rfl⟩⟩, ⟨⟨_, rfl, by repeat' (first | exact trivial | exact Ren.v _ | exact Ren.sl _ _ | exact Ren.ep _ | exact Ren.ptr _ _ _ _ rfl | exact Ren.ownr _ _ _ rfl | exact Ren.bs _ _ _ _ _ rfl | refine zO ?_ | refine zf ?_ | refine yJ ?_ | refine ⟨?_, ?_⟩)⟩, fun _ => ⟨rfl, rfl⟩⟩, ⟨⟨_, rfl, by repeat' (first | exact trivial | exact Ren.v _ | exact Ren.sl _ _ | exact Ren.ep _ | exact Ren.ptr _ _ _ _ rfl | exact Ren.ownr _ _ _ rfl | exact Ren.bs _ _ _ _ _ rfl | refine zO ?_ | refine zf ?_ | refine yJ ?_ | refine ⟨?_, ?_⟩)⟩, fun _ => ⟨rfl, rfl⟩⟩, ⟨⟨_, rfl, by repeat' (first | exact trivial | exact Ren.v _ | exact Ren.sl _ _ | exact Ren.ep _ | exact Ren.ptr _ _ _ _ rfl | exact Ren.ownr _ _ _ rfl | exact Ren.bs _ _ _ _ _ rfl | refine zO ?_ | refine zf ?_ | refine yJ ?_ | refine ⟨?_, ?_⟩)⟩, fun _ => ⟨rfl, rfl⟩⟩, ?_, trivial⟩
    exact congrArg (fun L => (⟨1, .buf 56 5 L⟩ : HC)) e1
end Go.Proofs.YtnafokinifbfhaaGreatDoor
