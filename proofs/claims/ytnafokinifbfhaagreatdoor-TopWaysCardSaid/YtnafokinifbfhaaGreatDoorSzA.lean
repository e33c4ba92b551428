/- permitofficemake.Set, Zone and State, by the abstract machine, and what their answers are; conditions: none. -/
import Derived.Test.YtnafokinifbfhaaGreatDoorTwA
import Derived.Test.YtnafokinifbfhaaGreatDoorLcC
import Derived.Test.YtnafokinifbfhaaGreatDoorNwP
set_option linter.unusedVariables false
set_option linter.unusedSimpArgs false
namespace Go.Proofs.YtnafokinifbfhaaGreatDoor
open Go Go.RowKit
set_option maxRecDepth 10000
variable {G : Nat → Option (List Value)}
def dU (k : Nat) : Nat → Nat → Dk → List Int → Dk × List Int
  | 0, _, D, L => (D, L)
  | m + 1, i, D, L => if k ≤ L.length then (D, L) else dU k m (i + 1) D.next (if D.val 3 = 0 then L ++ [(i : Int)] else L)
def setP (n k : Nat) (D : Dk) : Dk × List Int := dU k n 0 D []
theorem wB {i : Int} : ∀ {L : List Int} {b : Int}, b < i → risB i b L = true → risB (i + 1) b (L ++ [i]) = true
  | [], b, hb, _ => by rw [List.nil_append, risB, if_neg (by omega)]; rfl
  | x :: L, b, hb, h => by
    rw [risB] at h
    split at h
    · cases h
    · rw [List.cons_append, risB, if_neg (by omega)]; exact wB (by omega) h
theorem tT {i j : Int} (hij : i ≤ j) : ∀ {L : List Int} {b : Int}, risB i b L = true → risB j b L = true
  | [], _, _ => rfl
  | x :: L, b, h => by
    rw [risB] at h
    split at h
    · cases h
    · rw [risB, if_neg (by omega)]; exact tT hij h
theorem ris_in {u : Int} : ∀ {L : List Int} {b : Int}, risB u b L = true → ∀ x ∈ L, b < x ∧ x < u
  | [], _, _, x, hx => by cases hx
  | y :: L, b, h, x, hx => by
    rw [risB] at h
    split at h
    · cases h
    · rcases List.mem_cons.1 hx with rfl | hx
      · omega
      · have := ris_in h x hx; omega
theorem sM (k : Nat) : ∀ (m i : Nat) (D : Dk) (L : List Int), DkOk D → L.length ≤ k → risB i (-1) L = true → DkOk (dU k m i D L).1 ∧ (dU k m i D L).2.length ≤ k ∧ risB ((i + m : Nat) : Int) (-1) (dU k m i D L).2 = true
  | 0, _, D, L, h, hl, hr => ⟨h, hl, hr⟩
  | m + 1, i, D, L, h, hl, hr => by
    rw [dU]
    split
    · exact ⟨h, hl, tT (by omega) hr⟩
    · rename_i c
      rw [show i + (m + 1) = i + 1 + m by omega]
      refine sM k m (i + 1) D.next _ h.next ?_ ?_
      · split
        · simp; omega
        · omega
      · split
        · rw [show ((i + 1 : Nat) : Int) = (i : Int) + 1 by omega]; exact wB (by omega) hr
        · exact tT (by omega) hr
theorem vM {n k : Nat} {D : Dk} (h : DkOk D) : DkOk (setP n k D).1 ∧ (setP n k D).2.length ≤ k ∧ risB n (-1) (setP n k D).2 = true := by
  have := sM k n 0 D [] h (Nat.zero_le _) rfl
  rw [Nat.zero_add] at this
  exact this
def dX (n : Nat) (D : Dk) : Dk × List Int := if (setP n 2 D).2 = [] then ((setP n 2 D).1.next, [(setP n 2 D).1.val n]) else setP n 2 D
theorem zoneP_ok {n : Nat} {D : Dk} (h : DkOk D) (h0 : 1 ≤ n) (h1 : n ≤ 1000) : DkOk (dX n D).1 ∧ (dX n D).2.length ≤ 2 ∧ (dX n D).2 ≠ [] ∧ risB n (-1) (dX n D).2 = true := by
  obtain ⟨a, b, c⟩ := vM (n := n) (k := 2) h
  unfold dX
  split
  · have := (setP n 2 D).1.in_ (n := (n : Int)) (by omega) (by omega)
    refine ⟨a.next, by simp, by simp, ?_⟩
    rw [risB, if_neg (by omega)]; rfl
  · exact ⟨a, b, by assumption, c⟩
set_option maxHeartbeats 4000000 in
theorem set_A (n k : Nat) (D : Dk) (hD : DkOk D) (hn : n ≤ 1000) (hk : k ≤ 1000) :
    zu Tryz.prog G 61 [.ptr (refB + 0) 0 0, .v (.int .i64 (n : Nat)), .v (.int .i64 (k : Nat))] [D.cells] (.sl 1 ((setP n k D).2.map iv)) [(setP n k D).1.cells] := by
  refine zf tbOk (zM Tryz.func61 (by kernel_rfl) rfl) Tryz.func61 rfl _ Tryz.ntmps61 (Nat.le_of_ble_eq_true rfl) fun X hX => ?_
  subst hX
  repeat (first | ((with_reducible refine zE ?_); refine zD rfl ?_)  | refine zJ ?_ | refine zB rfl ?_ | with_reducible (first | refine zC ?_ | refine zF ?_ | refine zU ?_) | ((with_reducible refine zA ?_ ?_); kernel_rfl))
  refine kN (t := 7) (s := 25) 3 1 rfl rfl ?_
  refine jG (ι := Nat × Dk × List Int) (fun v i => v (refB + 0) = 0 ∧ DkOk i.2.1 ∧ i.1 ≤ n ∧ i.2.2.length ≤ k ∧ dU k (n - i.1) i.1 i.2.1 i.2.2 = setP n k D) (fun i => n - i.1) (fun v i => [(0, .ptr (refB + 0) (v (refB + 0)) 0), (1, .v (.int .i64 (n : Nat))), (2, .v (.int .i64 (k : Nat))), (7, .own 25 (v 25)), (8, .v (.int .i64 (i.1 : Nat)))]) (fun v i => [(refB + 0, .box i.2.1.cells), (25, .buf 3 1 (i.2.2.map iv))]) ?_ ?_
  · exact ⟨(0, D, []), ⟨rfl, hD, Nat.zero_le _, Nat.zero_le _, rfl⟩, trivial, ⟨rfl, rfl, rfl, rfl, rfl, trivial⟩, ⟨rfl, rfl, trivial⟩⟩
  rintro v ⟨i, E, L⟩ ⟨hv0, hE, hi, hl, hf⟩
  dsimp only at hv0 hE hi hl hf ⊢
  have hml : (L.map iv).length = L.length := by simp
  repeat (first | ((with_reducible refine zI ?_); refine zH rfl ?_) | ((with_reducible refine zP ?_); refine zS rfl rfl rfl ?_)  | refine zB rfl ?_ | with_reducible refine zF ?_ | ((with_reducible refine zA ?_ ?_); kernel_rfl))
  refine yD rfl rfl (fun b1 => ?_) (fun b1 => ?_)
  · have hlt : i < n := by simp at b1; omega
    obtain ⟨m, hm1, hm2⟩ : ∃ m, n - i = m + 1 ∧ n - (i + 1) = m := ⟨n - 1 - i, by omega, by omega⟩
    rw [hm1, dU] at hf
    repeat (first | ((with_reducible refine zI ?_); refine zH rfl ?_) | ((with_reducible refine zZ ?_); refine zh rfl (by first | rfl | assumption) rfl ?_) | ((with_reducible refine zp ?_); refine bG tbOk rfl rfl rfl rfl ?_) | ((with_reducible refine zP ?_); refine zS rfl rfl rfl ?_)  | refine zJ ?_ | refine zB rfl ?_ | refine zq rfl rfl (by first | rfl | assumption) ?_ | with_reducible refine zC ?_ )
    refine zX rfl (fun c => ?_) (fun c => ?_)
    · rw [if_neg (by simp at c; omega)] at hf
      have hl2 : L.length < k := by simp at c; omega
      repeat (first | ((with_reducible refine zI ?_); refine zH rfl ?_)  | refine zB rfl ?_ | with_reducible (first | refine zC ?_ | refine zF ?_ | refine zU ?_ | refine zN ?_) | ((with_reducible refine zA ?_ ?_); kernel_rfl))
      refine yW (ss := [(refB + 0, v (refB + 0))]) (kA E 3 hE (by omega) (by omega)) (by repeat' (first | exact trivial | exact Ren.v _ | exact Ren.ptr _ _ _ _ rfl | refine ⟨?_, ?_⟩)) (by simp) (in1 rfl rfl) rfl (ym rfl) (by repeat' exact RenB.v _) ?_
      repeat (first   | refine zJ ?_ | with_reducible refine zC ?_ )
      refine zX rfl (fun h => ?_) (fun h => ?_)
      · have h0 : E.val 3 = 0 := by simpa using h
        rw [if_pos h0] at hf
        repeat (first | ((with_reducible refine zI ?_); refine zH rfl ?_) | ((with_reducible refine yP ?_); refine yO tbOk rfl rfl rfl rfl rfl (by omega) rfl rfl rfl ?_) | refine zB rfl ?_  | ((with_reducible refine zA ?_ ?_); kernel_rfl))
        refine ye tbOk rfl rfl rfl rfl rfl (by decide) rfl rfl rfl rfl rfl (fun x hx => by simp at hx; subst hx; rfl) (by simp only [List.length_map, List.length_cons, List.length_nil]; omega) (by simp only [List.length_map, List.length_cons, List.length_nil]; omega) ?_
        repeat (first | ((with_reducible refine zI ?_); refine zH rfl ?_) | ((with_reducible refine zE ?_); refine zD rfl ?_) | ((with_reducible refine zP ?_); refine zY rfl rfl (by omega) ?_)  | refine zJ ?_ | refine zB rfl ?_ | with_reducible (first | refine zC ?_ | refine zd ?_) | ((with_reducible refine zA ?_ ?_); kernel_rfl))
        exact ⟨(i + 1, E.next, L ++ [(i : Int)]), ⟨hv0, hE.next, by show i + 1 ≤ n; omega, by simp; omega, by show dU k (n - (i + 1)) (i + 1) E.next (L ++ [(i : Int)]) = _; rw [hm2]; exact hf⟩, by show n - (i + 1) < n - i; omega, ⟨rfl, rfl, rfl, rfl, rfl, trivial⟩, ⟨rfl, jV (by rw [List.map_append]; rfl), trivial⟩⟩
      · have h0 : ¬ E.val 3 = 0 := by simpa using h
        rw [if_neg h0] at hf
        repeat (first | ((with_reducible refine zI ?_); refine zH rfl ?_) | ((with_reducible refine zE ?_); refine zD rfl ?_) | ((with_reducible refine zP ?_); refine zY rfl rfl (by omega) ?_)  | refine zJ ?_ | refine zB rfl ?_ | with_reducible (first | refine zC ?_ | refine zd ?_ | refine zN ?_) | ((with_reducible refine zA ?_ ?_); kernel_rfl))
        exact ⟨(i + 1, E.next, L), ⟨hv0, hE.next, by show i + 1 ≤ n; omega, hl, by show dU k (n - (i + 1)) (i + 1) E.next L = _; rw [hm2]; exact hf⟩, by show n - (i + 1) < n - i; omega, ⟨rfl, rfl, rfl, rfl, rfl, trivial⟩, ⟨rfl, rfl, trivial⟩⟩
    · rw [if_pos (by simp at c; omega)] at hf
      rw [← hf]
      repeat (first | ((with_reducible refine zI ?_); refine zH rfl ?_) | ((with_reducible refine zE ?_); refine zD rfl ?_)  | refine zJ ?_ | refine zB rfl ?_ | with_reducible (first | refine zC ?_ | refine ze ?_ | refine zF ?_ | refine zr ?_ | refine zQ ?_) | ((with_reducible refine za ?_ ?_); rfl) | ((with_reducible refine zA ?_ ?_); kernel_rfl))
      exact eB (by first | exact .inr rfl | exact .inl rfl) rfl rfl (by repeat' exact Ren.own _ _ _ _ ⟨_, rfl⟩) rfl hv0 (by repeat' (first | exact trivial | exact Ren.v _ | exact Ren.sl _ _ | refine ⟨?_, ?_⟩))
  · have hge : n - i = 0 := by simp at b1; omega
    rw [hge] at hf
    have hf' : setP n k D = (E, L) := hf.symm
    rw [hf']
    repeat (first | ((with_reducible refine zI ?_); refine zH rfl ?_) | ((with_reducible refine zE ?_); refine zD rfl ?_) | ((with_reducible refine zZ ?_); refine zi rfl (by first | rfl | assumption) rfl ?_)  | refine zJ ?_ | refine zB rfl ?_ | refine yH rfl rfl (by first | rfl | assumption) ?_ | with_reducible (first | refine zC ?_ | refine ze ?_ | refine zF ?_ | refine zr ?_ | refine zQ ?_) | ((with_reducible refine za ?_ ?_); rfl) | ((with_reducible refine zA ?_ ?_); kernel_rfl) | refine zy rfl (by first | rfl | assumption) ?_)
    exact eB (by first | exact .inr rfl | exact .inl rfl) rfl rfl (by repeat' exact Ren.own _ _ _ _ ⟨_, rfl⟩) rfl hv0 (by repeat' (first | exact trivial | exact Ren.v _ | exact Ren.sl _ _ | refine ⟨?_, ?_⟩))
set_option maxHeartbeats 4000000 in
theorem zone_A (N : List Nd) (V : List Dv) (D : Dk) (hD : DkOk D) (h0 : 0 < N.length) (hn : N.length ≤ 1000) :
    zu Tryz.prog G 29 [.ptr (refB + 0) 0 0, qE N V] [D.cells] (.sl 1 ((dX N.length D).2.map iv)) [(dX N.length D).1.cells] := by
  have hnl : (N.map Nd.av).length = N.length := by simp
  have hset := set_A (G := G) (N.map Nd.av).length 2 D hD (by omega) (by omega)
  rw [hnl] at hset
  obtain ⟨hE, hl, -⟩ := vM (n := N.length) (k := 2) hD
  unfold dX
  obtain ⟨⟨E, L⟩, hEL⟩ : ∃ q, q = setP N.length 2 D := ⟨_, rfl⟩
  rw [← hEL] at hE hl hset ⊢
  dsimp only at hE hl hset ⊢
  have hml : (L.map iv).length = L.length := by simp
  refine zf tbOk (zM Tryz.func29 (by kernel_rfl) rfl) Tryz.func29 rfl _ Tryz.ntmps29 (Nat.le_of_ble_eq_true rfl) fun X hX => ?_
  subst hX
  repeat (first | ((with_reducible refine zE ?_); refine zD rfl ?_) | ((with_reducible refine zK ?_); refine zG tbOk rfl rfl rfl rfl ?_) | ((with_reducible refine zO ?_); refine zL tbOk rfl rfl rfl rfl rfl ?_) | ((with_reducible refine yw ?_); refine yv rfl rfl rfl ?_) | ((with_reducible refine zp ?_); refine yU tbOk rfl rfl ?_) | ((with_reducible refine zP ?_); refine zS rfl rfl rfl ?_)  | refine zJ ?_ | refine zB rfl ?_ | with_reducible (first | refine zC ?_ | refine zF ?_) | ((with_reducible refine zA ?_ ?_); kernel_rfl))
  refine zX rfl (fun h => ?_) (fun h => ?_)
  · exfalso; simp at h; rw [h] at h0; simp at h0
  repeat (first | ((with_reducible refine zI ?_); refine zH rfl ?_) | ((with_reducible refine zK ?_); refine zG tbOk rfl rfl rfl rfl ?_) | ((with_reducible refine zO ?_); refine zL tbOk rfl rfl rfl rfl rfl ?_) | ((with_reducible refine zp ?_); refine yU tbOk rfl rfl ?_)  | refine zB rfl ?_ | with_reducible (first | refine zC ?_ | refine zF ?_ | refine zN ?_) | ((with_reducible refine zA ?_ ?_); kernel_rfl))
  rw [← hnl] at hset
  refine yW (ss := [(refB + 0, 0)]) (hset) (by repeat' (first | exact trivial | exact Ren.v _ | exact Ren.ptr _ _ _ _ rfl | refine ⟨?_, ?_⟩)) (by simp) (in1 rfl rfl) rfl (ym rfl) (by repeat' exact RenB.sl _ _) ?_
  repeat (first | ((with_reducible refine zI ?_); refine zH rfl ?_) | ((with_reducible refine zE ?_); refine zD rfl ?_) | ((with_reducible refine zp ?_); refine yU tbOk rfl rfl ?_) | ((with_reducible refine zP ?_); refine zS rfl rfl rfl ?_)  | refine zJ ?_ | refine zB rfl ?_ | with_reducible (first | refine zC ?_ | refine zF ?_) | ((with_reducible refine zA ?_ ?_); kernel_rfl))
  refine zX rfl (fun h => ?_) (fun h => ?_)
  · have hL : L = [] := List.length_eq_zero_iff.1 (by simp at h; simpa using h)
    rw [if_pos hL]
    have hnx := jK (G := X.G) E ((N.map Nd.av).length : Int) hE (by omega) (by omega)
    repeat (first | ((with_reducible refine zI ?_); refine zH rfl ?_) | ((with_reducible refine zK ?_); refine zG tbOk rfl rfl rfl rfl ?_) | ((with_reducible refine zO ?_); refine zL tbOk rfl rfl rfl rfl rfl ?_) | ((with_reducible refine zp ?_); refine yU tbOk rfl rfl ?_)  | refine zB rfl ?_  | ((with_reducible refine zA ?_ ?_); kernel_rfl))
    refine yW (ss := [(refB + 0, 0)]) (hnx) (by repeat' (first | exact trivial | exact Ren.v _ | exact Ren.ptr _ _ _ _ rfl | refine ⟨?_, ?_⟩)) (by simp) (in1 rfl rfl) rfl (ym rfl) (by repeat' exact RenB.v _) ?_
    repeat (first | ((with_reducible refine zI ?_); refine zH rfl ?_) | ((with_reducible refine zE ?_); refine zD rfl ?_) | ((with_reducible refine yP ?_); refine yO tbOk rfl rfl rfl rfl rfl (by omega) rfl rfl rfl ?_) | refine zJ ?_ | refine zB rfl ?_ | with_reducible (first | refine zC ?_ | refine zF ?_ | refine zQ ?_) | ((with_reducible refine zA ?_ ?_); kernel_rfl))
    rw [← hnl]
    exact eB (by first | exact .inr rfl | exact .inl rfl) rfl rfl (by repeat' exact Ren.sl _ _) rfl rfl (by repeat' (first | exact trivial | exact Ren.v _ | exact Ren.sl _ _ | refine ⟨?_, ?_⟩))
  · rw [if_neg (fun e => by rw [e] at h; simp at h)]
    repeat (first | ((with_reducible refine zI ?_); refine zH rfl ?_) | ((with_reducible refine zE ?_); refine zD rfl ?_)  | refine zJ ?_ | refine zB rfl ?_ | with_reducible (first | refine zC ?_ | refine zF ?_ | refine zN ?_ | refine zQ ?_) | ((with_reducible refine zA ?_ ?_); kernel_rfl))
    exact eB (by first | exact .inr rfl | exact .inl rfl) rfl rfl (by repeat' exact Ren.sl _ _) rfl rfl (by repeat' (first | exact trivial | exact Ren.v _ | exact Ren.sl _ _ | refine ⟨?_, ?_⟩))
def stB (D : Dk) (x : Dv) : Int := if (decide (x.k = 4) != (D.val 4 == 0)) = true then 1 else 2
def stGo : List Dv → Dk → List Int → Dk × List Int
  | [], D, L => (D, L)
  | x :: l, D, L => stGo l D.next (L ++ [stB D x])
def stP (V : List Dv) (D : Dk) : Dk × List Int := stGo V D []
theorem wA : ∀ (W : List Dv) (D : Dk) (L : List Int), DkOk D → (∀ p ∈ L, p = 1 ∨ p = 2) → DkOk (stGo W D L).1 ∧ (stGo W D L).2.length = L.length + W.length ∧ ∀ p ∈ (stGo W D L).2, p = 1 ∨ p = 2
  | [], D, L, h, hL => ⟨h, rfl, hL⟩
  | x :: W, D, L, h, hL => by
    obtain ⟨a, b, c⟩ := wA W D.next (L ++ [stB D x]) h.next (fun p hp => by
      rcases List.mem_append.1 hp with hp | hp
      · exact hL p hp
      · simp at hp; subst hp; unfold stB; split <;> simp)
    exact ⟨a, by rw [stGo, b]; simp; omega, c⟩
theorem stP_ok {V : List Dv} {D : Dk} (h : DkOk D) : DkOk (stP V D).1 ∧ (stP V D).2.length = V.length ∧ ∀ p ∈ (stP V D).2, p = 1 ∨ p = 2 := by
  obtain ⟨a, b, c⟩ := wA V D [] h (by simp)
  exact ⟨a, by rw [show (stP V D).2 = (stGo V D []).2 from rfl, b]; simp, c⟩
set_option maxHeartbeats 4000000 in
theorem state_A (N : List Nd) (V : List Dv) (D : Dk) (hD : DkOk D) (hn : V.length ≤ 1000) :
    zu Tryz.prog G 28 [.ptr (refB + 0) 0 0, qE N V] [D.cells] (.sl 1 ((stP V D).2.map iv)) [(stP V D).1.cells] := by
  have hvl : (V.map Dv.av).length = V.length := by simp
  refine zf tbOk (zM Tryz.func28 (by kernel_rfl) rfl) Tryz.func28 rfl _ Tryz.ntmps28 (Nat.le_of_ble_eq_true rfl) fun X hX => ?_
  subst hX
  repeat (first | ((with_reducible refine zE ?_); refine zD rfl ?_) | ((with_reducible refine yw ?_); refine yv rfl rfl rfl ?_)  | refine zJ ?_ | refine zB rfl ?_ | with_reducible (first | refine zC ?_ | refine zF ?_ | refine zU ?_) | ((with_reducible refine zA ?_ ?_); kernel_rfl))
  refine kN (t := 5) (s := 28) 3 1 rfl rfl ?_
  refine jG (ι := Nat × Dk × List Int) (fun v i => v (refB + 0) = 0 ∧ DkOk i.2.1 ∧ i.1 ≤ V.length ∧ i.2.2.length = i.1 ∧ stGo (V.drop i.1) i.2.1 i.2.2 = stP V D) (fun i => V.length - i.1) (fun v i => [(0, .ptr (refB + 0) (v (refB + 0)) 0), (3, .ptr 3 (v 3) 0), (5, .own 28 (v 28)), (6, .v (.int .i64 (i.1 : Nat)))]) (fun v i => [(refB + 0, .box i.2.1.cells), (3, .box [.sl 3 (N.map Nd.av), .sl 5 (V.map Dv.av)]), (28, .buf 3 1 (i.2.2.map iv))]) ?_ ?_
  · exact ⟨(0, D, []), ⟨rfl, hD, Nat.zero_le _, rfl, rfl⟩, trivial, ⟨rfl, rfl, rfl, rfl, trivial⟩, ⟨rfl, rfl, rfl, trivial⟩⟩
  rintro v ⟨i, E, L⟩ ⟨hv0, hE, hi, hl, hf⟩
  dsimp only at hv0 hE hi hl hf ⊢
  have hml : (L.map iv).length = L.length := by simp
  repeat (first | ((with_reducible refine zI ?_); refine zH rfl ?_) | ((with_reducible refine zK ?_); refine zG tbOk rfl rfl rfl rfl ?_) | ((with_reducible refine zO ?_); refine zL tbOk rfl rfl rfl rfl rfl ?_) | ((with_reducible refine zp ?_); refine yU tbOk rfl rfl ?_) | ((with_reducible refine zP ?_); refine zS rfl rfl rfl ?_)  | refine zJ ?_ | refine zB rfl ?_ | with_reducible (first | refine zC ?_ | refine zF ?_) | ((with_reducible refine zA ?_ ?_); kernel_rfl))
  refine zX rfl (fun h => ?_) (fun h => ?_)
  · have hlt : i < V.length := by simpa using h
    obtain ⟨x, hx⟩ := zT hlt
    have hy := fW hx
    rw [yq hx, stGo] at hf
    repeat (first | ((with_reducible refine zI ?_); refine zH rfl ?_) | ((with_reducible refine zE ?_); refine zD rfl ?_) | ((with_reducible refine zK ?_); (first | refine zG tbOk rfl rfl rfl rfl ?_ | refine yX tbOk rfl rfl rfl rfl ?_)) | ((with_reducible refine zO ?_); (first | refine zL tbOk rfl rfl rfl rfl rfl ?_ | refine zm tbOk rfl rfl rfl ?_)) | ((with_reducible refine zW ?_); refine zb tbOk rfl rfl rfl rfl (by assumption) ?_) | ((with_reducible refine zP ?_); refine zS rfl rfl rfl ?_)  | refine zJ ?_ | refine zB rfl ?_ | with_reducible (first | refine zC ?_ | refine zF ?_ | refine zU ?_ | refine zN ?_) | ((with_reducible refine zA ?_ ?_); kernel_rfl) | ((with_reducible refine yz mixd ?_ ?_); kernel_rfl))
    refine yW (ss := [(refB + 0, v (refB + 0))]) (kA E 4 hE (by omega) (by omega)) (by repeat' (first | exact trivial | exact Ren.v _ | exact Ren.ptr _ _ _ _ rfl | refine ⟨?_, ?_⟩)) (by simp) (in1 rfl rfl) rfl (ym rfl) (by repeat' exact RenB.v _) ?_
    repeat (first | ((with_reducible refine zP ?_); refine vY (by exact Tryz.underlying4) rfl rfl ?_)  | refine jD (by kernel_rfl) ?_ | refine zB rfl ?_ | with_reducible refine zC ?_ )
    refine zX rfl (fun c => ?_) (fun c => ?_)
    · have e : stB E x = 1 := by unfold stB; exact if_pos c
      rw [e] at hf
      repeat (first | ((with_reducible refine zI ?_); refine zH rfl ?_) | ((with_reducible refine zE ?_); refine zD rfl ?_) | ((with_reducible refine yP ?_); refine yO tbOk rfl rfl rfl rfl rfl (by omega) rfl rfl rfl ?_) | refine zJ ?_ | refine zB rfl ?_ | with_reducible refine zC ?_ | ((with_reducible refine zA ?_ ?_); kernel_rfl))
      refine ye tbOk rfl rfl rfl rfl rfl (by decide) rfl rfl rfl rfl rfl (fun x hx => by simp at hx; subst hx; rfl) (by simp only [List.length_map, List.length_cons, List.length_nil]; omega) (by simp only [List.length_map, List.length_cons, List.length_nil]; omega) ?_
      repeat (first | ((with_reducible refine zI ?_); refine zH rfl ?_) | ((with_reducible refine zE ?_); refine zD rfl ?_) | ((with_reducible refine zP ?_); refine zY rfl rfl (by omega) ?_)  | refine zJ ?_ | refine zB rfl ?_ | with_reducible (first | refine zC ?_ | refine zd ?_) | ((with_reducible refine zA ?_ ?_); kernel_rfl))
      exact ⟨(i + 1, E.next, L ++ [1]), ⟨hv0, hE.next, by show i + 1 ≤ V.length; omega, by simp; omega, hf⟩, by show V.length - (i + 1) < V.length - i; omega, ⟨rfl, rfl, rfl, rfl, trivial⟩, ⟨rfl, rfl, jV (by rw [List.map_append]; rfl), trivial⟩⟩
    · have e : stB E x = 2 := by unfold stB; exact if_neg fun hc => by have hc' : ((x.k == 4) != (E.val 4 == 0)) = true := hc; rw [c] at hc'; cases hc'
      rw [e] at hf
      repeat (first | ((with_reducible refine zI ?_); refine zH rfl ?_) | ((with_reducible refine yP ?_); refine yO tbOk rfl rfl rfl rfl rfl (by omega) rfl rfl rfl ?_) | refine zB rfl ?_ | with_reducible (first | refine zC ?_ | refine zN ?_) | ((with_reducible refine zA ?_ ?_); kernel_rfl))
      refine ye tbOk rfl rfl rfl rfl rfl (by decide) rfl rfl rfl rfl rfl (fun x hx => by simp at hx; subst hx; rfl) (by simp only [List.length_map, List.length_cons, List.length_nil]; omega) (by simp only [List.length_map, List.length_cons, List.length_nil]; omega) ?_
      repeat (first | ((with_reducible refine zI ?_); refine zH rfl ?_) | ((with_reducible refine zE ?_); refine zD rfl ?_) | ((with_reducible refine zP ?_); refine zY rfl rfl (by omega) ?_)  | refine zJ ?_ | refine zB rfl ?_ | with_reducible (first | refine zC ?_ | refine zd ?_) | ((with_reducible refine zA ?_ ?_); kernel_rfl))
      exact ⟨(i + 1, E.next, L ++ [2]), ⟨hv0, hE.next, by show i + 1 ≤ V.length; omega, by simp; omega, hf⟩, by show V.length - (i + 1) < V.length - i; omega, ⟨rfl, rfl, rfl, rfl, trivial⟩, ⟨rfl, rfl, jV (by rw [List.map_append]; rfl), trivial⟩⟩
  · have hge : ¬ i < V.length := by simpa using h
    rw [List.drop_of_length_le (by omega)] at hf
    have hf' : stP V D = (E, L) := hf.symm
    rw [hf']
    repeat (first | ((with_reducible refine zI ?_); refine zH rfl ?_) | ((with_reducible refine zE ?_); refine zD rfl ?_)  | refine zJ ?_ | refine zB rfl ?_ | with_reducible (first | refine zC ?_ | refine ze ?_ | refine zF ?_ | refine zr ?_ | refine zQ ?_) | ((with_reducible refine za ?_ ?_); rfl) | ((with_reducible refine zA ?_ ?_); kernel_rfl))
    exact eB (by first | exact .inr rfl | exact .inl rfl) rfl rfl (by repeat' exact Ren.own _ _ _ _ ⟨_, rfl⟩) rfl hv0 (by repeat' (first | exact trivial | exact Ren.v _ | exact Ren.sl _ _ | refine ⟨?_, ?_⟩))
end Go.Proofs.YtnafokinifbfhaaGreatDoor
