/- slices.Sort at up to 12 numbers, of the caller's own, by the abstract machine; conditions: none / slices.Sort at up to 12 numbers, of the caller's own, by the abstract machine: the whole; conditions: none / Duties and hazards as plain functions, and what is in a list of hazards; nothing is walked here; conditions: none. -/
import Derived.Test.YtnafokinifbfhaaGreatDoorCoA
import Derived.Test.YtnafokinifbfhaaGreatDoorAbsIp
import Derived.Test.YtnafokinifbfhaaGreatDoorZg
import Derived.Test.YtnafokinifbfhaaGreatDoorHzP
set_option linter.unusedVariables false
set_option linter.unusedSimpArgs false
namespace Go.Proofs.YtnafokinifbfhaaGreatDoor
open Go Go.RowKit
set_option maxRecDepth 10000
variable {G : Nat → Option (List Value)}
theorem nanI_A (n : Int) : zJ Tryz.prog G 177 [.v (.int .i64 n)] [] (.v (.bool false)) [] := by
  refine zE tbOk (zA Tryz.func177 (by kernel_rfl) rfl) Tryz.func177 rfl _ Tryz.ntmps177 (Nat.le_of_ble_eq_true rfl) fun X hX => ?_
  subst hX
  refine zg6 ?_
  refine zL (by first | exact .inr rfl | exact .inl rfl) rfl rfl ?_
  simp
theorem lessI_A (x y : Int) : zJ Tryz.prog G 135 [.v (.int .i64 x), .v (.int .i64 y)] [] (.v (.bool (decide (x < y)))) [] := by
  refine zE tbOk (zA Tryz.func135 (by kernel_rfl) rfl) Tryz.func135 rfl _ Tryz.ntmps135 (Nat.le_of_ble_eq_true rfl) fun X hX => ?_
  subst hX
  refine zg1 ?_
  refine zG (nanI_A x) (by repeat' (first | exact trivial | exact Ren.v _ | refine ⟨?_, ?_⟩)) (by repeat' exact RenB.v _) ?_
  refine zg7 ?_
  refine zL (by first | exact .inr rfl | exact .inl rfl) rfl rfl ?_
  rfl
def swp (L : List Int) (j : Nat) : List Int := (L.set (j + 1) (L.getD j 0)).set j (L.getD (j + 1) 0)
theorem tZ (L : List Int) (j : Nat) : (swp L j).length = L.length := by simp [swp]
def sink : Nat → List Int → List Int
  | 0, L => L
  | j + 1, L => if L.getD (j + 1) 0 < L.getD j 0 then sink j (swp L j) else L
def mL : Nat → Nat → List Int → List Int
  | 0, _, L => L
  | m + 1, i, L => mL m (i + 1) (sink i L)
def srtI (L : List Int) : List Int := mL (L.length - 1) 1 L
theorem pU : ∀ (j : Nat) (L : List Int), (sink j L).length = L.length
  | 0, _ => rfl
  | j + 1, L => by
    rw [sink]
    split
    · rw [pU j, tZ]
    · rfl
theorem rQ : ∀ (m i : Nat) (L : List Int), (mL m i L).length = L.length
  | 0, _, _ => rfl
  | m + 1, i, L => by rw [mL, rQ m, pU]
theorem vR (L : List Int) : (srtI L).length = L.length := rQ _ _ _
theorem swp_mem {L : List Int} {j : Nat} (h : j + 1 < L.length) (x : Int) : x ∈ swp L j ↔ x ∈ L := by
  obtain ⟨a, ha⟩ := zB (L := L) (k := j) (by omega)
  obtain ⟨b, hb⟩ := zB (L := L) (k := j + 1) h
  have ga : L.getD j 0 = a := by rw [List.getD_eq_getElem?_getD, ha]; rfl
  have gb : L.getD (j + 1) 0 = b := by rw [List.getD_eq_getElem?_getD, hb]; rfl
  unfold swp
  rw [ga, gb]
  have at_ : ∀ k : Nat, ((L.set (j + 1) a).set j b)[k]? = if k = j then some b else if k = j + 1 then some a else L[k]? := fun k => by
    by_cases e1 : k = j
    · subst e1; rw [if_pos rfl, List.getElem?_set_self (by simp; omega)]
    · rw [if_neg e1, List.getElem?_set_ne (Ne.symm e1)]
      by_cases e2 : k = j + 1
      · subst e2; rw [if_pos rfl, List.getElem?_set_self h]
      · rw [if_neg e2, List.getElem?_set_ne (Ne.symm e2)]
  constructor
  · intro hx
    obtain ⟨k, hk⟩ := List.getElem?_of_mem hx
    rw [at_] at hk
    split at hk
    · injection hk with hk; subst hk; exact List.mem_of_getElem? hb
    · split at hk
      · injection hk with hk; subst hk; exact List.mem_of_getElem? ha
      · exact List.mem_of_getElem? hk
  · intro hx
    obtain ⟨k, hk⟩ := List.getElem?_of_mem hx
    by_cases e1 : k = j
    · subst e1
      rw [ha] at hk
      injection hk with hk
      subst hk
      exact List.mem_of_getElem? (i := k + 1) (by rw [at_, if_neg (by omega), if_pos rfl])
    · by_cases e2 : k = j + 1
      · subst e2
        rw [hb] at hk
        injection hk with hk
        subst hk
        exact List.mem_of_getElem? (i := j) (by rw [at_, if_pos rfl])
      · exact List.mem_of_getElem? (i := k) (by rw [at_, if_neg e1, if_neg e2]; exact hk)
theorem vX : ∀ (j : Nat) (L : List Int), j < L.length → ∀ x, x ∈ sink j L ↔ x ∈ L
  | 0, _, _, _ => Iff.rfl
  | j + 1, L, h, x => by
    rw [sink]
    split
    · rw [vX j _ (by rw [tZ]; omega), swp_mem h]
    · exact Iff.rfl
theorem sN : ∀ (m i : Nat) (L : List Int), i + m ≤ L.length → ∀ x, x ∈ mL m i L ↔ x ∈ L
  | 0, _, _, _, _ => Iff.rfl
  | m + 1, i, L, h, x => by rw [mL, sN m (i + 1) _ (by rw [pU]; omega), vX i L (by omega)]
theorem wP (L : List Int) (x : Int) : x ∈ srtI L ↔ x ∈ L := by
  unfold srtI
  by_cases h : 1 ≤ L.length
  · exact sN _ _ _ (by omega) x
  · rw [show L.length - 1 = 0 by omega]; exact Iff.rfl
set_option maxHeartbeats 8000000 in
theorem inso_P (L : List Int) (hl : L.length ≤ 1000) : qy Tryz.prog G 129 [.own (refB + 0) 0, .v (.int .i64 0), .v (.int .i64 (L.length : Nat))] [.buf 3 1 (L.map iv)] (.tu []) [.buf 3 1 ((srtI L).map iv)] := by
  refine qW tbOk (zA Tryz.func129 (by kernel_rfl) rfl) Tryz.func129 rfl _ Tryz.ntmps129 (Nat.le_of_ble_eq_true rfl) fun X hX => ?_
  subst hX
  refine zg10 ?_
  refine yK (ι := Nat × List Int) (fun v i => v (refB + 0) = 0 ∧ 1 ≤ i.1 ∧ i.2.length = L.length ∧ mL (L.length - i.1) i.1 i.2 = srtI L) (fun i => L.length - i.1) (fun v i => [(0, .own (refB + 0) (v (refB + 0))), (1, .v (.int .i64 0)), (2, .v (.int .i64 (L.length : Nat))), (6, .v (.int .i64 (i.1 : Nat)))]) (fun v i => [(refB + 0, .buf 3 1 (i.2.map iv))]) ?_ ?_
  · exact ⟨(1, L), ⟨rfl, Nat.le_refl _, rfl, rfl⟩, trivial, ⟨rfl, rfl, rfl, rfl, trivial⟩, ⟨rfl, trivial⟩⟩
  rintro v ⟨i, E⟩ ⟨hv0, hi, hE, hf⟩
  dsimp only at hv0 hi hE hf ⊢
  refine zg1 ?_
  refine zF rfl (fun h => ?_) (fun h => ?_)
  · have hlt : i < L.length := by simpa using h
    obtain ⟨m, hm1, hm2⟩ : ∃ m, L.length - i = m + 1 ∧ L.length - (i + 1) = m := ⟨L.length - i - 1, by omega, by omega⟩
    rw [hm1, mL] at hf
    refine zg0 ?_
    refine yK (ι := Nat × List Int) (fun v j => v (refB + 0) = 0 ∧ j.1 ≤ i ∧ j.2.length = L.length ∧ sink j.1 j.2 = sink i E) (fun j => j.1) (fun v j => [(0, .own (refB + 0) (v (refB + 0))), (1, .v (.int .i64 0)), (2, .v (.int .i64 (L.length : Nat))), (6, .v (.int .i64 (i : Nat))), (7, .v (.int .i64 (j.1 : Nat)))]) (fun v j => [(refB + 0, .buf 3 1 (j.2.map iv))]) ?_ ?_
    · exact ⟨(i, E), ⟨hv0, Nat.le_refl _, hE, rfl⟩, trivial, ⟨rfl, rfl, rfl, rfl, rfl, trivial⟩, ⟨rfl, trivial⟩⟩
    clear v h hv0
    rintro v ⟨j, F⟩ ⟨hv0, hj, hF, hg⟩
    dsimp only at hv0 hj hF hg ⊢
    refine zg7 ?_
    rcases Nat.eq_zero_or_pos j with j0 | j0
    · subst j0
      have d0 : decide (((0 : Nat) : Int) > 0) = false := by decide
      have hg : F = sink i E := hg
      rw [← hg] at hf
      refine zg4 ?_
      exact ⟨(i + 1, F), ⟨hv0, by show 1 ≤ i + 1; omega, hF, by dsimp only; rw [hm2]; exact hf⟩, by show L.length - (i + 1) < L.length - i; omega, ⟨rfl, rfl, rfl, rfl, trivial⟩, ⟨rfl, trivial⟩⟩
    · obtain ⟨k, rfl⟩ : ∃ k, j = k + 1 := ⟨j - 1, by omega⟩
      have d0 : decide (((k + 1 : Nat) : Int) > 0) = true := decide_eq_true (by omega)
      have ek : ((k + 1 : Nat) : Int) - 1 = (k : Int) := by omega
      rw [sink] at hg
      refine zg8 ?_
      (with_reducible refine zH ?_); refine zK tbOk rfl rfl rfl rfl rfl rfl ⟨by omega, by rw [List.length_map]; omega⟩ ?_
      refine zg8 ?_
      (with_reducible refine ze ?_); refine zk tbOk rfl rfl rfl rfl (qG (by omega)) (by rw [List.length_map]; omega) ?_
      refine zg8 ?_
      rw [ek]
      (with_reducible refine zH ?_); refine zK tbOk rfl rfl rfl rfl rfl rfl ⟨by omega, by rw [List.length_map]; omega⟩ ?_
      refine zg8 ?_
      (with_reducible refine ze ?_); refine zk tbOk rfl rfl rfl rfl (qG (by omega)) (by rw [List.length_map]; omega) ?_
      refine zg8 ?_
      rw [show ((k + 1 : Nat) : Int).toNat = k + 1 from rfl, show ((k : Nat) : Int).toNat = k from rfl]
      refine zG (lessI_A (F.getD (k + 1) 0) (F.getD k 0)) (by repeat' (first | exact trivial | exact Ren.v _ | refine ⟨?_, ?_⟩)) (by repeat' exact RenB.v _) ?_
      refine zg5 ?_
      refine zF rfl (fun c => ?_) (fun c => ?_)
      · rw [if_pos (by simpa using c)] at hg
        refine zg14 ?_
        rw [ek]
        skip
        (with_reducible refine zH ?_); refine zK tbOk rfl rfl rfl rfl rfl rfl ⟨by omega, by rw [List.length_map]; omega⟩ ?_
        refine zg1 ?_
        (with_reducible refine ze ?_); refine zk tbOk rfl rfl rfl rfl (qG (by omega)) (by rw [List.length_map]; omega) ?_
        refine zg11 ?_
        (with_reducible refine zH ?_); refine zK tbOk rfl rfl rfl rfl rfl rfl ⟨by omega, by rw [List.length_map]; omega⟩ ?_
        refine zg1 ?_
        (with_reducible refine ze ?_); refine zk tbOk rfl rfl rfl rfl (qG (by omega)) (by rw [List.length_map]; omega) ?_
        refine zg1 ?_
        (with_reducible refine zH ?_); refine zK tbOk rfl rfl rfl rfl rfl rfl ⟨by omega, by rw [List.length_map]; omega⟩ ?_
        refine zg1 ?_
        (with_reducible refine zt ?_); refine zz (L' := (F.set ((k + 1 : Nat) : Int).toNat (F.getD ((k : Nat) : Int).toNat 0)).map iv) tbOk rfl rfl rfl rfl rfl rfl rfl rfl rfl (by rw [yS, List.length_map]; omega) (by simp) (yY _) (jt _ _ _) ?_
        refine zg1 ?_
        (with_reducible refine zH ?_); refine zK tbOk rfl rfl rfl rfl rfl rfl ⟨by omega, by rw [List.length_map]; (simp; omega)⟩ ?_
        refine zg1 ?_
        (with_reducible refine zt ?_); refine zz (L' := ((F.set ((k + 1 : Nat) : Int).toNat (F.getD ((k : Nat) : Int).toNat 0)).set ((k : Nat) : Int).toNat (F.getD ((k + 1 : Nat) : Int).toNat 0)).map iv) tbOk rfl rfl rfl rfl rfl rfl rfl rfl rfl (by rw [yS, List.length_map]; (simp; omega)) (by simp) (yY _) (jt _ _ _) ?_
        refine zg10 ?_
        exact ⟨(k, swp F k), ⟨hv0, by show k ≤ i; omega, by rw [tZ]; exact hF, hg⟩, by show k < k + 1; omega, ⟨rfl, rfl, rfl, rfl, congrArg (fun z => AV.v (.int .i64 z)) ek, trivial⟩, ⟨rfl, trivial⟩⟩
      · rw [if_neg (by simpa using c)] at hg
        rw [← hg] at hf
        refine zg2 ?_
        exact ⟨(i + 1, F), ⟨hv0, by show 1 ≤ i + 1; omega, hF, by dsimp only; rw [hm2]; exact hf⟩, by show L.length - (i + 1) < L.length - i; omega, ⟨rfl, rfl, rfl, rfl, trivial⟩, ⟨rfl, trivial⟩⟩
  · have hge : ¬ i < L.length := by simpa using h
    rw [show L.length - i = 0 by omega] at hf
    have hf : E = srtI L := hf
    rw [← hf]
    refine zg2 ?_
    exact sH (by first | exact .inr rfl | exact .inl rfl) (xs := []) trivial (by repeat' (first | exact trivial | refine zf ?_)) rfl hv0
def len8 (n : Nat) : Int := if n = 0 then 0 else if n < 2 then 1 else if n < 4 then 2 else if n < 8 then 3 else 4
set_option maxHeartbeats 8000000 in
theorem blen64_A (n : Nat) (h : n ≤ 12) : zJ Tryz.prog G 139 [.v (.int .u64 (n : Nat))] [] (.v (.int .i64 (len8 n))) [] := by
  have key : n = 0 ∨ n = 1 ∨ n = 2 ∨ n = 3 ∨ n = 4 ∨ n = 5 ∨ n = 6 ∨ n = 7 ∨ n = 8 ∨ n = 9 ∨ n = 10 ∨ n = 11 ∨ n = 12 := by omega
  refine zE tbOk (zA Tryz.func139 (by kernel_rfl) rfl) Tryz.func139 rfl _ Tryz.ntmps139 (Nat.le_of_ble_eq_true rfl) fun X hX => ?_
  subst hX
  rcases key with rfl | rfl | rfl | rfl | rfl | rfl | rfl | rfl | rfl | rfl | rfl | rfl | rfl
  · refine zg13 ?_
    refine jC (r := .int .u8 0) rfl rfl (fun w => by kernel_rfl) ?_
    refine zg9 ?_
    refine zL (by first | exact .inr rfl | exact .inl rfl) rfl rfl ?_
    rfl
  · refine zg13 ?_
    refine jC (r := .int .u8 1) rfl rfl (fun w => by kernel_rfl) ?_
    refine zg9 ?_
    refine zL (by first | exact .inr rfl | exact .inl rfl) rfl rfl ?_
    rfl
  · refine zg13 ?_
    refine jC (r := .int .u8 2) rfl rfl (fun w => by kernel_rfl) ?_
    refine zg9 ?_
    refine zL (by first | exact .inr rfl | exact .inl rfl) rfl rfl ?_
    rfl
  · refine zg13 ?_
    refine jC (r := .int .u8 2) rfl rfl (fun w => by kernel_rfl) ?_
    refine zg9 ?_
    refine zL (by first | exact .inr rfl | exact .inl rfl) rfl rfl ?_
    rfl
  · refine zg13 ?_
    refine jC (r := .int .u8 3) rfl rfl (fun w => by kernel_rfl) ?_
    refine zg9 ?_
    refine zL (by first | exact .inr rfl | exact .inl rfl) rfl rfl ?_
    rfl
  · refine zg13 ?_
    refine jC (r := .int .u8 3) rfl rfl (fun w => by kernel_rfl) ?_
    refine zg9 ?_
    refine zL (by first | exact .inr rfl | exact .inl rfl) rfl rfl ?_
    rfl
  · refine zg13 ?_
    refine jC (r := .int .u8 3) rfl rfl (fun w => by kernel_rfl) ?_
    refine zg9 ?_
    refine zL (by first | exact .inr rfl | exact .inl rfl) rfl rfl ?_
    rfl
  · refine zg13 ?_
    refine jC (r := .int .u8 3) rfl rfl (fun w => by kernel_rfl) ?_
    refine zg9 ?_
    refine zL (by first | exact .inr rfl | exact .inl rfl) rfl rfl ?_
    rfl
  · refine zg13 ?_
    refine jC (r := .int .u8 4) rfl rfl (fun w => by kernel_rfl) ?_
    refine zg9 ?_
    refine zL (by first | exact .inr rfl | exact .inl rfl) rfl rfl ?_
    rfl
  · refine zg13 ?_
    refine jC (r := .int .u8 4) rfl rfl (fun w => by kernel_rfl) ?_
    refine zg9 ?_
    refine zL (by first | exact .inr rfl | exact .inl rfl) rfl rfl ?_
    rfl
  · refine zg13 ?_
    refine jC (r := .int .u8 4) rfl rfl (fun w => by kernel_rfl) ?_
    refine zg9 ?_
    refine zL (by first | exact .inr rfl | exact .inl rfl) rfl rfl ?_
    rfl
  · refine zg13 ?_
    refine jC (r := .int .u8 4) rfl rfl (fun w => by kernel_rfl) ?_
    refine zg9 ?_
    refine zL (by first | exact .inr rfl | exact .inl rfl) rfl rfl ?_
    rfl
  · refine zg13 ?_
    refine jC (r := .int .u8 4) rfl rfl (fun w => by kernel_rfl) ?_
    refine zg9 ?_
    refine zL (by first | exact .inr rfl | exact .inl rfl) rfl rfl ?_
    rfl
end Go.Proofs.YtnafokinifbfhaaGreatDoor
namespace Go.Proofs.YtnafokinifbfhaaGreatDoor
open Go Go.RowKit
set_option maxRecDepth 10000
variable {G : Nat → Option (List Value)}
theorem uW {P : Program} {X : Ctx} {n : Nat} {σ : AS} {Q : Exit → AS → Prop} {x y : Code} (h : AWp P X n y Q σ) : AWp P X n (.cond (.const (.bool false)) x y) Q σ := by
  refine ⟨fun M ρ a w hR => ?_⟩
  have he : a.eval (.const (.bool false)) = .bool false := rfl
  exact wp_cond_split he (fun e => by cases e) (fun _ => h.run M ρ a w hR)
theorem blen_A (n : Nat) (h : n ≤ 12) : zJ Tryz.prog G 93 [.v (.int .u64 (n : Nat))] [] (.v (.int .i64 (len8 n))) [] := by
  refine zE tbOk (zA Tryz.func93 (by kernel_rfl) rfl) Tryz.func93 rfl _ Tryz.ntmps93 (Nat.le_of_ble_eq_true rfl) fun X hX => ?_
  subst hX
  refine zg0 ?_
  refine uW ?_
  refine zg0 ?_
  refine zG (blen64_A n h) (by repeat' (first | exact trivial | exact Ren.v _ | refine ⟨?_, ?_⟩)) (by repeat' exact RenB.v _) ?_
  refine zg5 ?_
  refine zL (by first | exact .inr rfl | exact .inl rfl) rfl rfl ?_
  rfl
theorem pdq_P (L : List Int) (z : Int) (hl : L.length ≤ 12) : qy Tryz.prog G 92 [.own (refB + 0) 0, .v (.int .i64 0), .v (.int .i64 (L.length : Nat)), .v (.int .i64 z)] [.buf 3 1 (L.map iv)] (.tu []) [.buf 3 1 ((srtI L).map iv)] := by
  have d12 : decide ((L.length : Int) - 0 ≤ 12) = true := decide_eq_true (by omega)
  have hi := inso_P (G := G) L (by omega)
  refine qW tbOk (zA Tryz.func92 (by kernel_rfl) rfl) Tryz.func92 rfl _ Tryz.ntmps92 (Nat.le_of_ble_eq_true rfl) fun X hX => ?_
  subst hX
  refine zg0 ?_
  refine yK (ι := Unit) (fun v i => v (refB + 0) = 0) (fun i => 0) (fun v i => [(0, .own (refB + 0) (v (refB + 0))), (1, .v (.int .i64 0)), (2, .v (.int .i64 (L.length : Nat)))]) (fun v i => [(refB + 0, .buf 3 1 (L.map iv))]) ?_ ?_
  · exact ⟨(), rfl, trivial, ⟨rfl, rfl, rfl, trivial⟩, ⟨rfl, trivial⟩⟩
  rintro v ⟨⟩ hv0
  refine zg14 ?_
  refine dA (ss := [(refB + 0, v (refB + 0))]) (cs' := [.buf 3 1 ((srtI L).map iv)]) (y := .tu []) hi (by repeat' (first | exact trivial | exact Ren.v _ | exact Ren.ownr _ _ _ rfl | refine ⟨?_, ?_⟩)) (by simp) ⟨rfl, trivial⟩ ⟨rfl, trivial⟩ (by repeat' (first | exact trivial | refine zZ ?_)) ?_
  refine zg6 ?_
  exact sH (by first | exact .inr rfl | exact .inl rfl) (xs := []) trivial (by repeat' (first | exact trivial | refine zf ?_)) rfl hv0
theorem sort_P (L : List Int) (hl : L.length ≤ 12) : qy Tryz.prog G 47 [.own (refB + 0) 0] [.buf 3 1 (L.map iv)] (.tu []) [.buf 3 1 ((srtI L).map iv)] := by
  have hml : (L.map iv).length = L.length := by simp
  have hb := blen_A (G := G) L.length hl
  have hp := pdq_P (G := G) L (len8 L.length) hl
  refine qW tbOk (zA Tryz.func47 (by kernel_rfl) rfl) Tryz.func47 rfl _ Tryz.ntmps47 (Nat.le_of_ble_eq_true rfl) fun X hX => ?_
  subst hX
  refine zg3 ?_
  rw [hml]
  skip
  refine zG (hb) (by repeat' (first | exact trivial | exact Ren.v _ | refine ⟨?_, ?_⟩)) (by repeat' exact RenB.v _) ?_
  refine zg1 ?_
  refine dA (ss := [(refB + 0, 0)]) (cs' := [.buf 3 1 ((srtI L).map iv)]) (y := .tu []) hp (by repeat' (first | exact trivial | exact Ren.v _ | exact Ren.ownr _ _ _ rfl | refine ⟨?_, ?_⟩)) (by simp) ⟨rfl, trivial⟩ ⟨rfl, trivial⟩ (by repeat' (first | exact trivial | refine zZ ?_)) ?_
  refine zg1 ?_
  exact sH (by first | exact .inr rfl | exact .inl rfl) (xs := []) trivial (by repeat' (first | exact trivial | refine zf ?_)) rfl rfl
end Go.Proofs.YtnafokinifbfhaaGreatDoor
namespace Go.Proofs.YtnafokinifbfhaaGreatDoor
open Go Go.RowKit
def bY (c : List Int) (v : Int) : Bool := bits .and .i64 (c.getD v.toNat 0) 1 != 0
def qS (cl : List Int) (d : Dv) : Bool := (cl.getD d.a.toNat 0 == 3) || (yH d.k && (cl.getD d.b.toNat 0 == 3))
structure SdR where
  l0 : Bool
  l1 : Bool
  n0 : Int
  n1 : Int
  ok : Bool
def yL (pt op : List Int) (d : Dv) : SdR :=
  if d.k = 4 then ⟨false, false, 0, 0, false⟩
  else if yH d.k = false then ⟨true, bY op d.a, -1, d.a, true⟩
  else ⟨bY op d.a, bY op d.b, d.a, d.b, pt.getD d.a.toNat 0 != pt.getD d.b.toNat 0⟩
def parP (s : SdR) : Bool := s.ok && s.l0 && s.l1
def qJ (s : SdR) : Int × Bool := if (!s.ok || (s.l0 == s.l1)) = true then (0, false) else if s.l0 = true then (s.n1, true) else (s.n0, true)
def iC (pt : List Int) (c : Int) : Nat → List Nd → Bool
  | _, [] => false
  | i, x :: l => if 0 < x.cu ∧ pt.getD i 0 = c then true else iC pt c (i + 1) l
def bJ (N : List Nd) (pt : List Int) (s : SdR) : Bool := if (qJ s).2 = true then iC pt (pt.getD (qJ s).1.toNat 0) 0 N else false
def ofV (N : List Nd) (cl pt op : List Int) (d : Dv) : Int :=
  if qS cl d = true then 4 else if parP (yL pt op d) = true then 3 else if bJ N pt (yL pt op d) = true then 2 else if (qJ (yL pt op d)).2 = true then 1 else 0
def ofP (N : List Nd) (V : List Dv) (st : List Int) (i : Nat) (d : Dv) : Int := ofV N (zd N V (st.set i 2)) (ptsP N V (st.set i 1)) (zd N V (st.set i 1)) d
def badP (N : List Nd) (V : List Dv) (st : List Int) (d : Dv) (pos x : Int) : Bool :=
  if d.k = 3 then (x == 2) || (x == 3) || (x == 4)
  else if d.k = 1 then bits .and .i64 (bits .or .i64 ((zd N V st).getD d.a.toNat 0) ((zd N V st).getD d.b.toNat 0)) 1 != 0
  else if d.k = 4 then (pos == 1) && (x == 4)
  else if d.k = 6 then (pos == 2) && (x == 3)
  else d.k == 5
def bU : List (Int × Bool) → List Int
  | [] => []
  | f :: l => if f.2 = true then f.1 :: bU l else bU l
def lstP (l : List (Int × Bool)) : List Int := srtI (bU l)
def inL (N : List Nd) (V : List Dv) (st : List Int) (i : Nat) (d : Dv) (pos : Int) (pr : List Int) : List (Int × Bool) :=
  if st.getD i 0 = pos then [(4, false), (6, d.co != 0), (7, true)]
  else [(4, false), (6, d.co != 0), (1, (pos == 2) && (ofP N V st i d == 4)), (2, badP N V st d pos (ofP N V st i d)), (3, decide (((jZ N V st (st.set i pos)).length : Int) > 0)), (5, (pos == 2) && (d.k == 4) && !hasI pr d.a)]
def inP (N : List Nd) (V : List Dv) (st : List Int) (i : Nat) (d : Dv) (pos : Int) (pr : List Int) : List Int := lstP (inL N V st i d pos pr)
theorem tG : ∀ l, (bU l).length ≤ l.length
  | [] => Nat.le_refl _
  | f :: l => by
    rw [bU]
    have := tG l
    split <;> simp <;> omega
theorem lV {h : Int} : ∀ {l}, h ∈ bU l ↔ (h, true) ∈ l
  | [] => by simp [bU]
  | f :: l => by
    rw [bU]
    obtain ⟨a, b⟩ := f
    cases b with
    | true => simp [lV (l := l)]
    | false => simp [lV (l := l)]
theorem iN {h : Int} {l} : h ∈ lstP l ↔ (h, true) ∈ l := by unfold lstP; rw [wP, lV]
theorem inL_len {N : List Nd} {V : List Dv} {st : List Int} {i : Nat} {d : Dv} {pos : Int} {pr : List Int} : (inL N V st i d pos pr).length ≤ 6 := by
  unfold inL
  split <;> simp
theorem inP_in {N : List Nd} {V : List Dv} {st : List Int} {i : Nat} {d : Dv} {pos : Int} {pr : List Int} {h : Int} (hh : h ∈ inP N V st i d pos pr) : 1 ≤ h ∧ h ≤ 7 := by
  unfold inP at hh
  rw [iN] at hh
  unfold inL at hh
  split at hh <;> simp at hh <;> omega
theorem inP_len {N : List Nd} {V : List Dv} {st : List Int} {i : Nat} {d : Dv} {pos : Int} {pr : List Int} : (inP N V st i d pos pr).length ≤ 6 := by
  unfold inP lstP
  rw [vR]
  exact Nat.le_trans (tG _) inL_len
def mayS (q : Bool) (out : List Int) (h : Int) : List Int := if (!hasI out h && (h != 7 || q)) = true then out ++ [h] else out
def mayI (q : Bool) (out hs : List Int) : List Int := hs.foldl (mayS q) out
def mayG (q : Bool) (L : List (List Int)) (out : List Int) : List Int := L.foldl (mayI q) out
theorem mayS_mem {q : Bool} {out : List Int} {h x : Int} : x ∈ mayS q out h ↔ x ∈ out ∨ (x = h ∧ (h ≠ 7 ∨ q = true)) := by
  unfold mayS
  cases h1 : hasI out h with
  | true =>
    have h1 := qg.1 h1
    simp only [Bool.not_true, Bool.false_and, Bool.false_eq_true, if_false]
    constructor
    · exact .inl
    · rintro (h | ⟨rfl, _⟩)
      · exact h
      · exact h1
  | false =>
    have h1 : ¬ h ∈ out := fun h2 => by rw [qg.2 h2] at h1; cases h1
    by_cases h2 : (h ≠ 7 ∨ q = true)
    · have e : (!false && (h != 7 || q)) = true := by
        rcases h2 with h2 | h2
        · simp [h2]
        · simp [h2]
      rw [if_pos e]
      simp [h2]
    · have e : ¬ (!false && (h != 7 || q)) = true := fun e => h2 (by simpa using e)
      rw [if_neg e]
      simp [h2]
theorem uQ {q : Bool} {x : Int} : ∀ {hs out : List Int}, x ∈ mayI q out hs ↔ x ∈ out ∨ (x ∈ hs ∧ (x ≠ 7 ∨ q = true))
  | [], out => by simp [mayI]
  | h :: hs, out => by
    have e : mayI q out (h :: hs) = mayI q (mayS q out h) hs := rfl
    rw [e, uQ, mayS_mem, List.mem_cons]
    constructor
    · rintro ((h1 | ⟨rfl, h1⟩) | h1)
      · exact .inl h1
      · exact .inr ⟨.inl rfl, h1⟩
      · exact .inr ⟨.inr h1.1, h1.2⟩
    · rintro (h1 | ⟨rfl | h1, h2⟩)
      · exact .inl (.inl h1)
      · exact .inl (.inr ⟨rfl, h2⟩)
      · exact .inr ⟨h1, h2⟩
theorem wL {q : Bool} {x : Int} : ∀ {L : List (List Int)} {out : List Int}, x ∈ mayG q L out ↔ x ∈ out ∨ (∃ hs ∈ L, x ∈ hs ∧ (x ≠ 7 ∨ q = true))
  | [], out => by simp [mayG]
  | h :: L, out => by
    have e : mayG q (h :: L) out = mayG q L (mayI q out h) := rfl
    rw [e, wL, uQ]
    constructor
    · rintro ((h1 | h1) | ⟨hs, h1, h2⟩)
      · exact .inl h1
      · exact .inr ⟨h, by simp, h1⟩
      · exact .inr ⟨hs, by simp [h1], h2⟩
    · rintro (h1 | ⟨hs, h1, h2⟩)
      · exact .inl (.inl h1)
      · rcases List.mem_cons.1 h1 with rfl | h1
        · exact .inl (.inr h2)
        · exact .inr ⟨hs, h1, h2⟩
/-- Different hazards, none of them beyond seven. -/
def HzOk (out : List Int) : Prop := out.Nodup ∧ ∀ x ∈ out, 1 ≤ x ∧ x ≤ 7
theorem hzS {q : Bool} {out : List Int} {h : Int} (H : HzOk out) (hh : 1 ≤ h ∧ h ≤ 7) : HzOk (mayS q out h) := by
  unfold mayS
  split
  · rename_i c
    have h1 : hasI out h = false := by
      simp at c; exact c.1
    have h1 : ¬ h ∈ out := fun h2 => by rw [qg.2 h2] at h1; cases h1
    refine ⟨?_, fun x hx => ?_⟩
    · rw [List.nodup_append]
      refine ⟨H.1, by simp, fun a ha b hb => ?_⟩
      simp at hb
      subst hb
      exact fun e => h1 (e ▸ ha)
    · rcases List.mem_append.1 hx with hx | hx
      · exact H.2 x hx
      · simp at hx; subst hx; exact hh
  · exact H
theorem hzI {q : Bool} : ∀ {hs out : List Int}, HzOk out → (∀ h ∈ hs, 1 ≤ h ∧ h ≤ 7) → HzOk (mayI q out hs)
  | [], out, H, _ => H
  | h :: hs, out, H, hh => hzI (hs := hs) (out := mayS q out h) (hzS H (hh h (by simp))) (fun x hx => hh x (by simp [hx]))
theorem hzG {q : Bool} : ∀ {L : List (List Int)} {out : List Int}, HzOk out → (∀ hs ∈ L, ∀ h ∈ hs, 1 ≤ h ∧ h ≤ 7) → HzOk (mayG q L out)
  | [], out, H, _ => H
  | h :: L, out, H, hh => hzG (L := L) (out := mayI q out h) (hzI H (hh h (by simp))) (fun x hx => hh x (by simp [hx]))
theorem vO : ∀ (L K : List Int), L.Nodup → (∀ x ∈ L, x ∈ K) → L.length ≤ K.length
  | [], K, _, _ => Nat.zero_le _
  | x :: L, K, h, hk => by
    rw [List.nodup_cons] at h
    have hx := hk x (by simp)
    have := vO L (K.erase x) h.2 (fun y hy => (List.mem_erase_of_ne (fun e : y = x => h.1 (by rw [← e]; exact hy))).2 (hk y (by simp [hy])))
    rw [List.length_erase_of_mem hx] at this
    have := List.length_pos_of_mem hx
    simp
    omega
theorem HzOk.len {out : List Int} (H : HzOk out) : out.length ≤ 7 := vO out [1, 2, 3, 4, 5, 6, 7] H.1 fun x hx => by
  have := H.2 x hx
  simp
  omega
def mayP (N : List Nd) (V : List Dv) (m : List Int) (i : Nat) (d : Dv) (pos : Int) (pr : List Int) : List Int := srtI (mayG (m.getD i 0 == pos) ((allP m).map fun s => inP N V s i d pos pr) [])
theorem mayP_mem {N : List Nd} {V : List Dv} {m : List Int} {i : Nat} {d : Dv} {pos : Int} {pr : List Int} {h : Int} : h ∈ mayP N V m i d pos pr ↔ ∃ s ∈ allP m, h ∈ inP N V s i d pos pr ∧ (h ≠ 7 ∨ (m.getD i 0 == pos) = true) := by
  unfold mayP
  rw [wP, wL]
  constructor
  · rintro (h1 | ⟨hs, h1, h2⟩)
    · cases h1
    · obtain ⟨s, h3, rfl⟩ := List.mem_map.1 h1
      exact ⟨s, h3, h2⟩
  · rintro ⟨s, h1, h2⟩
    exact .inr ⟨_, List.mem_map.2 ⟨s, h1, rfl⟩, h2⟩
theorem loss_in {N : List Nd} {V : List Dv} {st : List Int} {i : Nat} {d : Dv} {pos : Int} {pr : List Int} : 3 ∈ inP N V st i d pos pr ↔ ¬ st.getD i 0 = pos ∧ jZ N V st (st.set i pos) ≠ [] := by
  unfold inP
  rw [iN]
  unfold inL
  by_cases h : st.getD i 0 = pos
  · rw [if_pos h]
    constructor
    · intro h2; simp at h2
    · intro h2; exact absurd h h2.1
  · rw [if_neg h]
    constructor
    · intro h2
      have h3 : decide (((jZ N V st (st.set i pos)).length : Int) > 0) = true := by
        simp only [List.mem_cons, Prod.mk.injEq, List.not_mem_nil, or_false] at h2
        rcases h2 with h2 | h2 | h2 | h2 | h2 | h2
        · omega
        · omega
        · omega
        · omega
        · exact h2.2.symm
        · omega
      refine ⟨h, fun e => ?_⟩
      rw [e] at h3
      exact absurd h3 (by decide)
    · intro h2
      have h3 : decide (((jZ N V st (st.set i pos)).length : Int) > 0) = true := decide_eq_true (by have := List.length_pos_iff.2 h2.2; omega)
      rw [h3]
      simp
end Go.Proofs.YtnafokinifbfhaaGreatDoor
