/- slices.Sort at up to 12 numbers, of the caller's own, by the abstract machine; conditions: none. -/
import Derived.Test.YtnafokinifbfhaaGreatDoorCoA
import Derived.Test.YtnafokinifbfhaaGreatDoorAbsIp
set_option linter.unusedVariables false
set_option linter.unusedSimpArgs false
namespace Go.Proofs.YtnafokinifbfhaaGreatDoor
open Go Go.RowKit
set_option maxRecDepth 10000
variable {G : Nat → Option (List Value)}
theorem nanI_A (n : Int) : zl Tryz.prog G 177 [.v (.int .i64 n)] [] (.v (.bool false)) [] := by
  refine zY tbOk (zM Tryz.func177 (by kernel_rfl) rfl) Tryz.func177 rfl _ Tryz.ntmps177 (Nat.le_of_ble_eq_true rfl) fun X hX => ?_
  subst hX
  repeat (first | ((with_reducible refine zI ?_); refine zJ rfl ?_) | ((with_reducible refine zE ?_); refine zF rfl ?_) | ((with_reducible refine zP ?_); refine zV rfl rfl rfl ?_)  | refine zK ?_ | refine zB rfl ?_ | with_reducible (first | refine zG ?_ | refine zH ?_ | refine zS ?_) | ((with_reducible refine zA ?_ ?_); kernel_rfl))
  refine yC (by first | exact .inr rfl | exact .inl rfl) rfl rfl ?_
  simp
theorem lessI_A (x y : Int) : zl Tryz.prog G 135 [.v (.int .i64 x), .v (.int .i64 y)] [] (.v (.bool (decide (x < y)))) [] := by
  refine zY tbOk (zM Tryz.func135 (by kernel_rfl) rfl) Tryz.func135 rfl _ Tryz.ntmps135 (Nat.le_of_ble_eq_true rfl) fun X hX => ?_
  subst hX
  repeat (first | ((with_reducible refine zI ?_); refine zJ rfl ?_) | ((with_reducible refine zE ?_); refine zF rfl ?_)  | refine zK ?_ | refine zB rfl ?_ | with_reducible (first | refine zG ?_ | refine zH ?_) | ((with_reducible refine zA ?_ ?_); kernel_rfl))
  refine zk (nanI_A x) (by repeat' (first | exact trivial | exact Ren.v _ | refine ⟨?_, ?_⟩)) (by repeat' exact RenB.v _) ?_
  repeat (first | ((with_reducible refine zI ?_); refine zJ rfl ?_) | ((with_reducible refine zE ?_); refine zF rfl ?_) | ((with_reducible refine zt ?_); refine yL rfl (by first | rfl | assumption) rfl ?_) | ((with_reducible refine zP ?_); refine zV rfl rfl rfl ?_)  | refine zK ?_ | refine zB rfl ?_ | refine yV rfl rfl (by first | rfl | assumption) ?_ | refine yr rfl rfl (by first | rfl | assumption) ?_ | with_reducible (first | refine zG ?_ | refine zS ?_) )
  refine yC (by first | exact .inr rfl | exact .inl rfl) rfl rfl ?_
  rfl
def swp (L : List Int) (j : Nat) : List Int := (L.set (j + 1) (L.getD j 0)).set j (L.getD (j + 1) 0)
theorem rQ (L : List Int) (j : Nat) : (swp L j).length = L.length := by simp [swp]
def sink : Nat → List Int → List Int
  | 0, L => L
  | j + 1, L => if L.getD (j + 1) 0 < L.getD j 0 then sink j (swp L j) else L
def kM : Nat → Nat → List Int → List Int
  | 0, _, L => L
  | m + 1, i, L => kM m (i + 1) (sink i L)
def srtI (L : List Int) : List Int := kM (L.length - 1) 1 L
theorem mL : ∀ (j : Nat) (L : List Int), (sink j L).length = L.length
  | 0, _ => rfl
  | j + 1, L => by
    rw [sink]
    split
    · rw [mL j, rQ]
    · rfl
theorem pO : ∀ (m i : Nat) (L : List Int), (kM m i L).length = L.length
  | 0, _, _ => rfl
  | m + 1, i, L => by rw [kM, pO m, mL]
theorem tV (L : List Int) : (srtI L).length = L.length := pO _ _ _
theorem swp_mem {L : List Int} {j : Nat} (h : j + 1 < L.length) (x : Int) : x ∈ swp L j ↔ x ∈ L := by
  obtain ⟨a, ha⟩ := zT (L := L) (k := j) (by omega)
  obtain ⟨b, hb⟩ := zT (L := L) (k := j + 1) h
  have ga : L.getD j 0 = a := by rw [List.getD_eq_getElem?_getD, ha]; rfl
  have gb : L.getD (j + 1) 0 = b := by rw [List.getD_eq_getElem?_getD, hb]; rfl
  unfold swp
  rw [ga, gb]
  have at_ : ∀ k : Nat, ((L.set (j + 1) a).set j b)[k]? = if k = j then some b else if k = j + 1 then some a else L[k]? := fun k => by
    by_cases e1 : k = j
    · subst e1; rw [if_pos rfl, List.getElem?_set_self (by simp; omega)]
    · rw [if_neg e1, List.getElem?_set_ne (Ne.symm e1)]
      by_cases e2 : k = j + 1
      · subst e2; rw [if_pos rfl, List.getElem?_set_self h]
      · rw [if_neg e2, List.getElem?_set_ne (Ne.symm e2)]
  constructor
  · intro hx
    obtain ⟨k, hk⟩ := List.getElem?_of_mem hx
    rw [at_] at hk
    split at hk
    · injection hk with hk; subst hk; exact List.mem_of_getElem? hb
    · split at hk
      · injection hk with hk; subst hk; exact List.mem_of_getElem? ha
      · exact List.mem_of_getElem? hk
  · intro hx
    obtain ⟨k, hk⟩ := List.getElem?_of_mem hx
    by_cases e1 : k = j
    · subst e1
      rw [ha] at hk
      injection hk with hk
      subst hk
      exact List.mem_of_getElem? (i := k + 1) (by rw [at_, if_neg (by omega), if_pos rfl])
    · by_cases e2 : k = j + 1
      · subst e2
        rw [hb] at hk
        injection hk with hk
        subst hk
        exact List.mem_of_getElem? (i := j) (by rw [at_, if_pos rfl])
      · exact List.mem_of_getElem? (i := k) (by rw [at_, if_neg e1, if_neg e2]; exact hk)
theorem tI : ∀ (j : Nat) (L : List Int), j < L.length → ∀ x, x ∈ sink j L ↔ x ∈ L
  | 0, _, _, _ => Iff.rfl
  | j + 1, L, h, x => by
    rw [sink]
    split
    · rw [tI j _ (by rw [rQ]; omega), swp_mem h]
    · exact Iff.rfl
theorem oS : ∀ (m i : Nat) (L : List Int), i + m ≤ L.length → ∀ x, x ∈ kM m i L ↔ x ∈ L
  | 0, _, _, _, _ => Iff.rfl
  | m + 1, i, L, h, x => by rw [kM, oS m (i + 1) _ (by rw [mL]; omega), tI i L (by omega)]
theorem uM (L : List Int) (x : Int) : x ∈ srtI L ↔ x ∈ L := by
  unfold srtI
  by_cases h : 1 ≤ L.length
  · exact oS _ _ _ (by omega) x
  · rw [show L.length - 1 = 0 by omega]; exact Iff.rfl
set_option maxHeartbeats 8000000 in
theorem inso_P (L : List Int) (hl : L.length ≤ 1000) : qq Tryz.prog G 129 [.own (refB + 0) 0, .v (.int .i64 0), .v (.int .i64 (L.length : Nat))] [.buf 3 1 (L.map iv)] (.tu []) [.buf 3 1 ((srtI L).map iv)] := by
  refine qZ tbOk (zM Tryz.func129 (by kernel_rfl) rfl) Tryz.func129 rfl _ Tryz.ntmps129 (Nat.le_of_ble_eq_true rfl) fun X hX => ?_
  subst hX
  repeat (first | ((with_reducible refine zI ?_); refine zJ rfl ?_) | ((with_reducible refine zE ?_); refine zF rfl ?_) | ((with_reducible refine zP ?_); refine zX rfl rfl (by omega) ?_)  | refine zK ?_ | refine zB rfl ?_ | with_reducible (first | refine zG ?_ | refine zH ?_ | refine zW ?_) | ((with_reducible refine zA ?_ ?_); kernel_rfl))
  refine ym (ι := Nat × List Int) (fun v i => v (refB + 0) = 0 ∧ 1 ≤ i.1 ∧ i.2.length = L.length ∧ kM (L.length - i.1) i.1 i.2 = srtI L) (fun i => L.length - i.1) (fun v i => [(0, .own (refB + 0) (v (refB + 0))), (1, .v (.int .i64 0)), (2, .v (.int .i64 (L.length : Nat))), (6, .v (.int .i64 (i.1 : Nat)))]) (fun v i => [(refB + 0, .buf 3 1 (i.2.map iv))]) ?_ ?_
  · exact ⟨(1, L), ⟨rfl, Nat.le_refl _, rfl, rfl⟩, trivial, ⟨rfl, rfl, rfl, rfl, trivial⟩, ⟨rfl, trivial⟩⟩
  rintro v ⟨i, E⟩ ⟨hv0, hi, hE, hf⟩
  dsimp only at hv0 hi hE hf ⊢
  repeat (first | ((with_reducible refine zI ?_); refine zJ rfl ?_) | ((with_reducible refine zP ?_); refine zV rfl rfl rfl ?_)  | refine zK ?_ | refine zB rfl ?_ | with_reducible (first | refine zG ?_ | refine zH ?_) | ((with_reducible refine zA ?_ ?_); kernel_rfl))
  refine zh rfl (fun h => ?_) (fun h => ?_)
  · have hlt : i < L.length := by simpa using h
    obtain ⟨m, hm1, hm2⟩ : ∃ m, L.length - i = m + 1 ∧ L.length - (i + 1) = m := ⟨L.length - i - 1, by omega, by omega⟩
    rw [hm1, kM] at hf
    repeat (first | ((with_reducible refine zI ?_); refine zJ rfl ?_) | ((with_reducible refine zE ?_); refine zF rfl ?_)  | refine zK ?_ | refine zB rfl ?_ | with_reducible (first | refine zG ?_ | refine zH ?_ | refine zW ?_ | refine zR ?_) | ((with_reducible refine zA ?_ ?_); kernel_rfl))
    refine ym (ι := Nat × List Int) (fun v j => v (refB + 0) = 0 ∧ j.1 ≤ i ∧ j.2.length = L.length ∧ sink j.1 j.2 = sink i E) (fun j => j.1) (fun v j => [(0, .own (refB + 0) (v (refB + 0))), (1, .v (.int .i64 0)), (2, .v (.int .i64 (L.length : Nat))), (6, .v (.int .i64 (i : Nat))), (7, .v (.int .i64 (j.1 : Nat)))]) (fun v j => [(refB + 0, .buf 3 1 (j.2.map iv))]) ?_ ?_
    · exact ⟨(i, E), ⟨hv0, Nat.le_refl _, hE, rfl⟩, trivial, ⟨rfl, rfl, rfl, rfl, rfl, trivial⟩, ⟨rfl, trivial⟩⟩
    clear v h hv0
    rintro v ⟨j, F⟩ ⟨hv0, hj, hF, hg⟩
    dsimp only at hv0 hj hF hg ⊢
    repeat (first | ((with_reducible refine zI ?_); refine zJ rfl ?_) | ((with_reducible refine zP ?_); refine zV rfl rfl rfl ?_)  | refine zB rfl ?_ | with_reducible refine zH ?_ | ((with_reducible refine jQ mixd ?_ ?_); kernel_rfl))
    rcases Nat.eq_zero_or_pos j with j0 | j0
    · subst j0
      have d0 : decide (((0 : Nat) : Int) > 0) = false := by decide
      have hg : F = sink i E := hg
      rw [← hg] at hf
      repeat (first | ((with_reducible refine zI ?_); refine zJ rfl ?_) | ((with_reducible refine zE ?_); refine zF rfl ?_) | ((with_reducible refine zt ?_); refine yL rfl (by first | rfl | assumption) rfl ?_) | ((with_reducible refine zP ?_); refine zX rfl rfl (by omega) ?_)  | refine zK ?_ | refine jR (by kernel_rfl) ?_ | refine zB rfl ?_ | refine yV rfl rfl (by first | rfl | assumption) ?_ | with_reducible (first | refine zG ?_ | refine zd ?_ | refine ze ?_ | refine zw ?_) | ((with_reducible refine zb ?_ ?_); rfl) | ((with_reducible refine zA ?_ ?_); kernel_rfl) | refine zm rfl (by first | rfl | assumption) ?_)
      exact ⟨(i + 1, F), ⟨hv0, by show 1 ≤ i + 1; omega, hF, by dsimp only; rw [hm2]; exact hf⟩, by show L.length - (i + 1) < L.length - i; omega, ⟨rfl, rfl, rfl, rfl, trivial⟩, ⟨rfl, trivial⟩⟩
    · obtain ⟨k, rfl⟩ : ∃ k, j = k + 1 := ⟨j - 1, by omega⟩
      have d0 : decide (((k + 1 : Nat) : Int) > 0) = true := decide_eq_true (by omega)
      have ek : ((k + 1 : Nat) : Int) - 1 = (k : Int) := by omega
      rw [sink] at hg
      repeat (first | ((with_reducible refine zI ?_); refine zJ rfl ?_)  | refine yJ rfl rfl (by first | rfl | assumption) ?_  )
      (with_reducible refine zU ?_); refine zq tbOk rfl rfl rfl rfl rfl rfl ⟨by omega, by rw [List.length_map]; omega⟩ ?_
      repeat (first   | refine yJ rfl rfl (by first | rfl | assumption) ?_  )
      (with_reducible refine zQ ?_); refine yy tbOk rfl rfl rfl rfl (dF (by omega)) (by rw [List.length_map]; omega) ?_
      repeat (first | ((with_reducible refine zI ?_); refine zJ rfl ?_) | ((with_reducible refine zP ?_); refine jd rfl rfl (by omega) ?_)  | refine yJ rfl rfl (by first | rfl | assumption) ?_  )
      rw [ek]
      (with_reducible refine zU ?_); refine zq tbOk rfl rfl rfl rfl rfl rfl ⟨by omega, by rw [List.length_map]; omega⟩ ?_
      repeat (first   | refine yJ rfl rfl (by first | rfl | assumption) ?_  )
      (with_reducible refine zQ ?_); refine yy tbOk rfl rfl rfl rfl (dF (by omega)) (by rw [List.length_map]; omega) ?_
      repeat (first   | refine yJ rfl rfl (by first | rfl | assumption) ?_  )
      rw [show ((k + 1 : Nat) : Int).toNat = k + 1 from rfl, show ((k : Nat) : Int).toNat = k from rfl]
      refine zk (lessI_A (F.getD (k + 1) 0) (F.getD k 0)) (by repeat' (first | exact trivial | exact Ren.v _ | refine ⟨?_, ?_⟩)) (by repeat' exact RenB.v _) ?_
      repeat (first | ((with_reducible refine zt ?_); refine yM rfl (by first | rfl | assumption) rfl ?_)  | refine jR (by kernel_rfl) ?_ | refine zB rfl ?_ | with_reducible refine zG ?_ )
      refine zh rfl (fun c => ?_) (fun c => ?_)
      · rw [if_pos (by simpa using c)] at hg
        repeat (first | ((with_reducible refine zI ?_); refine zJ rfl ?_) | ((with_reducible refine zP ?_); refine jd rfl rfl (by omega) ?_)  | refine zB rfl ?_ | with_reducible (first | refine zG ?_ | refine zH ?_ | refine zW ?_ | refine zR ?_) | ((with_reducible refine jQ mixd ?_ ?_); kernel_rfl))
        rw [ek]
        repeat (first | fail    )
        (with_reducible refine zU ?_); refine zq tbOk rfl rfl rfl rfl rfl rfl ⟨by omega, by rw [List.length_map]; omega⟩ ?_
        repeat (first   | refine zB rfl ?_  )
        (with_reducible refine zQ ?_); refine yy tbOk rfl rfl rfl rfl (dF (by omega)) (by rw [List.length_map]; omega) ?_
        repeat (first | ((with_reducible refine zI ?_); refine zJ rfl ?_)  | refine zB rfl ?_  )
        (with_reducible refine zU ?_); refine zq tbOk rfl rfl rfl rfl rfl rfl ⟨by omega, by rw [List.length_map]; omega⟩ ?_
        repeat (first   | refine zB rfl ?_  )
        (with_reducible refine zQ ?_); refine yy tbOk rfl rfl rfl rfl (dF (by omega)) (by rw [List.length_map]; omega) ?_
        repeat (first   | refine zB rfl ?_  )
        (with_reducible refine zU ?_); refine zq tbOk rfl rfl rfl rfl rfl rfl ⟨by omega, by rw [List.length_map]; omega⟩ ?_
        repeat (first   | refine zB rfl ?_  )
        (with_reducible refine zz ?_); refine jG (L' := (F.set ((k + 1 : Nat) : Int).toNat (F.getD ((k : Nat) : Int).toNat 0)).map iv) tbOk rfl rfl rfl rfl rfl rfl rfl rfl rfl (by rw [jP, List.length_map]; omega) (by simp) (je _) (aD _ _ _) ?_
        repeat (first   | refine zB rfl ?_  )
        (with_reducible refine zU ?_); refine zq tbOk rfl rfl rfl rfl rfl rfl ⟨by omega, by rw [List.length_map]; (simp; omega)⟩ ?_
        repeat (first   | refine zB rfl ?_  )
        (with_reducible refine zz ?_); refine jG (L' := ((F.set ((k + 1 : Nat) : Int).toNat (F.getD ((k : Nat) : Int).toNat 0)).set ((k : Nat) : Int).toNat (F.getD ((k + 1 : Nat) : Int).toNat 0)).map iv) tbOk rfl rfl rfl rfl rfl rfl rfl rfl rfl (by rw [jP, List.length_map]; (simp; omega)) (by simp) (je _) (aD _ _ _) ?_
        repeat (first | ((with_reducible refine zI ?_); refine zJ rfl ?_) | ((with_reducible refine zE ?_); refine zF rfl ?_) | ((with_reducible refine zP ?_); refine jd rfl rfl (by omega) ?_)  | refine zK ?_ | refine jR (by kernel_rfl) ?_ | refine zB rfl ?_ | with_reducible (first | refine zG ?_ | refine ze ?_) | ((with_reducible refine zA ?_ ?_); kernel_rfl))
        exact ⟨(k, swp F k), ⟨hv0, by show k ≤ i; omega, by rw [rQ]; exact hF, hg⟩, by show k < k + 1; omega, ⟨rfl, rfl, rfl, rfl, congrArg (fun z => AV.v (.int .i64 z)) ek, trivial⟩, ⟨rfl, trivial⟩⟩
      · rw [if_neg (by simpa using c)] at hg
        rw [← hg] at hf
        repeat (first | ((with_reducible refine zI ?_); refine zJ rfl ?_) | ((with_reducible refine zE ?_); refine zF rfl ?_) | ((with_reducible refine zP ?_); refine zX rfl rfl (by omega) ?_)  | refine zK ?_ | refine zB rfl ?_ | with_reducible (first | refine zG ?_ | refine zd ?_ | refine ze ?_ | refine zw ?_) | ((with_reducible refine zb ?_ ?_); rfl) | ((with_reducible refine zA ?_ ?_); kernel_rfl))
        exact ⟨(i + 1, F), ⟨hv0, by show 1 ≤ i + 1; omega, hF, by dsimp only; rw [hm2]; exact hf⟩, by show L.length - (i + 1) < L.length - i; omega, ⟨rfl, rfl, rfl, rfl, trivial⟩, ⟨rfl, trivial⟩⟩
  · have hge : ¬ i < L.length := by simpa using h
    rw [show L.length - i = 0 by omega] at hf
    have hf : E = srtI L := hf
    rw [← hf]
    repeat (first    | with_reducible (first | refine zd ?_ | refine zw ?_) | ((with_reducible refine zb ?_ ?_); rfl) )
    exact pJ (by first | exact .inr rfl | exact .inl rfl) (xs := []) trivial (by repeat' (first | exact trivial | refine yR ?_)) rfl hv0
def len8 (n : Nat) : Int := if n = 0 then 0 else if n < 2 then 1 else if n < 4 then 2 else if n < 8 then 3 else 4
set_option maxHeartbeats 8000000 in
theorem blen64_A (n : Nat) (h : n ≤ 12) : zl Tryz.prog G 139 [.v (.int .u64 (n : Nat))] [] (.v (.int .i64 (len8 n))) [] := by
  have key : n = 0 ∨ n = 1 ∨ n = 2 ∨ n = 3 ∨ n = 4 ∨ n = 5 ∨ n = 6 ∨ n = 7 ∨ n = 8 ∨ n = 9 ∨ n = 10 ∨ n = 11 ∨ n = 12 := by omega
  refine zY tbOk (zM Tryz.func139 (by kernel_rfl) rfl) Tryz.func139 rfl _ Tryz.ntmps139 (Nat.le_of_ble_eq_true rfl) fun X hX => ?_
  subst hX
  rcases key with rfl | rfl | rfl | rfl | rfl | rfl | rfl | rfl | rfl | rfl | rfl | rfl | rfl
  · repeat (first | ((with_reducible refine zI ?_); refine zJ rfl ?_) | ((with_reducible refine zE ?_); refine zF rfl ?_) | ((with_reducible refine yI ?_); refine yP tbOk rfl rfl rfl (by first | assumption | exact zy (by omega) | exact zr (by omega) | exact yH (by omega)) ?_) | ((with_reducible refine zP ?_); refine zV rfl rfl rfl ?_)  | refine zK ?_ | refine zB rfl ?_ | with_reducible (first | refine zG ?_ | refine zH ?_ | refine zR ?_) | ((with_reducible refine zA ?_ ?_); kernel_rfl) | refine zm rfl (by first | rfl | assumption) ?_)
    refine jo (r := .int .u8 0) rfl rfl (fun w => by kernel_rfl) ?_
    repeat (first | ((with_reducible refine zE ?_); refine zF rfl ?_) | ((with_reducible refine yI ?_); refine yP tbOk rfl rfl rfl (by first | assumption | exact zy (by omega) | exact zr (by omega) | exact yH (by omega)) ?_) | ((with_reducible refine zP ?_); refine zX rfl rfl (by omega) ?_)  | refine zK ?_ | refine zB rfl ?_ | with_reducible (first | refine zG ?_ | refine zS ?_) )
    refine yC (by first | exact .inr rfl | exact .inl rfl) rfl rfl ?_
    rfl
  · repeat (first | ((with_reducible refine zI ?_); refine zJ rfl ?_) | ((with_reducible refine zE ?_); refine zF rfl ?_) | ((with_reducible refine yI ?_); refine yP tbOk rfl rfl rfl (by first | assumption | exact zy (by omega) | exact zr (by omega) | exact yH (by omega)) ?_) | ((with_reducible refine zP ?_); refine zV rfl rfl rfl ?_)  | refine zK ?_ | refine zB rfl ?_ | with_reducible (first | refine zG ?_ | refine zH ?_ | refine zR ?_) | ((with_reducible refine zA ?_ ?_); kernel_rfl) | refine zm rfl (by first | rfl | assumption) ?_)
    refine jo (r := .int .u8 1) rfl rfl (fun w => by kernel_rfl) ?_
    repeat (first | ((with_reducible refine zE ?_); refine zF rfl ?_) | ((with_reducible refine yI ?_); refine yP tbOk rfl rfl rfl (by first | assumption | exact zy (by omega) | exact zr (by omega) | exact yH (by omega)) ?_) | ((with_reducible refine zP ?_); refine zX rfl rfl (by omega) ?_)  | refine zK ?_ | refine zB rfl ?_ | with_reducible (first | refine zG ?_ | refine zS ?_) )
    refine yC (by first | exact .inr rfl | exact .inl rfl) rfl rfl ?_
    rfl
  · repeat (first | ((with_reducible refine zI ?_); refine zJ rfl ?_) | ((with_reducible refine zE ?_); refine zF rfl ?_) | ((with_reducible refine yI ?_); refine yP tbOk rfl rfl rfl (by first | assumption | exact zy (by omega) | exact zr (by omega) | exact yH (by omega)) ?_) | ((with_reducible refine zP ?_); refine zV rfl rfl rfl ?_)  | refine zK ?_ | refine zB rfl ?_ | with_reducible (first | refine zG ?_ | refine zH ?_ | refine zR ?_) | ((with_reducible refine zA ?_ ?_); kernel_rfl) | refine zm rfl (by first | rfl | assumption) ?_)
    refine jo (r := .int .u8 2) rfl rfl (fun w => by kernel_rfl) ?_
    repeat (first | ((with_reducible refine zE ?_); refine zF rfl ?_) | ((with_reducible refine yI ?_); refine yP tbOk rfl rfl rfl (by first | assumption | exact zy (by omega) | exact zr (by omega) | exact yH (by omega)) ?_) | ((with_reducible refine zP ?_); refine zX rfl rfl (by omega) ?_)  | refine zK ?_ | refine zB rfl ?_ | with_reducible (first | refine zG ?_ | refine zS ?_) )
    refine yC (by first | exact .inr rfl | exact .inl rfl) rfl rfl ?_
    rfl
  · repeat (first | ((with_reducible refine zI ?_); refine zJ rfl ?_) | ((with_reducible refine zE ?_); refine zF rfl ?_) | ((with_reducible refine yI ?_); refine yP tbOk rfl rfl rfl (by first | assumption | exact zy (by omega) | exact zr (by omega) | exact yH (by omega)) ?_) | ((with_reducible refine zP ?_); refine zV rfl rfl rfl ?_)  | refine zK ?_ | refine zB rfl ?_ | with_reducible (first | refine zG ?_ | refine zH ?_ | refine zR ?_) | ((with_reducible refine zA ?_ ?_); kernel_rfl) | refine zm rfl (by first | rfl | assumption) ?_)
    refine jo (r := .int .u8 2) rfl rfl (fun w => by kernel_rfl) ?_
    repeat (first | ((with_reducible refine zE ?_); refine zF rfl ?_) | ((with_reducible refine yI ?_); refine yP tbOk rfl rfl rfl (by first | assumption | exact zy (by omega) | exact zr (by omega) | exact yH (by omega)) ?_) | ((with_reducible refine zP ?_); refine zX rfl rfl (by omega) ?_)  | refine zK ?_ | refine zB rfl ?_ | with_reducible (first | refine zG ?_ | refine zS ?_) )
    refine yC (by first | exact .inr rfl | exact .inl rfl) rfl rfl ?_
    rfl
  · repeat (first | ((with_reducible refine zI ?_); refine zJ rfl ?_) | ((with_reducible refine zE ?_); refine zF rfl ?_) | ((with_reducible refine yI ?_); refine yP tbOk rfl rfl rfl (by first | assumption | exact zy (by omega) | exact zr (by omega) | exact yH (by omega)) ?_) | ((with_reducible refine zP ?_); refine zV rfl rfl rfl ?_)  | refine zK ?_ | refine zB rfl ?_ | with_reducible (first | refine zG ?_ | refine zH ?_ | refine zR ?_) | ((with_reducible refine zA ?_ ?_); kernel_rfl) | refine zm rfl (by first | rfl | assumption) ?_)
    refine jo (r := .int .u8 3) rfl rfl (fun w => by kernel_rfl) ?_
    repeat (first | ((with_reducible refine zE ?_); refine zF rfl ?_) | ((with_reducible refine yI ?_); refine yP tbOk rfl rfl rfl (by first | assumption | exact zy (by omega) | exact zr (by omega) | exact yH (by omega)) ?_) | ((with_reducible refine zP ?_); refine zX rfl rfl (by omega) ?_)  | refine zK ?_ | refine zB rfl ?_ | with_reducible (first | refine zG ?_ | refine zS ?_) )
    refine yC (by first | exact .inr rfl | exact .inl rfl) rfl rfl ?_
    rfl
  · repeat (first | ((with_reducible refine zI ?_); refine zJ rfl ?_) | ((with_reducible refine zE ?_); refine zF rfl ?_) | ((with_reducible refine yI ?_); refine yP tbOk rfl rfl rfl (by first | assumption | exact zy (by omega) | exact zr (by omega) | exact yH (by omega)) ?_) | ((with_reducible refine zP ?_); refine zV rfl rfl rfl ?_)  | refine zK ?_ | refine zB rfl ?_ | with_reducible (first | refine zG ?_ | refine zH ?_ | refine zR ?_) | ((with_reducible refine zA ?_ ?_); kernel_rfl) | refine zm rfl (by first | rfl | assumption) ?_)
    refine jo (r := .int .u8 3) rfl rfl (fun w => by kernel_rfl) ?_
    repeat (first | ((with_reducible refine zE ?_); refine zF rfl ?_) | ((with_reducible refine yI ?_); refine yP tbOk rfl rfl rfl (by first | assumption | exact zy (by omega) | exact zr (by omega) | exact yH (by omega)) ?_) | ((with_reducible refine zP ?_); refine zX rfl rfl (by omega) ?_)  | refine zK ?_ | refine zB rfl ?_ | with_reducible (first | refine zG ?_ | refine zS ?_) )
    refine yC (by first | exact .inr rfl | exact .inl rfl) rfl rfl ?_
    rfl
  · repeat (first | ((with_reducible refine zI ?_); refine zJ rfl ?_) | ((with_reducible refine zE ?_); refine zF rfl ?_) | ((with_reducible refine yI ?_); refine yP tbOk rfl rfl rfl (by first | assumption | exact zy (by omega) | exact zr (by omega) | exact yH (by omega)) ?_) | ((with_reducible refine zP ?_); refine zV rfl rfl rfl ?_)  | refine zK ?_ | refine zB rfl ?_ | with_reducible (first | refine zG ?_ | refine zH ?_ | refine zR ?_) | ((with_reducible refine zA ?_ ?_); kernel_rfl) | refine zm rfl (by first | rfl | assumption) ?_)
    refine jo (r := .int .u8 3) rfl rfl (fun w => by kernel_rfl) ?_
    repeat (first | ((with_reducible refine zE ?_); refine zF rfl ?_) | ((with_reducible refine yI ?_); refine yP tbOk rfl rfl rfl (by first | assumption | exact zy (by omega) | exact zr (by omega) | exact yH (by omega)) ?_) | ((with_reducible refine zP ?_); refine zX rfl rfl (by omega) ?_)  | refine zK ?_ | refine zB rfl ?_ | with_reducible (first | refine zG ?_ | refine zS ?_) )
    refine yC (by first | exact .inr rfl | exact .inl rfl) rfl rfl ?_
    rfl
  · repeat (first | ((with_reducible refine zI ?_); refine zJ rfl ?_) | ((with_reducible refine zE ?_); refine zF rfl ?_) | ((with_reducible refine yI ?_); refine yP tbOk rfl rfl rfl (by first | assumption | exact zy (by omega) | exact zr (by omega) | exact yH (by omega)) ?_) | ((with_reducible refine zP ?_); refine zV rfl rfl rfl ?_)  | refine zK ?_ | refine zB rfl ?_ | with_reducible (first | refine zG ?_ | refine zH ?_ | refine zR ?_) | ((with_reducible refine zA ?_ ?_); kernel_rfl) | refine zm rfl (by first | rfl | assumption) ?_)
    refine jo (r := .int .u8 3) rfl rfl (fun w => by kernel_rfl) ?_
    repeat (first | ((with_reducible refine zE ?_); refine zF rfl ?_) | ((with_reducible refine yI ?_); refine yP tbOk rfl rfl rfl (by first | assumption | exact zy (by omega) | exact zr (by omega) | exact yH (by omega)) ?_) | ((with_reducible refine zP ?_); refine zX rfl rfl (by omega) ?_)  | refine zK ?_ | refine zB rfl ?_ | with_reducible (first | refine zG ?_ | refine zS ?_) )
    refine yC (by first | exact .inr rfl | exact .inl rfl) rfl rfl ?_
    rfl
  · repeat (first | ((with_reducible refine zI ?_); refine zJ rfl ?_) | ((with_reducible refine zE ?_); refine zF rfl ?_) | ((with_reducible refine yI ?_); refine yP tbOk rfl rfl rfl (by first | assumption | exact zy (by omega) | exact zr (by omega) | exact yH (by omega)) ?_) | ((with_reducible refine zP ?_); refine zV rfl rfl rfl ?_)  | refine zK ?_ | refine zB rfl ?_ | with_reducible (first | refine zG ?_ | refine zH ?_ | refine zR ?_) | ((with_reducible refine zA ?_ ?_); kernel_rfl) | refine zm rfl (by first | rfl | assumption) ?_)
    refine jo (r := .int .u8 4) rfl rfl (fun w => by kernel_rfl) ?_
    repeat (first | ((with_reducible refine zE ?_); refine zF rfl ?_) | ((with_reducible refine yI ?_); refine yP tbOk rfl rfl rfl (by first | assumption | exact zy (by omega) | exact zr (by omega) | exact yH (by omega)) ?_) | ((with_reducible refine zP ?_); refine zX rfl rfl (by omega) ?_)  | refine zK ?_ | refine zB rfl ?_ | with_reducible (first | refine zG ?_ | refine zS ?_) )
    refine yC (by first | exact .inr rfl | exact .inl rfl) rfl rfl ?_
    rfl
  · repeat (first | ((with_reducible refine zI ?_); refine zJ rfl ?_) | ((with_reducible refine zE ?_); refine zF rfl ?_) | ((with_reducible refine yI ?_); refine yP tbOk rfl rfl rfl (by first | assumption | exact zy (by omega) | exact zr (by omega) | exact yH (by omega)) ?_) | ((with_reducible refine zP ?_); refine zV rfl rfl rfl ?_)  | refine zK ?_ | refine zB rfl ?_ | with_reducible (first | refine zG ?_ | refine zH ?_ | refine zR ?_) | ((with_reducible refine zA ?_ ?_); kernel_rfl) | refine zm rfl (by first | rfl | assumption) ?_)
    refine jo (r := .int .u8 4) rfl rfl (fun w => by kernel_rfl) ?_
    repeat (first | ((with_reducible refine zE ?_); refine zF rfl ?_) | ((with_reducible refine yI ?_); refine yP tbOk rfl rfl rfl (by first | assumption | exact zy (by omega) | exact zr (by omega) | exact yH (by omega)) ?_) | ((with_reducible refine zP ?_); refine zX rfl rfl (by omega) ?_)  | refine zK ?_ | refine zB rfl ?_ | with_reducible (first | refine zG ?_ | refine zS ?_) )
    refine yC (by first | exact .inr rfl | exact .inl rfl) rfl rfl ?_
    rfl
  · repeat (first | ((with_reducible refine zI ?_); refine zJ rfl ?_) | ((with_reducible refine zE ?_); refine zF rfl ?_) | ((with_reducible refine yI ?_); refine yP tbOk rfl rfl rfl (by first | assumption | exact zy (by omega) | exact zr (by omega) | exact yH (by omega)) ?_) | ((with_reducible refine zP ?_); refine zV rfl rfl rfl ?_)  | refine zK ?_ | refine zB rfl ?_ | with_reducible (first | refine zG ?_ | refine zH ?_ | refine zR ?_) | ((with_reducible refine zA ?_ ?_); kernel_rfl) | refine zm rfl (by first | rfl | assumption) ?_)
    refine jo (r := .int .u8 4) rfl rfl (fun w => by kernel_rfl) ?_
    repeat (first | ((with_reducible refine zE ?_); refine zF rfl ?_) | ((with_reducible refine yI ?_); refine yP tbOk rfl rfl rfl (by first | assumption | exact zy (by omega) | exact zr (by omega) | exact yH (by omega)) ?_) | ((with_reducible refine zP ?_); refine zX rfl rfl (by omega) ?_)  | refine zK ?_ | refine zB rfl ?_ | with_reducible (first | refine zG ?_ | refine zS ?_) )
    refine yC (by first | exact .inr rfl | exact .inl rfl) rfl rfl ?_
    rfl
  · repeat (first | ((with_reducible refine zI ?_); refine zJ rfl ?_) | ((with_reducible refine zE ?_); refine zF rfl ?_) | ((with_reducible refine yI ?_); refine yP tbOk rfl rfl rfl (by first | assumption | exact zy (by omega) | exact zr (by omega) | exact yH (by omega)) ?_) | ((with_reducible refine zP ?_); refine zV rfl rfl rfl ?_)  | refine zK ?_ | refine zB rfl ?_ | with_reducible (first | refine zG ?_ | refine zH ?_ | refine zR ?_) | ((with_reducible refine zA ?_ ?_); kernel_rfl) | refine zm rfl (by first | rfl | assumption) ?_)
    refine jo (r := .int .u8 4) rfl rfl (fun w => by kernel_rfl) ?_
    repeat (first | ((with_reducible refine zE ?_); refine zF rfl ?_) | ((with_reducible refine yI ?_); refine yP tbOk rfl rfl rfl (by first | assumption | exact zy (by omega) | exact zr (by omega) | exact yH (by omega)) ?_) | ((with_reducible refine zP ?_); refine zX rfl rfl (by omega) ?_)  | refine zK ?_ | refine zB rfl ?_ | with_reducible (first | refine zG ?_ | refine zS ?_) )
    refine yC (by first | exact .inr rfl | exact .inl rfl) rfl rfl ?_
    rfl
  · repeat (first | ((with_reducible refine zI ?_); refine zJ rfl ?_) | ((with_reducible refine zE ?_); refine zF rfl ?_) | ((with_reducible refine yI ?_); refine yP tbOk rfl rfl rfl (by first | assumption | exact zy (by omega) | exact zr (by omega) | exact yH (by omega)) ?_) | ((with_reducible refine zP ?_); refine zV rfl rfl rfl ?_)  | refine zK ?_ | refine zB rfl ?_ | with_reducible (first | refine zG ?_ | refine zH ?_ | refine zR ?_) | ((with_reducible refine zA ?_ ?_); kernel_rfl) | refine zm rfl (by first | rfl | assumption) ?_)
    refine jo (r := .int .u8 4) rfl rfl (fun w => by kernel_rfl) ?_
    repeat (first | ((with_reducible refine zE ?_); refine zF rfl ?_) | ((with_reducible refine yI ?_); refine yP tbOk rfl rfl rfl (by first | assumption | exact zy (by omega) | exact zr (by omega) | exact yH (by omega)) ?_) | ((with_reducible refine zP ?_); refine zX rfl rfl (by omega) ?_)  | refine zK ?_ | refine zB rfl ?_ | with_reducible (first | refine zG ?_ | refine zS ?_) )
    refine yC (by first | exact .inr rfl | exact .inl rfl) rfl rfl ?_
    rfl
end Go.Proofs.YtnafokinifbfhaaGreatDoor
