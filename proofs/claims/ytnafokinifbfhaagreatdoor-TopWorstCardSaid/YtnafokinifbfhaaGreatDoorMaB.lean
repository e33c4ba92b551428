/- Own rows in a box that was handed over: nil becomes own, own becomes frozen, own moves to another site; conditions: none / mask.All, by the abstract machine: a row of rows of its own; conditions: valid masks, at most eight unknown. -/
import Derived.Test.YtnafokinifbfhaaGreatDoorAbsJ
import Derived.Test.YtnafokinifbfhaaGreatDoorMaA
import Derived.Test.YtnafokinifbfhaaGreatDoorAbsW
set_option linter.unusedVariables false
set_option linter.unusedSimpArgs false
namespace Go.Proofs.YtnafokinifbfhaaGreatDoor
open Go Go.RowKit
section
variable {P : Program} {X : Ctx} {n : Nat} {σ : AS} {Q : Exit → AS → Prop} {c : Code}
theorem nO {s b k kb e sz : Nat} {L cs : List AV} (cs' : List AV) (hH : σ.H s = ⟨k, .buf e sz L⟩) (hb : (σ.hup s ⟨k, .dead⟩).H b = ⟨kb, .box cs⟩) (hB : RwL (.own s k) (.sl sz L) cs cs')
    (h : AWp P X n c Q ((σ.hup s ⟨k, .dead⟩).hup b ⟨kb, .box cs'⟩)) : AWp P X n c Q σ := by
  refine bC [] [(b, cs')] hH trivial ⟨⟨kb, cs, hb, hB⟩, trivial⟩ ?_
  show AWp P X n c Q ((σ.hup s ⟨k, .dead⟩).hup b ⟨((σ.hup s ⟨k, .dead⟩).H b).k, .box cs'⟩)
  rw [hb]
  exact h
end
end Go.Proofs.YtnafokinifbfhaaGreatDoor
namespace Go.Proofs.YtnafokinifbfhaaGreatDoor
open Go Go.RowKit
set_option maxRecDepth 10000
variable {G : Nat → Option (List Value)}
theorem mX : ∀ (L : List Int) (i : Nat), ∀ d ∈ jb i L, (i : Int) ≤ d ∧ d < ((i + L.length : Nat) : Int)
  | [], _, d, h => by cases h
  | m :: L, i, d, h => by
    rw [jb] at h
    have ih := mX L (i + 1)
    split at h
    · rcases List.mem_cons.1 h with rfl | h
      · simp; omega
      · have := ih d h; simp at this ⊢; omega
    · have := ih d h; simp at this ⊢; omega
theorem kX {L : List Int} : ∀ d ∈ unkP L, 0 ≤ d ∧ d < L.length := fun d h => by
  have := mX L 0 d h; simp at this; omega
def setU (u j : Nat) : Nat → List Int → List Int → List Int
  | _, [], s => s
  | i, d :: D, s => setU u j (i + 1) D (s.set d.toNat (1 + ((j / 2 ^ (u - 1 - i) % 2 : Nat) : Int)))
theorem tH (u j : Nat) : ∀ (D : List Int) (i : Nat) (s : List Int), (setU u j i D s).length = s.length
  | [], _, _ => rfl
  | d :: D, i, s => by rw [setU, tH u j D]; simp
def qm (L : List Int) (j : Nat) : List Int := setU (unkP L).length j 0 (unkP L) L
theorem mM (L : List Int) (j : Nat) : (qm L j).length = L.length := tH _ _ _ _ _
def allP (L : List Int) : List (List Int) := (List.range (2 ^ (unkP L).length)).map (qm L)
def slI (s : List Int) : AV := .sl 1 (s.map iv)
theorem and1 : ∀ x : Fin 256, bits .and .i64 (x.val : Int) 1 = ((x.val % 2 : Nat) : Int) := by decide
theorem bit_at {j s : Nat} (h : j < 256) : bits .and .i64 ((j : Int) / 2 ^ s) 1 = ((j / 2 ^ s % 2 : Nat) : Int) := by
  have hd : j / 2 ^ s < 256 := Nat.lt_of_le_of_lt (Nat.div_le_self _ _) h
  have e : (j : Int) / 2 ^ s = ((j / 2 ^ s : Nat) : Int) := by simp
  rw [e]
  exact and1 ⟨j / 2 ^ s, hd⟩
def rowJ (D : List AV) (x : AV) (m : Nat) : List AV := D ++ x :: List.replicate m (.v (.slice none 0 0))
theorem qi {D : List AV} (hD : ∀ y ∈ D, ∃ s, y = slI s) : ∀ y ∈ D, y.cells = [y] := fun y hy => by
  obtain ⟨s, rfl⟩ := hD y hy; rfl
theorem eU : ∀ {D : List AV}, (∀ y ∈ D, y.cells = [y]) → D.flatMap AV.cells = D
  | [], _ => rfl
  | y :: D, h => by rw [List.flatMap_cons, h y (by simp), eU (fun z hz => h z (by simp [hz]))]; rfl
theorem gH {D : List AV} {x : AV} {m : Nat} (hD : ∀ y ∈ D, ∃ s, y = slI s) (hx : x.cells = [x]) : ∀ y ∈ rowJ D x m, y.cells = [y] := fun y hy => by
  unfold rowJ at hy
  rcases List.mem_append.1 hy with hy | hy
  · exact qi hD y hy
  · rcases List.mem_cons.1 hy with rfl | hy
    · exact hx
    · rw [(List.mem_replicate.1 hy).2]; rfl
theorem rowJ_at {D J : List AV} {x : AV} {m : Nat} (hD : ∀ y ∈ D, ∃ s, y = slI s) (hx : x.cells = [x]) : (bsC (rowJ D x m) J)[D.length]? = some x := by
  unfold bsC
  rw [eU (gH hD hx)]
  unfold rowJ
  rw [List.append_assoc, List.getElem?_append_right (Nat.le_refl _), Nat.sub_self]
  rfl
theorem xR {x0 y0 : AV} : ∀ (A : List AV) {B : List AV}, RwL x0 y0 (A ++ x0 :: B) (A ++ y0 :: B)
  | [], B => .hit (RwL.refl B)
  | a :: A, B => .same (xR A)
theorem rowJ_rw {D J : List AV} {x y : AV} {m : Nat} (hD : ∀ y ∈ D, ∃ s, y = slI s) (hx : x.cells = [x]) (hy : y.cells = [y]) : RwL x y (bsC (rowJ D x m) J) (bsC (rowJ D y m) J) := by
  unfold bsC
  rw [eU (gH hD hx), eU (gH hD hy)]
  unfold rowJ
  rw [List.append_assoc, List.append_assoc]
  exact xR D
theorem rowJ_set {D : List AV} {x y : AV} {m : Nat} : (rowJ D x m).set D.length y = rowJ D y m := by
  unfold rowJ
  rw [List.set_append, if_neg (by omega), Nat.sub_self]
  rfl
set_option maxHeartbeats 8000000 in
theorem mall_A (L : List Int) (hP : GPos G) (h : ∀ m ∈ L, isB m = true) (hm : L.length ≤ 64) (hu : (unkP L).length ≤ 8) : zl Tryz.prog G 40 [.sl 1 (L.map iv)] [] (.tu [.sl 1 ((allP L).map slI), .v (.int .i64 0)]) [] := by
  have hul : ((unkP L).map iv).length = (unkP L).length := by simp
  have hp : (2 : Nat) ^ (unkP L).length ≤ 256 := Nat.pow_le_pow_right (by decide) hu
  have hp0 : 0 < (2 : Nat) ^ (unkP L).length := Nat.pow_pos (by decide)
  have hct := mcount_A (G := G) L hP h (by omega) hu
  have hun := munk_A (G := G) L (by omega)
  have hin := kX (L := L)
  have eA : allP L = (List.range (2 ^ (unkP L).length)).map (qm L) := rfl
  have eJ : ∀ j, qm L j = setU (unkP L).length j 0 (unkP L) L := fun _ => rfl
  generalize (2 : Nat) ^ (unkP L).length = ct at hp hp0 hct eA
  generalize unkP L = un at hul hu hct hun hin eJ
  refine wS tbOk (zM Tryz.func40 (by kernel_rfl) rfl) Tryz.func40 rfl _ Tryz.ntmps40 (Nat.le_of_ble_eq_true rfl) fun X hX hgs => ?_
  subst hX
  repeat (first | ((with_reducible refine zI ?_); refine zJ rfl ?_) | ((with_reducible refine zE ?_); refine zF rfl ?_)  | refine zK ?_ | refine zB rfl ?_ | with_reducible (first | refine zG ?_ | refine zH ?_) | ((with_reducible refine zA ?_ ?_); kernel_rfl))
  refine zk (hct) (by repeat' (first | exact trivial | exact Ren.sl _ _ | refine ⟨?_, ?_⟩)) (by repeat' (first | exact trivial | exact RenB.v _ | refine yQ ?_ | refine ⟨?_, ?_⟩)) ?_
  repeat (first | ((with_reducible refine zI ?_); refine zJ rfl ?_) | ((with_reducible refine zE ?_); refine zF rfl ?_) | ((with_reducible refine yZ ?_); refine yX rfl rfl ?_) | ((with_reducible refine zP ?_); refine zV rfl rfl rfl ?_)  | refine zK ?_ | refine zB rfl ?_ | with_reducible (first | refine zG ?_ | refine zH ?_ | refine zR ?_) | ((with_reducible refine zA ?_ ?_); kernel_rfl) | refine zm rfl (by first | rfl | assumption) ?_)
  refine zk (hun) (by repeat' (first | exact trivial | exact Ren.sl _ _ | refine ⟨?_, ?_⟩)) (by repeat' exact RenB.sl _ _) ?_
  repeat (first | ((with_reducible refine zI ?_); refine zJ rfl ?_) | ((with_reducible refine zE ?_); refine zF rfl ?_)  | refine zK ?_ | refine zB rfl ?_ | with_reducible (first | refine zG ?_ | refine zH ?_) | ((with_reducible refine zA ?_ ?_); kernel_rfl))
  with_reducible refine aY ?_
  refine cN (zc := .v (.slice none 0 0)) tbOk rfl rfl rfl rfl rfl (by decide) rfl (by intro z hz; simp at hz; subst hz; rfl) rfl rfl (by omega) (by omega) rfl ?_
  repeat (first | ((with_reducible refine zI ?_); refine zJ rfl ?_) | ((with_reducible refine zE ?_); refine zF rfl ?_)  | refine zK ?_ | refine zB rfl ?_ | with_reducible (first | refine zG ?_ | refine zH ?_ | refine zW ?_) | ((with_reducible refine zA ?_ ?_); kernel_rfl))
  refine uV (s := 22) (k := 1) (L := List.replicate ct (.v (.slice none 0 0))) [(7, .bs 22 2 1 (List.replicate ct (AV.v (.slice none 0 0))).length)] rfl (by simp; omega) (fun J => ⟨.inl (.inr ⟨rfl, rfl⟩), trivial⟩) (fun J hJ => ?_)
  rw [List.length_replicate]
  refine ya (ι := Nat) (fun j => j ≤ ct) (fun j => ct - j) (fun v j => [(0, .sl 1 (L.map iv)), (6, .sl 1 (un.map iv)), (7, .bs 22 (v 22) 1 ct), (23, .v (.int .i64 (ct : Nat))), (24, .v (.int .i64 (j : Nat)))]) (fun v j => [(22, .box (bsC ((List.range j).map (fun i => slI (qm L i)) ++ List.replicate (ct - j) (.v (.slice none 0 0))) J))]) ?_ ?_
  · exact ⟨0, Nat.zero_le _, trivial, ⟨rfl, rfl, rfl, rfl, rfl, trivial⟩, ⟨rfl, trivial⟩⟩
  rintro v j hj
  repeat (first | ((with_reducible refine zP ?_); refine zV rfl rfl rfl ?_)  | refine zK ?_ | refine zB rfl ?_ | with_reducible (first | refine zG ?_ | refine zH ?_) | ((with_reducible refine zA ?_ ?_); kernel_rfl))
  refine zh rfl (fun h => ?_) (fun h => ?_)
  · have hlt : j < ct := by simpa using h
    obtain ⟨m, hm1, hm2⟩ : ∃ m, ct - j = m + 1 ∧ ct - (j + 1) = m := ⟨ct - j - 1, by omega, by omega⟩
    obtain ⟨D, hD⟩ : ∃ D, D = (List.range j).map (fun i => slI (qm L i)) := ⟨_, rfl⟩
    have hDl : D.length = j := by rw [hD]; simp
    have hDs : ∀ y ∈ D, ∃ s, y = slI s := fun y hy => by
      rw [hD] at hy
      obtain ⟨i, _, rfl⟩ := List.mem_map.1 hy
      exact ⟨_, rfl⟩
    have eR : D ++ List.replicate (ct - j) (AV.v (.slice none 0 0)) = rowJ D (.v (.slice none 0 0)) m := by rw [hm1]; rfl
    rw [← hD, eR]
    repeat (first | ((with_reducible refine zI ?_); refine zJ rfl ?_) | ((with_reducible refine zE ?_); refine zF rfl ?_)  | refine zK ?_ | refine zB rfl ?_ | with_reducible (first | refine zG ?_ | refine zH ?_ | refine zW ?_ | refine zR ?_) | ((with_reducible refine zA ?_ ?_); kernel_rfl))
    refine lX (nS (L.map iv) (nL L) (by simp; omega)) (by repeat' (first | exact trivial | exact Ren.sl _ _ | refine ⟨?_, ?_⟩)) rfl ?_
    repeat (first   | refine zB rfl ?_  )
    with_reducible refine zU ?_
    refine dP tbOk rfl rfl rfl rfl ⟨by omega, by omega⟩ ?_
    repeat (first   | refine zB rfl ?_  )
    with_reducible refine zz ?_
    refine wO (L := rowJ D (.v (.slice none 0 0)) m) (j := D.length) (y0 := .v (.slice none 0 0)) tbOk rfl rfl rfl rfl (by rw [hDl]; simp) (fun y hy => by rw [gH hDs rfl y hy]; rfl) ?_ rfl rfl rfl ?_
    · unfold rowJ
      rw [List.getElem?_append_right (Nat.le_refl _), Nat.sub_self]; rfl
    rw [rowJ_set]
    repeat (first | ((with_reducible refine zI ?_); refine zJ rfl ?_) | ((with_reducible refine yB ?_); refine yj tbOk rfl rfl ?_)  | refine zK ?_ | refine zB rfl ?_ | with_reducible (first | refine zG ?_ | refine zH ?_ | refine zW ?_) | ((with_reducible refine zA ?_ ?_); kernel_rfl))
    refine ya (ι := Nat × List Int) (fun i => i.1 ≤ un.length ∧ i.2.length = L.length ∧ setU un.length j i.1 (un.drop i.1) i.2 = qm L j) (fun i => un.length - i.1) (fun v i => [(0, .sl 1 (L.map iv)), (6, .sl 1 (un.map iv)), (7, .bs 22 (v 22) 1 ct), (8, .v (.int .i64 (j : Nat))), (23, .v (.int .i64 (ct : Nat))), (24, .v (.int .i64 (j : Nat))), (32, .sl 1 (un.map iv)), (33, .v (.int .i64 (un.map iv).length)), (34, .v (.int .i64 (i.1 : Nat)))]) (fun v i => [(22, .box (bsC (rowJ D (.own 30 (v 30)) m) J)), (30, .buf 3 1 (i.2.map iv))]) ?_ ?_
    · exact ⟨(0, L), ⟨Nat.zero_le _, rfl, (eJ j).symm⟩, trivial, ⟨rfl, rfl, rfl, rfl, rfl, rfl, rfl, rfl, rfl, trivial⟩, ⟨rfl, rfl, trivial⟩⟩
    clear v h
    rintro v ⟨i, s⟩ ⟨hi, hs, hf⟩
    dsimp only at hi hs hf ⊢
    repeat (first | ((with_reducible refine zP ?_); refine zV rfl rfl rfl ?_)  | refine zK ?_ | refine zB rfl ?_ | with_reducible (first | refine zG ?_ | refine zH ?_) | ((with_reducible refine zA ?_ ?_); kernel_rfl))
    refine zh rfl (fun h => ?_) (fun h => ?_)
    · have hlti : i < un.length := by simpa using h
      obtain ⟨d, hd⟩ := zT hlti
      have hy := cW hd
      have hdr := hin d (List.mem_of_getElem? hd)
      rw [yq hd, setU] at hf
      have hsh : (0 : Int) ≤ ((un.map iv).length : Int) - 1 - (i : Int) ∧ ((un.map iv).length : Int) - 1 - (i : Int) ≤ (IntKind.i64.bits : Nat) := ⟨by omega, by show _ ≤ (64 : Int); omega⟩
      have hbt : bits .and .i64 ((j : Int) / 2 ^ (((un.map iv).length : Int) - 1 - (i : Int)).toNat) 1 = ((j / 2 ^ (un.length - 1 - i) % 2 : Nat) : Int) := by
        rw [show (((un.map iv).length : Int) - 1 - (i : Int)).toNat = un.length - 1 - i by omega]
        exact bit_at (by omega)
      repeat (first | ((with_reducible refine zI ?_); refine zJ rfl ?_) | ((with_reducible refine zE ?_); refine zF rfl ?_) | ((with_reducible refine zQ ?_); refine zj tbOk rfl rfl rfl ?_) | ((with_reducible refine zU ?_); refine zg tbOk rfl rfl rfl rfl (by assumption) ?_)  | refine zK ?_ | refine zB rfl ?_ | with_reducible (first | refine zG ?_ | refine zH ?_ | refine zW ?_ | refine zR ?_) | ((with_reducible refine zA ?_ ?_); kernel_rfl) | ((with_reducible refine jQ mixd ?_ ?_); kernel_rfl))
      with_reducible refine zU ?_
      refine dP tbOk rfl rfl rfl rfl ⟨by omega, by omega⟩ ?_
      repeat (first   | refine zB rfl ?_  )
      with_reducible refine zQ ?_
      refine zN tbOk rfl rfl rfl rfl (y := .own 30 (v 30)) (by rw [Int.toNat_natCast, Nat.mul_one, ← hDl]; exact rowJ_at hDs rfl) ?_
      repeat (first | ((with_reducible refine zI ?_); refine zJ rfl ?_) | ((with_reducible refine yB ?_); refine yj tbOk rfl rfl ?_) | ((with_reducible refine zP ?_); refine jd rfl rfl (by omega) ?_)  | refine zB rfl ?_  )
      refine uG rfl rfl hsh ?_
      repeat (first | ((with_reducible refine zP ?_); (first | refine zX rfl rfl (by omega) ?_ | refine zV rfl rfl rfl ?_))  | refine zB rfl ?_  )
      rw [hbt]
      repeat (first | fail    )
      (with_reducible refine zU ?_); refine zq tbOk rfl rfl rfl rfl rfl rfl ⟨by omega, by rw [List.length_map]; omega⟩ ?_
      repeat (first   | refine zB rfl ?_  )
      (with_reducible refine zz ?_); refine jG (L' := (s.set d.toNat (1 + ((j / 2 ^ (un.length - 1 - i) % 2 : Nat) : Int))).map iv) tbOk rfl rfl rfl rfl rfl rfl rfl rfl rfl (by rw [jP, List.length_map]; omega) (by simp) (je _) (aD _ _ _) ?_
      repeat (first | ((with_reducible refine zI ?_); refine zJ rfl ?_) | ((with_reducible refine zP ?_); refine zX rfl rfl (by omega) ?_)  | refine zK ?_ | refine jR (by kernel_rfl) ?_ | refine zB rfl ?_ | with_reducible (first | refine zG ?_ | refine ze ?_) | ((with_reducible refine zA ?_ ?_); kernel_rfl))
      exact ⟨(i + 1, s.set d.toNat (1 + ((j / 2 ^ (un.length - 1 - i) % 2 : Nat) : Int))), ⟨hlti, by simp [hs], hf⟩, by show un.length - (i + 1) < un.length - i; omega, ⟨rfl, rfl, rfl, rfl, rfl, rfl, rfl, rfl, rfl, trivial⟩, ⟨rfl, rfl, trivial⟩⟩
    · have hge : ¬ i < un.length := by simpa using h
      rw [List.drop_of_length_le (by omega)] at hf
      have hf : s = qm L j := hf
      rw [hf]
      refine nO (s := 30) (b := 22) (bsC (rowJ D (slI (qm L j)) m) J) rfl rfl (rowJ_rw hDs rfl rfl) ?_
      repeat (first | ((with_reducible refine zI ?_); refine zJ rfl ?_) | ((with_reducible refine zP ?_); refine zX rfl rfl (by omega) ?_)  | refine zK ?_ | refine zB rfl ?_ | with_reducible (first | refine zG ?_ | refine zd ?_ | refine ze ?_ | refine zw ?_) | ((with_reducible refine zb ?_ ?_); rfl) | ((with_reducible refine zA ?_ ?_); kernel_rfl))
      refine ⟨j + 1, hlt, by omega, ⟨rfl, rfl, rfl, rfl, rfl, trivial⟩, ⟨qn ?_, trivial⟩⟩
      rw [List.range_succ, List.map_append, ← hD, hm2]
      unfold rowJ
      simp
  · have hge : ¬ j < ct := by simpa using h
    have ej : ct - j = 0 := by omega
    obtain rfl : j = ct := by omega
    have e : (List.range j).map (fun i => slI (qm L i)) ++ List.replicate (j - j) (AV.v (.slice none 0 0)) = (allP L).map slI := by
      rw [eA, List.map_map, Nat.sub_self]; simp [Function.comp_def]
    have hal : ((allP L).map slI).length = j := by rw [eA]; simp
    have hsl : ∀ y ∈ (allP L).map slI, ∃ s, y = slI s := fun y hy => by
      obtain ⟨s, _, rfl⟩ := List.mem_map.1 hy
      exact ⟨s, rfl⟩
    rw [e]
    refine wE (s := 22) (sz := 1) (L := (allP L).map slI) hgs [(7, .sl 1 ((allP L).map slI))] rfl (fun x hx => by rw [qi hsl x hx]; rfl) (by decide) (fun x hx => by obtain ⟨s, rfl⟩ := hsl x hx; rfl) (by rw [hal]; unfold maxLen; omega) ?_ ?_
    · rw [hal]
      exact ⟨.inl (.inr ⟨rfl, rfl⟩), trivial⟩
    repeat (first | ((with_reducible refine zI ?_); refine zJ rfl ?_) | ((with_reducible refine zE ?_); refine zF rfl ?_)  | refine zK ?_ | refine zB rfl ?_ | with_reducible (first | refine zG ?_ | refine zd ?_ | refine zH ?_ | refine zw ?_ | refine zS ?_) | ((with_reducible refine zb ?_ ?_); rfl) | ((with_reducible refine zA ?_ ?_); kernel_rfl))
    refine qN (by first | exact .inr rfl | exact .inl rfl) rfl rfl rfl ?_
    repeat' (first | exact trivial | exact Ren.v _ | exact Ren.sl _ _ | refine yR ?_ | refine ⟨?_, ?_⟩)
end Go.Proofs.YtnafokinifbfhaaGreatDoor
