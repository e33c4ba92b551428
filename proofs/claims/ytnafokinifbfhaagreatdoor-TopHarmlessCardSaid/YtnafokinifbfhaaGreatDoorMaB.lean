/- Own rows in a box that was handed over: nil becomes own, own becomes frozen, own moves to another site; conditions: none / mask.All, by the abstract machine: a row of rows of its own; conditions: valid masks, at most eight unknown. -/
import Derived.Test.YtnafokinifbfhaaGreatDoorAbsJ
import Derived.Test.YtnafokinifbfhaaGreatDoorAbsW
import Derived.Test.YtnafokinifbfhaaGreatDoorZg
set_option linter.unusedVariables false
set_option linter.unusedSimpArgs false
namespace Go.Proofs.YtnafokinifbfhaaGreatDoor
open Go Go.RowKit
section
variable {P : Program} {X : Ctx} {n : Nat} {σ : AS} {Q : Exit → AS → Prop} {c : Code}
theorem oR {s b k kb e sz : Nat} {L cs : List AV} (cs' : List AV) (hH : σ.H s = ⟨k, .buf e sz L⟩) (hb : (σ.hup s ⟨k, .dead⟩).H b = ⟨kb, .box cs⟩) (hB : RwL (.own s k) (.sl sz L) cs cs')
    (h : AWp P X n c Q ((σ.hup s ⟨k, .dead⟩).hup b ⟨kb, .box cs'⟩)) : AWp P X n c Q σ := by
  refine bQ [] [(b, cs')] hH trivial ⟨⟨kb, cs, hb, hB⟩, trivial⟩ ?_
  show AWp P X n c Q ((σ.hup s ⟨k, .dead⟩).hup b ⟨((σ.hup s ⟨k, .dead⟩).H b).k, .box cs'⟩)
  rw [hb]
  exact h
end
end Go.Proofs.YtnafokinifbfhaaGreatDoor
namespace Go.Proofs.YtnafokinifbfhaaGreatDoor
open Go Go.RowKit
set_option maxRecDepth 10000
variable {G : Nat → Option (List Value)}
theorem pH : ∀ (L : List Int) (i : Nat), ∀ d ∈ jr i L, (i : Int) ≤ d ∧ d < ((i + L.length : Nat) : Int)
  | [], _, d, h => by cases h
  | m :: L, i, d, h => by
    rw [jr] at h
    have ih := pH L (i + 1)
    split at h
    · rcases List.mem_cons.1 h with rfl | h
      · simp; omega
      · have := ih d h; simp at this ⊢; omega
    · have := ih d h; simp at this ⊢; omega
theorem nA {L : List Int} : ∀ d ∈ unkP L, 0 ≤ d ∧ d < L.length := fun d h => by
  have := pH L 0 d h; simp at this; omega
/-- One of the states: the unknown devices take the bits of a number. -/
def setU (u j : Nat) : Nat → List Int → List Int → List Int
  | _, [], s => s
  | i, d :: D, s => setU u j (i + 1) D (s.set d.toNat (1 + ((j / 2 ^ (u - 1 - i) % 2 : Nat) : Int)))
theorem uS (u j : Nat) : ∀ (D : List Int) (i : Nat) (s : List Int), (setU u j i D s).length = s.length
  | [], _, _ => rfl
  | d :: D, i, s => by rw [setU, uS u j D]; simp
def ql (L : List Int) (j : Nat) : List Int := setU (unkP L).length j 0 (unkP L) L
theorem pW (L : List Int) (j : Nat) : (ql L j).length = L.length := uS _ _ _ _ _
def allP (L : List Int) : List (List Int) := (List.range (2 ^ (unkP L).length)).map (ql L)
def slI (s : List Int) : AV := .sl 1 (s.map iv)
theorem and1 : ∀ x : Fin 256, bits .and .i64 (x.val : Int) 1 = ((x.val % 2 : Nat) : Int) := by decide
theorem bit_at {j s : Nat} (h : j < 256) : bits .and .i64 ((j : Int) / 2 ^ s) 1 = ((j / 2 ^ s % 2 : Nat) : Int) := by
  have hd : j / 2 ^ s < 256 := Nat.lt_of_le_of_lt (Nat.div_le_self _ _) h
  have e : (j : Int) / 2 ^ s = ((j / 2 ^ s : Nat) : Int) := by simp
  rw [e]
  exact and1 ⟨j / 2 ^ s, hd⟩
/-- The row while its element j is written. -/
def rowJ (D : List AV) (x : AV) (m : Nat) : List AV := D ++ x :: List.replicate m (.v (.slice none 0 0))
theorem qf {D : List AV} (hD : ∀ y ∈ D, ∃ s, y = slI s) : ∀ y ∈ D, y.cells = [y] := fun y hy => by
  obtain ⟨s, rfl⟩ := hD y hy; rfl
theorem gA : ∀ {D : List AV}, (∀ y ∈ D, y.cells = [y]) → D.flatMap AV.cells = D
  | [], _ => rfl
  | y :: D, h => by rw [List.flatMap_cons, h y (by simp), gA (fun z hz => h z (by simp [hz]))]; rfl
theorem kN {D : List AV} {x : AV} {m : Nat} (hD : ∀ y ∈ D, ∃ s, y = slI s) (hx : x.cells = [x]) : ∀ y ∈ rowJ D x m, y.cells = [y] := fun y hy => by
  unfold rowJ at hy
  rcases List.mem_append.1 hy with hy | hy
  · exact qf hD y hy
  · rcases List.mem_cons.1 hy with rfl | hy
    · exact hx
    · rw [(List.mem_replicate.1 hy).2]; rfl
theorem rowJ_at {D J : List AV} {x : AV} {m : Nat} (hD : ∀ y ∈ D, ∃ s, y = slI s) (hx : x.cells = [x]) : (bsC (rowJ D x m) J)[D.length]? = some x := by
  unfold bsC
  rw [gA (kN hD hx)]
  unfold rowJ
  rw [List.append_assoc, List.getElem?_append_right (Nat.le_refl _), Nat.sub_self]
  rfl
theorem rwl_mid {x0 y0 : AV} : ∀ (A : List AV) {B : List AV}, RwL x0 y0 (A ++ x0 :: B) (A ++ y0 :: B)
  | [], B => .hit (RwL.refl B)
  | a :: A, B => .same (rwl_mid A)
theorem rowJ_rw {D J : List AV} {x y : AV} {m : Nat} (hD : ∀ y ∈ D, ∃ s, y = slI s) (hx : x.cells = [x]) (hy : y.cells = [y]) : RwL x y (bsC (rowJ D x m) J) (bsC (rowJ D y m) J) := by
  unfold bsC
  rw [gA (kN hD hx), gA (kN hD hy)]
  unfold rowJ
  rw [List.append_assoc, List.append_assoc]
  exact rwl_mid D
theorem rowJ_set {D : List AV} {x y : AV} {m : Nat} : (rowJ D x m).set D.length y = rowJ D y m := by
  unfold rowJ
  rw [List.set_append, if_neg (by omega), Nat.sub_self]
  rfl
set_option maxHeartbeats 8000000 in
theorem mall_A (L : List Int) (hP : GPos G) (h : ∀ m ∈ L, isB m = true) (hm : L.length ≤ 64) (hu : (unkP L).length ≤ 8) : zJ Tryz.prog G 40 [.sl 1 (L.map iv)] [] (.tu [.sl 1 ((allP L).map slI), .v (.int .i64 0)]) [] := by
  have hul : ((unkP L).map iv).length = (unkP L).length := by simp
  have hp : (2 : Nat) ^ (unkP L).length ≤ 256 := Nat.pow_le_pow_right (by decide) hu
  have hp0 : 0 < (2 : Nat) ^ (unkP L).length := Nat.pow_pos (by decide)
  have hct := mcount_A (G := G) L hP h (by omega) hu
  have hun := munk_A (G := G) L (by omega)
  have hin := nA (L := L)
  have eA : allP L = (List.range (2 ^ (unkP L).length)).map (ql L) := rfl
  have eJ : ∀ j, ql L j = setU (unkP L).length j 0 (unkP L) L := fun _ => rfl
  generalize (2 : Nat) ^ (unkP L).length = ct at hp hp0 hct eA
  generalize unkP L = un at hul hu hct hun hin eJ
  refine acalls_of0 tbOk (zA Tryz.func40 (by kernel_rfl) rfl) Tryz.func40 rfl _ Tryz.ntmps40 (Nat.le_of_ble_eq_true rfl) fun X hX hgs => ?_
  subst hX
  refine zg1 ?_
  refine zG (hct) (by repeat' (first | exact trivial | exact Ren.sl _ _ | refine ⟨?_, ?_⟩)) (by repeat' (first | exact trivial | exact RenB.v _ | refine zZ ?_ | refine ⟨?_, ?_⟩)) ?_
  refine zg13 ?_
  refine zG (hun) (by repeat' (first | exact trivial | exact Ren.sl _ _ | refine ⟨?_, ?_⟩)) (by repeat' exact RenB.sl _ _) ?_
  refine zg1 ?_
  with_reducible refine jz ?_
  refine qR (zc := .v (.slice none 0 0)) tbOk rfl rfl rfl rfl rfl (by decide) rfl (by intro z hz; simp at hz; subst hz; rfl) rfl rfl (by omega) (by omega) rfl ?_
  refine zg3 ?_
  refine vQ (s := 22) (k := 1) (L := List.replicate ct (.v (.slice none 0 0))) [(7, .bs 22 2 1 (List.replicate ct (AV.v (.slice none 0 0))).length)] rfl (by simp; omega) (fun J => ⟨.inl (.inr ⟨rfl, rfl⟩), trivial⟩) (fun J hJ => ?_)
  rw [List.length_replicate]
  refine zQ (ι := Nat) (fun j => j ≤ ct) (fun j => ct - j) (fun v j => [(0, .sl 1 (L.map iv)), (6, .sl 1 (un.map iv)), (7, .bs 22 (v 22) 1 ct), (23, .v (.int .i64 (ct : Nat))), (24, .v (.int .i64 (j : Nat)))]) (fun v j => [(22, .box (bsC ((List.range j).map (fun i => slI (ql L i)) ++ List.replicate (ct - j) (.v (.slice none 0 0))) J))]) ?_ ?_
  · exact ⟨0, Nat.zero_le _, trivial, ⟨rfl, rfl, rfl, rfl, rfl, trivial⟩, ⟨rfl, trivial⟩⟩
  rintro v j hj
  refine zg1 ?_
  refine zF rfl (fun h => ?_) (fun h => ?_)
  · have hlt : j < ct := by simpa using h
    obtain ⟨m, hm1, hm2⟩ : ∃ m, ct - j = m + 1 ∧ ct - (j + 1) = m := ⟨ct - j - 1, by omega, by omega⟩
    obtain ⟨D, hD⟩ : ∃ D, D = (List.range j).map (fun i => slI (ql L i)) := ⟨_, rfl⟩
    have hDl : D.length = j := by rw [hD]; simp
    have hDs : ∀ y ∈ D, ∃ s, y = slI s := fun y hy => by
      rw [hD] at hy
      obtain ⟨i, _, rfl⟩ := List.mem_map.1 hy
      exact ⟨_, rfl⟩
    have eR : D ++ List.replicate (ct - j) (AV.v (.slice none 0 0)) = rowJ D (.v (.slice none 0 0)) m := by rw [hm1]; rfl
    rw [← hD, eR]
    refine zg0 ?_
    refine oS (oW (L.map iv) (oY L) (by simp; omega)) (by repeat' (first | exact trivial | exact Ren.sl _ _ | refine ⟨?_, ?_⟩)) rfl ?_
    refine zg1 ?_
    with_reducible refine zH ?_
    refine dY tbOk rfl rfl rfl rfl ⟨by omega, by omega⟩ ?_
    refine zg1 ?_
    with_reducible refine zt ?_
    refine x_store_bs (L := rowJ D (.v (.slice none 0 0)) m) (j := D.length) (y0 := .v (.slice none 0 0)) tbOk rfl rfl rfl rfl (by rw [hDl]; simp) (fun y hy => by rw [kN hDs rfl y hy]; rfl) ?_ rfl rfl rfl ?_
    · unfold rowJ
      rw [List.getElem?_append_right (Nat.le_refl _), Nat.sub_self]; rfl
    rw [rowJ_set]
    refine zg0 ?_
    refine zQ (ι := Nat × List Int) (fun i => i.1 ≤ un.length ∧ i.2.length = L.length ∧ setU un.length j i.1 (un.drop i.1) i.2 = ql L j) (fun i => un.length - i.1) (fun v i => [(0, .sl 1 (L.map iv)), (6, .sl 1 (un.map iv)), (7, .bs 22 (v 22) 1 ct), (8, .v (.int .i64 (j : Nat))), (23, .v (.int .i64 (ct : Nat))), (24, .v (.int .i64 (j : Nat))), (32, .sl 1 (un.map iv)), (33, .v (.int .i64 (un.map iv).length)), (34, .v (.int .i64 (i.1 : Nat)))]) (fun v i => [(22, .box (bsC (rowJ D (.own 30 (v 30)) m) J)), (30, .buf 3 1 (i.2.map iv))]) ?_ ?_
    · exact ⟨(0, L), ⟨Nat.zero_le _, rfl, (eJ j).symm⟩, trivial, ⟨rfl, rfl, rfl, rfl, rfl, rfl, rfl, rfl, rfl, trivial⟩, ⟨rfl, rfl, trivial⟩⟩
    clear v h
    rintro v ⟨i, s⟩ ⟨hi, hs, hf⟩
    dsimp only at hi hs hf ⊢
    refine zg1 ?_
    refine zF rfl (fun h => ?_) (fun h => ?_)
    · have hlti : i < un.length := by simpa using h
      obtain ⟨d, hd⟩ := zB hlti
      have hy := qA hd
      have hdr := hin d (List.mem_of_getElem? hd)
      rw [zv hd, setU] at hf
      have hsh : (0 : Int) ≤ ((un.map iv).length : Int) - 1 - (i : Int) ∧ ((un.map iv).length : Int) - 1 - (i : Int) ≤ (IntKind.i64.bits : Nat) := ⟨by omega, by show _ ≤ (64 : Int); omega⟩
      have hbt : bits .and .i64 ((j : Int) / 2 ^ (((un.map iv).length : Int) - 1 - (i : Int)).toNat) 1 = ((j / 2 ^ (un.length - 1 - i) % 2 : Nat) : Int) := by
        rw [show (((un.map iv).length : Int) - 1 - (i : Int)).toNat = un.length - 1 - i by omega]
        exact bit_at (by omega)
      refine zg14 ?_
      with_reducible refine zH ?_
      refine dY tbOk rfl rfl rfl rfl ⟨by omega, by omega⟩ ?_
      refine zg1 ?_
      with_reducible refine ze ?_
      refine zY tbOk rfl rfl rfl rfl (y := .own 30 (v 30)) (by rw [Int.toNat_natCast, Nat.mul_one, ← hDl]; exact rowJ_at hDs rfl) ?_
      refine zg7 ?_
      refine wV rfl rfl hsh ?_
      refine zg9 ?_
      rw [hbt]
      skip
      (with_reducible refine zH ?_); refine zK tbOk rfl rfl rfl rfl rfl rfl ⟨by omega, by rw [List.length_map]; omega⟩ ?_
      refine zg1 ?_
      (with_reducible refine zt ?_); refine zz (L' := (s.set d.toNat (1 + ((j / 2 ^ (un.length - 1 - i) % 2 : Nat) : Int))).map iv) tbOk rfl rfl rfl rfl rfl rfl rfl rfl rfl (by rw [yS, List.length_map]; omega) (by simp) (yY _) (jt _ _ _) ?_
      refine zg10 ?_
      exact ⟨(i + 1, s.set d.toNat (1 + ((j / 2 ^ (un.length - 1 - i) % 2 : Nat) : Int))), ⟨hlti, by simp [hs], hf⟩, by show un.length - (i + 1) < un.length - i; omega, ⟨rfl, rfl, rfl, rfl, rfl, rfl, rfl, rfl, rfl, trivial⟩, ⟨rfl, rfl, trivial⟩⟩
    · have hge : ¬ i < un.length := by simpa using h
      rw [List.drop_of_length_le (by omega)] at hf
      have hf : s = ql L j := hf
      rw [hf]
      refine oR (s := 30) (b := 22) (bsC (rowJ D (slI (ql L j)) m) J) rfl rfl (rowJ_rw hDs rfl rfl) ?_
      refine zg2 ?_
      refine ⟨j + 1, hlt, by omega, ⟨rfl, rfl, rfl, rfl, rfl, trivial⟩, ⟨qr ?_, trivial⟩⟩
      rw [List.range_succ, List.map_append, ← hD, hm2]
      unfold rowJ
      simp
  · have hge : ¬ j < ct := by simpa using h
    have ej : ct - j = 0 := by omega
    obtain rfl : j = ct := by omega
    have e : (List.range j).map (fun i => slI (ql L i)) ++ List.replicate (j - j) (AV.v (.slice none 0 0)) = (allP L).map slI := by
      rw [eA, List.map_map, Nat.sub_self]; simp [Function.comp_def]
    have hal : ((allP L).map slI).length = j := by rw [eA]; simp
    have hsl : ∀ y ∈ (allP L).map slI, ∃ s, y = slI s := fun y hy => by
      obtain ⟨s, _, rfl⟩ := List.mem_map.1 hy
      exact ⟨s, rfl⟩
    rw [e]
    refine awp_box_sl (s := 22) (sz := 1) (L := (allP L).map slI) hgs [(7, .sl 1 ((allP L).map slI))] rfl (fun x hx => by rw [qf hsl x hx]; rfl) (by decide) (fun x hx => by obtain ⟨s, rfl⟩ := hsl x hx; rfl) (by rw [hal]; unfold maxLen; omega) ?_ ?_
    · rw [hal]
      exact ⟨.inl (.inr ⟨rfl, rfl⟩), trivial⟩
    refine zg2 ?_
    refine jH (by first | exact .inr rfl | exact .inl rfl) rfl rfl rfl ?_
    repeat' (first | exact trivial | exact Ren.v _ | exact Ren.sl _ _ | refine zf ?_ | refine ⟨?_, ?_⟩)
end Go.Proofs.YtnafokinifbfhaaGreatDoor
