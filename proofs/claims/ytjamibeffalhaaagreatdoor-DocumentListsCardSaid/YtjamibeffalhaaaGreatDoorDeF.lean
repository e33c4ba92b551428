/- permitofficelaw26.DocumentLists, by the abstract machine: it answers true for all lists; conditions: the tables of classes and powers and a cell of the library stand. -/
import Derived.Test.YtjamibeffalhaaaGreatDoorDeA
import Derived.Test.YtjamibeffalhaaaGreatDoorAbsM
set_option linter.unusedVariables false
set_option linter.unusedSimpArgs false
namespace Go.Proofs.YtjamibeffalhaaaGreatDoor
open Go Go.RowKit
set_option maxRecDepth 10000
variable {G : Nat → Option (List Value)}
def lC : Option Int → List Dc → Option Int
  | p, [] => p
  | _, d :: l => lC (some d.num) l
theorem iV (y : Dc) : ∀ (L : List Dc) (p : Option Int), lC p (L ++ [y]) = some y.num
  | [], _ => rfl
  | d :: l, p => iV y l (some d.num)
def bndB : Option Int → Int → Bool
  | none, _ => false
  | some q, n => decide (n ≤ q)
theorem gT {N : List Nd} {V : List Dv} (p : Option Int) : jU N V p [] = 0 := by cases p <;> rfl
theorem aW {N : List Nd} {V : List Dv} (p : Option Int) (d : Dc) (l : List Dc) : jU N V p (d :: l) = if docE N V d ≠ 0 then docE N V d else if bndB p d.num = true then 14 else jU N V (some d.num) l := by cases p <;> rfl
theorem jr {N : List Nd} {V : List Dv} (x : Dc) : ∀ (L : List Dc) (p : Option Int), jU N V p (L ++ [x]) = 0 ↔ jU N V p L = 0 ∧ docE N V x = 0 ∧ (∀ q, lC p L = some q → q < x.num)
  | [], p => by
    rw [List.nil_append, aW, gT, gT, lC]
    by_cases h : docE N V x = 0
    · rw [if_neg (by simpa using h)]
      cases p with
      | none => simp [h, bndB]
      | some q =>
        by_cases h2 : x.num ≤ q
        · simp [h2, h, bndB]
        · have : q < x.num := by omega
          simp [h2, h, this, bndB]
    · rw [if_pos h]; simp [h]
  | d :: l, p => by
    rw [List.cons_append, aW, aW, lC]
    by_cases h : docE N V d ≠ 0
    · rw [if_pos h, if_pos h]; simp [h]
    rw [if_neg h, if_neg h]
    split
    · simp
    · exact jr x l (some d.num)
theorem nH {N : List Nd} {V : List Dv} : ∀ {L : List Dc} {p : Option Int}, jU N V p L = 0 → (∀ q, p = some q → ∀ x ∈ L, q < x.num) ∧ L.Pairwise (fun a b => a.num < b.num)
  | [], p, _ => ⟨fun q _ x hx => (by cases hx), List.Pairwise.nil⟩
  | d :: l, p, h => by
    rw [aW] at h
    split at h
    · rename_i q; exact absurd h q
    split at h
    · cases h
    rename_i hp
    obtain ⟨h1, h2⟩ := nH h
    have h3 := h1 d.num rfl
    refine ⟨fun q hq x hx => ?_, List.pairwise_cons.2 ⟨h3, h2⟩⟩
    subst hq
    have : q < d.num := by simp [bndB] at hp; omega
    rcases List.mem_cons.1 hx with rfl | hx
    · exact this
    · have := h3 x hx; omega
theorem sK : ∀ {L : List Dc} {i : Nat} {x : Dc} (k : Int), L.Pairwise (fun a b => a.num < b.num) → L[i]? = some x → qO x.num k L = k + i
  | [], i, x, k, _, h => by simp at h
  | d :: l, 0, x, k, _, h => by
    simp at h; subst h
    rw [qO, if_pos rfl]; omega
  | d :: l, i + 1, x, k, hp, h => by
    rw [List.getElem?_cons_succ] at h
    obtain ⟨h1, h2⟩ := List.pairwise_cons.1 hp
    have := h1 x (List.mem_of_getElem? h)
    rw [qO, if_neg (by omega), sK (k + 1) h2 h]
    omega
theorem lG {n : Int} : ∀ {L : List Dc} (k : Int), (∀ x ∈ L, x.num ≠ n) → qO n k L = -1
  | [], k, _ => rfl
  | d :: l, k, h => by rw [qO, if_neg (h d (by simp)), lG (k + 1) (fun x hx => h x (by simp [hx]))]
/-- The numbers of a list that is being made. -/
def aZ (n : Nat) (x : Dc) : Prop := (0 ≤ x.num ∧ x.num ≤ 60 + 4 * n) ∨ (65537 ≤ x.num ∧ x.num ≤ 65537 + 4 * n)
theorem aZ.up {n : Nat} {x : Dc} (h : aZ n x) : aZ (n + 1) x := by unfold aZ at h ⊢; omega
theorem pY (L : List Dc) : ∀ x ∈ L.map Dc.av, x.cells.length = 12 := by
  intro x hx
  obtain ⟨r, _, rfl⟩ := List.mem_map.1 hx
  rfl
theorem wK {M : List Dc} {p : Dc} {j : Nat} (hp : M[j]? = some p) : ((M.map Dc.av).flatMap AV.cells)[j * 12 + 0]? = some (.v (.int .i64 p.num)) := by
  have hg := vJ (pY M) (dJ hp)
  have h2 : (((M.map Dc.av).flatMap AV.cells).drop (j * 12))[0]? = some (.v (.int .i64 p.num)) := by
    have h3 : ((((M.map Dc.av).flatMap AV.cells).drop (j * 12)).take 12)[0]? = some (.v (.int .i64 p.num)) := by rw [hg]; rfl
    rwa [List.getElem?_take_of_lt (by decide)] at h3
  rwa [List.getElem?_drop] at h2
def js (N : List Nd) (V : List Dv) (L : List Dc) : Bool := decide (jU N V none L = 0)
set_option maxRecDepth 100000 in
set_option maxHeartbeats 32000000 in
theorem uW (l : List Int) (hG : GCls G) (hP : GPow G) (hM : GMax G) : zy Tryz.prog G 7 [.sl 1 (l.map iv)] [] (.v (.bool true)) [] := by
  refine zd tbOk (zf Tryz.func7 (by kernel_rfl) rfl) Tryz.func7 rfl _ Tryz.ntmps7 (Nat.le_of_ble_eq_true rfl) fun X hX => ?_
  subst hX
  repeat (first | ((with_reducible refine zF ?_); refine zE rfl ?_)  | refine zL ?_ | refine zB rfl ?_ | with_reducible (first | refine zG ?_ | refine zH ?_) | ((with_reducible refine zA ?_ ?_); kernel_rfl))
  refine zC (qt hG hP hM) ?_
  repeat (first | ((with_reducible refine zJ ?_); refine zK rfl ?_) | ((with_reducible refine k_un ?_); refine yz rfl ?_)  | refine zB rfl ?_ | refine zm rfl rfl (by first | rfl | assumption) ?_  )
  refine zC (few_A (l.map iv)) ?_
  repeat (first | ((with_reducible refine k_un ?_); refine yz rfl ?_) | ((with_reducible refine zW ?_); refine zh rfl (by first | rfl | assumption) rfl ?_)  | refine zL ?_ | refine zB rfl ?_ | refine zm rfl rfl (by first | rfl | assumption) ?_ | with_reducible refine zG ?_ )
  refine zX rfl (fun h => ?_) (fun h => ?_)
  · repeat (first   | refine zB rfl ?_ | with_reducible refine zH ?_ | ((with_reducible refine zA ?_ ?_); kernel_rfl))
    refine zC (qt hG hP hM) ?_
    repeat (first | ((with_reducible refine zF ?_); refine zE rfl ?_)  | refine zL ?_ | refine zB rfl ?_ | with_reducible (first | refine zG ?_ | refine zP ?_ | refine zN ?_) )
    refine ze (by first | exact .inr rfl | exact .inl rfl) rfl rfl ?_
    rfl
  have h400 : l.length ≤ 400 := by simp at h; omega
  have hD := DkOk.new h400
  have ok := xO (dk0 l)
  obtain ⟨v1, v64⟩ := nO (dk0 l)
  have hnl := pQ (dk0 l)
  have hT := tie_A (G := X.G) (dk0 l) hD
  have hTd := sI hD
  have hdc := fun D (hD : DkOk D) => xV (G := X.G) (qq (dk0 l)) (jj (dk0 l)) D hD ok (by omega) (by omega) v1 v64
  have hdf := fun D (hD : DkOk D) => oS (qq (dk0 l)) (jj (dk0 l)) hD
  have hnet := mL (dk0 l)
  obtain ⟨N, hN⟩ : ∃ N, N = qq (dk0 l) := ⟨_, rfl⟩
  obtain ⟨V, hV⟩ : ∃ V, V = jj (dk0 l) := ⟨_, rfl⟩
  obtain ⟨S, hS⟩ : ∃ S, S = tO (dk0 l) := ⟨_, rfl⟩
  obtain ⟨D0, hD0⟩ : ∃ D0, D0 = tieD (dk0 l) := ⟨_, rfl⟩
  rw [← hN, ← hV, ← hS, ← hD0] at hT
  rw [← hN, ← hV] at ok hnet
  rw [← hV] at v1 v64
  rw [← hN] at hnl
  rw [← hD0] at hTd
  simp only [← hN, ← hV] at hdc hdf
  clear hN hV hS hD0
  clear h
  have n5 := yr (G := X.G) D0 5 hTd (by omega) (by omega)
  have r5 := D0.in_ (n := 5) (by omega) (by omega)
  have hE := hTd.next
  obtain ⟨k0, hk0⟩ : ∃ k0 : Nat, D0.val 5 = (k0 : Int) := ⟨(D0.val 5).toNat, by omega⟩
  rw [hk0] at n5 r5
  repeat (first | ((with_reducible refine zJ ?_); refine zK rfl ?_)  | refine zB rfl ?_ | with_reducible (first | refine zG ?_ | refine zH ?_ | refine zT ?_) | ((with_reducible refine zA ?_ ?_); kernel_rfl))
  refine iO (new_A l) (by repeat' (first | exact trivial | exact Ren.v _ | exact Ren.sl _ _ | exact Ren.ep _ | exact Ren.ptr _ _ _ _ rfl | exact Ren.bs _ _ _ _ _ rfl | exact Ren.nil _ | exact Ren.own _ _ _ _ ⟨_, rfl⟩ | refine zv ?_ | refine zx ?_ | refine zw ?_ | refine ⟨?_, ?_⟩)) (by repeat' (first | exact trivial | exact RenB.v _ | exact RenB.sl _ _ | exact RenB.ep _ | exact RenB.ptr _ _ _ _ rfl | refine jG ?_ | refine jH ?_ | refine ⟨?_, ?_⟩)) rfl ?_
  repeat (first | ((with_reducible refine zJ ?_); refine zK rfl ?_) | ((with_reducible refine zF ?_); refine zE rfl ?_)  | refine zL ?_ | refine zB rfl ?_ | with_reducible (first | refine zG ?_ | refine zH ?_) | ((with_reducible refine zA ?_ ?_); kernel_rfl))
  refine zD (y := .tu [jW N V, .sl 1 (S.map iv)]) (ss := [(21, 1)]) (hT) (by simp) (in1 rfl rfl) rfl (yP rfl) ?_
  repeat (first | ((with_reducible refine zJ ?_); refine zK rfl ?_) | ((with_reducible refine zF ?_); refine zE rfl ?_) | ((with_reducible refine yD ?_); refine yE tbOk rfl rfl rfl rfl rfl rfl rfl (Nat.le_of_ble_eq_true rfl) rfl ?_) | ((with_reducible refine yc ?_); refine ya tbOk rfl rfl ?_) | ((with_reducible refine jN ?_); refine jP rfl rfl ?_)  | refine zL ?_ | refine zB rfl ?_ | with_reducible (first | refine zG ?_ | refine zH ?_) | ((with_reducible refine zA ?_ ?_); kernel_rfl))
  refine zD (ss := [(21, 1)]) (n5) (by simp) (in1 rfl rfl) rfl (yP rfl) ?_
  repeat (first | ((with_reducible refine zF ?_); refine zE rfl ?_)  | refine zL ?_ | refine zB rfl ?_ | with_reducible (first | refine zG ?_ | refine zV ?_) )
  refine mR (t := 6) (s := 83) 40 12 rfl rfl ?_
  refine yJ (ι := Nat × List Dc × Dk) (fun i => DkOk i.2.2 ∧ i.1 ≤ 4 ∧ i.2.1.length + i.1 ≤ 4 ∧ (∀ x ∈ i.2.1, DcSz x) ∧ (∀ x ∈ i.2.1, aZ i.2.1.length x)) (fun i => i.1) (fun v i => [(3, .ptr 21 (v 21) 0), (4, .ptr 4 (v 4) 0), (6, .own 83 (v 83)), (7, .v (.bool (js N V i.2.1))), (8, .v (.int .i64 (i.1 : Nat)))]) (fun v i => [(21, .box i.2.2.cells), (4, .box [.sl 3 (N.map Nd.av), .sl 5 (V.map Dv.av)]), (83, .buf 40 12 (i.2.1.map Dc.av))]) ?_ ?_
  · exact ⟨(k0, [], D0.next), ⟨hE, by show k0 ≤ 4; omega, by show 0 + k0 ≤ 4; omega, fun x hx => (by cases hx), fun x hx => (by cases hx)⟩, trivial, ⟨rfl, rfl, rfl, rfl, rfl, trivial⟩, ⟨rfl, rfl, rfl, trivial⟩⟩
  rintro v ⟨m, L, D⟩ ⟨hD2, hm, hl, hLs, hLn⟩
  dsimp only at hD2 hm hl hLs hLn ⊢
  repeat (first | ((with_reducible refine zJ ?_); refine zK rfl ?_) | ((with_reducible refine zR ?_); refine zS rfl rfl rfl ?_)  | refine zL ?_ | refine zB rfl ?_ | with_reducible (first | refine zG ?_ | refine zH ?_) | ((with_reducible refine zA ?_ ?_); kernel_rfl))
  refine zX rfl (fun c => ?_) (fun c => ?_)
  · obtain ⟨m, rfl⟩ : ∃ p, m = p + 1 := ⟨m - 1, by simp at c; omega⟩
    have hdoc := hdc D hD2
    obtain ⟨hF, hf⟩ := hdf D hD2
    generalize docD N V D = Q at hdoc hF hf
    obtain ⟨x, F⟩ := Q
    dsimp only at hdoc hF hf
    have hxs := hf.sz
    have hxn : aZ 0 x := by have := hf.n; unfold aZ; omega
    repeat (first | ((with_reducible refine zJ ?_); refine zK rfl ?_) | ((with_reducible refine zQ ?_); refine za tbOk rfl rfl rfl rfl (Nat.le_of_ble_eq_true rfl) ?_)  | refine zB rfl ?_ | with_reducible (first | refine zG ?_ | refine zH ?_ | refine zV ?_ | refine zT ?_) | ((with_reducible refine zA ?_ ?_); kernel_rfl))
    refine zD (y := x.av) (ss := [(21, v 21)]) (hdoc) (by simp) (in1 rfl rfl) rfl (yP rfl) ?_
    rcases List.eq_nil_or_concat L with hL0 | ⟨L', p, hL0⟩
    · subst hL0
      have hsz : ∀ y ∈ [] ++ [x], DcSz y := fun y hy => by simp at hy; subst hy; exact hxs
      have hnm : ∀ y ∈ [] ++ [x], aZ ([] ++ [x]).length y := fun y hy => by simp at hy; subst hy; exact hxn.up
      have g' : jU N V none [] = 0 := rfl
      repeat (first | ((with_reducible refine zJ ?_); refine zK rfl ?_) | ((with_reducible refine zQ ?_); refine za tbOk rfl rfl rfl rfl (Nat.le_of_ble_eq_true rfl) ?_) | ((with_reducible refine yD ?_); refine yE tbOk rfl rfl rfl rfl rfl rfl rfl (Nat.le_of_ble_eq_true rfl) rfl ?_) | ((with_reducible refine yc ?_); refine ya tbOk rfl rfl ?_) | ((with_reducible refine zW ?_); refine zh rfl (by first | rfl | assumption) rfl ?_) | ((with_reducible refine zq ?_); refine jb tbOk rfl rfl rfl rfl ?_) | ((with_reducible refine zR ?_); refine zS rfl rfl rfl ?_)  | refine zL ?_ | refine zB rfl ?_ | refine zu rfl rfl (by first | rfl | assumption) ?_ | refine yB rfl rfl (by first | rfl | assumption) ?_ | with_reducible (first | refine zG ?_ | refine zH ?_ | refine zT ?_) | ((with_reducible refine zA ?_ ?_); kernel_rfl) | ((with_reducible refine yO mixd ?_ ?_); kernel_rfl) | refine yH rfl (by first | rfl | assumption) ?_)
      refine zC (qk N V (x) hG ok hxs) ?_
      repeat (first | ((with_reducible refine zJ ?_); refine zK rfl ?_) | ((with_reducible refine zW ?_); refine zi rfl (by first | rfl | assumption) rfl ?_) | ((with_reducible refine zR ?_); refine zS rfl rfl rfl ?_)  | refine zB rfl ?_ | refine zu rfl rfl (by first | rfl | assumption) ?_  )
      refine zn rfl rfl (fun g2 => ?_) (fun g2 => ?_)
      rotate_left
      · have g3 : ¬ docE N V x = 0 := by simpa using g2
        repeat (first | ((with_reducible refine zJ ?_); refine zK rfl ?_) | ((with_reducible refine zF ?_); refine zE rfl ?_) | ((with_reducible refine zQ ?_); refine za tbOk rfl rfl rfl rfl (Nat.le_of_ble_eq_true rfl) ?_) | ((with_reducible refine zW ?_); refine zh rfl (by first | rfl | assumption) rfl ?_) | ((with_reducible refine zl ?_); refine zp tbOk rfl rfl rfl rfl rfl (by omega) rfl rfl rfl ?_) | refine yS (by kernel_rfl) ?_ | refine zB rfl ?_ | refine yB rfl rfl (by first | rfl | assumption) ?_ | refine jA rfl rfl rfl ?_ | with_reducible refine zG ?_ | ((with_reducible refine zA ?_ ?_); kernel_rfl))
        refine yF tbOk rfl rfl rfl rfl rfl (by decide) rfl rfl rfl rfl rfl (fun y hy => by simp at hy; subst hy; rfl) (by simp only [List.length_map, List.length_cons, List.length_nil]; omega) (by simp only [List.length_map, List.length_cons, List.length_nil]; omega) ?_
        repeat (first | ((with_reducible refine zJ ?_); refine zK rfl ?_) | ((with_reducible refine zF ?_); refine zE rfl ?_) | ((with_reducible refine zR ?_); refine yi rfl rfl (by omega) ?_)  | refine zL ?_ | refine zB rfl ?_ | with_reducible (first | refine zG ?_ | refine zo ?_) | ((with_reducible refine zA ?_ ?_); kernel_rfl))
        have hgd : js N V ([] ++ [x]) = false := by
          unfold js
          exact decide_eq_false (fun e => g3 ((jr x [] none).1 e).2.1)
        exact ⟨(m, [] ++ [x], F), ⟨hF, by show m ≤ 4; omega, by show ([] ++ [x]).length + m ≤ 4; rw [List.length_append, List.length_singleton]; omega, hsz, hnm⟩, by show m < m + 1; omega, ⟨rfl, rfl, rfl, congrArg (fun b => AV.v (.bool b)) hgd.symm, congrArg (fun z => AV.v (.int .i64 z)) (show ((m + 1 : Nat) : Int) - 1 = ((m : Nat) : Int) by omega), trivial⟩, ⟨rfl, rfl, jk (by rw [List.map_append]; rfl), trivial⟩⟩
      have g3 : docE N V x = 0 := by simpa using g2
      repeat (first | ((with_reducible refine zJ ?_); refine zK rfl ?_) | ((with_reducible refine zF ?_); refine zE rfl ?_) | ((with_reducible refine zQ ?_); refine za tbOk rfl rfl rfl rfl (Nat.le_of_ble_eq_true rfl) ?_) | ((with_reducible refine zW ?_); refine zi rfl (by first | rfl | assumption) rfl ?_) | ((with_reducible refine zq ?_); refine jb tbOk rfl rfl rfl rfl ?_) | ((with_reducible refine zR ?_); refine zS rfl rfl rfl ?_) | ((with_reducible refine zl ?_); refine zp tbOk rfl rfl rfl rfl rfl (by omega) rfl rfl rfl ?_) | refine yS (by kernel_rfl) ?_ | refine zB rfl ?_ | refine zu rfl rfl (by first | rfl | assumption) ?_ | refine yC rfl rfl (by first | rfl | assumption) ?_ | with_reducible refine zG ?_ | ((with_reducible refine zA ?_ ?_); kernel_rfl))
      refine yF tbOk rfl rfl rfl rfl rfl (by decide) rfl rfl rfl rfl rfl (fun y hy => by simp at hy; subst hy; rfl) (by simp only [List.length_map, List.length_cons, List.length_nil]; omega) (by simp only [List.length_map, List.length_cons, List.length_nil]; omega) ?_
      repeat (first | ((with_reducible refine zJ ?_); refine zK rfl ?_) | ((with_reducible refine zF ?_); refine zE rfl ?_) | ((with_reducible refine zR ?_); refine yi rfl rfl (by omega) ?_)  | refine zL ?_ | refine zB rfl ?_ | with_reducible (first | refine zG ?_ | refine zo ?_) | ((with_reducible refine zA ?_ ?_); kernel_rfl))
      have hgd : js N V ([] ++ [x]) = true := by
        unfold js
        exact decide_eq_true ((jr x [] none).2 ⟨g', g3, fun q hq => by cases hq⟩)
      exact ⟨(m, [] ++ [x], F), ⟨hF, by show m ≤ 4; omega, by show ([] ++ [x]).length + m ≤ 4; rw [List.length_append, List.length_singleton]; omega, hsz, hnm⟩, by show m < m + 1; omega, ⟨rfl, rfl, rfl, congrArg (fun b => AV.v (.bool b)) hgd.symm, congrArg (fun z => AV.v (.int .i64 z)) (show ((m + 1 : Nat) : Int) - 1 = ((m : Nat) : Int) by omega), trivial⟩, ⟨rfl, rfl, jk (by rw [List.map_append]; rfl), trivial⟩⟩
    · obtain ⟨gb, hgb⟩ : ∃ gb, gb = js N V L := ⟨_, rfl⟩
      rw [← hgb]
      have hMl : L.length = L'.length + 1 := by rw [hL0]; simp
      have hp : L[L'.length]? = some p := by rw [hL0]; simp
      have hpv : lC none L = some p.num := by rw [hL0]; simp [iV]
      have hpn := hLn p (List.mem_of_getElem? hp)
      have hpm : (L.map Dc.av).length = L.length := by simp
      have hcl : decide ((((L.map Dc.av).length : Nat) : Int) > 0) = true := decide_eq_true (by omega)
      have hcl2 : ((((L.map Dc.av).length : Nat) : Int) == 0) = false := by rw [beq_eq_false_iff_ne]; omega
      have hlx : ((((L.map Dc.av).length : Nat) : Int) - 1).toNat = L'.length := by omega
      have hln := wK hp
      have hflen : ((L.map Dc.av).flatMap AV.cells).length = L.length * 12 := by rw [aA (pY L), hpm]
      have o4 := sY (G := X.G) F 4 hF (by omega) (by omega)
      repeat (first | ((with_reducible refine zJ ?_); refine zK rfl ?_) | ((with_reducible refine yD ?_); refine yE tbOk rfl rfl rfl rfl rfl rfl rfl (Nat.le_of_ble_eq_true rfl) rfl ?_) | ((with_reducible refine yc ?_); refine ya tbOk rfl rfl ?_) | ((with_reducible refine zq ?_); refine jb tbOk rfl rfl rfl rfl ?_) | ((with_reducible refine zR ?_); refine zS rfl rfl rfl ?_)  | refine zL ?_ | refine zB rfl ?_ | refine zu rfl rfl (by first | rfl | assumption) ?_ | with_reducible (first | refine zG ?_ | refine zH ?_) | ((with_reducible refine zA ?_ ?_); kernel_rfl))
      refine zD (ss := [(21, v 21)]) (o4) (by simp) (in1 rfl rfl) rfl (yP rfl) ?_
      repeat (first | ((with_reducible refine k_un ?_); refine yz rfl ?_) | ((with_reducible refine zW ?_); refine zi rfl (by first | rfl | assumption) rfl ?_)  | refine zL ?_ | refine zB rfl ?_ | refine zu rfl rfl (by first | rfl | assumption) ?_ | with_reducible refine zG ?_ )
      refine zX rfl (fun c2 => ?_) (fun c2 => ?_)
      · have n3 := yr (G := X.G) F.next 3 hF.next (by omega) (by omega)
        have r3 := F.next.in_ (n := 3) (by omega) (by omega)
        have hF3 := hF.next.next
        have hpb : 0 ≤ p.num ∧ p.num ≤ 70000 := by unfold aZ at hpn; omega
        generalize F.next.val 3 = z at n3 r3
        repeat (first | ((with_reducible refine zJ ?_); refine zK rfl ?_) | ((with_reducible refine zq ?_); refine jb tbOk rfl rfl rfl rfl ?_) | ((with_reducible refine zR ?_); refine yi rfl rfl (by omega) ?_)  | refine zB rfl ?_  | ((with_reducible refine yO mixd ?_ ?_); kernel_rfl))
        with_reducible refine zY ?_
        refine jE tbOk rfl rfl rfl rfl rfl rfl ⟨by omega, by omega⟩ ?_
        repeat (first | ((with_reducible refine zM ?_); refine aE tbOk rfl rfl rfl rfl ?_)  | refine zB rfl ?_  )
        with_reducible refine zQ ?_
        refine qZ (y := .v (.int .i64 p.num)) tbOk rfl rfl rfl rfl ?_ (by omega) ?_
        · rw [hlx]; exact hln
        repeat (first | ((with_reducible refine zJ ?_); refine zK rfl ?_) | ((with_reducible refine zR ?_); refine zk rfl rfl (by omega) ?_)  | refine zB rfl ?_  )
        refine zD (ss := [(21, v 21)]) (n3) (by simp) (in1 rfl rfl) rfl (yP rfl) ?_
        repeat (first | ((with_reducible refine zJ ?_); refine zK rfl ?_) | ((with_reducible refine zM ?_); refine zI tbOk rfl rfl rfl rfl ?_) | ((with_reducible refine yD ?_); refine yE tbOk rfl rfl rfl rfl rfl rfl rfl (Nat.le_of_ble_eq_true rfl) rfl ?_) | ((with_reducible refine zR ?_); refine zk rfl rfl (by omega) ?_)  | refine yS (by kernel_rfl) ?_ | refine zB rfl ?_ | with_reducible (first | refine zG ?_ | refine zH ?_) | ((with_reducible refine yO mixd ?_ ?_); kernel_rfl))
        have hsz : ∀ y ∈ L ++ [(⟨p.num + 1 + z, x.kind, x.st, x.rd, x.zone, x.safe, x.lk, x.iss, x.hol, x.f, x.u, x.ce⟩ : Dc)], DcSz y := fun y hy => by
          rcases List.mem_append.1 hy with hy | hy
          · exact hLs y hy
          · rw [List.mem_singleton.1 hy]; exact ⟨hxs.z, hxs.l, hxs.i, hxs.h, hxs.c⟩
        have hnm : ∀ y ∈ L ++ [(⟨p.num + 1 + z, x.kind, x.st, x.rd, x.zone, x.safe, x.lk, x.iss, x.hol, x.f, x.u, x.ce⟩ : Dc)], aZ (L ++ [(⟨p.num + 1 + z, x.kind, x.st, x.rd, x.zone, x.safe, x.lk, x.iss, x.hol, x.f, x.u, x.ce⟩ : Dc)]).length y := fun y hy => by
          rw [List.length_append, List.length_singleton]
          rcases List.mem_append.1 hy with hy | hy
          · exact (hLn y hy).up
          · rw [List.mem_singleton.1 hy]
            unfold aZ at hpn ⊢
            dsimp only
            omega
        refine zn rfl rfl (fun g => ?_) (fun g => ?_)
        rotate_left
        · repeat (first | ((with_reducible refine zJ ?_); refine zK rfl ?_) | ((with_reducible refine zF ?_); refine zE rfl ?_) | ((with_reducible refine zQ ?_); refine za tbOk rfl rfl rfl rfl (Nat.le_of_ble_eq_true rfl) ?_) | ((with_reducible refine zW ?_); refine zh rfl (by first | rfl | assumption) rfl ?_) | ((with_reducible refine zl ?_); refine zp tbOk rfl rfl rfl rfl rfl (by omega) rfl rfl rfl ?_) | refine yS (by kernel_rfl) ?_ | refine zB rfl ?_ | refine yB rfl rfl (by first | rfl | assumption) ?_ | refine jA rfl rfl rfl ?_ | with_reducible refine zG ?_ | ((with_reducible refine zA ?_ ?_); kernel_rfl))
          refine yF tbOk rfl rfl rfl rfl rfl (by decide) rfl rfl rfl rfl rfl (fun y hy => by simp at hy; subst hy; rfl) (by simp only [List.length_map, List.length_cons, List.length_nil]; omega) (by simp only [List.length_map, List.length_cons, List.length_nil]; omega) ?_
          repeat (first | ((with_reducible refine zJ ?_); refine zK rfl ?_) | ((with_reducible refine zF ?_); refine zE rfl ?_) | ((with_reducible refine zR ?_); refine yi rfl rfl (by omega) ?_)  | refine zL ?_ | refine zB rfl ?_ | with_reducible (first | refine zG ?_ | refine zo ?_) | ((with_reducible refine zA ?_ ?_); kernel_rfl))
          have hgd : js N V (L ++ [(⟨p.num + 1 + z, x.kind, x.st, x.rd, x.zone, x.safe, x.lk, x.iss, x.hol, x.f, x.u, x.ce⟩ : Dc)]) = false := by
            unfold js
            exact decide_eq_false (fun e => (of_decide_eq_false (hgb.symm.trans g)) ((jr (⟨p.num + 1 + z, x.kind, x.st, x.rd, x.zone, x.safe, x.lk, x.iss, x.hol, x.f, x.u, x.ce⟩ : Dc) L none).1 e).1)
          exact ⟨(m, L ++ [(⟨p.num + 1 + z, x.kind, x.st, x.rd, x.zone, x.safe, x.lk, x.iss, x.hol, x.f, x.u, x.ce⟩ : Dc)], F.next.next), ⟨hF3, by show m ≤ 4; omega, by show (L ++ [(⟨p.num + 1 + z, x.kind, x.st, x.rd, x.zone, x.safe, x.lk, x.iss, x.hol, x.f, x.u, x.ce⟩ : Dc)]).length + m ≤ 4; rw [List.length_append, List.length_singleton]; omega, hsz, hnm⟩, by show m < m + 1; omega, ⟨rfl, rfl, rfl, congrArg (fun b => AV.v (.bool b)) hgd.symm, congrArg (fun z => AV.v (.int .i64 z)) (show ((m + 1 : Nat) : Int) - 1 = ((m : Nat) : Int) by omega), trivial⟩, ⟨rfl, rfl, jk (by rw [List.map_append]; rfl), trivial⟩⟩
        have g' : jU N V none L = 0 := of_decide_eq_true (hgb.symm.trans g)
        repeat (first | ((with_reducible refine zQ ?_); refine za tbOk rfl rfl rfl rfl (Nat.le_of_ble_eq_true rfl) ?_)  | refine zu rfl rfl (by first | rfl | assumption) ?_  )
        refine zC (qk N V ((⟨p.num + 1 + z, x.kind, x.st, x.rd, x.zone, x.safe, x.lk, x.iss, x.hol, x.f, x.u, x.ce⟩ : Dc)) hG ok ⟨hxs.z, hxs.l, hxs.i, hxs.h, hxs.c⟩) ?_
        repeat (first | ((with_reducible refine zJ ?_); refine zK rfl ?_) | ((with_reducible refine zW ?_); refine zi rfl (by first | rfl | assumption) rfl ?_) | ((with_reducible refine zR ?_); refine zS rfl rfl rfl ?_)  | refine zB rfl ?_ | refine zu rfl rfl (by first | rfl | assumption) ?_  )
        refine zn rfl rfl (fun g2 => ?_) (fun g2 => ?_)
        rotate_left
        · have g3 : ¬ docE N V (⟨p.num + 1 + z, x.kind, x.st, x.rd, x.zone, x.safe, x.lk, x.iss, x.hol, x.f, x.u, x.ce⟩ : Dc) = 0 := by simpa using g2
          repeat (first | ((with_reducible refine zJ ?_); refine zK rfl ?_) | ((with_reducible refine zF ?_); refine zE rfl ?_) | ((with_reducible refine zQ ?_); refine za tbOk rfl rfl rfl rfl (Nat.le_of_ble_eq_true rfl) ?_) | ((with_reducible refine zW ?_); refine zh rfl (by first | rfl | assumption) rfl ?_) | ((with_reducible refine zl ?_); refine zp tbOk rfl rfl rfl rfl rfl (by omega) rfl rfl rfl ?_) | refine yS (by kernel_rfl) ?_ | refine zB rfl ?_ | refine yB rfl rfl (by first | rfl | assumption) ?_ | refine jA rfl rfl rfl ?_ | with_reducible refine zG ?_ | ((with_reducible refine zA ?_ ?_); kernel_rfl))
          refine yF tbOk rfl rfl rfl rfl rfl (by decide) rfl rfl rfl rfl rfl (fun y hy => by simp at hy; subst hy; rfl) (by simp only [List.length_map, List.length_cons, List.length_nil]; omega) (by simp only [List.length_map, List.length_cons, List.length_nil]; omega) ?_
          repeat (first | ((with_reducible refine zJ ?_); refine zK rfl ?_) | ((with_reducible refine zF ?_); refine zE rfl ?_) | ((with_reducible refine zR ?_); refine yi rfl rfl (by omega) ?_)  | refine zL ?_ | refine zB rfl ?_ | with_reducible (first | refine zG ?_ | refine zo ?_) | ((with_reducible refine zA ?_ ?_); kernel_rfl))
          have hgd : js N V (L ++ [(⟨p.num + 1 + z, x.kind, x.st, x.rd, x.zone, x.safe, x.lk, x.iss, x.hol, x.f, x.u, x.ce⟩ : Dc)]) = false := by
            unfold js
            exact decide_eq_false (fun e => g3 ((jr (⟨p.num + 1 + z, x.kind, x.st, x.rd, x.zone, x.safe, x.lk, x.iss, x.hol, x.f, x.u, x.ce⟩ : Dc) L none).1 e).2.1)
          exact ⟨(m, L ++ [(⟨p.num + 1 + z, x.kind, x.st, x.rd, x.zone, x.safe, x.lk, x.iss, x.hol, x.f, x.u, x.ce⟩ : Dc)], F.next.next), ⟨hF3, by show m ≤ 4; omega, by show (L ++ [(⟨p.num + 1 + z, x.kind, x.st, x.rd, x.zone, x.safe, x.lk, x.iss, x.hol, x.f, x.u, x.ce⟩ : Dc)]).length + m ≤ 4; rw [List.length_append, List.length_singleton]; omega, hsz, hnm⟩, by show m < m + 1; omega, ⟨rfl, rfl, rfl, congrArg (fun b => AV.v (.bool b)) hgd.symm, congrArg (fun z => AV.v (.int .i64 z)) (show ((m + 1 : Nat) : Int) - 1 = ((m : Nat) : Int) by omega), trivial⟩, ⟨rfl, rfl, jk (by rw [List.map_append]; rfl), trivial⟩⟩
        have g3 : docE N V (⟨p.num + 1 + z, x.kind, x.st, x.rd, x.zone, x.safe, x.lk, x.iss, x.hol, x.f, x.u, x.ce⟩ : Dc) = 0 := by simpa using g2
        repeat (first | ((with_reducible refine zJ ?_); refine zK rfl ?_) | ((with_reducible refine zM ?_); refine zI tbOk rfl rfl rfl rfl ?_) | ((with_reducible refine zQ ?_); refine zO tbOk rfl rfl rfl rfl rfl ?_) | ((with_reducible refine zq ?_); refine jb tbOk rfl rfl rfl rfl ?_) | ((with_reducible refine zR ?_); (first | refine yi rfl rfl (by omega) ?_ | refine zS rfl rfl rfl ?_))  | refine zu rfl rfl (by first | rfl | assumption) ?_ | refine zm rfl rfl (by first | rfl | assumption) ?_  )
        with_reducible refine zY ?_
        refine jE tbOk rfl rfl rfl rfl rfl rfl ⟨by omega, by omega⟩ ?_
        repeat (first | ((with_reducible refine zM ?_); refine aE tbOk rfl rfl rfl rfl ?_)  | refine zm rfl rfl (by first | rfl | assumption) ?_  )
        with_reducible refine zQ ?_
        refine qZ (y := .v (.int .i64 p.num)) tbOk rfl rfl rfl rfl ?_ (by omega) ?_
        · rw [hlx]; exact hln
        repeat (first | ((with_reducible refine zJ ?_); refine zK rfl ?_) | ((with_reducible refine zF ?_); refine zE rfl ?_) | ((with_reducible refine zQ ?_); refine za tbOk rfl rfl rfl rfl (Nat.le_of_ble_eq_true rfl) ?_) | ((with_reducible refine zW ?_); (first | refine zi rfl (by first | rfl | assumption) rfl ?_ | refine zh rfl (by first | rfl | assumption) rfl ?_)) | ((with_reducible refine zR ?_); refine zS rfl rfl rfl ?_) | ((with_reducible refine zl ?_); refine zp tbOk rfl rfl rfl rfl rfl (by omega) rfl rfl rfl ?_) | refine yS (by kernel_rfl) ?_ | refine zB rfl ?_ | refine zu rfl rfl (by first | rfl | assumption) ?_ | refine zm rfl rfl (by first | rfl | assumption) ?_ | with_reducible refine zG ?_ | ((with_reducible refine zA ?_ ?_); kernel_rfl))
        refine yF tbOk rfl rfl rfl rfl rfl (by decide) rfl rfl rfl rfl rfl (fun y hy => by simp at hy; subst hy; rfl) (by simp only [List.length_map, List.length_cons, List.length_nil]; omega) (by simp only [List.length_map, List.length_cons, List.length_nil]; omega) ?_
        repeat (first | ((with_reducible refine zJ ?_); refine zK rfl ?_) | ((with_reducible refine zF ?_); refine zE rfl ?_) | ((with_reducible refine zR ?_); refine yi rfl rfl (by omega) ?_)  | refine zL ?_ | refine zB rfl ?_ | with_reducible (first | refine zG ?_ | refine zo ?_) | ((with_reducible refine zA ?_ ?_); kernel_rfl))
        have hgd : js N V (L ++ [(⟨p.num + 1 + z, x.kind, x.st, x.rd, x.zone, x.safe, x.lk, x.iss, x.hol, x.f, x.u, x.ce⟩ : Dc)]) = decide (p.num < ((⟨p.num + 1 + z, x.kind, x.st, x.rd, x.zone, x.safe, x.lk, x.iss, x.hol, x.f, x.u, x.ce⟩ : Dc)).num) := by
          unfold js
          exact decide_eq_decide.2 ((jr (⟨p.num + 1 + z, x.kind, x.st, x.rd, x.zone, x.safe, x.lk, x.iss, x.hol, x.f, x.u, x.ce⟩ : Dc) L none).trans ⟨fun e => e.2.2 _ hpv, fun e => ⟨g', g3, fun q hq => by rw [hpv] at hq; injection hq with hq; rw [← hq]; exact e⟩⟩)
        exact ⟨(m, L ++ [(⟨p.num + 1 + z, x.kind, x.st, x.rd, x.zone, x.safe, x.lk, x.iss, x.hol, x.f, x.u, x.ce⟩ : Dc)], F.next.next), ⟨hF3, by show m ≤ 4; omega, by show (L ++ [(⟨p.num + 1 + z, x.kind, x.st, x.rd, x.zone, x.safe, x.lk, x.iss, x.hol, x.f, x.u, x.ce⟩ : Dc)]).length + m ≤ 4; rw [List.length_append, List.length_singleton]; omega, hsz, hnm⟩, by show m < m + 1; omega, ⟨rfl, rfl, rfl, congrArg (fun b => AV.v (.bool b)) hgd.symm, congrArg (fun z => AV.v (.int .i64 z)) (show ((m + 1 : Nat) : Int) - 1 = ((m : Nat) : Int) by omega), trivial⟩, ⟨rfl, rfl, jk (by rw [List.map_append]; rfl), trivial⟩⟩
      · have hF1 := hF.next
        have hsz : ∀ y ∈ L ++ [x], DcSz y := fun y hy => by
          rcases List.mem_append.1 hy with hy | hy
          · exact hLs y hy
          · rw [List.mem_singleton.1 hy]; exact hxs
        have hnm : ∀ y ∈ L ++ [x], aZ (L ++ [x]).length y := fun y hy => by
          rw [List.length_append, List.length_singleton]
          rcases List.mem_append.1 hy with hy | hy
          · exact (hLn y hy).up
          · rw [List.mem_singleton.1 hy]
            unfold aZ at hxn ⊢
            omega
        repeat (first | ((with_reducible refine zJ ?_); refine zK rfl ?_)  | refine zB rfl ?_ | with_reducible (first | refine zG ?_ | refine zH ?_ | refine zT ?_) | ((with_reducible refine yO mixd ?_ ?_); kernel_rfl))
        refine zn rfl rfl (fun g => ?_) (fun g => ?_)
        rotate_left
        · repeat (first | ((with_reducible refine zJ ?_); refine zK rfl ?_) | ((with_reducible refine zF ?_); refine zE rfl ?_) | ((with_reducible refine zQ ?_); refine za tbOk rfl rfl rfl rfl (Nat.le_of_ble_eq_true rfl) ?_) | ((with_reducible refine zW ?_); refine zh rfl (by first | rfl | assumption) rfl ?_) | ((with_reducible refine zl ?_); refine zp tbOk rfl rfl rfl rfl rfl (by omega) rfl rfl rfl ?_) | refine yS (by kernel_rfl) ?_ | refine zB rfl ?_ | refine yB rfl rfl (by first | rfl | assumption) ?_ | refine jA rfl rfl rfl ?_ | with_reducible refine zG ?_ | ((with_reducible refine zA ?_ ?_); kernel_rfl))
          refine yF tbOk rfl rfl rfl rfl rfl (by decide) rfl rfl rfl rfl rfl (fun y hy => by simp at hy; subst hy; rfl) (by simp only [List.length_map, List.length_cons, List.length_nil]; omega) (by simp only [List.length_map, List.length_cons, List.length_nil]; omega) ?_
          repeat (first | ((with_reducible refine zJ ?_); refine zK rfl ?_) | ((with_reducible refine zF ?_); refine zE rfl ?_) | ((with_reducible refine zR ?_); refine yi rfl rfl (by omega) ?_)  | refine zL ?_ | refine zB rfl ?_ | with_reducible (first | refine zG ?_ | refine zo ?_) | ((with_reducible refine zA ?_ ?_); kernel_rfl))
          have hgd : js N V (L ++ [x]) = false := by
            unfold js
            exact decide_eq_false (fun e => (of_decide_eq_false (hgb.symm.trans g)) ((jr x L none).1 e).1)
          exact ⟨(m, L ++ [x], F.next), ⟨hF1, by show m ≤ 4; omega, by show (L ++ [x]).length + m ≤ 4; rw [List.length_append, List.length_singleton]; omega, hsz, hnm⟩, by show m < m + 1; omega, ⟨rfl, rfl, rfl, congrArg (fun b => AV.v (.bool b)) hgd.symm, congrArg (fun z => AV.v (.int .i64 z)) (show ((m + 1 : Nat) : Int) - 1 = ((m : Nat) : Int) by omega), trivial⟩, ⟨rfl, rfl, jk (by rw [List.map_append]; rfl), trivial⟩⟩
        have g' : jU N V none L = 0 := of_decide_eq_true (hgb.symm.trans g)
        repeat (first | ((with_reducible refine zQ ?_); refine za tbOk rfl rfl rfl rfl (Nat.le_of_ble_eq_true rfl) ?_)  | refine zu rfl rfl (by first | rfl | assumption) ?_  )
        refine zC (qk N V (x) hG ok hxs) ?_
        repeat (first | ((with_reducible refine zJ ?_); refine zK rfl ?_) | ((with_reducible refine zW ?_); refine zi rfl (by first | rfl | assumption) rfl ?_) | ((with_reducible refine zR ?_); refine zS rfl rfl rfl ?_)  | refine zB rfl ?_ | refine zu rfl rfl (by first | rfl | assumption) ?_  )
        refine zn rfl rfl (fun g2 => ?_) (fun g2 => ?_)
        rotate_left
        · have g3 : ¬ docE N V x = 0 := by simpa using g2
          repeat (first | ((with_reducible refine zJ ?_); refine zK rfl ?_) | ((with_reducible refine zF ?_); refine zE rfl ?_) | ((with_reducible refine zQ ?_); refine za tbOk rfl rfl rfl rfl (Nat.le_of_ble_eq_true rfl) ?_) | ((with_reducible refine zW ?_); refine zh rfl (by first | rfl | assumption) rfl ?_) | ((with_reducible refine zl ?_); refine zp tbOk rfl rfl rfl rfl rfl (by omega) rfl rfl rfl ?_) | refine yS (by kernel_rfl) ?_ | refine zB rfl ?_ | refine yB rfl rfl (by first | rfl | assumption) ?_ | refine jA rfl rfl rfl ?_ | with_reducible refine zG ?_ | ((with_reducible refine zA ?_ ?_); kernel_rfl))
          refine yF tbOk rfl rfl rfl rfl rfl (by decide) rfl rfl rfl rfl rfl (fun y hy => by simp at hy; subst hy; rfl) (by simp only [List.length_map, List.length_cons, List.length_nil]; omega) (by simp only [List.length_map, List.length_cons, List.length_nil]; omega) ?_
          repeat (first | ((with_reducible refine zJ ?_); refine zK rfl ?_) | ((with_reducible refine zF ?_); refine zE rfl ?_) | ((with_reducible refine zR ?_); refine yi rfl rfl (by omega) ?_)  | refine zL ?_ | refine zB rfl ?_ | with_reducible (first | refine zG ?_ | refine zo ?_) | ((with_reducible refine zA ?_ ?_); kernel_rfl))
          have hgd : js N V (L ++ [x]) = false := by
            unfold js
            exact decide_eq_false (fun e => g3 ((jr x L none).1 e).2.1)
          exact ⟨(m, L ++ [x], F.next), ⟨hF1, by show m ≤ 4; omega, by show (L ++ [x]).length + m ≤ 4; rw [List.length_append, List.length_singleton]; omega, hsz, hnm⟩, by show m < m + 1; omega, ⟨rfl, rfl, rfl, congrArg (fun b => AV.v (.bool b)) hgd.symm, congrArg (fun z => AV.v (.int .i64 z)) (show ((m + 1 : Nat) : Int) - 1 = ((m : Nat) : Int) by omega), trivial⟩, ⟨rfl, rfl, jk (by rw [List.map_append]; rfl), trivial⟩⟩
        have g3 : docE N V x = 0 := by simpa using g2
        repeat (first | ((with_reducible refine zJ ?_); refine zK rfl ?_) | ((with_reducible refine zM ?_); refine zI tbOk rfl rfl rfl rfl ?_) | ((with_reducible refine zQ ?_); refine zO tbOk rfl rfl rfl rfl rfl ?_) | ((with_reducible refine zq ?_); refine jb tbOk rfl rfl rfl rfl ?_) | ((with_reducible refine zR ?_); (first | refine yi rfl rfl (by omega) ?_ | refine zS rfl rfl rfl ?_))  | refine zu rfl rfl (by first | rfl | assumption) ?_ | refine zm rfl rfl (by first | rfl | assumption) ?_  )
        with_reducible refine zY ?_
        refine jE tbOk rfl rfl rfl rfl rfl rfl ⟨by omega, by omega⟩ ?_
        repeat (first | ((with_reducible refine zM ?_); refine aE tbOk rfl rfl rfl rfl ?_)  | refine zm rfl rfl (by first | rfl | assumption) ?_  )
        with_reducible refine zQ ?_
        refine qZ (y := .v (.int .i64 p.num)) tbOk rfl rfl rfl rfl ?_ (by omega) ?_
        · rw [hlx]; exact hln
        repeat (first | ((with_reducible refine zJ ?_); refine zK rfl ?_) | ((with_reducible refine zF ?_); refine zE rfl ?_) | ((with_reducible refine zQ ?_); refine za tbOk rfl rfl rfl rfl (Nat.le_of_ble_eq_true rfl) ?_) | ((with_reducible refine zW ?_); (first | refine zi rfl (by first | rfl | assumption) rfl ?_ | refine zh rfl (by first | rfl | assumption) rfl ?_)) | ((with_reducible refine zR ?_); refine zS rfl rfl rfl ?_) | ((with_reducible refine zl ?_); refine zp tbOk rfl rfl rfl rfl rfl (by omega) rfl rfl rfl ?_) | refine yS (by kernel_rfl) ?_ | refine zB rfl ?_ | refine zu rfl rfl (by first | rfl | assumption) ?_ | refine zm rfl rfl (by first | rfl | assumption) ?_ | with_reducible refine zG ?_ | ((with_reducible refine zA ?_ ?_); kernel_rfl))
        refine yF tbOk rfl rfl rfl rfl rfl (by decide) rfl rfl rfl rfl rfl (fun y hy => by simp at hy; subst hy; rfl) (by simp only [List.length_map, List.length_cons, List.length_nil]; omega) (by simp only [List.length_map, List.length_cons, List.length_nil]; omega) ?_
        repeat (first | ((with_reducible refine zJ ?_); refine zK rfl ?_) | ((with_reducible refine zF ?_); refine zE rfl ?_) | ((with_reducible refine zR ?_); refine yi rfl rfl (by omega) ?_)  | refine zL ?_ | refine zB rfl ?_ | with_reducible (first | refine zG ?_ | refine zo ?_) | ((with_reducible refine zA ?_ ?_); kernel_rfl))
        have hgd : js N V (L ++ [x]) = decide (p.num < (x).num) := by
          unfold js
          exact decide_eq_decide.2 ((jr x L none).trans ⟨fun e => e.2.2 _ hpv, fun e => ⟨g', g3, fun q hq => by rw [hpv] at hq; injection hq with hq; rw [← hq]; exact e⟩⟩)
        exact ⟨(m, L ++ [x], F.next), ⟨hF1, by show m ≤ 4; omega, by show (L ++ [x]).length + m ≤ 4; rw [List.length_append, List.length_singleton]; omega, hsz, hnm⟩, by show m < m + 1; omega, ⟨rfl, rfl, rfl, congrArg (fun b => AV.v (.bool b)) hgd.symm, congrArg (fun z => AV.v (.int .i64 z)) (show ((m + 1 : Nat) : Int) - 1 = ((m : Nat) : Int) by omega), trivial⟩, ⟨rfl, rfl, jk (by rw [List.map_append]; rfl), trivial⟩⟩
  obtain rfl : m = 0 := by simp at c; omega
  clear c
  have hL4 : L.length ≤ 4 := by omega
  have h4m : (4 : Nat) ≤ maxLen := by unfold maxLen; omega
  have hda := xW (G := X.G) N V L hG ok (by omega) hLs
  have hde : iG N V L = jU N V none L := by unfold iG; rw [if_neg (by simpa using hnet), if_neg (by omega)]
  rw [hde] at hda
  have hpm : (L.map Dc.av).length = L.length := by simp
  have hf9 := gH (G := X.G) L 9999 (by omega)
  rw [lG 0 (fun x hx => by have := hLn x hx; unfold aZ at this; omega)] at hf9
  have hat : ∀ (i : Nat) (x : Dc), js N V L = true → L[i]? = some x → qO x.num 0 L = (i : Int) := fun i x g hx => by
    rw [sK 0 (nH (of_decide_eq_true g)).2 hx]; omega
  obtain ⟨e, he⟩ : ∃ e, e = jU N V none L := ⟨_, rfl⟩
  have hge : js N V L = (e == 0) := by unfold js; rw [he]; rfl
  rw [← he] at hda
  obtain ⟨gb, hgb⟩ : ∃ gb, gb = js N V L := ⟨_, rfl⟩
  rw [← hgb] at hge hat ⊢
  clear he hgb
  repeat (first    | with_reducible (first | refine zG ?_ | refine zj ?_ | refine zH ?_ | refine zz ?_) | ((with_reducible refine zg ?_ ?_); rfl))
  refine rX (t := 6) (s := 83) rfl rfl ?_
  repeat (first | ((with_reducible refine zJ ?_); refine zK rfl ?_) | ((with_reducible refine zQ ?_); refine za tbOk rfl rfl rfl rfl (Nat.le_of_ble_eq_true rfl) ?_)  | refine zB rfl ?_  | ((with_reducible refine zA ?_ ?_); kernel_rfl))
  refine zC (hda) ?_
  repeat (first | ((with_reducible refine zJ ?_); refine zK rfl ?_) | ((with_reducible refine zR ?_); (first | refine zS rfl rfl rfl ?_ | refine mB (by exact Tryz.underlying4) rfl rfl ?_))  | refine zL ?_ | refine zB rfl ?_ | with_reducible refine zG ?_ )
  refine zX rfl (fun c => ?_) (fun c => ?_)
  · exfalso
    rw [hge] at c
    simp at c
  clear c hge
  repeat (first | ((with_reducible refine zJ ?_); refine zK rfl ?_) | ((with_reducible refine zq ?_); refine yI tbOk rfl rfl ?_)  | refine zL ?_ | refine zB rfl ?_ | with_reducible (first | refine zG ?_ | refine zH ?_ | refine zV ?_ | refine zT ?_) | ((with_reducible refine zA ?_ ?_); kernel_rfl))
  refine yJ (ι := Nat) (fun i => i ≤ L.length) (fun i => L.length - i) (fun v i => [(6, .sl 12 (L.map Dc.av)), (7, .v (.bool gb)), (90, .sl 12 (L.map Dc.av)), (91, .v (.int .i64 (L.map Dc.av).length)), (92, .v (.int .i64 (i : Nat)))]) (fun v i => []) ?_ ?_
  · exact ⟨0, Nat.zero_le _, trivial, ⟨rfl, rfl, rfl, rfl, rfl, trivial⟩, trivial⟩
  clear v
  rintro v i hi
  repeat (first | ((with_reducible refine zR ?_); refine zS rfl rfl rfl ?_)  | refine zL ?_ | refine zB rfl ?_ | with_reducible (first | refine zG ?_ | refine zH ?_) | ((with_reducible refine zA ?_ ?_); kernel_rfl))
  refine zX rfl (fun c => ?_) (fun c => ?_)
  · have hlt : i < L.length := by simp at c; omega
    obtain ⟨x, hx⟩ := zc hlt
    have hy := dJ hx
    have hfx := gH (G := X.G) L x.num (by omega)
    have hii : (((i : Nat) : Int) != ((i : Nat) : Int)) = false := by simp
    have hii2 : (!decide (((i : Nat) : Int) = ((i : Nat) : Int))) = false := by simp
    repeat (first | ((with_reducible refine zJ ?_); refine zK rfl ?_) | ((with_reducible refine zF ?_); refine zE rfl ?_) | ((with_reducible refine zQ ?_); refine yK tbOk rfl rfl (Nat.le_of_ble_eq_true rfl) ?_) | ((with_reducible refine yD ?_); refine yE tbOk rfl rfl rfl rfl rfl rfl rfl (Nat.le_of_ble_eq_true rfl) rfl ?_) | ((with_reducible refine yc ?_); refine ya tbOk rfl rfl ?_) | ((with_reducible refine zY ?_); refine zZ tbOk rfl rfl rfl rfl (by assumption) ?_)  | refine zL ?_ | refine zB rfl ?_ | with_reducible (first | refine zG ?_ | refine zH ?_ | refine zV ?_ | refine zT ?_) | ((with_reducible refine zA ?_ ?_); kernel_rfl))
    refine zn rfl rfl (fun g => ?_) (fun g => ?_)
    · rw [hat i x g hx] at hfx
      repeat (first | ((with_reducible refine zJ ?_); refine zK rfl ?_) | ((with_reducible refine zM ?_); refine zI tbOk rfl rfl rfl rfl ?_) | ((with_reducible refine zQ ?_); refine zO tbOk rfl rfl rfl rfl rfl ?_)  | refine zu rfl rfl (by first | rfl | assumption) ?_  )
      refine zC (hfx) ?_
      repeat (first | ((with_reducible refine zJ ?_); refine zK rfl ?_) | ((with_reducible refine zW ?_); refine zi rfl (by first | rfl | assumption) rfl ?_) | ((with_reducible refine zR ?_); (first | refine zk rfl rfl (by omega) ?_ | refine zS rfl rfl rfl ?_))  | refine zL ?_ | refine zB rfl ?_ | refine zu rfl rfl (by first | rfl | assumption) ?_ | with_reducible (first | refine zG ?_ | refine zo ?_ | refine zT ?_) | ((with_reducible refine zA ?_ ?_); kernel_rfl) | refine yH rfl (by first | rfl | assumption) ?_)
      exact ⟨i + 1, by omega, by omega, ⟨rfl, rfl, rfl, rfl, rfl, trivial⟩, trivial⟩
    · repeat (first | ((with_reducible refine zJ ?_); refine zK rfl ?_) | ((with_reducible refine zW ?_); refine zh rfl (by first | rfl | assumption) rfl ?_) | ((with_reducible refine zR ?_); refine zk rfl rfl (by omega) ?_)  | refine zL ?_ | refine zB rfl ?_ | refine yB rfl rfl (by first | rfl | assumption) ?_ | with_reducible (first | refine zG ?_ | refine zo ?_ | refine zT ?_) | ((with_reducible refine zA ?_ ?_); kernel_rfl) | refine yH rfl (by first | rfl | assumption) ?_)
      exact ⟨i + 1, by omega, by omega, ⟨rfl, rfl, rfl, rfl, rfl, trivial⟩, trivial⟩
  repeat (first | ((with_reducible refine zJ ?_); refine zK rfl ?_)  | refine zB rfl ?_ | with_reducible (first | refine zG ?_ | refine zj ?_ | refine zH ?_ | refine zz ?_) | ((with_reducible refine zg ?_ ?_); rfl) | ((with_reducible refine zA ?_ ?_); kernel_rfl))
  refine zC (hf9) ?_
  repeat (first | ((with_reducible refine zF ?_); refine zE rfl ?_) | ((with_reducible refine zR ?_); refine zS rfl rfl rfl ?_)  | refine zL ?_ | refine zB rfl ?_ | with_reducible (first | refine zG ?_ | refine zN ?_) )
  refine ze (by first | exact .inr rfl | exact .inl rfl) rfl rfl ?_
  rfl
end Go.Proofs.YtjamibeffalhaaaGreatDoor
