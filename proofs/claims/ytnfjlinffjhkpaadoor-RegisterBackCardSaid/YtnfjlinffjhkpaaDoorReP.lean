/- Registers as sorted lists: plain law of adding and removing; nothing of the program's walk stands here. -/
import Derived.Test.YtnfjlinffjhkpaaDoorReB
import Derived.Test.YtnfjlinffjhkpaaDoorOrdP
set_option linter.unusedVariables false
set_option linter.unusedSimpArgs false
namespace Go.Proofs.YtnfjlinffjhkpaaDoor
open Go Go.RowKit
def StrR (L : List Per) : Prop := L.Pairwise fun a b => strLt a.n b.n = true
def NeqN (L : List Per) : Prop := L.Pairwise fun a b => a.n ≠ b.n
def VL (L : List Per) : Prop := L.length ≤ 64 ∧ (∀ p ∈ L, pvalidE p = 0) ∧ StrR L
theorem pgo_zero {E : Per → Int} : ∀ (L : List Per) (q : Option Per), pgoE E q L = 0 ↔ (∀ p ∈ L, E p = 0) ∧ StrR L ∧ ∀ x, q = some x → ∀ p ∈ L, strLt x.n p.n = true
  | [], q => by simp [pgoE, StrR]
  | p :: r, q => by
    have ih := pgo_zero (E := E) r (some p)
    constructor
    · intro h
      unfold pgoE at h
      split at h
      · rename_i h1; exact absurd h h1
      · rename_i h1
        have h1' : E p = 0 := by simpa using h1
        have h' : pgoE E (some p) r = 0 ∧ ∀ x, q = some x → strLt x.n p.n = true := by
          cases q with
          | none => exact ⟨by simpa using h, fun x hx => by cases hx⟩
          | some x =>
            cases hl : less x p with
            | false => simp [hl] at h
            | true =>
              simp [hl] at h
              exact ⟨h, fun y hy => by cases hy; rw [less_lt]; exact hl⟩
        obtain ⟨i1, i2, i3⟩ := ih.1 h'.1
        have i3' := i3 p rfl
        refine ⟨fun x hx => (List.mem_cons.1 hx).elim (fun e => e ▸ h1') (i1 x), List.Pairwise.cons i3' i2, fun x hx y hy => ?_⟩
        have hxp := h'.2 x hx
        rcases List.mem_cons.1 hy with rfl | hy
        · exact hxp
        · exact strLt_ord.tr _ _ _ hxp (i3' y hy)
    · rintro ⟨h1, h2, h3⟩
      cases h2 with
      | cons h4 h5 =>
        unfold pgoE
        rw [if_neg (by simp [h1 p (by simp)])]
        have hr := ih.2 ⟨fun x hx => h1 x (by simp [hx]), h5, fun x hx y hy => by cases hx; exact h4 y hy⟩
        cases q with
        | none => simpa using hr
        | some x =>
          have := h3 x rfl p (by simp)
          rw [less_lt] at this
          simp [this, hr]
theorem check_iff (L : List Per) : pcheckE pvalidE L = 0 ↔ VL L := by
  unfold pcheckE VL
  split
  · rename_i h
    constructor
    · intro h2; cases h2
    · rintro ⟨h2, _⟩; omega
  · rename_i h
    rw [pgo_zero]
    constructor
    · rintro ⟨h1, h2, _⟩; exact ⟨by omega, h1, h2⟩
    · rintro ⟨h0, h1, h2⟩; exact ⟨h1, h2, fun x hx => by cases hx⟩
theorem str_uniq : ∀ {A B : List Per}, StrR A → StrR B → (∀ x, x ∈ A ↔ x ∈ B) → A = B
  | [], [], _, _, _ => rfl
  | [], b :: B, _, _, h => absurd ((h b).2 (by simp)) (by simp)
  | a :: A, [], _, _, h => absurd ((h a).1 (by simp)) (by simp)
  | a :: A, b :: B, hA, hB, h => by
    cases hA with
    | cons ha hA =>
      cases hB with
      | cons hb hB =>
        have e : a = b := by
          rcases List.mem_cons.1 ((h a).1 (by simp)) with e | e
          · exact e
          · rcases List.mem_cons.1 ((h b).2 (by simp)) with e2 | e2
            · exact e2.symm
            · have := strLt_ord.asymm (hb a e)
              rw [ha b e2] at this
              cases this
        subst e
        refine congrArg (a :: ·) (str_uniq hA hB fun x => ?_)
        constructor
        · intro hx
          rcases List.mem_cons.1 ((h x).1 (by simp [hx])) with e | e
          · subst e
            have := ha x hx
            rw [strLt_ord.irr] at this
            cases this
          · exact e
        · intro hx
          rcases List.mem_cons.1 ((h x).2 (by simp [hx])) with e | e
          · subst e
            have := hb x hx
            rw [strLt_ord.irr] at this
            cases this
          · exact e
theorem ltP_swo : SwoB ltP := ⟨fun x y h => by
  rw [ltP_eq] at h ⊢
  exact strLt_ord.asymm h, fun x y z h => by
  rw [ltP_eq] at h
  rw [ltP_eq, ltP_eq]
  cases h1 : strLt x.n y.n with
  | true => exact .inl rfl
  | false =>
    refine .inr ?_
    cases h2 : strLt y.n x.n with
    | true => exact strLt_ord.tr _ _ _ h2 h
    | false =>
      have := strLt_ord.tot _ _ h1 h2
      rw [← this]; exact h⟩
theorem str_neq {L : List Per} (h : StrR L) : NeqN L := h.imp fun {a b} hab e => by
  rw [e, strLt_ord.irr] at hab
  cases hab
theorem neq_perm {A B : List Per} (h : A.Perm B) (hB : NeqN B) : NeqN A := (List.Perm.pairwise_iff (R := fun a b : Per => a.n ≠ b.n) (fun {x y} hxy => Ne.symm hxy) h).2 hB
theorem isort_str {L : List Per} (h : NeqN L) : StrR (isort ltP L) := by
  have hs := isort_sorted ltP_swo L
  have hn := neq_perm (isort_perm (lt := ltP) L) h
  unfold StrR
  rw [List.pairwise_iff_getElem]
  intro i j hi hj hij
  have h1 := hs i j _ _ hij (by rw [isort_len] at hj; exact hj) (List.getElem?_eq_getElem hi) (List.getElem?_eq_getElem hj)
  have h2 := (List.pairwise_iff_getElem.1 hn) i j hi hj hij
  rw [ltP_eq] at h1
  cases h3 : strLt ((isort ltP L)[i]).n ((isort ltP L)[j]).n with
  | true => rfl
  | false => exact absurd (strLt_ord.tot _ _ h3 h1) h2
theorem name_iff {nm : ByteArray} {p : Per} : nameIs nm p = true ↔ p.n = nm := by
  unfold nameIs
  exact strEq_iff
theorem idx_none {nm : ByteArray} : ∀ {L : List Per} (k : Nat), (∀ x ∈ L, x.n ≠ nm) → idxP nm L k = -1
  | [], k, _ => rfl
  | p :: r, k, h => by
    unfold idxP
    rw [if_neg (fun e => h p (by simp) (name_iff.1 e))]
    exact idx_none (k + 1) fun x hx => h x (by simp [hx])
theorem idx_some {nm : ByteArray} : ∀ {L : List Per} (k : Nat), (∃ x ∈ L, x.n = nm) → ∃ j x, idxP nm L k = ((k + j : Nat) : Int) ∧ L[j]? = some x ∧ x.n = nm
  | [], k, ⟨x, hx, _⟩ => absurd hx (by simp)
  | p :: r, k, ⟨x, hx, hn⟩ => by
    unfold idxP
    by_cases hp : nameIs nm p = true
    · rw [if_pos hp]
      exact ⟨0, p, rfl, rfl, name_iff.1 hp⟩
    · rw [if_neg hp]
      have hx' : x ∈ r := by
        rcases List.mem_cons.1 hx with rfl | h
        · exact absurd (name_iff.2 hn) hp
        · exact h
      obtain ⟨j, y, h1, h2, h3⟩ := idx_some (k + 1) ⟨x, hx', hn⟩
      exact ⟨j + 1, y, by rw [h1]; congr 1; omega, by simpa using h2, h3⟩
/-- The register with a person more. -/
theorem addK_new {R : List Per} {p : Per} (hR : VL R) (hp : pvalidE p = 0) (hl : R.length < 64) (hn : ∀ x ∈ R, x.n ≠ p.n) :
    addK R p = (isort ltP (R ++ [p]), 0) ∧ VL (isort ltP (R ++ [p])) ∧ ∀ x, x ∈ isort ltP (R ++ [p]) ↔ x ∈ R ∨ x = p := by
  have hc := (check_iff R).2 hR
  have hm : ∀ x, x ∈ isort ltP (R ++ [p]) ↔ x ∈ R ∨ x = p := fun x => by
    rw [(isort_perm (lt := ltP) (R ++ [p])).mem_iff]
    simp
  refine ⟨?_, ⟨by rw [isort_len]; simp; omega, fun x hx => ?_, isort_str ?_⟩, hm⟩
  · unfold addK
    rw [if_neg (by simp [hc]), if_neg (by simp [hp]), if_neg (by rw [idx_none 0 hn]; decide), if_neg (by omega)]
  · rcases (hm x).1 hx with h | rfl
    · exact hR.2.1 x h
    · exact hp
  · unfold NeqN
    rw [List.pairwise_append]
    exact ⟨str_neq hR.2.2, List.pairwise_singleton _ _, fun a ha b hb => by simp at hb; subst hb; exact hn a ha⟩
theorem addK_old {R : List Per} {p : Per} (hR : VL R) (hp : pvalidE p = 0) (hn : ∃ x ∈ R, x.n = p.n) : addK R p = ([], 4) := by
  have hc := (check_iff R).2 hR
  obtain ⟨j, x, h1, -⟩ := idx_some 0 hn
  unfold addK
  rw [if_neg (by simp [hc]), if_neg (by simp [hp]), if_pos (by rw [h1]; omega)]
theorem mem_name {A : List Per} (h : StrR A) {x y : Per} (hx : x ∈ A) (hy : y ∈ A) (e : x.n = y.n) : x = y := by
  have hn := str_neq h
  obtain ⟨i, hi, rfl⟩ := List.getElem_of_mem hx
  obtain ⟨j, hj, rfl⟩ := List.getElem_of_mem hy
  rcases Nat.lt_trichotomy i j with h1 | h1 | h1
  · exact absurd e (List.pairwise_iff_getElem.1 hn i j hi hj h1)
  · subst h1; rfl
  · exact absurd e.symm (List.pairwise_iff_getElem.1 hn j i hj hi h1)
theorem remove_back {R A : List Per} {p : Per} (hR : VL R) (hA : VL A) (hm : ∀ x, x ∈ A ↔ x ∈ R ∨ x = p) (hn : ∀ x ∈ R, x.n ≠ p.n) : removeK A p.n = (R, 0) := by
  have hc := (check_iff A).2 hA
  have hpA : p ∈ A := (hm p).2 (.inr rfl)
  obtain ⟨j, x, h1, h2, h3⟩ := idx_some (L := A) (nm := p.n) 0 ⟨p, hpA, rfl⟩
  have hxp : x = p := mem_name hA.2.2 (List.mem_of_getElem? h2) hpA h3
  subst hxp
  have hj := lt_at h2
  unfold removeK
  rw [if_neg (by simp [hc]), h1, if_neg (by omega), Nat.zero_add, Int.toNat_natCast]
  have hsplit : A = A.take j ++ x :: A.drop (j + 1) := by
    conv => lhs; rw [← List.take_append_drop j A]
    rw [drop_at h2]
  have hpw : StrR (A.take j ++ x :: A.drop (j + 1)) := hsplit ▸ hA.2.2
  have hsub : StrR (A.take j ++ A.drop (j + 1)) := List.Pairwise.sublist (List.Sublist.append_left (List.sublist_cons_self x _) _) hpw
  have hnx : ∀ y ∈ A.take j ++ A.drop (j + 1), y ≠ x := fun y hy e => by
    subst e
    unfold StrR at hpw
    rw [List.pairwise_append] at hpw
    rcases List.mem_append.1 hy with h | h
    · have := hpw.2.2 y h y (by simp)
      rw [strLt_ord.irr] at this
      cases this
    · have := (List.pairwise_cons.1 hpw.2.1).1 y h
      rw [strLt_ord.irr] at this
      cases this
  refine congrArg (fun q => (q, (0 : Int))) (str_uniq hsub hR.2.2 fun y => ?_)
  constructor
  · intro hy
    have hyA : y ∈ A := by
      rw [hsplit]
      rcases List.mem_append.1 hy with h | h
      · exact List.mem_append.2 (.inl h)
      · exact List.mem_append.2 (.inr (by simp [h]))
    exact ((hm y).1 hyA).resolve_right (hnx y hy)
  · intro hy
    have hyA := (hm y).2 (.inl hy)
    rw [hsplit] at hyA
    rcases List.mem_append.1 hyA with h | h
    · exact List.mem_append.2 (.inl h)
    · rcases List.mem_cons.1 h with rfl | h
      · exact absurd rfl (hn y hy)
      · exact List.mem_append.2 (.inr h)
end Go.Proofs.YtnfjlinffjhkpaaDoor
