/- Registers as sorted lists: plain law of adding and removing; nothing of the program's walk stands here / The registers that a deck gives are valid, and what RegisterBack's questions answer; nothing of the program's walk stands here / Adding to a register, by plain functions: the program's sorting and the reference's insertion give the same register; conditions: none / Networks, by plain functions: what network.Check says; nothing of the program stands here. -/
import Derived.Test.YtggagmafkdhjcaaGreatDoorReB
import Derived.Test.YtggagmafkdhjcaaGreatDoorAbsY
import Derived.Test.YtggagmafkdhjcaaGreatDoorReM
import Derived.Test.YtggagmafkdhjcaaGreatDoorLexP
set_option linter.unusedVariables false
set_option linter.unusedSimpArgs false
namespace Go.Proofs.YtggagmafkdhjcaaGreatDoor
open Go Go.RowKit
def StrR (L : List Per) : Prop := L.Pairwise fun a b => strLt a.n b.n = true
def NeqN (L : List Per) : Prop := L.Pairwise fun a b => a.n ≠ b.n
def VL (L : List Per) : Prop := L.length ≤ 64 ∧ (∀ p ∈ L, pvalidE p = 0) ∧ StrR L
theorem pgo_zero {E : Per → Int} : ∀ (L : List Per) (q : Option Per), pgoE E q L = 0 ↔ (∀ p ∈ L, E p = 0) ∧ StrR L ∧ ∀ x, q = some x → ∀ p ∈ L, strLt x.n p.n = true
  | [], q => by simp [pgoE, StrR]
  | p :: r, q => by
    have ih := pgo_zero (E := E) r (some p)
    constructor
    · intro h
      unfold pgoE at h
      split at h
      · rename_i h1; exact absurd h h1
      · rename_i h1
        have h1' : E p = 0 := by simpa using h1
        have h' : pgoE E (some p) r = 0 ∧ ∀ x, q = some x → strLt x.n p.n = true := by
          cases q with
          | none => exact ⟨by simpa using h, fun x hx => by cases hx⟩
          | some x =>
            cases hl : less x p with
            | false => simp [hl] at h
            | true =>
              simp [hl] at h
              exact ⟨h, fun y hy => by cases hy; rw [less_lt]; exact hl⟩
        obtain ⟨i1, i2, i3⟩ := ih.1 h'.1
        have i3' := i3 p rfl
        refine ⟨fun x hx => (List.mem_cons.1 hx).elim (fun e => e ▸ h1') (i1 x), List.Pairwise.cons i3' i2, fun x hx y hy => ?_⟩
        have hxp := h'.2 x hx
        rcases List.mem_cons.1 hy with rfl | hy
        · exact hxp
        · exact strLt_ord.tr _ _ _ hxp (i3' y hy)
    · rintro ⟨h1, h2, h3⟩
      cases h2 with
      | cons h4 h5 =>
        unfold pgoE
        rw [if_neg (by simp [h1 p (by simp)])]
        have hr := ih.2 ⟨fun x hx => h1 x (by simp [hx]), h5, fun x hx y hy => by cases hx; exact h4 y hy⟩
        cases q with
        | none => simpa using hr
        | some x =>
          have := h3 x rfl p (by simp)
          rw [less_lt] at this
          simp [this, hr]
theorem check_iff (L : List Per) : pcheckE pvalidE L = 0 ↔ VL L := by
  unfold pcheckE VL
  split
  · rename_i h
    constructor
    · intro h2; cases h2
    · rintro ⟨h2, _⟩; omega
  · rename_i h
    rw [pgo_zero]
    constructor
    · rintro ⟨h1, h2, _⟩; exact ⟨by omega, h1, h2⟩
    · rintro ⟨h0, h1, h2⟩; exact ⟨h1, h2, fun x hx => by cases hx⟩
theorem str_uniq : ∀ {A B : List Per}, StrR A → StrR B → (∀ x, x ∈ A ↔ x ∈ B) → A = B
  | [], [], _, _, _ => rfl
  | [], b :: B, _, _, h => absurd ((h b).2 (by simp)) (by simp)
  | a :: A, [], _, _, h => absurd ((h a).1 (by simp)) (by simp)
  | a :: A, b :: B, hA, hB, h => by
    cases hA with
    | cons ha hA =>
      cases hB with
      | cons hb hB =>
        have e : a = b := by
          rcases List.mem_cons.1 ((h a).1 (by simp)) with e | e
          · exact e
          · rcases List.mem_cons.1 ((h b).2 (by simp)) with e2 | e2
            · exact e2.symm
            · have := strLt_ord.asymm (hb a e)
              rw [ha b e2] at this
              cases this
        subst e
        refine congrArg (a :: ·) (str_uniq hA hB fun x => ?_)
        constructor
        · intro hx
          rcases List.mem_cons.1 ((h x).1 (by simp [hx])) with e | e
          · subst e
            have := ha x hx
            rw [strLt_ord.irr] at this
            cases this
          · exact e
        · intro hx
          rcases List.mem_cons.1 ((h x).2 (by simp [hx])) with e | e
          · subst e
            have := hb x hx
            rw [strLt_ord.irr] at this
            cases this
          · exact e
theorem ltP_swo : SwoB ltP := ⟨fun x y h => by
  rw [ltP_eq] at h ⊢
  exact strLt_ord.asymm h, fun x y z h => by
  rw [ltP_eq] at h
  rw [ltP_eq, ltP_eq]
  cases h1 : strLt x.n y.n with
  | true => exact .inl rfl
  | false =>
    refine .inr ?_
    cases h2 : strLt y.n x.n with
    | true => exact strLt_ord.tr _ _ _ h2 h
    | false =>
      have := strLt_ord.tot _ _ h1 h2
      rw [← this]; exact h⟩
theorem str_neq {L : List Per} (h : StrR L) : NeqN L := h.imp fun {a b} hab e => by
  rw [e, strLt_ord.irr] at hab
  cases hab
theorem neq_perm {A B : List Per} (h : A.Perm B) (hB : NeqN B) : NeqN A := (List.Perm.pairwise_iff (R := fun a b : Per => a.n ≠ b.n) (fun {x y} hxy => Ne.symm hxy) h).2 hB
theorem isort_str {L : List Per} (h : NeqN L) : StrR (isort ltP L) := by
  have hs := isort_sorted ltP_swo L
  have hn := neq_perm (isort_perm (lt := ltP) L) h
  unfold StrR
  rw [List.pairwise_iff_getElem]
  intro i j hi hj hij
  have h1 := hs i j _ _ hij (by rw [isort_len] at hj; exact hj) (List.getElem?_eq_getElem hi) (List.getElem?_eq_getElem hj)
  have h2 := (List.pairwise_iff_getElem.1 hn) i j hi hj hij
  rw [ltP_eq] at h1
  cases h3 : strLt ((isort ltP L)[i]).n ((isort ltP L)[j]).n with
  | true => rfl
  | false => exact absurd (strLt_ord.tot _ _ h3 h1) h2
theorem name_iff {nm : ByteArray} {p : Per} : nameIs nm p = true ↔ p.n = nm := by
  unfold nameIs
  exact strEq_iff
theorem pidx_none {nm : ByteArray} : ∀ {L : List Per} (k : Nat), (∀ x ∈ L, x.n ≠ nm) → idxP nm L k = -1
  | [], k, _ => rfl
  | p :: r, k, h => by
    unfold idxP
    rw [if_neg (fun e => h p (by simp) (name_iff.1 e))]
    exact pidx_none (k + 1) fun x hx => h x (by simp [hx])
theorem pidx_some {nm : ByteArray} : ∀ {L : List Per} (k : Nat), (∃ x ∈ L, x.n = nm) → ∃ j x, idxP nm L k = ((k + j : Nat) : Int) ∧ L[j]? = some x ∧ x.n = nm
  | [], k, ⟨x, hx, _⟩ => absurd hx (by simp)
  | p :: r, k, ⟨x, hx, hn⟩ => by
    unfold idxP
    by_cases hp : nameIs nm p = true
    · rw [if_pos hp]
      exact ⟨0, p, rfl, rfl, name_iff.1 hp⟩
    · rw [if_neg hp]
      have hx' : x ∈ r := by
        rcases List.mem_cons.1 hx with rfl | h
        · exact absurd (name_iff.2 hn) hp
        · exact h
      obtain ⟨j, y, h1, h2, h3⟩ := pidx_some (k + 1) ⟨x, hx', hn⟩
      exact ⟨j + 1, y, by rw [h1]; congr 1; omega, by simpa using h2, h3⟩
/-- The register with a person more. -/
theorem addK_new {R : List Per} {p : Per} (hR : VL R) (hp : pvalidE p = 0) (hl : R.length < 64) (hn : ∀ x ∈ R, x.n ≠ p.n) :
    addK R p = (isort ltP (R ++ [p]), 0) ∧ VL (isort ltP (R ++ [p])) ∧ ∀ x, x ∈ isort ltP (R ++ [p]) ↔ x ∈ R ∨ x = p := by
  have hc := (check_iff R).2 hR
  have hm : ∀ x, x ∈ isort ltP (R ++ [p]) ↔ x ∈ R ∨ x = p := fun x => by
    rw [(isort_perm (lt := ltP) (R ++ [p])).mem_iff]
    simp
  refine ⟨?_, ⟨by rw [isort_len]; simp; omega, fun x hx => ?_, isort_str ?_⟩, hm⟩
  · unfold addK
    rw [if_neg (by simp [hc]), if_neg (by simp [hp]), if_neg (by rw [pidx_none 0 hn]; decide), if_neg (by omega)]
  · rcases (hm x).1 hx with h | rfl
    · exact hR.2.1 x h
    · exact hp
  · unfold NeqN
    rw [List.pairwise_append]
    exact ⟨str_neq hR.2.2, List.pairwise_singleton _ _, fun a ha b hb => by simp at hb; subst hb; exact hn a ha⟩
theorem mem_name {A : List Per} (h : StrR A) {x y : Per} (hx : x ∈ A) (hy : y ∈ A) (e : x.n = y.n) : x = y := by
  have hn := str_neq h
  obtain ⟨i, hi, rfl⟩ := List.getElem_of_mem hx
  obtain ⟨j, hj, rfl⟩ := List.getElem_of_mem hy
  rcases Nat.lt_trichotomy i j with h1 | h1 | h1
  · exact absurd e (List.pairwise_iff_getElem.1 hn i j hi hj h1)
  · subst h1; rfl
  · exact absurd e.symm (List.pairwise_iff_getElem.1 hn j i hj hi h1)
end Go.Proofs.YtggagmafkdhjcaaGreatDoor
namespace Go.Proofs.YtggagmafkdhjcaaGreatDoor
open Go Go.RowKit
theorem name12 : ∀ k : Fin 12, nameB (mkName ⟨#[80]⟩ (k.val : Int)).data.toList = true := by decide +kernel
theorem perOf_valid (D : Dk) : pvalidE (perOf D) = 0 ∧ 0 ≤ (perOf D).s ∧ (perOf D).s ≤ 31 ∧ (perOf D).f < (perOf D).u := by
  have a := D.val_range (n := 2000) (by omega)
  have b := D.next.val_range (n := 12) (by omega)
  have c := D.next.next.val_range (n := 3) (by omega)
  have d := D.next.next.next.val_range (n := 32) (by omega)
  have e := D.next.next.next.next.val_range (n := 1500) (by omega)
  have a2 := a.2.1 (by omega)
  have b2 := b.2.1 (by omega)
  have c2 := c.2.1 (by omega)
  have d2 := d.2.1 (by omega)
  have e2 := e.2.1 (by omega)
  have hn := name12 ⟨(D.next.val 12).toNat, by omega⟩
  rw [show (((⟨(D.next.val 12).toNat, by omega⟩ : Fin 12).val : Nat) : Int) = D.next.val 12 by show (((D.next.val 12).toNat : Nat) : Int) = _; omega] at hn
  have hs : I64 (perOf D).s := by unfold I64 perOf; simp only; omega
  refine ⟨?_, by unfold perOf; simp only; omega, by unfold perOf; simp only; omega, by unfold perOf; simp only; omega⟩
  rw [pvalid_eq _ hs]
  unfold pfaultE
  rw [if_neg (by unfold perOf; simp only; rw [hn]; decide), if_neg (by unfold perOf; simp only; omega), if_pos]
  unfold spanB perOf
  simp only [Bool.and_eq_true, decide_eq_true_eq]
  omega
theorem str_ins {p : Per} : ∀ {L : List Per}, StrR L → (match L[addAt p L]? with | some q => nameIs p.n q | none => false) = false →
    StrR (L.take (addAt p L) ++ [p] ++ L.drop (addAt p L)) ∧ ∀ x, x ∈ L.take (addAt p L) ++ [p] ++ L.drop (addAt p L) ↔ x ∈ L ∨ x = p
  | [], _, _ => ⟨List.pairwise_singleton _ _, fun x => by simp [addAt]⟩
  | q :: r, hL, h => by
    cases hL with
    | cons hq hr =>
      by_cases hl : less q p = true
      · have ha : addAt p (q :: r) = addAt p r + 1 := by
          show (if less q p = true then _ else _) = _
          rw [if_pos hl]
        rw [ha] at h ⊢
        obtain ⟨i1, i2⟩ := str_ins hr (by simpa using h)
        have hqp : strLt q.n p.n = true := by rw [less_lt]; exact hl
        refine ⟨?_, fun x => ?_⟩
        · show StrR (q :: (r.take (addAt p r) ++ [p] ++ r.drop (addAt p r)))
          exact List.Pairwise.cons (fun x hx => ((i2 x).1 hx).elim (hq x) (fun e => e ▸ hqp)) i1
        · show x ∈ q :: (r.take (addAt p r) ++ [p] ++ r.drop (addAt p r)) ↔ _
          rw [List.mem_cons, i2, List.mem_cons, or_assoc]
      · have ha : addAt p (q :: r) = 0 := by
          show (if less q p = true then _ else _) = _
          rw [if_neg hl]
        rw [ha] at h ⊢
        have hne : ¬ q.n = p.n := fun e => by
          have : nameIs p.n q = true := name_iff.2 e
          simp [this] at h
        have h1 : strLt q.n p.n = false := by rw [less_lt]; simpa using hl
        have hpq : strLt p.n q.n = true := by
          cases h2 : strLt p.n q.n with
          | true => rfl
          | false => exact absurd (strLt_ord.tot _ _ h1 h2) hne
        refine ⟨?_, fun x => ?_⟩
        · show StrR (p :: q :: r)
          refine List.Pairwise.cons (fun x hx => ?_) (List.Pairwise.cons hq hr)
          rcases List.mem_cons.1 hx with rfl | hx
          · exact hpq
          · exact strLt_ord.tr _ _ _ hpq (hq x hx)
        · show x ∈ p :: q :: r ↔ x ∈ q :: r ∨ x = p
          rw [List.mem_cons, or_comm]
theorem addR_vl {L : List Per} {p : Per} (hL : VL L) (hp : pvalidE p = 0) (h : (addR L p).2 = 0) : VL (addR L p).1 ∧ (addR L p).1.length = L.length + 1 := by
  unfold addR at h ⊢
  split at h
  · rename_i h1; exact absurd h h1
  · rename_i h1
    rw [if_neg h1]
    split at h
    · rename_i h2; exact absurd h h2
    · rename_i h2
      rw [if_neg h2]
      have key : ∀ (b : Bool) (X : List Per), (if b = true then (([] : List Per), (4 : Int)) else if 64 ≤ L.length then ([], 1) else (X, 0)).2 = 0 → b = false ∧ ¬ 64 ≤ L.length := fun b X hb => by
        cases b with
        | true => simp at hb
        | false =>
          refine ⟨rfl, fun h4 => ?_⟩
          simp [h4] at hb
      obtain ⟨h3, h4⟩ := key _ _ h
      rw [if_neg (by rw [h3]; decide), if_neg h4]
      obtain ⟨i1, i2⟩ := str_ins (p := p) hL.2.2 h3
      have hle := addAt_le p L
      have hlen : (L.take (addAt p L) ++ [p] ++ L.drop (addAt p L)).length = L.length + 1 := by
        simp only [List.length_append, List.length_take, List.length_drop, List.length_cons, List.length_nil]; omega
      refine ⟨⟨by rw [hlen]; omega, fun x hx => ?_, i1⟩, hlen⟩
      rcases (i2 x).1 hx with hx | rfl
      · exact hL.2.1 x hx
      · exact hp
theorem someK_vl : ∀ (m : Nat) (D : Dk) (L : List Per), VL L → VL (someK m D L).2 ∧ (someK m D L).2.length ≤ L.length + m
  | 0, D, L, h => ⟨h, Nat.le_refl _⟩
  | m + 1, D, L, h => by
    have ih := someK_vl m (perD D) (if (addR L (perOf D)).2 = 0 then (addR L (perOf D)).1 else L)
    unfold someK
    by_cases h0 : (addR L (perOf D)).2 = 0
    · rw [if_pos h0] at ih ⊢
      obtain ⟨a1, a2⟩ := addR_vl h (perOf_valid D).1 h0
      have := ih a1
      exact ⟨this.1, by rw [a2] at this; omega⟩
    · rw [if_neg h0] at ih ⊢
      have := ih h
      exact ⟨this.1, by omega⟩
theorem vl_nil : VL [] := ⟨Nat.zero_le _, fun p h => absurd h List.not_mem_nil, List.Pairwise.nil⟩
end Go.Proofs.YtggagmafkdhjcaaGreatDoor
namespace Go.Proofs.YtggagmafkdhjcaaGreatDoor
open Go Go.RowKit Go.Sort
theorem pdq_str {L : List Per} (h : NeqN L) : StrR (pdqL cmpPK L) ∧ ∀ x, x ∈ pdqL cmpPK L ↔ x ∈ L := by
  obtain ⟨hp, hs⟩ := pdqL_spec swo_P L
  have hn := neq_perm hp h
  refine ⟨?_, fun x => hp.mem_iff⟩
  unfold StrR
  rw [List.pairwise_iff_getElem] at hs ⊢
  intro i j hi hj hij
  have h1 := hs i j hi hj hij
  have h2 := (List.pairwise_iff_getElem.1 hn) i j hi hj hij
  rw [ltP_lt] at h1
  cases h3 : strLt ((pdqL cmpPK L)[i]).n ((pdqL cmpPK L)[j]).n with
  | true => rfl
  | false => exact absurd (strLt_ord.tot _ _ h3 h1) h2
theorem neq_more {L : List Per} {p : Per} (hL : StrR L) (hn : ∀ x ∈ L, x.n ≠ p.n) : NeqN (L ++ [p]) := by
  unfold NeqN
  rw [List.pairwise_append]
  exact ⟨str_neq hL, List.pairwise_singleton _ _, fun a ha b hb => by simp at hb; subst hb; exact hn a ha⟩
theorem idx_new {L : List Per} {p : Per} (h : ¬ 0 ≤ idxP p.n L 0) : ∀ x ∈ L, x.n ≠ p.n := fun x hx e => by
  obtain ⟨j, y, h1, -⟩ := pidx_some (L := L) (nm := p.n) 0 ⟨x, hx, e⟩
  rw [h1] at h
  omega
theorem addK64_eq (L : List Per) (p : Per) : addK64 L p = addK L p := by
  unfold addK64 addK
  by_cases h1 : pcheckE pvalidE L ≠ 0
  · rw [if_pos h1, if_pos h1]
  rw [if_neg h1, if_neg h1]
  by_cases h2 : pvalidE p ≠ 0
  · rw [if_pos h2, if_pos h2]
  rw [if_neg h2, if_neg h2]
  by_cases h3 : 0 ≤ idxP p.n L 0
  · rw [if_pos h3, if_pos h3]
  rw [if_neg h3, if_neg h3]
  by_cases h4 : L.length = 64
  · rw [if_pos h4, if_pos h4]
  rw [if_neg h4, if_neg h4]
  have hV := (check_iff L).1 (by simpa using h1)
  have hN := neq_more hV.2.2 (idx_new h3)
  obtain ⟨a1, a2⟩ := pdq_str hN
  refine congrArg (fun q => (q, (0 : Int))) (str_uniq a1 (isort_str hN) fun x => ?_)
  rw [a2, (isort_perm (lt := ltP) (L ++ [p])).mem_iff]
def hitB (L : List Per) (p : Per) : Bool := match L[addAt p L]? with
  | some q => nameIs p.n q
  | none => false
theorem addR_hit (L : List Per) (p : Per) : addR L p = if pcheckE pfaultE L ≠ 0 then ([], pcheckE pfaultE L) else if pfaultE p ≠ 0 then ([], pfaultE p) else if hitB L p = true then ([], 4) else if 64 ≤ L.length then ([], 1) else (L.take (addAt p L) ++ [p] ++ L.drop (addAt p L), 0) := rfl
theorem add_hit {L : List Per} {p : Per} (hL : StrR L) : hitB L p = decide (0 ≤ idxP p.n L 0) := by
  cases hm : hitB L p with
  | true =>
    have hx : ∃ x ∈ L, x.n = p.n := by
      unfold hitB at hm
      cases hq : L[addAt p L]? with
      | none => rw [hq] at hm; cases hm
      | some q => rw [hq] at hm; exact ⟨q, List.mem_of_getElem? hq, name_iff.1 hm⟩
    obtain ⟨j, y, h1, -⟩ := pidx_some 0 hx
    rw [h1]
    symm
    rw [decide_eq_true_eq]
    omega
  | false =>
    symm
    rw [decide_eq_false_iff_not]
    obtain ⟨i1, i2⟩ := str_ins hL hm
    have hnx : ∀ x ∈ L, x.n ≠ p.n := fun x hx e => by
      have hp : x = p := mem_name i1 ((i2 x).2 (.inl hx)) ((i2 p).2 (.inr rfl)) e
      subst hp
      unfold StrR at i1
      rw [List.append_assoc, List.pairwise_append] at i1
      have hx2 : x ∈ L.take (addAt x L) ∨ x ∈ L.drop (addAt x L) := by
        rw [← List.take_append_drop (addAt x L) L] at hx
        exact List.mem_append.1 hx
      rcases hx2 with h | h
      · have := i1.2.2 x h x (by simp)
        rw [strLt_ord.irr] at this
        cases this
      · have := (List.pairwise_cons.1 i1.2.1).1 x h
        rw [strLt_ord.irr] at this
        cases this
    rw [pidx_none 0 hnx]
    decide
theorem addR_eq (L : List Per) (p : Per) (hi : ∀ q ∈ L, I64 q.s) (hp : I64 p.s) : addR L p = addK L p := by
  rw [addR_hit]
  unfold addK
  rw [← pcheck_eq L hi, ← pvalid_eq p hp]
  by_cases h1 : pcheckE pvalidE L ≠ 0
  · rw [if_pos h1, if_pos h1]
  rw [if_neg h1, if_neg h1]
  by_cases h2 : pvalidE p ≠ 0
  · rw [if_pos h2, if_pos h2]
  rw [if_neg h2, if_neg h2]
  have hV := (check_iff L).1 (by simpa using h1)
  have hh := add_hit (p := p) hV.2.2
  by_cases h3 : 0 ≤ idxP p.n L 0
  · rw [if_pos h3, if_pos (hh.trans (decide_eq_true h3))]
  rw [if_neg h3, if_neg (fun e => by have := hh.symm.trans e; rw [decide_eq_false h3] at this; cases this)]
  have hl := hV.1
  by_cases h4 : L.length = 64
  · rw [if_pos h4, if_pos (by omega)]
  rw [if_neg h4, if_neg (by omega)]
  have hN := neq_more hV.2.2 (idx_new h3)
  obtain ⟨i1, i2⟩ := str_ins hV.2.2 (hh.trans (decide_eq_false h3))
  refine congrArg (fun q => (q, (0 : Int))) (str_uniq i1 (isort_str hN) fun x => ?_)
  rw [i2, (isort_perm (lt := ltP) (L ++ [p])).mem_iff]
  simp
theorem addK_vl {L : List Per} {p : Per} (h : (addK L p).2 = 0) : VL (addK L p).1 := by
  unfold addK at h ⊢
  by_cases h1 : pcheckE pvalidE L ≠ 0
  · rw [if_pos h1] at h; exact absurd h h1
  rw [if_neg h1] at h ⊢
  by_cases h2 : pvalidE p ≠ 0
  · rw [if_pos h2] at h; exact absurd h h2
  rw [if_neg h2] at h ⊢
  by_cases h3 : 0 ≤ idxP p.n L 0
  · rw [if_pos h3] at h; exact absurd h (by decide)
  rw [if_neg h3] at h ⊢
  by_cases h4 : L.length = 64
  · rw [if_pos h4] at h; exact absurd h (by decide)
  rw [if_neg h4]
  have hV := (check_iff L).1 (by simpa using h1)
  have hl := hV.1
  exact (addK_new hV (by simpa using h2) (by omega) (idx_new h3)).2.1
end Go.Proofs.YtggagmafkdhjcaaGreatDoor
namespace Go.Proofs.YtggagmafkdhjcaaGreatDoor
open Go Go.RowKit
end Go.Proofs.YtggagmafkdhjcaaGreatDoor
