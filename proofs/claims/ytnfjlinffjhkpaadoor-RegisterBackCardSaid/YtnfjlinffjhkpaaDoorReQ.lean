/- The registers that a deck gives are valid, and what RegisterBack's questions answer; nothing of the program's walk stands here. -/
import Derived.Test.YtnfjlinffjhkpaaDoorReP
set_option linter.unusedVariables false
set_option linter.unusedSimpArgs false
namespace Go.Proofs.YtnfjlinffjhkpaaDoor
open Go Go.RowKit
theorem name12 : ∀ k : Fin 12, nameB (mkName ⟨#[80]⟩ (k.val : Int)).data.toList = true := by decide +kernel
theorem perOf_valid (D : Dk) : pvalidE (perOf D) = 0 ∧ 0 ≤ (perOf D).s ∧ (perOf D).s ≤ 31 ∧ (perOf D).f < (perOf D).u := by
  have a := D.val_range (n := 2000) (by omega)
  have b := D.next.val_range (n := 12) (by omega)
  have c := D.next.next.val_range (n := 3) (by omega)
  have d := D.next.next.next.val_range (n := 32) (by omega)
  have e := D.next.next.next.next.val_range (n := 1500) (by omega)
  have a2 := a.2.1 (by omega)
  have b2 := b.2.1 (by omega)
  have c2 := c.2.1 (by omega)
  have d2 := d.2.1 (by omega)
  have e2 := e.2.1 (by omega)
  have hn := name12 ⟨(D.next.val 12).toNat, by omega⟩
  rw [show (((⟨(D.next.val 12).toNat, by omega⟩ : Fin 12).val : Nat) : Int) = D.next.val 12 by show (((D.next.val 12).toNat : Nat) : Int) = _; omega] at hn
  have hs : I64 (perOf D).s := by unfold I64 perOf; simp only; omega
  refine ⟨?_, by unfold perOf; simp only; omega, by unfold perOf; simp only; omega, by unfold perOf; simp only; omega⟩
  rw [pvalid_eq _ hs]
  unfold pfaultE
  rw [if_neg (by unfold perOf; simp only; rw [hn]; decide), if_neg (by unfold perOf; simp only; omega), if_pos]
  unfold spanB perOf
  simp only [Bool.and_eq_true, decide_eq_true_eq]
  omega
theorem str_ins {p : Per} : ∀ {L : List Per}, StrR L → (match L[addAt p L]? with | some q => nameIs p.n q | none => false) = false →
    StrR (L.take (addAt p L) ++ [p] ++ L.drop (addAt p L)) ∧ ∀ x, x ∈ L.take (addAt p L) ++ [p] ++ L.drop (addAt p L) ↔ x ∈ L ∨ x = p
  | [], _, _ => ⟨List.pairwise_singleton _ _, fun x => by simp [addAt]⟩
  | q :: r, hL, h => by
    cases hL with
    | cons hq hr =>
      by_cases hl : less q p = true
      · have ha : addAt p (q :: r) = addAt p r + 1 := by
          show (if less q p = true then _ else _) = _
          rw [if_pos hl]
        rw [ha] at h ⊢
        obtain ⟨i1, i2⟩ := str_ins hr (by simpa using h)
        have hqp : strLt q.n p.n = true := by rw [less_lt]; exact hl
        refine ⟨?_, fun x => ?_⟩
        · show StrR (q :: (r.take (addAt p r) ++ [p] ++ r.drop (addAt p r)))
          exact List.Pairwise.cons (fun x hx => ((i2 x).1 hx).elim (hq x) (fun e => e ▸ hqp)) i1
        · show x ∈ q :: (r.take (addAt p r) ++ [p] ++ r.drop (addAt p r)) ↔ _
          rw [List.mem_cons, i2, List.mem_cons, or_assoc]
      · have ha : addAt p (q :: r) = 0 := by
          show (if less q p = true then _ else _) = _
          rw [if_neg hl]
        rw [ha] at h ⊢
        have hne : ¬ q.n = p.n := fun e => by
          have : nameIs p.n q = true := name_iff.2 e
          simp [this] at h
        have h1 : strLt q.n p.n = false := by rw [less_lt]; simpa using hl
        have hpq : strLt p.n q.n = true := by
          cases h2 : strLt p.n q.n with
          | true => rfl
          | false => exact absurd (strLt_ord.tot _ _ h1 h2) hne
        refine ⟨?_, fun x => ?_⟩
        · show StrR (p :: q :: r)
          refine List.Pairwise.cons (fun x hx => ?_) (List.Pairwise.cons hq hr)
          rcases List.mem_cons.1 hx with rfl | hx
          · exact hpq
          · exact strLt_ord.tr _ _ _ hpq (hq x hx)
        · show x ∈ p :: q :: r ↔ x ∈ q :: r ∨ x = p
          rw [List.mem_cons, or_comm]
theorem addR_vl {L : List Per} {p : Per} (hL : VL L) (hp : pvalidE p = 0) (h : (addR L p).2 = 0) : VL (addR L p).1 ∧ (addR L p).1.length = L.length + 1 := by
  unfold addR at h ⊢
  split at h
  · rename_i h1; exact absurd h h1
  · rename_i h1
    rw [if_neg h1]
    split at h
    · rename_i h2; exact absurd h h2
    · rename_i h2
      rw [if_neg h2]
      have key : ∀ (b : Bool) (X : List Per), (if b = true then (([] : List Per), (4 : Int)) else if 64 ≤ L.length then ([], 1) else (X, 0)).2 = 0 → b = false ∧ ¬ 64 ≤ L.length := fun b X hb => by
        cases b with
        | true => simp at hb
        | false =>
          refine ⟨rfl, fun h4 => ?_⟩
          simp [h4] at hb
      obtain ⟨h3, h4⟩ := key _ _ h
      rw [if_neg (by rw [h3]; decide), if_neg h4]
      obtain ⟨i1, i2⟩ := str_ins (p := p) hL.2.2 h3
      have hle := addAt_le p L
      have hlen : (L.take (addAt p L) ++ [p] ++ L.drop (addAt p L)).length = L.length + 1 := by
        simp only [List.length_append, List.length_take, List.length_drop, List.length_cons, List.length_nil]; omega
      refine ⟨⟨by rw [hlen]; omega, fun x hx => ?_, i1⟩, hlen⟩
      rcases (i2 x).1 hx with hx | rfl
      · exact hL.2.1 x hx
      · exact hp
theorem someK_vl : ∀ (m : Nat) (D : Dk) (L : List Per), VL L → VL (someK m D L).2 ∧ (someK m D L).2.length ≤ L.length + m
  | 0, D, L, h => ⟨h, Nat.le_refl _⟩
  | m + 1, D, L, h => by
    have ih := someK_vl m (perD D) (if (addR L (perOf D)).2 = 0 then (addR L (perOf D)).1 else L)
    unfold someK
    by_cases h0 : (addR L (perOf D)).2 = 0
    · rw [if_pos h0] at ih ⊢
      obtain ⟨a1, a2⟩ := addR_vl h (perOf_valid D).1 h0
      have := ih a1
      exact ⟨this.1, by rw [a2] at this; omega⟩
    · rw [if_neg h0] at ih ⊢
      have := ih h
      exact ⟨this.1, by omega⟩
theorem vl_nil : VL [] := ⟨Nat.zero_le _, fun p h => absurd h List.not_mem_nil, List.Pairwise.nil⟩
theorem and_self32 : ∀ s : Fin 32, bits .and .i64 (s.val : Int) (s.val : Int) = s.val := by decide +kernel
theorem find_at {A : List Per} {p : Per} (hA : VL A) (hp : p ∈ A) : ∃ j : Nat, findI pvalidE A p.n = j ∧ A[j]? = some p := by
  obtain ⟨j, x, h1, h2, h3⟩ := idx_some (L := A) (nm := p.n) 0 ⟨p, hp, rfl⟩
  have := mem_name hA.2.2 (List.mem_of_getElem? h2) hp h3
  subst this
  unfold findI
  rw [if_pos ((check_iff A).2 hA)]
  exact ⟨j, by rw [h1]; congr 1; omega, h2⟩
theorem find_none {A : List Per} {nm : ByteArray} (hn : ∀ x ∈ A, x.n ≠ nm) : findI pvalidE A nm = -1 := by
  unfold findI
  rw [idx_none 0 hn]
  simp
theorem can_yes {A : List Per} {p : Per} (hA : VL A) (hp : p ∈ A) (h1 : 0 < p.s) (h2 : p.s ≤ 31) (h3 : p.f < p.u) : canB pvalidE A p.n p.s p.f = true := by
  obtain ⟨j, e1, e2⟩ := find_at hA hp
  have hb := and_self32 ⟨p.s.toNat, by omega⟩
  rw [show (((⟨p.s.toNat, by omega⟩ : Fin 32).val : Nat) : Int) = p.s by show ((p.s.toNat : Nat) : Int) = _; omega] at hb
  unfold canB
  rw [e1, if_neg (by omega), Int.toNat_natCast, e2]
  simp [hb, h3]
theorem can_no {A : List Per} {p : Per} (hA : VL A) (hp : p ∈ A) (sk : Int) : canB pvalidE A p.n sk p.u = false := by
  obtain ⟨j, e1, e2⟩ := find_at hA hp
  unfold canB
  split
  · rfl
  · rw [e1, Int.toNat_natCast, e2]
    simp
end Go.Proofs.YtnfjlinffjhkpaaDoor
