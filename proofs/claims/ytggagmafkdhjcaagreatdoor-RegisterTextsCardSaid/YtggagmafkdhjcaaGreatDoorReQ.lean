/- The registers that a deck gives are valid, and what RegisterBack's questions answer; nothing of the program's walk stands here. -/
import Derived.Test.YtggagmafkdhjcaaGreatDoorReP
set_option linter.unusedVariables false
set_option linter.unusedSimpArgs false
namespace Go.Proofs.YtggagmafkdhjcaaGreatDoor
open Go Go.RowKit
theorem wV : ∀ k : Fin 12, ql (dW ⟨#[80]⟩ (k.val : Int)).data.toList = true := by decide +kernel
theorem lV (D : Dk) : jF (jh D) = 0 ∧ 0 ≤ (jh D).s ∧ (jh D).s ≤ 31 ∧ (jh D).f < (jh D).u := by
  have a := D.val_range (n := 2000) (by omega)
  have b := D.next.val_range (n := 12) (by omega)
  have c := D.next.next.val_range (n := 3) (by omega)
  have d := D.next.next.next.val_range (n := 32) (by omega)
  have e := D.next.next.next.next.val_range (n := 1500) (by omega)
  have a2 := a.2.1 (by omega)
  have b2 := b.2.1 (by omega)
  have c2 := c.2.1 (by omega)
  have d2 := d.2.1 (by omega)
  have e2 := e.2.1 (by omega)
  have hn := wV ⟨(D.next.val 12).toNat, by omega⟩
  rw [show (((⟨(D.next.val 12).toNat, by omega⟩ : Fin 12).val : Nat) : Int) = D.next.val 12 by show (((D.next.val 12).toNat : Nat) : Int) = _; omega] at hn
  have hs : I64 (jh D).s := by unfold I64 jh; simp only; omega
  refine ⟨?_, by unfold jh; simp only; omega, by unfold jh; simp only; omega, by unfold jh; simp only; omega⟩
  rw [oZ _ hs]
  unfold jV
  rw [if_neg (by unfold jh; simp only; rw [hn]; decide), if_neg (by unfold jh; simp only; omega), if_pos]
  unfold dF jh
  simp only [Bool.and_eq_true, decide_eq_true_eq]
  omega
theorem oA {p : Per} : ∀ {L : List Per}, StrR L → (match L[ji p L]? with | some q => qh p.n q | none => false) = false →
    StrR (L.take (ji p L) ++ [p] ++ L.drop (ji p L)) ∧ ∀ x, x ∈ L.take (ji p L) ++ [p] ++ L.drop (ji p L) ↔ x ∈ L ∨ x = p
  | [], _, _ => ⟨List.pairwise_singleton _ _, fun x => by simp [ji]⟩
  | q :: r, hL, h => by
    cases hL with
    | cons hq hr =>
      by_cases hl : less q p = true
      · have ha : ji p (q :: r) = ji p r + 1 := by
          show (if less q p = true then _ else _) = _
          rw [if_pos hl]
        rw [ha] at h ⊢
        obtain ⟨i1, i2⟩ := oA hr (by simpa using h)
        have hqp : jQ q.n p.n = true := by rw [aZ]; exact hl
        refine ⟨?_, fun x => ?_⟩
        · show StrR (q :: (r.take (ji p r) ++ [p] ++ r.drop (ji p r)))
          exact List.Pairwise.cons (fun x hx => ((i2 x).1 hx).elim (hq x) (fun e => e ▸ hqp)) i1
        · show x ∈ q :: (r.take (ji p r) ++ [p] ++ r.drop (ji p r)) ↔ _
          rw [List.mem_cons, i2, List.mem_cons, or_assoc]
      · have ha : ji p (q :: r) = 0 := by
          show (if less q p = true then _ else _) = _
          rw [if_neg hl]
        rw [ha] at h ⊢
        have hne : ¬ q.n = p.n := fun e => by
          have : qh p.n q = true := kN.2 e
          simp [this] at h
        have h1 : jQ q.n p.n = false := by rw [aZ]; simpa using hl
        have hpq : jQ p.n q.n = true := by
          cases h2 : jQ p.n q.n with
          | true => rfl
          | false => exact absurd (jf.tot _ _ h1 h2) hne
        refine ⟨?_, fun x => ?_⟩
        · show StrR (p :: q :: r)
          refine List.Pairwise.cons (fun x hx => ?_) (List.Pairwise.cons hq hr)
          rcases List.mem_cons.1 hx with rfl | hx
          · exact hpq
          · exact jf.tr _ _ _ hpq (hq x hx)
        · show x ∈ p :: q :: r ↔ x ∈ q :: r ∨ x = p
          rw [List.mem_cons, or_comm]
theorem vJ {L : List Per} {p : Per} (hL : VL L) (hp : jF p = 0) (h : (addR L p).2 = 0) : VL (addR L p).1 ∧ (addR L p).1.length = L.length + 1 := by
  unfold addR at h ⊢
  split at h
  · rename_i h1; exact absurd h h1
  · rename_i h1
    rw [if_neg h1]
    split at h
    · rename_i h2; exact absurd h h2
    · rename_i h2
      rw [if_neg h2]
      have key : ∀ (b : Bool) (X : List Per), (if b = true then (([] : List Per), (4 : Int)) else if 64 ≤ L.length then ([], 1) else (X, 0)).2 = 0 → b = false ∧ ¬ 64 ≤ L.length := fun b X hb => by
        cases b with
        | true => simp at hb
        | false =>
          refine ⟨rfl, fun h4 => ?_⟩
          simp [h4] at hb
      obtain ⟨h3, h4⟩ := key _ _ h
      rw [if_neg (by rw [h3]; decide), if_neg h4]
      obtain ⟨i1, i2⟩ := oA (p := p) hL.2.2 h3
      have hle := iN p L
      have hlen : (L.take (ji p L) ++ [p] ++ L.drop (ji p L)).length = L.length + 1 := by
        simp only [List.length_append, List.length_take, List.length_drop, List.length_cons, List.length_nil]; omega
      refine ⟨⟨by rw [hlen]; omega, fun x hx => ?_, i1⟩, hlen⟩
      rcases (i2 x).1 hx with hx | rfl
      · exact hL.2.1 x hx
      · exact hp
theorem iV : ∀ (m : Nat) (D : Dk) (L : List Per), VL L → VL (qr m D L).2 ∧ (qr m D L).2.length ≤ L.length + m
  | 0, D, L, h => ⟨h, Nat.le_refl _⟩
  | m + 1, D, L, h => by
    have ih := iV m (perD D) (if (addR L (jh D)).2 = 0 then (addR L (jh D)).1 else L)
    unfold qr
    by_cases h0 : (addR L (jh D)).2 = 0
    · rw [if_pos h0] at ih ⊢
      obtain ⟨a1, a2⟩ := vJ h (lV D).1 h0
      have := ih a1
      exact ⟨this.1, by rw [a2] at this; omega⟩
    · rw [if_neg h0] at ih ⊢
      have := ih h
      exact ⟨this.1, by omega⟩
theorem rN : VL [] := ⟨Nat.zero_le _, fun p h => absurd h List.not_mem_nil, List.Pairwise.nil⟩
end Go.Proofs.YtggagmafkdhjcaaGreatDoor
