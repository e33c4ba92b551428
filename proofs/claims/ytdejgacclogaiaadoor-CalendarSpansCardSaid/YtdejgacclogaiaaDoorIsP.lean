/- Sorting by insertion, by plain functions on lists; nothing of the program stands here. -/
import Derived.Test.YtdejgacclogaiaaDoorLib
set_option linter.unusedVariables false
set_option linter.unusedSimpArgs false
namespace Go.Proofs.YtdejgacclogaiaaDoor
open Go Go.RowKit
section
variable {α : Type} (lt : α → α → Bool)
/-- The elements at j and j + 1 change places. -/
def swp (L : List α) (j : Nat) : List α := match L[j + 1]?, L[j]? with
  | some x, some y => (L.set (j + 1) y).set j x
  | _, _ => L
def lessAt (L : List α) (a b : Nat) : Bool := match L[a]?, L[b]? with
  | some x, some y => lt x y
  | _, _ => false
/-- The element at j goes down to its place. -/
def inn : Nat → List α → List α
  | 0, L => L
  | j + 1, L => if lessAt lt L (j + 1) j = true then inn j (swp L j) else L
/-- The first k elements in order. -/
def outr : Nat → List α → List α
  | 0, L => L
  | k + 1, L => inn lt k (outr k L)
def isort (L : List α) : List α := outr lt L.length L
variable {lt}
theorem swp_len (L : List α) (j : Nat) : (swp L j).length = L.length := by
  unfold swp
  split <;> simp
theorem inn_len : ∀ (j : Nat) (L : List α), (inn lt j L).length = L.length
  | 0, L => rfl
  | j + 1, L => by
    unfold inn
    split
    · rw [inn_len j, swp_len]
    · rfl
theorem outr_len : ∀ (k : Nat) (L : List α), (outr lt k L).length = L.length
  | 0, L => rfl
  | k + 1, L => by rw [outr, inn_len, outr_len k]
theorem swp_perm (L : List α) (j : Nat) : (swp L j).Perm L := by
  unfold swp
  split
  · rename_i x y hx hy
    obtain ⟨A, B, hL, hA⟩ : ∃ A B, L = A ++ y :: x :: B ∧ j = A.length := by
      have h1 := drop_at hy
      have h2 := drop_at hx
      exact ⟨L.take j, L.drop (j + 2), by
        conv => lhs; rw [← List.take_append_drop j L]
        rw [h1, h2], by rw [List.length_take]; have := lt_at hy; omega⟩
    subst hL; subst hA
    have e : ((A ++ y :: x :: B).set (A.length + 1) y).set A.length x = A ++ x :: y :: B := by
      rw [List.set_append_right _ _ (by omega), List.set_append_right _ _ (by omega)]
      simp
    rw [e]
    exact (List.Perm.swap y x B).append_left A
  · exact List.Perm.refl L
theorem inn_perm : ∀ (j : Nat) (L : List α), (inn lt j L).Perm L
  | 0, L => List.Perm.refl L
  | j + 1, L => by
    unfold inn
    split
    · exact (inn_perm j _).trans (swp_perm L j)
    · exact List.Perm.refl L
theorem outr_perm : ∀ (k : Nat) (L : List α), (outr lt k L).Perm L
  | 0, L => List.Perm.refl L
  | k + 1, L => (inn_perm k _).trans (outr_perm k L)
theorem isort_perm (L : List α) : (isort lt L).Perm L := outr_perm _ L
theorem isort_len (L : List α) : (isort lt L).length = L.length := outr_len _ L
structure SwoB (lt : α → α → Bool) : Prop where
  asym : ∀ x y, lt x y = true → lt y x = false
  nt : ∀ x y z, lt x z = true → lt x y = true ∨ lt y z = true
def SrtB (lt : α → α → Bool) (L : List α) (i : Nat) : Prop := ∀ a b x y, a < b → b < i → L[a]? = some x → L[b]? = some y → lt y x = false
def InsB (lt : α → α → Bool) (L : List α) (i j : Nat) : Prop := ∀ a b x y, a < b → b ≤ i → b ≠ j → L[a]? = some x → L[b]? = some y → lt y x = false
theorem swp_at {L : List α} {j : Nat} {x y : α} (hx : L[j + 1]? = some x) (hy : L[j]? = some y) : swp L j = (L.set (j + 1) y).set j x := by
  unfold swp
  rw [hx, hy]
theorem ins_done (hS : SwoB lt) : ∀ (j i : Nat) (L : List α), j ≤ i → InsB lt L i j → SrtB lt (inn lt j L) (i + 1)
  | 0, i, L, _, h => fun a b x y hab hb hx hy => h a b x y hab (by omega) (by omega) hx hy
  | j + 1, i, L, hj, h => by
    unfold inn
    split
    · rename_i hl
      unfold lessAt at hl
      split at hl
      · rename_i x y hx hy
        refine ins_done hS j i _ (by omega) ?_
        rw [swp_at hx hy]
        have hx' := lt_at hx
        intro a b p q hab hb hbj hp hq
        have g : ∀ k, ((L.set (j + 1) y).set j x)[k]? = if k = j then some x else if k = j + 1 then some y else L[k]? := fun k => by
          by_cases h1 : k = j
          · rw [if_pos h1, h1, List.getElem?_set_self (by simp; omega)]
          · rw [if_neg h1, List.getElem?_set_ne (Ne.symm h1)]
            by_cases h2 : k = j + 1
            · rw [if_pos h2, h2, List.getElem?_set_self (by omega)]
            · rw [if_neg h2, List.getElem?_set_ne (Ne.symm h2)]
        rw [g] at hp hq
        rw [if_neg hbj] at hq
        by_cases hb1 : b = j + 1
        · rw [if_pos hb1] at hq
          injection hq with hq
          subst hq
          by_cases ha : a = j
          · rw [if_pos ha] at hp
            injection hp with hp
            subst hp
            exact hS.asym _ _ hl
          · rw [if_neg ha, if_neg (by omega)] at hp
            exact h a j p y (by omega) (by omega) (by omega) hp hy
        · rw [if_neg hb1] at hq
          by_cases ha : a = j
          · rw [if_pos ha] at hp
            injection hp with hp
            subst hp
            exact h (j + 1) b _ q (by omega) hb (by omega) hx hq
          · rw [if_neg ha] at hp
            by_cases ha1 : a = j + 1
            · rw [if_pos ha1] at hp
              injection hp with hp
              subst hp
              exact h j b _ q (by omega) hb (by omega) hy hq
            · rw [if_neg ha1] at hp
              exact h a b p q hab hb (by omega) hp hq
      · cases hl
    · rename_i hl
      intro a b x y hab hb hx hy
      by_cases hbj : b = j + 1
      · subst hbj
        cases hq : lt y x with
        | false => rfl
        | true =>
          obtain ⟨z, hz⟩ := some_at (L := L) (k := j) (by have := lt_at hy; omega)
          have hyz : lt y z = false := by
            cases hc : lt y z with
            | false => rfl
            | true => exact absurd (by unfold lessAt; rw [hy, hz]; exact hc) hl
          by_cases ha : a = j
          · subst ha
            rw [hz] at hx
            injection hx with hx
            subst hx
            rw [hyz] at hq
            cases hq
          · rcases hS.nt y z x hq with h1 | h1
            · rw [hyz] at h1; cases h1
            · have := h a j x z (by omega) (by omega) (by omega) hx hz
              rw [this] at h1; cases h1
      · exact h a b x y hab (by omega) hbj hx hy
theorem outr_sorted (hS : SwoB lt) : ∀ (k : Nat) (L : List α), SrtB lt (outr lt k L) k
  | 0, L => fun a b _ _ _ hb => absurd hb (by omega)
  | k + 1, L => ins_done hS k k _ (Nat.le_refl _) fun a b x y hab hb hbk hx hy => outr_sorted hS k L a b x y hab (by omega) hx hy
theorem isort_sorted (hS : SwoB lt) (L : List α) : SrtB lt (isort lt L) L.length := outr_sorted hS _ L
end
end Go.Proofs.YtdejgacclogaiaaDoor
