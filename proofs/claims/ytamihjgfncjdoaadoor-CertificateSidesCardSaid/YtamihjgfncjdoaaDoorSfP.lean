/- Ascending lists over a strict order: the place of an element, laying in, taking out; and the order of strings; nothing of the program stands here / Safes with keys that people lock, by plain functions: which safes are valid, and what all functions return; nothing of the program stands here. -/
import Derived.Test.YtamihjgfncjdoaaDoorAbsL
import Derived.Test.YtamihjgfncjdoaaDoorLexP
set_option linter.unusedVariables false
set_option linter.unusedSimpArgs false
namespace Go.Proofs.YtamihjgfncjdoaaDoor
open Go Go.RowKit
structure StrictOrd {α : Type} (lt : α → α → Bool) : Prop where
  irr : ∀ a, lt a a = false
  tr : ∀ a b c, lt a b = true → lt b c = true → lt a c = true
  tot : ∀ a b, lt a b = false → lt b a = false → a = b
theorem StrictOrd.ne {α : Type} {lt : α → α → Bool} (h : StrictOrd lt) {a b : α} (h1 : lt a b = true) : a ≠ b := fun e => by
  subst e; rw [h.irr] at h1; cases h1
section
variable {α : Type} (lt : α → α → Bool)
def lowG (x : α) : List α → Nat
  | [] => 0
  | y :: l => if lt y x = true then lowG x l + 1 else 0
def insG (x : α) (L : List α) : List α := L.take (lowG lt x L) ++ x :: L.drop (lowG lt x L)
def AscG (L : List α) : Prop := L.Pairwise (fun a b => lt a b = true)
variable {lt}
theorem lowG_le (x : α) : ∀ L : List α, lowG lt x L ≤ L.length
  | [] => Nat.le_refl _
  | y :: l => by unfold lowG; split <;> simp [lowG_le x l]
theorem insG_cons (x y : α) (l : List α) : insG lt x (y :: l) = if lt y x = true then y :: insG lt x l else x :: y :: l := by
  unfold insG
  rw [lowG]
  split <;> simp
theorem insG_mem {x z : α} : ∀ {L : List α}, z ∈ insG lt x L ↔ z = x ∨ z ∈ L
  | [] => by simp [insG, lowG]
  | y :: l => by
    rw [insG_cons]
    split
    · rw [List.mem_cons, insG_mem, List.mem_cons]
      constructor
      · rintro (h | h | h)
        · exact .inr (.inl h)
        · exact .inl h
        · exact .inr (.inr h)
      · rintro (h | h | h)
        · exact .inr (.inl h)
        · exact .inl h
        · exact .inr (.inr h)
    · rw [List.mem_cons]
theorem insG_len (x : α) (L : List α) : (insG lt x L).length = L.length + 1 := by
  have := lowG_le (lt := lt) x L
  unfold insG
  simp; omega
end
end Go.Proofs.YtamihjgfncjdoaaDoor
namespace Go.Proofs.YtamihjgfncjdoaaDoor
open Go Go.RowKit
structure Sf where
  num : Int
  keys : List Int
  locked : List ByteArray
  deriving DecidableEq
instance : Inhabited Sf := ⟨⟨0, [], []⟩⟩
/-- The first of which something holds, or -1. -/
def idxG {α : Type} (p : α → Bool) : List α → Nat → Int
  | [], _ => -1
  | x :: l, i => if p x = true then i else idxG p l (i + 1)
theorem idxG_at {α : Type} {p : α → Bool} {L : List α} {k : Nat} {x : α} (h : L[k]? = some x) : idxG p (L.drop k) k = if p x = true then (k : Int) else idxG p (L.drop (k + 1)) (k + 1) := by rw [drop_at h]; rfl
theorem idxG_some {α : Type} {p : α → Bool} : ∀ {L : List α} {i : Nat}, 0 ≤ idxG p L i → ∃ j x, idxG p L i = ((i + j : Nat) : Int) ∧ L[j]? = some x ∧ p x = true
  | [], i, h => by simp [idxG] at h
  | x :: L, i, h => by
    rw [idxG] at h ⊢
    by_cases hp : p x = true
    · rw [if_pos hp]; exact ⟨0, x, rfl, rfl, hp⟩
    · rw [if_neg hp] at h ⊢
      obtain ⟨j, y, a, b, c⟩ := idxG_some h
      exact ⟨j + 1, y, by rw [a]; congr 1; omega, b, c⟩
end Go.Proofs.YtamihjgfncjdoaaDoor
