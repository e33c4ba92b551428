/- Rows of any elements that are made: a row of the frame's own, of zero values; conditions: tables of types that agree with the program's. -/
import Derived.Test.YtjamibeffalhaaaGreatDoorAbsZ
import Derived.Test.YtjamibeffalhaaaGreatDoorLcC
import Derived.Laws.OwnMore
set_option linter.unusedVariables false
set_option linter.unusedSimpArgs false
namespace Go.Proofs.YtjamibeffalhaaaGreatDoor
open Go Go.RowKit
section
variable {P : Program} {X : Ctx} {n : Nat} {ops : Array Oper} {os : List Oper} {acc : List Rule} {σ : AS} {K : List Rule → AS → Prop} {gt : List (Nat × AV)} {ty : TypeId} {ps : String} {af : Array Edge} {g : Option (Nat × Bool)}
variable {TB : Tabs} (hTB : TabsOk P TB)
include hTB
end
section
variable {P : Program} {X : Ctx} {n : Nat} {σ : AS} {Q Q' : Exit → AS → Prop}
theorem awp_mono {c : Code} (h : ∀ e τ, Q e τ → Q' e τ) (h1 : AWp P X n c Q σ) : AWp P X n c Q' σ := by
  refine ⟨fun M ρ a w hR => wp_mono (h1.run M ρ a w hR) ?_⟩
  rintro e a' w' ⟨M', ρ', σ', hR', hQ⟩
  exact ⟨M', ρ', σ', hR', h _ _ hQ⟩
/-- The ways of a block come together behind it. -/
theorem awp_viaB {ι : Type} {id : Nat} (ok : (Nat → Nat) → ι → Prop) (lT : (Nat → Nat) → ι → List (Nat × AV)) (lH : (Nat → Nat) → ι → List (Nat × Cont)) {c y : Code}
    (h1 : AWp P X n c (qU id (thenA (fun τ => At ok lT lH τ fun _ => True) Q')) σ) (h2 : ∀ v i, ok v i → AWp P X n y Q (st v (lT v i) (lH v i))) : AWp P X n c (qU id (thenA (AWp P X n y Q) Q')) σ := by
  have key : ∀ e τ, thenA (fun τ => At ok lT lH τ fun _ => True) Q' e τ → thenA (AWp P X n y Q) Q' e τ := fun e τ h => by
    cases e with
    | normal =>
      obtain ⟨j, hj, -, h3, h4⟩ := h
      exact AWp.weak (st_wk h3 h4) (h2 _ j hj)
    | _ => exact h
  refine awp_mono (fun e τ h => ?_) h1
  unfold qU at h ⊢
  cases e with
  | exit j =>
    simp only at h ⊢
    cases hb : Nat.beq j id
    · rw [hb] at h; exact key _ _ (by simpa using h)
    · rw [hb] at h; exact key _ _ (by simpa using h)
  | _ => exact key _ _ h
end
end Go.Proofs.YtjamibeffalhaaaGreatDoor
