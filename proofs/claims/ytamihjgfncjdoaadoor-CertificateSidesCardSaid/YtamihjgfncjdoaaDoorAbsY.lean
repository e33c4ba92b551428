/- A cut in a walk: ways that part come together in one state; conditions: none. -/
import Derived.Test.YtamihjgfncjdoaaDoorAbsX
set_option linter.unusedVariables false
set_option linter.unusedSimpArgs false
namespace Go.Proofs.YtamihjgfncjdoaaDoor
open Go Go.RowKit
section
variable {P : Program} {X : Ctx} {n : Nat} {σ : AS} {Q Q' : Exit → AS → Prop}
theorem awp_via {ι : Type} (ok : (Nat → Nat) → ι → Prop) (lT : (Nat → Nat) → ι → List (Nat × AV)) (lH : (Nat → Nat) → ι → List (Nat × Cont)) {c y : Code}
    (h1 : AWp P X n c (thenA (fun τ => At ok lT lH τ fun _ => True) Q') σ) (h2 : ∀ v i, ok v i → AWp P X n y Q (st v (lT v i) (lH v i))) : AWp P X n c (thenA (AWp P X n y Q) Q') σ := by
  refine ⟨fun M ρ a w hR => wp_mono (h1.run M ρ a w hR) ?_⟩
  rintro e a' w' ⟨M', ρ', σ', hR', hQ⟩
  cases e with
  | normal =>
    obtain ⟨j, hj, -, h3, h4⟩ := hQ
    exact ⟨M', ρ', σ', hR', AWp.weak (st_wk h3 h4) (h2 _ j hj)⟩
  | _ => exact ⟨M', ρ', σ', hR', hQ⟩
end
end Go.Proofs.YtamihjgfncjdoaaDoor
