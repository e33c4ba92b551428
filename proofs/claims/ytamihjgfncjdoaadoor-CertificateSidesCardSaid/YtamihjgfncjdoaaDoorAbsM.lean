/- A row that is handed to a callee which changes it in place: the row as a box, and back as a row that nobody writes any more; conditions: tables of types that agree with the program's / Rows of any elements that are made: a row of the frame's own, of zero values; conditions: tables of types that agree with the program's. -/
import Derived.Test.YtamihjgfncjdoaaDoorAbsX
import Derived.Test.YtamihjgfncjdoaaDoorTkA
import Derived.Test.YtamihjgfncjdoaaDoorAbsY
import Derived.Laws.OwnMore
set_option linter.unusedVariables false
set_option linter.unusedSimpArgs false
namespace Go.Proofs.YtamihjgfncjdoaaDoor
open Go Go.RowKit
section
variable {P : Program} {X : Ctx} {n : Nat} {σ : AS} {Q : Exit → AS → Prop} {c : Code}
end
section
variable {P : Program} {X : Ctx} {n : Nat} {ops : Array Oper} {os : List Oper} {acc : List Rule} {σ : AS} {K : List Rule → AS → Prop} {gt : List (Nat × AV)} {ty : TypeId} {ps : String} {af : Array Edge} {g : Option (Nat × Bool)} {d : Option Nat} {TB : Tabs} (hTB : TabsOk P TB)
include hTB
end
/-- A function's law out of a walk of its body, where it is handed no box. -/
theorem acalls_of0 {P : Program} {TB : Tabs} {G : Nat → Option (List Value)} {f : FuncId} {args : List AV} {r : AV} (hTB : TabsOk P TB) {fn : Func} {c : Code} (he : Enter P f) (hf : P.funcs[f]? = some fn) (hb : fn.body = some c) (n : Nat) (hn : fn.ntmps = n) (hle : args.length ≤ n)
    (h : ∀ X : Ctx, X.G = G → X.gs = [] → AWp P X n c (RetQ TB fn 0 r []) (start0 args [])) : ACalls P G f args [] r [] := by
  refine ⟨he, fun M w gs vs hl hG hnd hr hv hrep => ?_⟩
  have hgs : gs = [] := List.eq_nil_of_length_eq_zero hr.len
  subst hgs
  refine calls_of_wp hf hb ?_
  rw [hn]
  have hR := start_rel (n := n) hl hG hnd hr hv hrep hle
  refine wp_mono ((h ⟨w, [], [], G, M⟩ rfl rfl).run M (refρ []) _ w hR) ?_
  rintro e a' w' ⟨M', ρ', σ', hR', hQ⟩
  exact retQ_post hTB hnd hl (by simp) hR' hQ
section
variable {P : Program} {X : Ctx} {n : Nat} {ops : Array Oper} {os : List Oper} {acc : List Rule} {σ : AS} {K : List Rule → AS → Prop} {gt : List (Nat × AV)} {ty : TypeId} {ps : String} {af : Array Edge} {g : Option (Nat × Bool)}
end
end Go.Proofs.YtamihjgfncjdoaaDoor
namespace Go.Proofs.YtamihjgfncjdoaaDoor
open Go Go.RowKit
section
variable {P : Program} {X : Ctx} {n : Nat} {ops : Array Oper} {os : List Oper} {acc : List Rule} {σ : AS} {K : List Rule → AS → Prop} {gt : List (Nat × AV)} {ty : TypeId} {ps : String} {af : Array Edge} {g : Option (Nat × Bool)}
variable {TB : Tabs} (hTB : TabsOk P TB)
include hTB
end
section
variable {P : Program} {X : Ctx} {n : Nat} {σ : AS} {Q Q' : Exit → AS → Prop}
theorem awp_mono {c : Code} (h : ∀ e τ, Q e τ → Q' e τ) (h1 : AWp P X n c Q σ) : AWp P X n c Q' σ := by
  refine ⟨fun M ρ a w hR => wp_mono (h1.run M ρ a w hR) ?_⟩
  rintro e a' w' ⟨M', ρ', σ', hR', hQ⟩
  exact ⟨M', ρ', σ', hR', h _ _ hQ⟩
/-- The ways of a block come together behind it. -/
theorem awp_viaB {ι : Type} {id : Nat} (ok : (Nat → Nat) → ι → Prop) (lT : (Nat → Nat) → ι → List (Nat × AV)) (lH : (Nat → Nat) → ι → List (Nat × Cont)) {c y : Code}
    (h1 : AWp P X n c (inBlockA id (thenA (fun τ => At ok lT lH τ fun _ => True) Q')) σ) (h2 : ∀ v i, ok v i → AWp P X n y Q (st v (lT v i) (lH v i))) : AWp P X n c (inBlockA id (thenA (AWp P X n y Q) Q')) σ := by
  have key : ∀ e τ, thenA (fun τ => At ok lT lH τ fun _ => True) Q' e τ → thenA (AWp P X n y Q) Q' e τ := fun e τ h => by
    cases e with
    | normal =>
      obtain ⟨j, hj, -, h3, h4⟩ := h
      exact AWp.weak (st_wk h3 h4) (h2 _ j hj)
    | _ => exact h
  refine awp_mono (fun e τ h => ?_) h1
  unfold inBlockA at h ⊢
  cases e with
  | exit j =>
    simp only at h ⊢
    cases hb : Nat.beq j id
    · rw [hb] at h; exact key _ _ (by simpa using h)
    · rw [hb] at h; exact key _ _ (by simpa using h)
  | _ => exact key _ _ h
end
end Go.Proofs.YtamihjgfncjdoaaDoor
