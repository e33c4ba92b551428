/- A callee that gives back a new map of its own; conditions: none. -/
import Derived.Test.YtamihjgfncjdoaaDoorAbsU
set_option linter.unusedVariables false
set_option linter.unusedSimpArgs false
namespace Go.Proofs.YtamihjgfncjdoaaDoor
open Go Go.RowKit
section
variable {X : Ctx} {n : Nat} {M : Nat → Option (Array Value)} {ρ : Nat → Nat → Option Value} {σ : AS} {a : Act} {w : World}
end
section
variable {P : Program} {TB : Tabs} {G : Nat → Option (List Value)} {f : FuncId} {args : List AV} {L : List (Value × Value)}
end
section
variable {P : Program} {X : Ctx} {n : Nat} {ops : Array Oper} {os : List Oper} {acc : List Rule} {σ : AS} {K : List Rule → AS → Prop} {gt : List (Nat × AV)} {ty : TypeId} {ps : String} {af : Array Edge} {g : Option (Nat × Bool)}
end
/-- A call whose contract is known elsewhere: numbers, strings and truth values go in and come out. -/
theorem acalls_lib {P : Program} {G : Nat → Option (List Value)} {f : FuncId} {vs : List Value} {r : Value} {y : AV} (he : Enter P f) (hy : ∀ M ρ, Rep M ρ y r) (h : ∀ w, (∀ g us, G g = some us → ∃ t fr, w.heap[g]? = some (.cells ⟨us⟩ t fr)) → Calls P f ⟨vs⟩ w (fun e w' => e = .returned r ∧ Below w.heap.size w w')) :
    ACalls P G f (vs.map .v) [] y [] := by
  refine ⟨he, fun M w gs us hl hG hnd hr hv hrep => ?_⟩
  have hgs : gs = [] := List.eq_nil_of_length_eq_zero hr.len
  subst hgs
  have hus : us = vs := by
    apply List.ext_getElem?
    intro j
    rw [List.length_map] at hv
    cases hj : us[j]? with
    | none =>
      rw [List.getElem?_eq_none_iff] at hj
      exact (List.getElem?_eq_none (by omega)).symm
    | some u =>
      obtain ⟨x, hx⟩ := some_at (L := vs) (k := j) (by have := lt_at hj; omega)
      have := hrep j (.v x) u (by rw [List.getElem?_map, hx]; rfl) hj
      rw [hx, this.v_inv]
  subst hus
  refine (h w fun g u e => ?_).mono ?_
  · exact hl g _ (hG g u e)
  · rintro en w' ⟨rfl, hb⟩
    exact ⟨r, M, [], rfl, fun _ _ e => e, fun g arr e => by
      obtain ⟨t, fr, h1⟩ := hl g arr e
      exact ⟨t, fr, (hb.block g (Array.getElem?_eq_some_iff.1 h1).1).trans h1⟩, hb.os, hb.tape, hb.output, hb.size, fun g hg _ => hb.block g hg, fun g _ e => e, by simp, by simp, ⟨rfl, by simp⟩, hy _ _⟩
end Go.Proofs.YtamihjgfncjdoaaDoor
