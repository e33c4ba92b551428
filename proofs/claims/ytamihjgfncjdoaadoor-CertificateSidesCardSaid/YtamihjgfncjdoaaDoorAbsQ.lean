/- Closures that capture two variables, and calls that are handed two boxes; conditions: none. -/
import Derived.Test.YtamihjgfncjdoaaDoorAbsX
set_option linter.unusedVariables false
set_option linter.unusedSimpArgs false
namespace Go.Proofs.YtamihjgfncjdoaaDoor
open Go Go.RowKit
theorem in2 {σ : AS} {π : Nat → Option (Nat × Nat)} {s k s2 k2 : Nat} {c c2 : List AV} (hH : σ.H s = ⟨k, .box c⟩) (h : pureL c = true) (hH2 : σ.H s2 = ⟨k2, .box c2⟩) (h2 : pureL c2 = true) : RefsIn σ π [(s, k), (s2, k2)] [c, c2] := ⟨⟨c, hH, renl_self h⟩, ⟨c2, hH2, renl_self h2⟩, trivial⟩
theorem back2 {π : Nat → Option (Nat × Nat)} {c c2 : List AV} (h : pureL c = true) (h2 : pureL c2 = true) : RefsBack π [c, c2] [c, c2] := ⟨renbl_self h, renbl_self h2, trivial⟩
section
variable {σ : AS}
theorem ret2_v {TB : Tabs} {fn : Func} {r : AV} {u : Value} {t k k2 : Nat} {e : Exit} {c c' c2 c2' : List AV} (he : e = .normal ∨ e = .ret) (hfn : fn.results = #[.tmp t]) (hT : σ.T t = .v u) (hH : σ.H (refB + 0) = ⟨k, .box c'⟩) (hk : k = 0) (hH2 : σ.H (refB + 1) = ⟨k2, .box c2'⟩) (hk2 : k2 = 0) (hr : r = .v u) (hc : RenL (bufs σ) (frameπ 2 []) c c') (hc2 : RenL (bufs σ) (frameπ 2 []) c2 c2') : RetQ TB fn 2 r [c, c2] e σ := by
  subst hr; subst hk; subst hk2
  refine ⟨he, [σ.T t], [], ?_, rfl, by simp, by simp, ?_, refs_at (by omega) hH hc, refs_at (by omega) hH2 hc2, trivial⟩
  · rw [hfn]; exact ⟨.tmp t, trivial⟩
  · show Ren _ _ (.v u) (σ.T t)
    rw [hT]; exact .v u
end
section
variable {P : Program} {X : Ctx} {n : Nat} {ops : Array Oper} {os : List Oper} {acc : List Rule} {σ : AS} {K : List Rule → AS → Prop} {gt : List (Nat × AV)} {ty : TypeId} {ps : String} {af : Array Edge} {g : Option (Nat × Bool)}
theorem x_makeFunc2 {d : Option Nat} {f : FuncId} {x x2 : Operand} (y y2 : AV) (hy : ev σ x = y) (hy2 : ev σ x2 = y2) (h : Exec P X n ops os (mkG gt σ [x, x2] [] d (.fn f [y, y2]) [] :: acc) (σ.put d (.fn f [y, y2])) K) : Op1 P X n ops gt ⟨d, .makeFunc (.func f) #[] #[x, x2], ty, ps, af, g⟩ os acc σ K :=
  x_pure (fun M ρ τ a w he hR => by
    have h1 := hR.ev x
    rw [he x (by simp), hy] at h1
    have h2 := hR.ev x2
    rw [he x2 (by simp), hy2] at h2
    refine ⟨.func (.func f) #[] ⟨[a.eval x, a.eval x2]⟩, by unfold execOp; simp [Instr.makeFunc], .fn _ f _ _ rfl (fun j y u a b => ?_)⟩
    match j, a, b with
    | 0, a, b => simp at a b; subst a; subst b; exact h1
    | 1, a, b => simp at a b; subst a; subst b; exact h2
    | j + 2, a, b => simp at a) h
end
section
variable {P : Program} {X : Ctx} {n : Nat} {ops : Array Oper} {os : List Oper} {acc : List Rule} {σ : AS} {K : List Rule → AS → Prop} {gt : List (Nat × AV)} {d : Option Nat} {ty : TypeId} {ps : String} {af : Array Edge} {g : Option (Nat × Bool)} {TB : Tabs}
end
end Go.Proofs.YtamihjgfncjdoaaDoor
