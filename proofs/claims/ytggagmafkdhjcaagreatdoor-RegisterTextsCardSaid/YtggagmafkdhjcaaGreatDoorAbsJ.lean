/- Parts of own buffers: sliced, measured, and laid behind one another in place; conditions: tables of types that agree with the program's / Calls that are handed boxes with buffers in them: what such a call comes to, how a walk of a body gives its law, how the law serves in a walk; conditions: none. -/
import Derived.Test.YtggagmafkdhjcaaGreatDoorAbsX
set_option linter.unusedVariables false
set_option linter.unusedSimpArgs false
namespace Go.Proofs.YtggagmafkdhjcaaGreatDoor
open Go Go.RowKit
section
variable {P : Program} {X : Ctx} {n : Nat} {ops : Array Oper} {os : List Oper} {acc : List Rule} {σ : AS} {K : List Rule → AS → Prop} {gt : List (Nat × AV)} {ty : TypeId} {ps : String} {af : Array Edge} {g : Option (Nat × Bool)}
variable {TB : Tabs} (hTB : TabsOk P TB)
include hTB
end
section
variable {P : Program} {X : Ctx} {n : Nat} {σ : AS} {Q : Exit → AS → Prop} {c : Code}
end
end Go.Proofs.YtggagmafkdhjcaaGreatDoor
namespace Go.Proofs.YtggagmafkdhjcaaGreatDoor
open Go Go.RowKit
def blks (vs : List Value) : List Nat := vs.filterMap vblk
def Cont.live : Cont → Bool
  | .box _ => true
  | .buf _ _ _ => true
  | _ => false
@[reducible] def ctxJ (w : World) (vs : List Value) (G : Nat → Option (List Value)) (M : Nat → Option (Array Value)) : Ctx := ⟨w, blks vs, vs, G, M⟩
section
variable {P : Program} {TB : Tabs} {X : Ctx} {n : Nat} {M : Nat → Option (Array Value)} {ρ : Nat → Nat → Option Value} {σ : AS} {a : Act} {w : World}
end
section
variable {P : Program} {TB : Tabs} {G : Nat → Option (List Value)} {f : FuncId} {args : List AV} {refs : List Cont} {r : AV} {refs' : List Cont}
end
section
variable {P : Program} {X : Ctx} {n : Nat} {M : Nat → Option (Array Value)} {ρ : Nat → Nat → Option Value} {σ : AS} {a : Act} {w : World}
end
section
variable {P : Program} {X : Ctx} {n : Nat} {ops : Array Oper} {os : List Oper} {acc : List Rule} {σ : AS} {K : List Rule → AS → Prop} {gt : List (Nat × AV)} {d : Option Nat} {ty : TypeId} {ps : String} {af : Array Edge} {g : Option (Nat × Bool)}
end
section
variable {P : Program} {X : Ctx} {n : Nat} {σ : AS} {Q : Exit → AS → Prop} {c : Code}
end
section
variable {P : Program} {X : Ctx} {n : Nat} {ops : Array Oper} {os : List Oper} {acc : List Rule} {σ : AS} {K : List Rule → AS → Prop} {gt : List (Nat × AV)} {ty : TypeId} {ps : String} {af : Array Edge} {g : Option (Nat × Bool)}
end
section
variable {P : Program} {X : Ctx} {n : Nat} {ops : Array Oper} {os : List Oper} {acc : List Rule} {σ : AS} {K : List Rule → AS → Prop} {gt : List (Nat × AV)} {ty : TypeId} {ps : String} {af : Array Edge} {g : Option (Nat × Bool)}
end
theorem cD {TB : Tabs} {σ : AS} {fn : Func} {r : AV} {e : Exit} {p ty t t2 s k m : Nat} {cs : List AV} {z z2 : AV} (he : e = .normal ∨ e = .ret) (hfn : fn.results = #[.cell p ty, .tmp t, .tmp t2]) (hT : σ.T p = .ptr s k 0) (hH : σ.H s = ⟨k, .box cs⟩) (ht : lk TB.ty ty = some (true, m)) (hl : cs.length = m) (hT2 : vf (σ.T t) = some z) (hT3 : vf (σ.T t2) = some z2) (hr : Ren (bufs σ) (jU 0 []) r (.tu [.ag cs, z, z2])) : RetQ TB fn 0 r [] e σ := by
  refine ret0 he (xs := [.ag cs, σ.T t, σ.T t2]) ?_ (by rw [jp hT2, jp hT3]; exact hr)
  rw [hfn]
  exact ⟨.agg p ty s k m cs hT hH ht hl, .tmp t, .tmp t2, trivial⟩
end Go.Proofs.YtggagmafkdhjcaaGreatDoor
