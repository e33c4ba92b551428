/- Parts of own buffers: sliced, measured, and laid behind one another in place; conditions: tables of types that agree with the program's / Calls that are handed boxes with buffers in them: what such a call comes to, how a walk of a body gives its law, how the law serves in a walk; conditions: none / Own rows in a box that was handed over: nil becomes own, own becomes frozen, own moves to another site; conditions: none. -/
import Derived.Test.YtamihjgfncjdoaaGreatDoorAbsX
set_option linter.unusedVariables false
set_option linter.unusedSimpArgs false
namespace Go.Proofs.YtamihjgfncjdoaaGreatDoor
open Go Go.RowKit
section
variable {P : Program} {X : Ctx} {n : Nat} {ops : Array Oper} {os : List Oper} {acc : List Rule} {σ : AS} {K : List Rule → AS → Prop} {gt : List (Nat × AV)} {ty : TypeId} {ps : String} {af : Array Edge} {g : Option (Nat × Bool)}
variable {TB : Tabs} (hTB : TabsOk P TB)
include hTB
end
section
variable {P : Program} {X : Ctx} {n : Nat} {σ : AS} {Q : Exit → AS → Prop} {c : Code}
/-- A buffer of the frame's own, under another site's name. -/
theorem awp_reown {t s d k kd e sz : Nat} {c0 : Cont} {L : List AV} (hT : σ.T t = .own s k) (hHs : σ.H s = ⟨k, .buf e sz L⟩) (hH : σ.H d = ⟨kd, c0⟩) (hne : d ≠ s)
    (h : AWp P X n c Q (((σ.hup s ⟨k, .dead⟩).hup d ⟨kd + 1, .buf e sz L⟩).put (some t) (.own d (kd + 1)))) : AWp P X n c Q σ := by
  refine ⟨fun M ρ a w hR => ?_⟩
  obtain rfl : (σ.H d).k = kd := by rw [hH]
  obtain ⟨u, us, b1, b2, b3, b4, b5, b6⟩ := hR.buf s k e sz L hHs
  have hto := hR.tm t
  rw [hT] at hto
  have hu := hto.own_inv
  rw [b1] at hu
  injection hu with hu
  have hweak : Rel X n M ρ (σ.hup s ⟨k, .dead⟩) a w := hR.weak ⟨fun _ => .inl rfl, fun s' => by
    simp only [AS.hup]
    by_cases hs' : s' = s
    · subst hs'; rw [Nat.beq_refl]; exact ⟨by rw [hHs]; rfl, .inr rfl⟩
    · rw [beq_ne hs']; exact ⟨rfl, .inl rfl⟩⟩
  have hkd : ((σ.hup s ⟨k, .dead⟩).H d).k = (σ.H d).k := by simp only [AS.hup, beq_ne hne]; rfl
  have hA := hweak.appendTo d (L := L) (w' := w) (news := []) (v' := u) b2 (by rw [List.append_nil]; exact b2.1) ⟨rfl, rfl, rfl, Nat.le_refl _, fun _ _ _ => rfl⟩ (.inl rfl) b3 (fun s' g hg hs' => by
      simp only [AS.hup] at hs'
      by_cases he : s' = s
      · subst he; rw [Nat.beq_refl] at hs'; simp [blkOf] at hs'
      · rw [beq_ne he] at hs'; exact he (hR.sep s' s g hs' (by rw [hHs]; simp [blkOf, b1, hg])))
    (by rw [List.append_nil]; exact b4) b5 (by rw [List.append_nil]; exact b6)
  rw [hkd] at hA
  refine h.run M _ a w ⟨hA.live, hA.sz, fun j => ?_, hA.box, hA.buf, hA.sep, hA.fresh, hA.glob, hA.base, hA.root, hA.os, hA.tape, hA.output, hA.size, hA.frame, hA.df, hA.mp⟩
  show Rep M _ (bif Nat.beq j t then .own d ((σ.H d).k + 1) else σ.T j) _
  by_cases he : j = t
  · subst he
    rw [Nat.beq_refl]
    refine .own _ _ _ _ (by simp [updρ, hu]) ?_
    rw [← hu]
    exact (vblk_own b2.1).2
  · rw [beq_ne he]; exact hA.tm j
end
end Go.Proofs.YtamihjgfncjdoaaGreatDoor
namespace Go.Proofs.YtamihjgfncjdoaaGreatDoor
open Go Go.RowKit
def blks (vs : List Value) : List Nat := vs.filterMap vblk
def Cont.live : Cont → Bool
  | .box _ => true
  | .buf _ _ _ => true
  | _ => false
@[reducible] def ctxJ (w : World) (vs : List Value) (G : Nat → Option (List Value)) (M : Nat → Option (Array Value)) : Ctx := ⟨w, blks vs, vs, G, M⟩
section
variable {P : Program} {TB : Tabs} {X : Ctx} {n : Nat} {M : Nat → Option (Array Value)} {ρ : Nat → Nat → Option Value} {σ : AS} {a : Act} {w : World}
end
section
variable {P : Program} {TB : Tabs} {G : Nat → Option (List Value)} {f : FuncId} {args : List AV} {refs : List Cont} {r : AV} {refs' : List Cont}
end
section
variable {P : Program} {X : Ctx} {n : Nat} {M : Nat → Option (Array Value)} {ρ : Nat → Nat → Option Value} {σ : AS} {a : Act} {w : World}
end
section
variable {P : Program} {X : Ctx} {n : Nat} {ops : Array Oper} {os : List Oper} {acc : List Rule} {σ : AS} {K : List Rule → AS → Prop} {gt : List (Nat × AV)} {d : Option Nat} {ty : TypeId} {ps : String} {af : Array Edge} {g : Option (Nat × Bool)}
end
section
variable {P : Program} {X : Ctx} {n : Nat} {σ : AS} {Q : Exit → AS → Prop} {c : Code}
end
section
variable {P : Program} {X : Ctx} {n : Nat} {ops : Array Oper} {os : List Oper} {acc : List Rule} {σ : AS} {K : List Rule → AS → Prop} {gt : List (Nat × AV)} {ty : TypeId} {ps : String} {af : Array Edge} {g : Option (Nat × Bool)}
end
section
variable {P : Program} {X : Ctx} {n : Nat} {ops : Array Oper} {os : List Oper} {acc : List Rule} {σ : AS} {K : List Rule → AS → Prop} {gt : List (Nat × AV)} {ty : TypeId} {ps : String} {af : Array Edge} {g : Option (Nat × Bool)}
end
end Go.Proofs.YtamihjgfncjdoaaGreatDoor
namespace Go.Proofs.YtamihjgfncjdoaaGreatDoor
open Go Go.RowKit
section
variable {P : Program} {X : Ctx} {n : Nat} {σ : AS} {Q : Exit → AS → Prop} {c : Code}
end
end Go.Proofs.YtamihjgfncjdoaaGreatDoor
