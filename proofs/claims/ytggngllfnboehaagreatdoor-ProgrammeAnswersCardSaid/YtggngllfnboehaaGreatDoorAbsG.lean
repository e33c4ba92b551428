/- Tables of the program: a cell of one, a row of all its cells; conditions: tables of types that agree with the program's. -/
import Derived.Test.YtggngllfnboehaaGreatDoorAbsX
set_option linter.unusedVariables false
set_option linter.unusedSimpArgs false
namespace Go.Proofs.YtggngllfnboehaaGreatDoor
open Go Go.RowKit
section
variable {P : Program} {X : Ctx} {n : Nat} {ops : Array Oper} {os : List Oper} {acc : List Rule} {σ : AS} {K : List Rule → AS → Prop} {gt : List (Nat × AV)} {ty : TypeId} {ps : String} {af : Array Edge} {g : Option (Nat × Bool)} {d : Option Nat}
theorem jo {x : Operand} {s k off : Nat} (hx : ev σ x = .po s k off) (h : Exec P X n ops os (mkG gt σ [x] [] d (.po s k off) [] :: acc) (σ.put d (.po s k off)) K) : Op1 P X n ops gt ⟨d, .nilCheck x, ty, ps, af, g⟩ os acc σ K :=
  yy (fun M ρ τ a w he hR => by
    have h1 := hR.ev x
    rw [he x (by simp), hx] at h1
    obtain ⟨g', l, c, e1, e2⟩ := h1.po_inv
    refine ⟨_, ?_, .po _ s k off g' l c e1⟩
    unfold execOp
    simp only [e2]
    rfl) h
end
section
variable {P : Program} {X : Ctx} {n : Nat} {ops : Array Oper} {os : List Oper} {acc : List Rule} {σ : AS} {K : List Rule → AS → Prop} {gt : List (Nat × AV)} {ty : TypeId} {ps : String} {af : Array Edge} {g : Option (Nat × Bool)} {d : Option Nat}
variable {TB : Tabs} (hTB : TabsOk P TB)
include hTB
theorem x_indexAddr_gl {t : TypeId} {x i : Operand} {gl o len sz e : Nat} {b : Bool} {kk : IntKind} {z : Int} (ht : P.underlying t = some (.array len e)) (hz : lk TB.ty e = some (b, sz)) (hx : ev σ x = .v (.pointer (some ⟨gl, o, none⟩))) (hi : ev σ i = .v (.int kk z)) (h0 : 0 ≤ z ∧ z < (len : Int))
    (h : Exec P X n ops os (mkG gt σ [x, i] [] d (.v (.pointer (some ⟨gl, o + z.toNat * sz, none⟩))) [] :: acc) (σ.put d (.v (.pointer (some ⟨gl, o + z.toNat * sz, none⟩)))) K) : Op1 P X n ops gt ⟨d, .indexAddr t x i, ty, ps, af, g⟩ os acc σ K :=
  yy (fun M ρ τ a w he hR => by
    have h1 := jH hR (he x (by simp)) hx
    have h2 := jH hR (he i (by simp)) hi
    refine ⟨.pointer (some ⟨gl, o + z.toNat * sz, none⟩), ?_, .v _ _⟩
    unfold execOp
    simp only [h1, h2, Instr.indexAt, asIntOf, Instr.sureAddr, Sem.run_bind, Sem.run_pure, run_underlying ht, Result.andThen_ok, Sem.run_ite, if_pos h0, qO hTB hz, Addr.add_mid]) h
theorem x_load_gl {t : TypeId} {x : Operand} {gl o : Nat} {vs : List Value} {u : Value} (ht : lk TB.ty t = some (false, 1)) (hx : ev σ x = .v (.pointer (some ⟨gl, o, none⟩))) (hG : X.G gl = some vs) (hu : vs[o]? = some u)
    (h : Exec P X n ops os (mkG gt σ [x] [] d (.v u) [] :: acc) (σ.put d (.v u)) K) : Op1 P X n ops gt ⟨d, .load t x, ty, ps, af, g⟩ os acc σ K :=
  yy (fun M ρ τ a w he hR => by
    have h1 := jH hR (he x (by simp)) hx
    obtain ⟨t', fr, hh⟩ := hR.live gl ⟨vs⟩ (hR.glob gl vs hG)
    refine ⟨u, ?_, .v _ _⟩
    have hc : w.cell? ⟨gl, o, none⟩ = some u := by rw [cell_of_row w gl o ⟨vs⟩ t' fr hh]; simpa using hu
    unfold execOp
    simp only [h1, Instr.loadAt, Instr.sureAddr, loadVar, Sem.run_bind, Sem.run_pure, Result.andThen_ok, run_agg hTB ht, Bool.false_eq_true, if_false, run_load, hc]) h
theorem x_slice_gl {t : TypeId} {x : Operand} {gl len e : Nat} {vs : List Value} (ht : P.underlying t = some (.array len e)) (hz : lk TB.ty e = some (false, 1)) (hx : ev σ x = .v (.pointer (some ⟨gl, 0, none⟩))) (hG : X.G gl = some vs) (hl : vs.length = len) (hm : len ≤ maxLen) (h0 : 0 < len)
    (h : Exec P X n ops os (mkG gt σ [x] [] d (.sl 1 (vs.map .v)) [] :: acc) (σ.put d (.sl 1 (vs.map .v))) K) : Op1 P X n ops gt ⟨d, .slice t x none none none, ty, ps, af, g⟩ os acc σ K :=
  yy (fun M ρ τ a w he hR => by
    have h1 := jH hR (he x (by simp)) hx
    have hM := hR.glob gl vs hG
    have hr : (Instr.sliceAt t (.pointer (some ⟨gl, 0, none⟩)) none none none).run P w = .ok (.slice (some ⟨gl, 0, none⟩) len len) w := by
      unfold Instr.sliceAt
      simp only [Sem.run_bind, run_underlying ht, Result.andThen_ok, Instr.sureAddr, Sem.run_pure, Instr.sliceBounds, qO hTB hz]
      rw [if_neg (by omega)]
      simp [Addr.add_mid]
    refine ⟨.slice (some ⟨gl, 0, none⟩) len len, by unfold execOp; simp only [h1, Option.map_none, Sem.run_bind, hr]; rfl, ?_⟩
    have key : Rep M ρ (.sl 1 (vs.map .v)) (.slice (some ⟨gl, 0, none⟩) (vs.map AV.v).length len) := by
      refine .sl _ 1 _ _ _ (fun k _ => (vs[k]?).getD undef) (by simp; omega) hm (fun k x j y hk hy => ?_) (fun k x hk => ?_)
      · rw [List.getElem?_map] at hk
        cases hx : vs[k]? with
        | none => rw [hx] at hk; cases hk
        | some z =>
          rw [hx] at hk
          injection hk with hk
          subst hk
          match j, hy with
          | 0, hy => injection hy with hy; subst hy; exact .v _ _
      · rw [List.getElem?_map] at hk
        cases hx : vs[k]? with
        | none => rw [hx] at hk; cases hk
        | some z =>
          rw [hx] at hk
          injection hk with hk
          subst hk
          refine ⟨rfl, gl, 0, ⟨vs⟩, rfl, hM, fun j hj => ?_⟩
          obtain rfl : j = 0 := by omega
          simp [hx]
    rw [List.length_map, hl] at key
    exact key) h
end
end Go.Proofs.YtggngllfnboehaaGreatDoor
