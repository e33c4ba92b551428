/- Maps whose keys are structs, in the abstract machine: looked up, and given a new entry; conditions: none. -/
import Derived.Test.YtbacidnhjmdnlaaDoorAbsX
set_option linter.unusedVariables false
set_option linter.unusedSimpArgs false
namespace Go.Proofs.YtbacidnhjmdnlaaDoor
open Go Go.RowKit
/-- What a key leads to among a map's entries, however keys are compared. -/
def FindK (P : Program) (kt : TypeId) (key : Value) (L : List (Value × Value)) (r : Option Value) : Prop :=
  ∀ (es : List MapEntry) (w : World), es.map (fun e => (e.key, e.val)) = L → ∃ q, (Instr.findKey kt key es).run P w = .ok q w ∧ q.map (·.2) = r
section
variable {P : Program} {X : Ctx} {n : Nat} {ops : Array Oper} {os : List Oper} {acc : List Rule} {σ : AS} {K : List Rule → AS → Prop} {gt : List (Nat × AV)} {ty : TypeId} {ps : String} {af : Array Edge} {g : Option (Nat × Bool)}
theorem x_lookupK {d : Option Nat} {t kt et : TypeId} {m x : Operand} {s k k' : Nat} {L : List (Value × Value)} {key z : Value} {kx : AV} {r : Option Value} (ht : P.underlying t = some (.map kt et)) (hkey : ∀ (b : Bool) w, (Instr.checkKey b 10000 kt key).run P w = .ok () w) (hz : ∀ w, (zeroValue et).run P w = .ok z w) (hm : ev σ m = .own s k) (hH : σ.H s = ⟨k', .mp L⟩) (hkk : k = k') (hx : vf (ev σ x) = some kx) (hxv : valOf kx = some key) (hr : FindK P kt key L r) (y : AV) (hy : y = avOf (r.getD z))
    (h : Exec P X n ops os (mkG gt σ [m, x] [s] d y [] :: acc) (σ.put d y) K) : Op1 P X n ops gt ⟨d, .lookup t m x false, ty, ps, af, g⟩ os acc σ K := by
  subst hy
  refine ⟨⟨mkR σ [m, x] [s] d (avOf (r.getD z)) [], rule_val rfl fun M ρ τ a w hf hR => ?_, mkR_fires _ _ _ _ _ _, h⟩⟩
  subst hkk
  have hHs := (mkR_H hf (s := s) (by simp)).trans hH
  have h1 := hR.ev m
  rw [mkR_ev hf (by simp), hm] at h1
  have h2 := hR.ev x
  rw [mkR_ev hf (by simp), vf_eq hx] at h2
  have h2 := valOf_rep h2 hxv
  obtain ⟨g', es, b1, e1, b2, b4, b5, b3⟩ := hR.map_at hHs h1
  obtain ⟨q, q1, q2⟩ := hr es.toList w b4
  refine ⟨r.getD z, w, M, ρ, ?_, hR, avOf_rep _⟩
  unfold execOp
  simp only [e1, h2, Instr.lookup, Sem.run_bind, run_underlying ht, Result.andThen_ok, MapKept.run_getObj_map b2, hkey, q1, Sem.run_pure]
  cases q with
  | none => simp only [Option.map_none] at q2; subst q2; simp [hz]
  | some p => simp only [Option.map_some] at q2; subst q2; simp
theorem x_mapPushK {t kt et : TypeId} {m x y : Operand} {s k k' : Nat} {L : List (Value × Value)} {key v : Value} {kx z : AV} (ht : P.underlying t = some (.map kt et)) (hkey : ∀ (b : Bool) w, (Instr.checkKey b 10000 kt key).run P w = .ok () w) (hm : ev σ m = .own s k) (hH : σ.H s = ⟨k', .mp L⟩) (hkk : k = k') (hx : vf (ev σ x) = some kx) (hxv : valOf kx = some key) (hz : vf (ev σ y) = some z) (hy : valOf z = some v) (hr : FindK P kt key L none)
    (h : Exec P X n ops os (mkG gt σ [m, x, y] [s] none (.v undef) [(s, ⟨k', .mp (L ++ [(key, v)])⟩)] :: acc) (σ.hup s ⟨k', .mp (L ++ [(key, v)])⟩) K) : Op1 P X n ops gt ⟨none, .mapUpdate t m x y, ty, ps, af, g⟩ os acc σ K := by
  refine ⟨⟨mkR σ [m, x, y] [s] none (.v undef) [(s, ⟨k', .mp (L ++ [(key, v)])⟩)], rule_unit rfl rfl fun M ρ τ a w hf hR => ?_, mkR_fires _ _ _ _ _ _, h⟩⟩
  subst hkk
  have hHs := (mkR_H hf (s := s) (by simp)).trans hH
  have h1 := hR.ev m
  rw [mkR_ev hf (by simp), hm] at h1
  have h2 := hR.ev x
  rw [mkR_ev hf (by simp), vf_eq hx] at h2
  have h2 := valOf_rep h2 hxv
  have h3 := hR.ev y
  rw [mkR_ev hf (by simp), vf_eq hz] at h3
  have h3 := valOf_rep h3 hy
  obtain ⟨g', es, b1, e1, b2, b4, b5, b3⟩ := hR.map_at hHs h1
  obtain ⟨q, q1, q2⟩ := hr es.toList w b4
  have hq : q = none := by cases q with
    | none => rfl
    | some p => cases q2
  subst hq
  have hS := hR.storeOb (o' := .mp (L ++ [(key, v)])) (x' := .map (es.push { key, val := v, born := es.size }) (es.size + 1)) hHs b1 rfl b2 b3 ⟨rfl, es.push { key, val := v, born := es.size }, by rw [(MapKept.heap_set b2).1]; simp, by rw [Array.toList_push, List.map_append, b4]; rfl, fun i e he => by
    rw [Array.getElem?_push] at he
    split at he
    · rename_i hi; injection he with he; subst he; exact hi.symm
    · exact b5 i e he⟩
  refine ⟨_, M, ρ, ?_, hS⟩
  unfold execOp
  simp only [e1, h2, h3, Instr.mapUpdate, Sem.run_bind, run_underlying ht, Result.andThen_ok, MapKept.run_getObj_map b2, hkey, q1, MapKept.run_setObj_map _ b2]
  rfl
end
end Go.Proofs.YtbacidnhjmdnlaaDoor
