/- FieldreportBelief: for every list of numbers, in whatever memory in which the listed tables stand as the program's text lays them, the law returns true and its argument reads behind the call as it read before; conditions: none beyond the card's. -/
import Derived.Test.YtgpglcccjkpmdaaDoorRowH
import Derived.Test.YtgpglcccjkpmdaaDoorFbL
set_option linter.unusedVariables false
set_option linter.unusedSimpArgs false
namespace Go.Proofs.YtgpglcccjkpmdaaDoor
open Go Go.ChangeShapes Go.WideShapes Go.ChangeAt Go.RowKit
theorem belief_laid {W : World} (h : laidMetH Tryd.prog Rows.fieldreportBeliefRow.laid W) : Cls W ∧ Pow W := by
  rw [MakeChecks.laidMetH_plain _ _ _ (by kernel_rfl)] at h
  exact ⟨cls_of_head h.tail.tail.tail, pow_of_head h.tail.tail⟩
theorem bel_read : ∀ t ∈ Tryd.f6.params.toList, Tryd.prog.readableRec t = true ∧ t < Tryd.prog.types.size := by
  intro t ht
  rw [Tryd.params6] at ht
  simp at ht
  rcases ht with rfl <;> exact ⟨by kernel_rfl, of_decide_eq_true (by kernel_rfl)⟩
theorem bel_door (os : Os) (args : Array Value) : laidMetH Tryd.prog Rows.fieldreportBeliefRow.laid ((World.doorLaid Tryd.prog 400 os).forCall (fun _ _ => 0) ⟨#[], args, []⟩).memory :=
  laidMetH_of_parts3 (fuel := 8) (laidMet_of_run' 8 (by kernel_rfl) (by kernel_rfl)) (by kernel_rfl) (by kernel_rfl)
set_option maxRecDepth 100000 in
theorem bel_lifted (os : Os) (started : os.Started) (H : Type) (enc : TypeId × Value → H) :
    ReturnsInHanded {} Tryd.checked os 6 .any (fun w args => (Rows.fieldreportBeliefSpec.pre enc Tryd.prog Tryd.f6 [] false w args ∧ laidMetH Tryd.prog Rows.fieldreportBeliefRow.laid w) ∧ sizedMet enc Tryd.prog Tryd.f6 (OpenSpec.ofChange Rows.fieldreportBeliefSpec) false w args)
      (Rows.fieldreportBeliefSpec.post enc Tryd.prog Tryd.f6 false true false false) := by
  refine returnsInHanded_of_change_and (C := Tryd.checked) (X := fun w _ => laidMetH Tryd.prog Rows.fieldreportBeliefRow.laid w) (fun _ _ _ hh h => h.of_heap hh) ownD started (by kernel_rfl) Tryd.func6
    (ChangeSpec.witness_shaped (enc := enc) (C := Tryd.checked) (os := os) (X := fun w _ => laidMetH Tryd.prog Rows.fieldreportBeliefRow.laid w) false (World.doorLaid Tryd.prog 400 os) #[.slice none 0 0] 8 rfl (World.shaped_of_RefB (by kernel_rfl) (by kernel_rfl)) (by kernel_rfl) (by kernel_rfl) (by kernel_rfl) (bel_door os _)) ?_
  intro W base args ds gs before hval0 hW _ _ hL _
  have hval : ∀ (j : Nat) t v, Tryd.f6.params[j]? = some t → args[j]? = some v → Value.okWide Tryd.prog W .any base t v := hval0
  have hW' := hW
  obtain ⟨p, q, hA0, hV, rfl, hfz, hnd⟩ := hW
  have hA : DataW.TrodAll enc Tryd.prog W 0 (fun _ => true) true Tryd.f6.params.toList args.toList ds p := hA0
  have hA2 := hA
  rw [Tryd.params6] at hA2 hval
  obtain ⟨rfl, rfl⟩ := trodVars_none hV
  simp only [List.append_nil] at hW'
  have hcl := belief_laid hL
  obtain ⟨v0, vs0, d0, ds0, p0, q0, hargs, hds, hp, h0, r0⟩ := trodAll_cons hA2
  obtain ⟨rfl, rfl, rfl⟩ := trodAll_nil r0
  obtain rfl : args = #[v0] := by cases args; simp_all
  obtain ⟨l, hl, -⟩ := open_sl (ρ := refρ []) Tryd.underlying22 Tryd.underlying3 cellsIntD (hval 0 22 v0 rfl rfl) h0
  refine (acalls_row (belief_law l GOf2_cls GOf2_pow) (GOf2_at hcl.1 hcl.2) rfl (fun j x v hx hv => ?_)).mono fun e W' ⟨he, hb⟩ => ?_
  · match j, hx, hv with
    | 0, hx, hv => cases hx; cases hv; exact hl
  subst he
  exact ⟨_, rfl, law_done laidOutD hW' hA bel_read rfl rfl Tryd.underlying4 (by subst hds; rfl) hb⟩
theorem fieldreportBelief_row : Rows.FieldreportBeliefSaid :=
  OpenClaim.holds_of_wide 6 Tryd.f6 rfl rfl rfl rfl rfl rfl rfl ⟨rfl, rfl, rfl, rfl, rfl⟩ rfl rfl rfl rfl rfl (by kernel_rfl) Tryd.func6 (by kernel_rfl)
    (of_decide_eq_true (by kernel_rfl)) (by unfold Func.isWrapper; first | (rw [if_pos (by decide +kernel)]; kernel_rfl) | (rw [if_neg (by decide +kernel)]; exact ⟨rfl, rfl⟩))
    (fun os started H enc _ => bel_lifted os started H enc)
theorem fieldreportBelief_holds : Rows.FieldreportBeliefCardSaid :=
  Claim7.holds_tied_plain_at .later [] Rows.fieldreportBeliefCard.laidKinds true Rows.fieldreportBeliefCard.stood.harness false
    fieldreportBelief_row (fun _ h => by cases h) (by kernel_rfl) (fun _ h => by cases h) fieldreportBelief_row_tie rfl ⟨rfl, rfl⟩ (by kernel_rfl) rfl
    (fun f fn hf hfn => by
      obtain rfl : f = 6 := Option.some.inj ((show Tryd.prog.funcNamed Rows.fieldreportBeliefRow.func = some 6 by kernel_rfl).symm.trans hf) |>.symm
      obtain rfl : fn = Tryd.f6 := (Option.some.inj (Tryd.func6.symm.trans hfn)).symm
      exact ⟨by kernel_rfl, fun j t ht => by
        rw [Tryd.params6] at ht
        have hm : t ∈ [22] := by simpa using Array.mem_of_getElem? ht
        have hall : ([22].all fun u => !Tryd.prog.wantsStandIn u) = true := by kernel_rfl
        exact (show Tryd.prog.wantsStandIn t = false by simpa using List.all_eq_true.1 hall t hm)⟩)
    (by kernel_rfl)
#print axioms fieldreportBelief_holds
end Go.Proofs.YtgpglcccjkpmdaaDoor
