/- FieldreportLong: for every number and every list of numbers, in whatever memory in which the listed tables stand as the program's text lays them, the law returns true and its arguments read behind the call as they read before; conditions: none beyond the card's. -/
import Derived.Test.YtgpglcccjkpmdaaDoorRowH
import Derived.Test.YtgpglcccjkpmdaaDoorFgL
import Derived.Test.YtgpglcccjkpmdaaDoorFinB
set_option linter.unusedVariables false
set_option linter.unusedSimpArgs false
namespace Go.Proofs.YtgpglcccjkpmdaaDoor
open Go Go.ChangeShapes Go.WideShapes Go.ChangeAt Go.RowKit
theorem long_laid {W : World} (h : laidMetH Tryd.prog Rows.fieldreportLongRow.laid W) : Cls W ∧ Pow W := by
  rw [MakeChecks.laidMetH_plain _ _ _ (by kernel_rfl)] at h
  exact ⟨cls_of_head h.tail.tail.tail, pow_of_head h.tail.tail⟩
theorem long_read : ∀ t ∈ Tryd.f3.params.toList, Tryd.prog.readableRec t = true ∧ t < Tryd.prog.types.size := by
  intro t ht
  rw [Tryd.params3] at ht
  simp at ht
  rcases ht with rfl | rfl <;> exact ⟨by kernel_rfl, of_decide_eq_true (by kernel_rfl)⟩
theorem long_door (os : Os) (args : Array Value) : laidMetH Tryd.prog Rows.fieldreportLongRow.laid ((World.doorLaid Tryd.prog 400 os).forCall (fun _ _ => 0) ⟨#[], args, []⟩).memory :=
  laidMetH_of_parts3 (fuel := 8) (laidMet_of_run' 8 (by kernel_rfl) (by kernel_rfl)) (by kernel_rfl) (by kernel_rfl)
set_option maxRecDepth 100000 in
theorem long_lifted (os : Os) (started : os.Started) (H : Type) (enc : TypeId × Value → H) :
    ReturnsInHanded {} Tryd.checked os 3 .any (fun w args => (Rows.fieldreportLongSpec.pre enc Tryd.prog Tryd.f3 [] false w args ∧ laidMetH Tryd.prog Rows.fieldreportLongRow.laid w) ∧ sizedMet enc Tryd.prog Tryd.f3 (OpenSpec.ofChange Rows.fieldreportLongSpec) false w args)
      (Rows.fieldreportLongSpec.post enc Tryd.prog Tryd.f3 false true false false) := by
  refine returnsInHanded_of_change_and (C := Tryd.checked) (X := fun w _ => laidMetH Tryd.prog Rows.fieldreportLongRow.laid w) (fun _ _ _ hh h => h.of_heap hh) ownD started (by kernel_rfl) Tryd.func3
    (ChangeSpec.witness_shaped (enc := enc) (C := Tryd.checked) (os := os) (X := fun w _ => laidMetH Tryd.prog Rows.fieldreportLongRow.laid w) false (World.doorLaid Tryd.prog 400 os) #[.int .u8 0, .slice none 0 0] 8 rfl (World.shaped_of_RefB (by kernel_rfl) (by kernel_rfl)) (by kernel_rfl) (by kernel_rfl) (by kernel_rfl) (long_door os _)) ?_
  intro W base args ds gs before hval0 hW _ _ hL _
  have hval : ∀ (j : Nat) t v, Tryd.f3.params[j]? = some t → args[j]? = some v → Value.okWide Tryd.prog W .any base t v := hval0
  have hW' := hW
  obtain ⟨p, q, hA0, hV, rfl, hfz, hnd⟩ := hW
  have hA : DataW.TrodAll enc Tryd.prog W 0 (fun _ => true) true Tryd.f3.params.toList args.toList ds p := hA0
  have hA2 := hA
  rw [Tryd.params3] at hA2 hval
  obtain ⟨rfl, rfl⟩ := trodVars_none hV
  simp only [List.append_nil] at hW'
  have hcl := long_laid hL
  obtain ⟨v0, vs0, d0, ds0, p0, q0, hargs, hds, hp, h0, r0⟩ := trodAll_cons hA2
  obtain ⟨v1, vs1, d1, ds1, p1, q1, rfl, rfl, rfl, h1, r1⟩ := trodAll_cons r0
  obtain ⟨rfl, rfl, rfl⟩ := trodAll_nil r1
  obtain rfl : args = #[v0, v1] := by cases args; simp_all
  obtain ⟨a0, rfl, rfl, rfl, w0⟩ := open_int Tryd.underlying5 (hval 0 5 v0 rfl rfl) h0
  obtain ⟨l, hl, -⟩ := open_sl (ρ := refρ []) Tryd.underlying22 Tryd.underlying3 cellsIntD (hval 1 22 v1 rfl rfl) h1
  refine (acalls_row (long_law a0 l (bounds_u8 w0).1 (bounds_u8 w0).2 GOf2_cls GOf2_pow) (GOf2_at hcl.1 hcl.2) rfl (fun j x v hx hv => ?_)).mono fun e W' ⟨he, hb⟩ => ?_
  · match j, hx, hv with
    | 0, hx, hv => cases hx; cases hv; exact .v _ _
    | 1, hx, hv => cases hx; cases hv; exact hl
  subst he
  exact ⟨_, rfl, law_done laidOutD hW' hA long_read rfl rfl Tryd.underlying4 (by subst hds; rfl) hb⟩
theorem fieldreportLong_row : Rows.FieldreportLongSaid :=
  OpenClaim.holds_of_wide 3 Tryd.f3 rfl rfl rfl rfl rfl rfl rfl ⟨rfl, rfl, rfl, rfl, rfl⟩ rfl rfl rfl rfl rfl (by kernel_rfl) Tryd.func3 (by kernel_rfl)
    (of_decide_eq_true (by kernel_rfl)) (by unfold Func.isWrapper; first | (rw [if_pos (by decide +kernel)]; kernel_rfl) | (rw [if_neg (by decide +kernel)]; exact ⟨rfl, rfl⟩))
    (fun os started H enc _ => long_lifted os started H enc)
theorem fieldreportLong_holds : Rows.FieldreportLongCardSaid :=
  Claim7.holds_tied_plain_at .later [] Rows.fieldreportLongCard.laidKinds true Rows.fieldreportLongCard.stood.harness false
    fieldreportLong_row (fun _ h => by cases h) (by kernel_rfl) (fun _ h => by cases h) fieldreportLong_row_tie rfl ⟨rfl, rfl⟩ (by kernel_rfl) rfl
    (fun f fn hf hfn => by
      obtain rfl : f = 3 := Option.some.inj ((show Tryd.prog.funcNamed Rows.fieldreportLongRow.func = some 3 by kernel_rfl).symm.trans hf) |>.symm
      obtain rfl : fn = Tryd.f3 := (Option.some.inj (Tryd.func3.symm.trans hfn)).symm
      exact ⟨by kernel_rfl, fun j t ht => by
        rw [Tryd.params3] at ht
        have hm : t ∈ [5, 22] := by simpa using Array.mem_of_getElem? ht
        have hall : ([5, 22].all fun u => !Tryd.prog.wantsStandIn u) = true := by kernel_rfl
        exact (show Tryd.prog.wantsStandIn t = false by simpa using List.all_eq_true.1 hall t hm)⟩)
    (by kernel_rfl)
#print axioms fieldreportLong_holds
end Go.Proofs.YtgpglcccjkpmdaaDoor
