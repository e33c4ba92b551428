/- FieldreportAnswers: for all its arguments, in whatever memory in which the listed tables stand as the program's text lays them, the law returns true and its arguments read behind the call as they read before; conditions: none beyond the card's. -/
import Derived.Test.YtgpglcccjkpmdaaDoorRowH
import Derived.Test.YtgpglcccjkpmdaaDoorOpN
import Derived.Test.YtgpglcccjkpmdaaDoorFaL
set_option linter.unusedVariables false
set_option linter.unusedSimpArgs false
namespace Go.Proofs.YtgpglcccjkpmdaaDoor
open Go Go.ChangeShapes Go.WideShapes Go.ChangeAt Go.RowKit Go.Deep
instance : Inhabited Rp := ⟨⟨0, 0, 0, 0, false⟩⟩
section
variable {H : Type} {enc : TypeId × Value → H} {W : World}
theorem bool_opens : Opens enc Tryd.prog W 4 (fun z : Bool => .v (.bool z)) 1 (fun _ => True) := opens_bool Tryd.underlying4 (by kernel_rfl)
theorem rep_opens : Opens enc Tryd.prog W 36 Rp.av 5 (fun _ => True) :=
  opens_map (fun x : Int × Int × Int × Int × Bool × Unit => ⟨x.1, x.2.1, x.2.2.1, x.2.2.2.1, x.2.2.2.2.1⟩) (opens_struct Tryd.underlying36 (by kernel_rfl) (fopens_cons int_opens rfl rfl (fopens_cons int_opens rfl rfl (fopens_cons int_opens rfl rfl (fopens_cons int_opens rfl rfl (fopens_cons bool_opens rfl rfl (fopens_nil _))))))) (fun _ => rfl) (fun a q => trivial)
theorem reps_opens : Opens enc Tryd.prog W 32 (fun L : List Rp => .sl 5 (L.map Rp.av)) 1 (fun L => L.length ≤ maxLen ∧ ∀ r ∈ L, True) := opens_slice Tryd.underlying32 (by kernel_rfl) (by decide) rep_opens
theorem msg_opens : Opens enc Tryd.prog W 34 (fun x : ByteArray × Int × List Rp => .ag [.v (.string x.1), .v (.int .i64 x.2.1), .sl 5 (x.2.2.map Rp.av)]) 3 (fun x => x.1.size ≤ maxLen ∧ x.2.2.length ≤ maxLen) :=
  opens_map (fun x : ByteArray × Int × List Rp × Unit => (x.1, x.2.1, x.2.2.1)) (opens_struct Tryd.underlying34 (by kernel_rfl) (fopens_cons str_opens rfl rfl (fopens_cons int_opens rfl rfl (fopens_cons reps_opens rfl rfl (fopens_nil _))))) (fun _ => rfl) (fun a q => ⟨q.1, q.2.2.1.1⟩)
end
theorem ans_laid {W : World} (h : laidMetH Tryd.prog Rows.fieldreportAnswersRow.laid W) : Cls W ∧ Pow W := by
  rw [MakeChecks.laidMetH_plain _ _ _ (by kernel_rfl)] at h
  exact ⟨cls_of_head h.tail.tail.tail, pow_of_head h.tail.tail⟩
theorem ans_read : ∀ t ∈ Tryd.f4.params.toList, Tryd.prog.readableRec t = true ∧ t < Tryd.prog.types.size := by
  intro t ht
  rw [Tryd.params4] at ht
  simp at ht
  rcases ht with rfl | rfl | rfl | rfl <;> exact ⟨by kernel_rfl, of_decide_eq_true (by kernel_rfl)⟩
theorem ans_door (os : Os) (args : Array Value) : laidMetH Tryd.prog Rows.fieldreportAnswersRow.laid ((World.doorLaid Tryd.prog 400 os).forCall (fun _ _ => 0) ⟨#[], args, []⟩).memory :=
  laidMetH_of_parts3 (fuel := 8) (laidMet_of_run' 8 (by kernel_rfl) (by kernel_rfl)) (by kernel_rfl) (by kernel_rfl)
set_option maxRecDepth 100000 in
theorem ans_lifted (os : Os) (started : os.Started) (H : Type) (enc : TypeId × Value → H) :
    ReturnsInHanded {} Tryd.checked os 4 .any (fun w args => (Rows.fieldreportAnswersSpec.pre enc Tryd.prog Tryd.f4 [] false w args ∧ laidMetH Tryd.prog Rows.fieldreportAnswersRow.laid w) ∧ sizedMet enc Tryd.prog Tryd.f4 (OpenSpec.ofChange Rows.fieldreportAnswersSpec) false w args)
      (Rows.fieldreportAnswersSpec.post enc Tryd.prog Tryd.f4 false true false false) := by
  refine returnsInHanded_of_change_and (C := Tryd.checked) (X := fun w _ => laidMetH Tryd.prog Rows.fieldreportAnswersRow.laid w) (fun _ _ _ hh h => h.of_heap hh) ownD started (by kernel_rfl) Tryd.func4
    (ChangeSpec.witness_shaped (enc := enc) (C := Tryd.checked) (os := os) (X := fun w _ => laidMetH Tryd.prog Rows.fieldreportAnswersRow.laid w) false (World.doorLaid Tryd.prog 400 os) #[.slice none 0 0, .agg #[.slice none 0 0, .slice none 0 0], .agg #[.string ⟨#[]⟩, .int .i64 0, .slice none 0 0], .string ⟨#[]⟩] 8 rfl (World.shaped_of_RefB (by kernel_rfl) (by kernel_rfl)) (by kernel_rfl) (by kernel_rfl) (by kernel_rfl) (ans_door os _)) ?_
  intro W base args ds gs before hval0 hW _ _ hL _
  have hval : ∀ (j : Nat) t v, Tryd.f4.params[j]? = some t → args[j]? = some v → Value.okWide Tryd.prog W .any base t v := hval0
  have hW' := hW
  obtain ⟨p, q, hA0, hV, rfl, hfz, hnd⟩ := hW
  have hA : DataW.TrodAll enc Tryd.prog W 0 (fun _ => true) true Tryd.f4.params.toList args.toList ds p := hA0
  have hA2 := hA
  rw [Tryd.params4] at hA2 hval
  obtain ⟨rfl, rfl⟩ := trodVars_none hV
  simp only [List.append_nil] at hW'
  have hcl := ans_laid hL
  obtain ⟨v0, vs0, d0, ds0, p0, q0, hargs, hds, hp, h0, r0⟩ := trodAll_cons hA2
  obtain ⟨v1, vs1, d1, ds1, p1, q1, rfl, rfl, rfl, h1, r1⟩ := trodAll_cons r0
  obtain ⟨v2, vs2, d2, ds2, p2, q2, rfl, rfl, rfl, h2, r2⟩ := trodAll_cons r1
  obtain ⟨v3, vs3, d3, ds3, p3, q3, rfl, rfl, rfl, h3, r3⟩ := trodAll_cons r2
  obtain ⟨rfl, rfl, rfl⟩ := trodAll_nil r3
  obtain rfl : args = #[v0, v1, v2, v3] := by cases args; simp_all
  obtain ⟨l, hl, -⟩ := open_sl (ρ := refρ []) Tryd.underlying22 Tryd.underlying3 cellsIntD (hval 0 22 v0 rfl rfl) h0
  obtain ⟨⟨No, Vo⟩, ⟨⟨hNl, hNo⟩, hVl, hVo⟩, hnetR⟩ := open_struct Tryd.underlying28 net_opens (hval 1 28 v1 rfl rfl) h1
  obtain ⟨⟨mc, mt, mr⟩, ⟨hmc, hmr⟩, hmR⟩ := open_struct Tryd.underlying34 msg_opens (hval 2 34 v2 rfl rfl) h2
  obtain ⟨s3, rfl, w3⟩ := open_strv Tryd.underlying9 (hval 3 9 v3 rfl rfl) h3
  refine (acalls_row (answers_law l No Vo ⟨mc, mt, mr⟩ s3 ⟨hNo, hVo, hNl, hVl⟩ hmc hmr GOf2_cls GOf2_pow) (GOf2_at hcl.1 hcl.2) rfl (fun j x v hx hv => ?_)).mono fun e W' ⟨he, hb⟩ => ?_
  · match j, hx, hv with
    | 0, hx, hv => cases hx; cases hv; exact hl
    | 1, hx, hv => cases hx; cases hv; exact hnetR _
    | 2, hx, hv => cases hx; cases hv; exact hmR _
    | 3, hx, hv => cases hx; cases hv; exact .v _ _
  subst he
  exact ⟨_, rfl, law_done laidOutD hW' hA ans_read rfl rfl Tryd.underlying4 (by subst hds; rfl) hb⟩
theorem fieldreportAnswers_row : Rows.FieldreportAnswersSaid :=
  OpenClaim.holds_of_wide 4 Tryd.f4 rfl rfl rfl rfl rfl rfl rfl ⟨rfl, rfl, rfl, rfl, rfl⟩ rfl rfl rfl rfl rfl (by kernel_rfl) Tryd.func4 (by kernel_rfl)
    (of_decide_eq_true (by kernel_rfl)) (by unfold Func.isWrapper; first | (rw [if_pos (by decide +kernel)]; kernel_rfl) | (rw [if_neg (by decide +kernel)]; exact ⟨rfl, rfl⟩))
    (fun os started H enc _ => ans_lifted os started H enc)
theorem fieldreportAnswers_holds : Rows.FieldreportAnswersCardSaid :=
  Claim7.holds_tied_plain_at .later [] Rows.fieldreportAnswersCard.laidKinds true Rows.fieldreportAnswersCard.stood.harness false
    fieldreportAnswers_row (fun _ h => by cases h) (by kernel_rfl) (fun _ h => by cases h) fieldreportAnswers_row_tie rfl ⟨rfl, rfl⟩ (by kernel_rfl) rfl
    (fun f fn hf hfn => by
      obtain rfl : f = 4 := Option.some.inj ((show Tryd.prog.funcNamed Rows.fieldreportAnswersRow.func = some 4 by kernel_rfl).symm.trans hf) |>.symm
      obtain rfl : fn = Tryd.f4 := (Option.some.inj (Tryd.func4.symm.trans hfn)).symm
      exact ⟨by kernel_rfl, fun j t ht => by
        rw [Tryd.params4] at ht
        have hm : t ∈ [22, 28, 34, 9] := by simpa using Array.mem_of_getElem? ht
        have hall : ([22, 28, 34, 9].all fun u => !Tryd.prog.wantsStandIn u) = true := by kernel_rfl
        exact (show Tryd.prog.wantsStandIn t = false by simpa using List.all_eq_true.1 hall t hm)⟩)
    (by kernel_rfl)
#print axioms fieldreportAnswers_holds
end Go.Proofs.YtgpglcccjkpmdaaDoor
