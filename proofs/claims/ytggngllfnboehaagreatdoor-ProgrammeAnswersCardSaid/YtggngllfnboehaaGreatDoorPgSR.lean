/- ProgrammeAnswers: for all its arguments, in whatever memory in which the listed tables stand as the program's text lays them, the law returns true and its arguments read behind the call as they read before; conditions: none beyond the card's. -/
import Derived.Test.YtggngllfnboehaaGreatDoorRowPl
import Derived.Test.YtggngllfnboehaaGreatDoorFinB
import Derived.Test.YtggngllfnboehaaGreatDoorOpN
import Derived.Test.YtggngllfnboehaaGreatDoorPgS
set_option linter.unusedVariables false
set_option linter.unusedSimpArgs false
namespace Go.Proofs.YtggngllfnboehaaGreatDoor
open Go Go.ChangeShapes Go.WideShapes Go.ChangeAt Go.RowKit Go.Deep
instance : Inhabited St := ⟨St.zer⟩
section
variable {H : Type} {enc : TypeId × Value → H} {W : World}
theorem step_opens : qQ enc Tryz.prog W 39 St.av 5 (fun _ => True) :=
  opens_map (fun x : Int × Int × Int × Int × Int × Unit => ⟨x.1, x.2.1, x.2.2.1, x.2.2.2.1, x.2.2.2.2.1⟩) (qT Tryz.underlying39 (by kernel_rfl) (yq ji rfl rfl (yq ji rfl rfl (yq ji rfl rfl (yq ji rfl rfl (yq ji rfl rfl (fopens_nil _))))))) (fun _ => rfl) (fun a q => trivial)
theorem steps_opens : qQ enc Tryz.prog W 23 (fun L : List St => .sl 5 (L.map St.av)) 1 (fun L => L.length ≤ maxLen ∧ ∀ r ∈ L, True) := opens_slice Tryz.underlying23 (by kernel_rfl) (by decide) step_opens
theorem prog_opens : qQ enc Tryz.prog W 25 (fun x : ByteArray × List St => .ag [.v (.string x.1), .sl 5 (x.2.map St.av)]) 2 (fun x => x.1.size ≤ maxLen ∧ x.2.length ≤ maxLen) :=
  opens_map (fun x : ByteArray × List St × Unit => (x.1, x.2.1)) (qT Tryz.underlying25 (by kernel_rfl) (yq str_opens rfl rfl (yq steps_opens rfl rfl (fopens_nil _)))) (fun _ => rfl) (fun a q => ⟨q.1, q.2.1.1⟩)
end
theorem pans_laid {W : World} (h : laidMetH Tryz.prog Rows.programmeAnswersRow.laid W) : Cls W ∧ Pow W ∧ Plc W := by
  rw [MakeChecks.laidMetH_plain _ _ _ (by kernel_rfl)] at h
  exact ⟨cls_of_head h.tail.tail.tail.tail, pow_of_head h.tail.tail, plc_of_head h.tail.tail.tail.tail.tail⟩
theorem pans_read : ∀ t ∈ Tryz.f3.params.toList, Tryz.prog.readableRec t = true ∧ t < Tryz.prog.types.size := by
  intro t ht
  rw [Tryz.params3] at ht
  simp at ht
  rcases ht with rfl | rfl | rfl | rfl <;> exact ⟨by kernel_rfl, of_decide_eq_true (by kernel_rfl)⟩
theorem pans_door (os : Os) (args : Array Value) : laidMetH Tryz.prog Rows.programmeAnswersRow.laid ((World.laidAll Tryz.prog os Rows.programmeAnswersRow.laid).forCall (fun _ _ => 0) ⟨#[], args, []⟩).memory := by
  rw [MakeChecks.laidMetH_plain _ _ _ (by kernel_rfl)]
  exact laidMet_laidAll _ (by kernel_rfl) (by kernel_rfl)
set_option maxRecDepth 100000 in
theorem pans_lifted (os : Os) (started : os.Started) (H : Type) (enc : TypeId × Value → H) :
    ReturnsInHanded {} Tryz.checked os 3 .any (fun w args => (Rows.programmeAnswersSpec.pre enc Tryz.prog Tryz.f3 [] false w args ∧ laidMetH Tryz.prog Rows.programmeAnswersRow.laid w) ∧ sizedMet enc Tryz.prog Tryz.f3 (OpenSpec.ofChange Rows.programmeAnswersSpec) false w args)
      (Rows.programmeAnswersSpec.post enc Tryz.prog Tryz.f3 false true false false) := by
  refine returns_and_shaped (C := Tryz.checked) (X := fun w _ => laidMetH Tryz.prog Rows.programmeAnswersRow.laid w) (fun _ _ _ hh h => h.of_heap hh) ownD started (by kernel_rfl) Tryz.func3
    (ChangeSpec.witness_shaped (enc := enc) (C := Tryz.checked) (os := os) (X := fun w _ => laidMetH Tryz.prog Rows.programmeAnswersRow.laid w) false (World.laidAll Tryz.prog os Rows.programmeAnswersRow.laid) #[.slice none 0 0, .agg #[.string ⟨#[]⟩, .slice none 0 0], .agg #[.slice none 0 0, .slice none 0 0], .string ⟨#[]⟩] 8 (World.laidAll_os _ _ _) (World.shaped_of_ZipB (by kernel_rfl) (by kernel_rfl)) (by kernel_rfl) (by kernel_rfl) (by kernel_rfl) (pans_door os _)) ?_
  intro W base args ds gs before hval0 hW _ _ hL hsh _
  have hval : ∀ (j : Nat) t v, Tryz.f3.params[j]? = some t → args[j]? = some v → Value.okWide Tryz.prog W .any base t v := hval0
  have hW' := hW
  obtain ⟨p, q, hA0, hV, rfl, hfz, hnd⟩ := hW
  have hA : DataW.TrodAll enc Tryz.prog W 0 (fun _ => true) true Tryz.f3.params.toList args.toList ds p := hA0
  have hA2 := hA
  rw [Tryz.params3] at hA2 hval
  obtain ⟨rfl, rfl⟩ := trodVars_none hV
  simp only [List.append_nil] at hW'
  obtain ⟨hcl, hpw, hplc⟩ := pans_laid hL
  obtain ⟨m, us, hmx⟩ := max_of_shape hsh
  obtain ⟨v0, vs0, d0, ds0, p0, q0, hargs, hds, hp, h0, r0⟩ := trodAll_cons hA2
  obtain ⟨v1, vs1, d1, ds1, p1, q1, rfl, rfl, rfl, h1, r1⟩ := trodAll_cons r0
  obtain ⟨v2, vs2, d2, ds2, p2, q2, rfl, rfl, rfl, h2, r2⟩ := trodAll_cons r1
  obtain ⟨v3, vs3, d3, ds3, p3, q3, rfl, rfl, rfl, h3, r3⟩ := trodAll_cons r2
  obtain ⟨rfl, rfl, rfl⟩ := trodAll_nil r3
  obtain rfl : args = #[v0, v1, v2, v3] := by cases args; simp_all
  obtain ⟨l, hl, -⟩ := open_sl (ρ := refρ []) Tryz.underlying22 Tryz.underlying3 cellsIntD (hval 0 22 v0 rfl rfl) h0
  obtain ⟨⟨pn, ps⟩, ⟨hpn, hps⟩, hpR⟩ := open_struct Tryz.underlying25 prog_opens (hval 1 25 v1 rfl rfl) h1
  obtain ⟨⟨No, Vo⟩, ⟨⟨hNl, hNo⟩, hVl, hVo⟩, hnetR⟩ := open_struct Tryz.underlying29 net_opens (hval 2 29 v2 rfl rfl) h2
  obtain ⟨s3, rfl, w3⟩ := open_strv Tryz.underlying9 (hval 3 9 v3 rfl rfl) h3
  refine (acalls_row (answers_law l ⟨pn, ps⟩ No Vo s3 ⟨hNo, hVo, hNl, hVl⟩ hpn hps GOfQ_cls GOfQ_pow GOfQ_plc GOfQ_max) (GOfQ_at hcl hpw hmx hplc) rfl (fun j x v hx hv => ?_)).mono fun e W' ⟨he, hb⟩ => ?_
  · match j, hx, hv with
    | 0, hx, hv => cases hx; cases hv; exact hl
    | 1, hx, hv => cases hx; cases hv; exact hpR _
    | 2, hx, hv => cases hx; cases hv; exact hnetR _
    | 3, hx, hv => cases hx; cases hv; exact .v _ _
  subst he
  exact ⟨_, rfl, law_done laidOutD hW' hA pans_read rfl rfl Tryz.underlying4 (by subst hds; rfl) hb⟩
theorem programmeAnswers_row : Rows.ProgrammeAnswersSaid :=
  OpenClaim.holds_of_wide 3 Tryz.f3 rfl rfl rfl rfl rfl rfl rfl ⟨rfl, rfl, rfl, rfl, rfl⟩ rfl rfl rfl rfl rfl (by kernel_rfl) Tryz.func3 (by kernel_rfl)
    (of_decide_eq_true (by kernel_rfl)) (by unfold Func.isWrapper; first | (rw [if_pos (by decide +kernel)]; kernel_rfl) | (rw [if_neg (by decide +kernel)]; exact ⟨rfl, rfl⟩))
    (fun os started H enc _ => pans_lifted os started H enc)
theorem programmeAnswers_holds : Rows.ProgrammeAnswersCardSaid :=
  Claim7.holds_tied_plain_at .later [] Rows.programmeAnswersCard.laidKinds true Rows.programmeAnswersCard.stood.harness Rows.programmeAnswersCard.stood.looks
    programmeAnswers_row (fun _ h => by cases h) (by kernel_rfl) (fun _ h => by cases h) programmeAnswers_row_tie rfl ⟨rfl, rfl⟩ (by kernel_rfl) rfl
    (fun f fn hf hfn => by
      obtain rfl : f = 3 := Option.some.inj ((show Tryz.prog.funcNamed Rows.programmeAnswersRow.func = some 3 by kernel_rfl).symm.trans hf) |>.symm
      obtain rfl : fn = Tryz.f3 := (Option.some.inj (Tryz.func3.symm.trans hfn)).symm
      exact ⟨by kernel_rfl, fun j t ht => by
        rw [Tryz.params3] at ht
        have hm : t ∈ [22, 25, 29, 9] := by simpa using Array.mem_of_getElem? ht
        have hall : ([22, 25, 29, 9].all fun u => !Tryz.prog.wantsStandIn u) = true := by kernel_rfl
        exact (show Tryz.prog.wantsStandIn t = false by simpa using List.all_eq_true.1 hall t hm)⟩)
    (by kernel_rfl)
#print axioms programmeAnswers_holds
end Go.Proofs.YtggngllfnboehaaGreatDoor
