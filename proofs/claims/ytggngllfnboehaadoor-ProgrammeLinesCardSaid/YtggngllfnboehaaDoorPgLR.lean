/- ProgrammeLines: for every list of numbers and every number, in whatever memory in which the listed tables stand as the program's text lays them, the law returns true and its arguments read behind the call as they read before; conditions: none beyond the card's. -/
import Derived.Test.YtggngllfnboehaaDoorRowPl
import Derived.Test.YtggngllfnboehaaDoorFinB
import Derived.Test.YtggngllfnboehaaDoorPgL
set_option linter.unusedVariables false
set_option linter.unusedSimpArgs false
namespace Go.Proofs.YtggngllfnboehaaDoor
open Go Go.ChangeShapes Go.WideShapes Go.ChangeAt Go.RowKit Go.Deep
theorem plin_laid {W : World} (h : laidMetH Tryd.prog Rows.programmeLinesRow.laid W) : Cls W ∧ Pow W ∧ Plc W := by
  rw [MakeChecks.laidMetH_plain _ _ _ (by kernel_rfl)] at h
  exact ⟨cls_of_head h.tail.tail.tail.tail, pow_of_head h.tail.tail, plc_of_head h.tail.tail.tail.tail.tail⟩
theorem plin_read : ∀ t ∈ Tryd.f4.params.toList, Tryd.prog.readableRec t = true ∧ t < Tryd.prog.types.size := by
  intro t ht
  rw [Tryd.params4] at ht
  simp at ht
  rcases ht with rfl | rfl <;> exact ⟨by kernel_rfl, of_decide_eq_true (by kernel_rfl)⟩
theorem plin_door (os : Os) (args : Array Value) : laidMetH Tryd.prog Rows.programmeLinesRow.laid ((World.laidAll Tryd.prog os Rows.programmeLinesRow.laid).forCall (fun _ _ => 0) ⟨#[], args, []⟩).memory := by
  rw [MakeChecks.laidMetH_plain _ _ _ (by kernel_rfl)]
  exact laidMet_laidAll _ (by kernel_rfl) (by kernel_rfl)
set_option maxRecDepth 100000 in
theorem plin_lifted (os : Os) (started : os.Started) (H : Type) (enc : TypeId × Value → H) :
    ReturnsInHanded {} Tryd.checked os 4 .any (fun w args => (Rows.programmeLinesSpec.pre enc Tryd.prog Tryd.f4 [] false w args ∧ laidMetH Tryd.prog Rows.programmeLinesRow.laid w) ∧ sizedMet enc Tryd.prog Tryd.f4 (OpenSpec.ofChange Rows.programmeLinesSpec) false w args)
      (Rows.programmeLinesSpec.post enc Tryd.prog Tryd.f4 false true false false) := by
  refine returns_and_shaped (C := Tryd.checked) (X := fun w _ => laidMetH Tryd.prog Rows.programmeLinesRow.laid w) (fun _ _ _ hh h => h.of_heap hh) ownD started (by kernel_rfl) Tryd.func4
    (ChangeSpec.witness_shaped (enc := enc) (C := Tryd.checked) (os := os) (X := fun w _ => laidMetH Tryd.prog Rows.programmeLinesRow.laid w) false (World.laidAll Tryd.prog os Rows.programmeLinesRow.laid) #[.slice none 0 0, .int .u8 0] 8 (World.laidAll_os _ _ _) (World.shaped_of_ZipB (by kernel_rfl) (by kernel_rfl)) (by kernel_rfl) (by kernel_rfl) (by kernel_rfl) (plin_door os _)) ?_
  intro W base args ds gs before hval0 hW _ _ hL hsh _
  have hval : ∀ (j : Nat) t v, Tryd.f4.params[j]? = some t → args[j]? = some v → Value.okWide Tryd.prog W .any base t v := hval0
  have hW' := hW
  obtain ⟨p, q, hA0, hV, rfl, hfz, hnd⟩ := hW
  have hA : DataW.TrodAll enc Tryd.prog W 0 (fun _ => true) true Tryd.f4.params.toList args.toList ds p := hA0
  have hA2 := hA
  rw [Tryd.params4] at hA2 hval
  obtain ⟨rfl, rfl⟩ := trodVars_none hV
  simp only [List.append_nil] at hW'
  obtain ⟨hcl, hpw, hplc⟩ := plin_laid hL
  obtain ⟨m, us, hmx⟩ := max_of_shape hsh
  obtain ⟨v0, vs0, d0, ds0, p0, q0, hargs, hds, hp, h0, r0⟩ := trodAll_cons hA2
  obtain ⟨v1, vs1, d1, ds1, p1, q1, rfl, rfl, rfl, h1, r1⟩ := trodAll_cons r0
  obtain ⟨rfl, rfl, rfl⟩ := trodAll_nil r1
  obtain rfl : args = #[v0, v1] := by cases args; simp_all
  obtain ⟨l, hl, -⟩ := open_sl (ρ := refρ []) Tryd.underlying22 Tryd.underlying3 cellsIntD (hval 0 22 v0 rfl rfl) h0
  obtain ⟨n1, rfl, rfl, rfl, hw1⟩ := open_int Tryd.underlying5 (hval 1 5 v1 rfl rfl) h1
  obtain ⟨hn1a, hn1b⟩ := bounds_u8 hw1
  refine (acalls_row (lines_law l n1 hn1a hn1b GOfQ_cls GOfQ_pow GOfQ_plc GOfQ_max) (GOfQ_at hcl hpw hmx hplc) rfl (fun j x v hx hv => ?_)).mono fun e W' ⟨he, hb⟩ => ?_
  · match j, hx, hv with
    | 0, hx, hv => cases hx; cases hv; exact hl
    | 1, hx, hv => cases hx; cases hv; exact .v _ _
  subst he
  exact ⟨_, rfl, law_done laidOutD hW' hA plin_read rfl rfl Tryd.underlying4 (by subst hds; rfl) hb⟩
theorem programmeLines_row : Rows.ProgrammeLinesSaid :=
  OpenClaim.holds_of_wide 4 Tryd.f4 rfl rfl rfl rfl rfl rfl rfl ⟨rfl, rfl, rfl, rfl, rfl⟩ rfl rfl rfl rfl rfl (by kernel_rfl) Tryd.func4 (by kernel_rfl)
    (of_decide_eq_true (by kernel_rfl)) (by unfold Func.isWrapper; first | (rw [if_pos (by decide +kernel)]; kernel_rfl) | (rw [if_neg (by decide +kernel)]; exact ⟨rfl, rfl⟩))
    (fun os started H enc _ => plin_lifted os started H enc)
theorem programmeLines_holds : Rows.ProgrammeLinesCardSaid :=
  Claim7.holds_tied_plain_at .later [] Rows.programmeLinesCard.laidKinds true Rows.programmeLinesCard.stood.harness Rows.programmeLinesCard.stood.looks
    programmeLines_row (fun _ h => by cases h) (by kernel_rfl) (fun _ h => by cases h) programmeLines_row_tie rfl ⟨rfl, rfl⟩ (by kernel_rfl) rfl
    (fun f fn hf hfn => by
      obtain rfl : f = 4 := Option.some.inj ((show Tryd.prog.funcNamed Rows.programmeLinesRow.func = some 4 by kernel_rfl).symm.trans hf) |>.symm
      obtain rfl : fn = Tryd.f4 := (Option.some.inj (Tryd.func4.symm.trans hfn)).symm
      exact ⟨by kernel_rfl, fun j t ht => by
        rw [Tryd.params4] at ht
        have hm : t ∈ [22, 5] := by simpa using Array.mem_of_getElem? ht
        have hall : ([22, 5].all fun u => !Tryd.prog.wantsStandIn u) = true := by kernel_rfl
        exact (show Tryd.prog.wantsStandIn t = false by simpa using List.all_eq_true.1 hall t hm)⟩)
    (by kernel_rfl)
#print axioms programmeLines_holds
end Go.Proofs.YtggngllfnboehaaDoor
