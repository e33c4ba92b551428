/- RegisterTexts: for every list of numbers, in whatever memory in which the listed tables stand as the program's text lays them, the law returns true and its arguments read behind the call as they read before; conditions: none beyond the card's. -/
import Derived.Test.YtggagmafkdhjcaaGreatDoorLxA
import Derived.Test.YtggagmafkdhjcaaGreatDoorRtL
set_option linter.unusedVariables false
set_option linter.unusedSimpArgs false
namespace Go.Proofs.YtggagmafkdhjcaaGreatDoor
open Go Go.ChangeShapes Go.WideShapes Go.ChangeAt Go.RowKit
theorem kW {W : World} (h : laidMetH Tryz.prog Rows.registerTextsRow.laid W) : Cls W ∧ Pow W := by
  rw [MakeChecks.laidMetH_plain _ _ _ (by kernel_rfl)] at h
  exact ⟨iP h.tail.tail.tail.tail, iU h.tail.tail⟩
theorem lE : ∀ t ∈ Tryz.f3.params.toList, Tryz.prog.readableRec t = true ∧ t < Tryz.prog.types.size := by
  intro t ht
  rw [Tryz.params3] at ht
  simp at ht
  rcases ht with rfl <;> exact ⟨by kernel_rfl, of_decide_eq_true (by kernel_rfl)⟩
theorem iG (os : Os) (args : Array Value) : laidMetH Tryz.prog Rows.registerTextsRow.laid ((World.laidAll Tryz.prog os Rows.registerTextsRow.laid).forCall (fun _ _ => 0) ⟨#[], args, []⟩).memory := by
  rw [MakeChecks.laidMetH_plain _ _ _ (by kernel_rfl)]
  exact laidMet_laidAll _ (by kernel_rfl) (by kernel_rfl)
set_option maxRecDepth 100000 in
theorem fH (os : Os) (started : os.Started) (H : Type) (enc : TypeId × Value → H) :
    ReturnsInHanded {} Tryz.checked os 3 .any (fun w args => (Rows.registerTextsSpec.pre enc Tryz.prog Tryz.f3 [] false w args ∧ laidMetH Tryz.prog Rows.registerTextsRow.laid w) ∧ sizedMet enc Tryz.prog Tryz.f3 (OpenSpec.ofChange Rows.registerTextsSpec) false w args)
      (Rows.registerTextsSpec.post enc Tryz.prog Tryz.f3 false true false false) := by
  refine bP (C := Tryz.checked) (X := fun w _ => laidMetH Tryz.prog Rows.registerTextsRow.laid w) (fun _ _ _ hh h => h.of_heap hh) ownD started (by kernel_rfl) Tryz.func3
    (ChangeSpec.witness_shaped (enc := enc) (C := Tryz.checked) (os := os) (X := fun w _ => laidMetH Tryz.prog Rows.registerTextsRow.laid w) false (World.laidAll Tryz.prog os Rows.registerTextsRow.laid) #[.slice none 0 0] 8 (World.laidAll_os _ _ _) (World.shaped_of_ZipB (by kernel_rfl) (by kernel_rfl)) (by kernel_rfl) (by kernel_rfl) (by kernel_rfl) (iG os _)) ?_
  intro W base args ds gs before hval0 hW _ _ hL hsh _
  have hval : ∀ (j : Nat) t v, Tryz.f3.params[j]? = some t → args[j]? = some v → Value.okWide Tryz.prog W .any base t v := hval0
  have hW' := hW
  obtain ⟨p, q, hA0, hV, rfl, hfz, hnd⟩ := hW
  have hA : DataW.TrodAll enc Tryz.prog W 0 (fun _ => true) true Tryz.f3.params.toList args.toList ds p := hA0
  have hA2 := hA
  rw [Tryz.params3] at hA2 hval
  obtain ⟨rfl, rfl⟩ := trodVars_none hV
  simp only [List.append_nil] at hW'
  obtain ⟨hcl, hpw⟩ := kW hL
  obtain ⟨m, us, hmx⟩ := gT hsh
  obtain ⟨v0, vs0, d0, ds0, p0, q0, hargs, hds, hp, h0, r0⟩ := trodAll_cons hA2
  obtain ⟨rfl, rfl, rfl⟩ := trodAll_nil r0
  obtain rfl : args = #[v0] := by cases args; simp_all
  obtain ⟨l, hl, -⟩ := uL (ρ := refρ []) Tryz.underlying22 Tryz.underlying3 oW (hval 0 22 v0 rfl rfl) h0
  refine (acalls_row (pM l tH sS rU) (uP hcl hpw hmx) rfl (fun j x v hx hv => ?_)).mono fun e W' ⟨he, hb⟩ => ?_
  · match j, hx, hv with
    | 0, hx, hv => cases hx; cases hv; exact hl
  subst he
  exact ⟨_, rfl, pW rP hW' hA lE rfl rfl Tryz.underlying4 (by subst hds; rfl) hb⟩
theorem registerTexts_row : Rows.RegisterTextsSaid :=
  OpenClaim.holds_of_wide 3 Tryz.f3 rfl rfl rfl rfl rfl rfl rfl ⟨rfl, rfl, rfl, rfl, rfl⟩ rfl rfl rfl rfl rfl (by kernel_rfl) Tryz.func3 (by kernel_rfl)
    (of_decide_eq_true (by kernel_rfl)) (by unfold Func.isWrapper; first | (rw [if_pos (by decide +kernel)]; kernel_rfl) | (rw [if_neg (by decide +kernel)]; exact ⟨rfl, rfl⟩))
    (fun os started H enc _ => fH os started H enc)
theorem registerTexts_holds : Rows.RegisterTextsCardSaid :=
  Claim7.holds_tied_plain_at .later [] Rows.registerTextsCard.laidKinds true Rows.registerTextsCard.stood.harness Rows.registerTextsCard.stood.looks
    registerTexts_row (fun _ h => by cases h) (by kernel_rfl) (fun _ h => by cases h) registerTexts_row_tie rfl ⟨rfl, rfl⟩ (by kernel_rfl) rfl
    (fun f fn hf hfn => by
      obtain rfl : f = 3 := Option.some.inj ((show Tryz.prog.funcNamed Rows.registerTextsRow.func = some 3 by kernel_rfl).symm.trans hf) |>.symm
      obtain rfl : fn = Tryz.f3 := (Option.some.inj (Tryz.func3.symm.trans hfn)).symm
      exact ⟨by kernel_rfl, fun j t ht => by
        rw [Tryz.params3] at ht
        have hm : t ∈ [22] := by simpa using Array.mem_of_getElem? ht
        have hall : ([22].all fun u => !Tryz.prog.wantsStandIn u) = true := by kernel_rfl
        exact (show Tryz.prog.wantsStandIn t = false by simpa using List.all_eq_true.1 hall t hm)⟩)
    (by kernel_rfl)
#print axioms registerTexts_holds
end Go.Proofs.YtggagmafkdhjcaaGreatDoor
