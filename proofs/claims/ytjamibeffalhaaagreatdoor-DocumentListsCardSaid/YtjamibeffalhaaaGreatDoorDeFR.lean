/- DocumentLists: for every list of numbers, in whatever memory in which the listed tables stand as the program's text lays them, the law returns true and its arguments read behind the call as they read before; conditions: none beyond the card's. -/
import Derived.Test.YtjamibeffalhaaaGreatDoorOpenB
import Derived.Test.YtjamibeffalhaaaGreatDoorDeF
set_option linter.unusedVariables false
set_option linter.unusedSimpArgs false
namespace Go.Proofs.YtjamibeffalhaaaGreatDoor
open Go Go.ChangeShapes Go.WideShapes Go.ChangeAt Go.RowKit
theorem pG {W : World} (h : laidMetH Tryz.prog Rows.documentListsRow.laid W) : Cls W ∧ Pow W := by
  rw [MakeChecks.laidMetH_plain _ _ _ (by kernel_rfl)] at h
  exact ⟨fZ h.tail.tail.tail.tail, gB h.tail.tail⟩
theorem oB : ∀ t ∈ Tryz.f7.params.toList, Tryz.prog.readableRec t = true ∧ t < Tryz.prog.types.size := by
  intro t ht
  rw [Tryz.params7] at ht
  simp at ht
  rcases ht with rfl <;> exact ⟨by kernel_rfl, of_decide_eq_true (by kernel_rfl)⟩
theorem nS (os : Os) (args : Array Value) : laidMetH Tryz.prog Rows.documentListsRow.laid ((World.laidAll Tryz.prog os Rows.documentListsRow.laid).forCall (fun _ _ => 0) ⟨#[], args, []⟩).memory := by
  rw [MakeChecks.laidMetH_plain _ _ _ (by kernel_rfl)]
  exact laidMet_laidAll _ (by kernel_rfl) (by kernel_rfl)
set_option maxRecDepth 100000 in
theorem kD (os : Os) (started : os.Started) (H : Type) (enc : TypeId × Value → H) :
    ReturnsInHanded {} Tryz.checked os 7 .any (fun w args => (Rows.documentListsSpec.pre enc Tryz.prog Tryz.f7 [] false w args ∧ laidMetH Tryz.prog Rows.documentListsRow.laid w) ∧ sizedMet enc Tryz.prog Tryz.f7 (OpenSpec.ofChange Rows.documentListsSpec) false w args)
      (Rows.documentListsSpec.post enc Tryz.prog Tryz.f7 false true false false) := by
  refine aH (C := Tryz.checked) (X := fun w _ => laidMetH Tryz.prog Rows.documentListsRow.laid w) (fun _ _ _ hh h => h.of_heap hh) ownD started (by kernel_rfl) Tryz.func7
    (ChangeSpec.witness_shaped (enc := enc) (C := Tryz.checked) (os := os) (X := fun w _ => laidMetH Tryz.prog Rows.documentListsRow.laid w) false (World.laidAll Tryz.prog os Rows.documentListsRow.laid) #[.slice none 0 0] 8 (World.laidAll_os _ _ _) (World.shaped_of_ZipB (by kernel_rfl) (by kernel_rfl)) (by kernel_rfl) (by kernel_rfl) (by kernel_rfl) (nS os _)) ?_
  intro W base args ds gs before hval0 hW _ _ hL hsh _
  have hval : ∀ (j : Nat) t v, Tryz.f7.params[j]? = some t → args[j]? = some v → Value.okWide Tryz.prog W .any base t v := hval0
  have hW' := hW
  obtain ⟨p, q, hA0, hV, rfl, hfz, hnd⟩ := hW
  have hA : DataW.TrodAll enc Tryz.prog W 0 (fun _ => true) true Tryz.f7.params.toList args.toList ds p := hA0
  have hA2 := hA
  rw [Tryz.params7] at hA2 hval
  obtain ⟨rfl, rfl⟩ := trodVars_none hV
  simp only [List.append_nil] at hW'
  obtain ⟨hcl, hpw⟩ := pG hL
  obtain ⟨m, us, hmx⟩ := fB hsh
  obtain ⟨v0, vs0, d0, ds0, p0, q0, hargs, hds, hp, h0, r0⟩ := trodAll_cons hA2
  obtain ⟨rfl, rfl, rfl⟩ := trodAll_nil r0
  obtain rfl : args = #[v0] := by cases args; simp_all
  obtain ⟨l, hl, -⟩ := sM (ρ := refρ []) Tryz.underlying22 Tryz.underlying3 kM (hval 0 22 v0 rfl rfl) h0
  refine (acalls_row (uW l oQ pI oD) (tP hcl hpw hmx) rfl (fun j x v hx hv => ?_)).mono fun e W' ⟨he, hb⟩ => ?_
  · match j, hx, hv with
    | 0, hx, hv => cases hx; cases hv; exact hl
  subst he
  exact ⟨_, rfl, nI oR hW' hA oB rfl rfl Tryz.underlying4 (by subst hds; rfl) hb⟩
theorem documentLists_row : Rows.DocumentListsSaid :=
  OpenClaim.holds_of_wide 7 Tryz.f7 rfl rfl rfl rfl rfl rfl rfl ⟨rfl, rfl, rfl, rfl, rfl⟩ rfl rfl rfl rfl rfl (by kernel_rfl) Tryz.func7 (by kernel_rfl)
    (of_decide_eq_true (by kernel_rfl)) (by unfold Func.isWrapper; first | (rw [if_pos (by decide +kernel)]; kernel_rfl) | (rw [if_neg (by decide +kernel)]; exact ⟨rfl, rfl⟩))
    (fun os started H enc _ => kD os started H enc)
theorem documentLists_holds : Rows.DocumentListsCardSaid :=
  Claim7.holds_tied_plain_at .later [] Rows.documentListsCard.laidKinds true Rows.documentListsCard.stood.harness Rows.documentListsCard.stood.looks
    documentLists_row (fun _ h => by cases h) (by kernel_rfl) (fun _ h => by cases h) documentLists_row_tie rfl ⟨rfl, rfl⟩ (by kernel_rfl) rfl
    (fun f fn hf hfn => by
      obtain rfl : f = 7 := Option.some.inj ((show Tryz.prog.funcNamed Rows.documentListsRow.func = some 7 by kernel_rfl).symm.trans hf) |>.symm
      obtain rfl : fn = Tryz.f7 := (Option.some.inj (Tryz.func7.symm.trans hfn)).symm
      exact ⟨by kernel_rfl, fun j t ht => by
        rw [Tryz.params7] at ht
        have hm : t ∈ [22] := by simpa using Array.mem_of_getElem? ht
        have hall : ([22].all fun u => !Tryz.prog.wantsStandIn u) = true := by kernel_rfl
        exact (show Tryz.prog.wantsStandIn t = false by simpa using List.all_eq_true.1 hall t hm)⟩)
    (by kernel_rfl)
#print axioms documentLists_holds
end Go.Proofs.YtjamibeffalhaaaGreatDoor
