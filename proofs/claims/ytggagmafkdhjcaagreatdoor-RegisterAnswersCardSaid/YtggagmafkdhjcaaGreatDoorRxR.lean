/- RegisterAnswers: for all its arguments, in whatever memory in which the listed tables stand as the program's text lays them, the law returns true and its arguments read behind the call as they read before; conditions: none beyond the card's. -/
import Derived.Test.YtggagmafkdhjcaaGreatDoorOpen
import Derived.Test.YtggagmafkdhjcaaGreatDoorOpenB
import Derived.Test.YtggagmafkdhjcaaGreatDoorAbsW
import Derived.Test.YtggagmafkdhjcaaGreatDoorRxL
import Derived.Deep.Strs
set_option linter.unusedVariables false
set_option linter.unusedSimpArgs false
namespace Go.Proofs.YtggagmafkdhjcaaGreatDoor
open Go Go.ChangeShapes Go.WideShapes Go.ChangeAt Go.RowKit Go.Deep
section
variable {H : Type} {enc : TypeId × Value → H} {W : World}
theorem int_opens : Opens enc Tryz.prog W 3 (fun z : Int => .v (.int .i64 z)) 1 (fun z => (Lit.int .i64 z).wf = true) := opens_int Tryz.underlying3 (by kernel_rfl)
theorem str_opens : Opens enc Tryz.prog W 9 (fun z : ByteArray => .v (.string z)) 1 (fun z => z.size ≤ maxLen) := opens_str Tryz.underlying9 (by kernel_rfl)
theorem per_opens : Opens enc Tryz.prog W 38 (fun p : Per => .ag [.v (.string p.n), .v (.int .i64 p.c), .v (.int .i64 p.s), .v (.int .i64 p.f), .v (.int .i64 p.u)]) 5 (fun p => p.n.size ≤ maxLen ∧ I64 p.s) :=
  opens_map (fun x : ByteArray × Int × Int × Int × Int × Unit => ⟨x.1, x.2.1, x.2.2.1, x.2.2.2.1, x.2.2.2.2.1⟩) (opens_struct Tryz.underlying38 (by kernel_rfl) (fopens_cons str_opens rfl rfl (fopens_cons int_opens rfl rfl (fopens_cons int_opens rfl rfl (fopens_cons int_opens rfl rfl (fopens_cons int_opens rfl rfl (fopens_nil _))))))) (fun _ => rfl) (fun a q => ⟨q.1, bounds_i64 q.2.2.1⟩)
theorem pers_opens : Opens enc Tryz.prog W 27 (fun L : List Per => .sl 5 (L.map Per.av)) 1 (fun L => L.length ≤ maxLen ∧ ∀ r ∈ L, r.n.size ≤ maxLen ∧ I64 r.s) := opens_slice Tryz.underlying27 (by kernel_rfl) (by decide) per_opens
theorem reg_opens : Opens enc Tryz.prog W 29 (fun L : List Per => .ag [.sl 5 (L.map Per.av)]) 1 (fun L => L.length ≤ maxLen ∧ ∀ r ∈ L, r.n.size ≤ maxLen ∧ I64 r.s) :=
  opens_map (fun x : List Per × Unit => x.1) (opens_struct Tryz.underlying29 (by kernel_rfl) (fopens_cons pers_opens rfl rfl (fopens_nil _))) (fun _ => rfl) (fun a q => q.1)
end
theorem ranswers_laid {W : World} (h : laidMetH Tryz.prog Rows.registerAnswersRow.laid W) : Cls W ∧ Pow W := by
  rw [MakeChecks.laidMetH_plain _ _ _ (by kernel_rfl)] at h
  exact ⟨cls_of_head h.tail.tail.tail.tail, pow_of_head h.tail.tail⟩
theorem ranswers_read : ∀ t ∈ Tryz.f4.params.toList, Tryz.prog.readableRec t = true ∧ t < Tryz.prog.types.size := by
  intro t ht
  rw [Tryz.params4] at ht
  simp at ht
  rcases ht with rfl | rfl | rfl | rfl | rfl | rfl <;> exact ⟨by kernel_rfl, of_decide_eq_true (by kernel_rfl)⟩
theorem ranswers_door (os : Os) (args : Array Value) : laidMetH Tryz.prog Rows.registerAnswersRow.laid ((World.laidAll Tryz.prog os Rows.registerAnswersRow.laid).forCall (fun _ _ => 0) ⟨#[], args, []⟩).memory := by
  rw [MakeChecks.laidMetH_plain _ _ _ (by kernel_rfl)]
  exact laidMet_laidAll _ (by kernel_rfl) (by kernel_rfl)
set_option maxRecDepth 100000 in
theorem ranswers_lifted (os : Os) (started : os.Started) (H : Type) (enc : TypeId × Value → H) :
    ReturnsInHanded {} Tryz.checked os 4 .any (fun w args => (Rows.registerAnswersSpec.pre enc Tryz.prog Tryz.f4 [] false w args ∧ laidMetH Tryz.prog Rows.registerAnswersRow.laid w) ∧ sizedMet enc Tryz.prog Tryz.f4 (OpenSpec.ofChange Rows.registerAnswersSpec) false w args)
      (Rows.registerAnswersSpec.post enc Tryz.prog Tryz.f4 false true false false) := by
  refine returns_and_shaped (C := Tryz.checked) (X := fun w _ => laidMetH Tryz.prog Rows.registerAnswersRow.laid w) (fun _ _ _ hh h => h.of_heap hh) ownD started (by kernel_rfl) Tryz.func4
    (ChangeSpec.witness_shaped (enc := enc) (C := Tryz.checked) (os := os) (X := fun w _ => laidMetH Tryz.prog Rows.registerAnswersRow.laid w) false (World.laidAll Tryz.prog os Rows.registerAnswersRow.laid) #[.slice none 0 0, .agg #[.slice none 0 0], .agg #[.string ⟨#[]⟩, .int .i64 0, .int .i64 0, .int .i64 0, .int .i64 0], .string ⟨#[]⟩, .int .i64 0, .int .i64 0] 8 (World.laidAll_os _ _ _) (World.shaped_of_ZipB (by kernel_rfl) (by kernel_rfl)) (by kernel_rfl) (by kernel_rfl) (by kernel_rfl) (ranswers_door os _)) ?_
  intro W base args ds gs before hval0 hW _ _ hL hsh _
  have hval : ∀ (j : Nat) t v, Tryz.f4.params[j]? = some t → args[j]? = some v → Value.okWide Tryz.prog W .any base t v := hval0
  have hW' := hW
  obtain ⟨p, q, hA0, hV, rfl, hfz, hnd⟩ := hW
  have hA : DataW.TrodAll enc Tryz.prog W 0 (fun _ => true) true Tryz.f4.params.toList args.toList ds p := hA0
  have hA2 := hA
  rw [Tryz.params4] at hA2 hval
  obtain ⟨rfl, rfl⟩ := trodVars_none hV
  simp only [List.append_nil] at hW'
  obtain ⟨hcl, hpw⟩ := ranswers_laid hL
  obtain ⟨m, us, hmx⟩ := max_of_shape hsh
  obtain ⟨v0, vs0, d0, ds0, p0, q0, hargs, hds, hp, h0, r0⟩ := trodAll_cons hA2
  obtain ⟨v1, vs1, d1, ds1, p1, q1, rfl, rfl, rfl, h1, r1⟩ := trodAll_cons r0
  obtain ⟨v2, vs2, d2, ds2, p2, q2, rfl, rfl, rfl, h2, r2⟩ := trodAll_cons r1
  obtain ⟨v3, vs3, d3, ds3, p3, q3, rfl, rfl, rfl, h3, r3⟩ := trodAll_cons r2
  obtain ⟨v4, vs4, d4, ds4, p4, q4, rfl, rfl, rfl, h4, r4⟩ := trodAll_cons r3
  obtain ⟨v5, vs5, d5, ds5, p5, q5, rfl, rfl, rfl, h5, r5⟩ := trodAll_cons r4
  obtain ⟨rfl, rfl, rfl⟩ := trodAll_nil r5
  obtain rfl : args = #[v0, v1, v2, v3, v4, v5] := by cases args; simp_all
  obtain ⟨l, hl, -⟩ := open_sl (ρ := refρ []) Tryz.underlying22 Tryz.underlying3 cellsIntD (hval 0 22 v0 rfl rfl) h0
  obtain ⟨R0, ⟨hRl, hRo⟩, hregR⟩ := open_struct Tryz.underlying29 reg_opens (hval 1 29 v1 rfl rfl) h1
  obtain ⟨p, ⟨hpn, hpi⟩, hperR⟩ := open_struct Tryz.underlying38 per_opens (hval 2 38 v2 rfl rfl) h2
  obtain ⟨s3, rfl, w3⟩ := open_strv Tryz.underlying9 (hval 3 9 v3 rfl rfl) h3
  obtain ⟨a4, rfl, rfl, rfl, w4⟩ := open_int Tryz.underlying3 (hval 4 3 v4 rfl rfl) h4
  obtain ⟨a5, rfl, rfl, rfl, w5⟩ := open_int Tryz.underlying3 (hval 5 3 v5 rfl rfl) h5
  refine (acalls_row (answers_law l R0 p s3 a4 a5 hRl (fun q hq => (hRo q hq).1) (fun q hq => (hRo q hq).2) hpn hpi (bounds_i64 w4) GOfF_cls GOfF_pow GOfF_max) (GOfF_at hcl hpw hmx) rfl (fun j x v hx hv => ?_)).mono fun e W' ⟨he, hb⟩ => ?_
  · match j, hx, hv with
    | 0, hx, hv => cases hx; cases hv; exact hl
    | 1, hx, hv => cases hx; cases hv; exact hregR _
    | 2, hx, hv => cases hx; cases hv; exact hperR _
    | 3, hx, hv => cases hx; cases hv; exact .v _ _
    | 4, hx, hv => cases hx; cases hv; exact .v _ _
    | 5, hx, hv => cases hx; cases hv; exact .v _ _
  subst he
  exact ⟨_, rfl, law_done laidOutD hW' hA ranswers_read rfl rfl Tryz.underlying4 (by subst hds; rfl) hb⟩
theorem registerAnswers_row : Rows.RegisterAnswersSaid :=
  OpenClaim.holds_of_wide 4 Tryz.f4 rfl rfl rfl rfl rfl rfl rfl ⟨rfl, rfl, rfl, rfl, rfl⟩ rfl rfl rfl rfl rfl (by kernel_rfl) Tryz.func4 (by kernel_rfl)
    (of_decide_eq_true (by kernel_rfl)) (by unfold Func.isWrapper; first | (rw [if_pos (by decide +kernel)]; kernel_rfl) | (rw [if_neg (by decide +kernel)]; exact ⟨rfl, rfl⟩))
    (fun os started H enc _ => ranswers_lifted os started H enc)
theorem registerAnswers_holds : Rows.RegisterAnswersCardSaid :=
  Claim7.holds_tied_plain_at .later [] Rows.registerAnswersCard.laidKinds true Rows.registerAnswersCard.stood.harness Rows.registerAnswersCard.stood.looks
    registerAnswers_row (fun _ h => by cases h) (by kernel_rfl) (fun _ h => by cases h) registerAnswers_row_tie rfl ⟨rfl, rfl⟩ (by kernel_rfl) rfl
    (fun f fn hf hfn => by
      obtain rfl : f = 4 := Option.some.inj ((show Tryz.prog.funcNamed Rows.registerAnswersRow.func = some 4 by kernel_rfl).symm.trans hf) |>.symm
      obtain rfl : fn = Tryz.f4 := (Option.some.inj (Tryz.func4.symm.trans hfn)).symm
      exact ⟨by kernel_rfl, fun j t ht => by
        rw [Tryz.params4] at ht
        have hm : t ∈ [22, 29, 38, 9, 3, 3] := by simpa using Array.mem_of_getElem? ht
        have hall : ([22, 29, 38, 9, 3, 3].all fun u => !Tryz.prog.wantsStandIn u) = true := by kernel_rfl
        exact (show Tryz.prog.wantsStandIn t = false by simpa using List.all_eq_true.1 hall t hm)⟩)
    (by kernel_rfl)
#print axioms registerAnswers_holds
end Go.Proofs.YtggagmafkdhjcaaGreatDoor
