/- LexemeAnswers, where what comes in is of bulk at most 1048576: in whatever memory in which the listed tables stand as the program's text lays them, the law returns true and its arguments read behind the call as they read before; conditions: that bound, and none beyond the card's. -/
import Derived.Test.YtblopmoapfcfhaaDoorRowU
import Derived.Test.YtblopmoapfcfhaaDoorOpenB
import Derived.Test.YtblopmoapfcfhaaDoorLxL
set_option linter.unusedVariables false
set_option linter.unusedSimpArgs false
namespace Go.Proofs.YtblopmoapfcfhaaDoor
open Go Go.ChangeShapes Go.WideShapes Go.ChangeAt Go.RowKit Go.Deep
theorem lxa_laid {W : World} (h : laidMetH Tryd.prog Rows.lexemeAnswersUptoRow.laid W) : Cls W ∧ Pow W := by
  rw [MakeChecks.laidMetH_plain _ _ _ (by kernel_rfl)] at h
  exact ⟨cls_of_head h.tail.tail.tail.tail, pow_of_head h.tail.tail⟩
theorem lxa_read : ∀ t ∈ Tryd.f6.params.toList, Tryd.prog.readableRec t = true ∧ t < Tryd.prog.types.size := by
  intro t ht
  rw [Tryd.params6] at ht
  simp at ht
  rcases ht with rfl | rfl | rfl <;> exact ⟨by kernel_rfl, of_decide_eq_true (by kernel_rfl)⟩
theorem lxa_door (os : Os) (args : Array Value) : laidMetH Tryd.prog Rows.lexemeAnswersUptoRow.laid ((World.laidAll Tryd.prog os Rows.lexemeAnswersUptoRow.laid).forCall (fun _ _ => 0) ⟨#[], args, []⟩).memory := by
  rw [MakeChecks.laidMetH_plain _ _ _ (by kernel_rfl)]
  exact laidMet_laidAll _ (by kernel_rfl) (by kernel_rfl)
theorem lxa_reads (os : Os) {H : Type} (enc : TypeId × Value → H) : ∃ places, DataW.whole enc Tryd.prog ((World.laidAll Tryd.prog os Rows.lexemeAnswersUptoRow.laid).forCall (fun _ _ => 0) ⟨#[], #[.string ⟨#[]⟩, .slice none 0 0, .int .i64 0, .int .i64 0], []⟩).memory Tryd.f6.params.toList Rows.lexemeAnswersSpec.vars false (#[.string ⟨#[]⟩, .slice none 0 0, .int .i64 0, .int .i64 0] : Array Value).toList 8 = some ([.lit (.string []), .nil, .lit (.int .i64 0), .lit (.int .i64 0)], [], places) :=
  ⟨[], by kernel_rfl⟩
set_option maxRecDepth 100000 in
theorem lxa_lifted (os : Os) (started : os.Started) (H : Type) (enc : TypeId × Value → H) (F : Stop.Interp) :
    ReturnsInHanded {} Tryd.checked os 6 .any ((Rows.OpenSpec.upto Rows.lexemeAnswersSpec).preRow enc Tryd.prog Tryd.f6 Rows.lexemeAnswersUptoRow.domain false Rows.lexemeAnswersUptoRow.laid) (((Rows.OpenSpec.upto Rows.lexemeAnswersSpec).at F).post enc Tryd.prog Tryd.f6 false true false false) := by
  obtain ⟨places, hx⟩ := lxa_reads os enc
  refine returnsInHanded_of_row (C := Tryd.checked) (s := Rows.OpenSpec.upto Rows.lexemeAnswersSpec) ownD started (by kernel_rfl) Tryd.func6
    (row_witness false (World.laidAll Tryd.prog os Rows.lexemeAnswersUptoRow.laid) #[.string ⟨#[]⟩, .slice none 0 0, .int .i64 0, .int .i64 0] (World.laidAll_os _ _ _) (World.shaped_of_ZipB (by kernel_rfl) (by kernel_rfl)) (by kernel_rfl)
      (OpenSpec.preRow_of_cond 8 hx (by kernel_rfl) (fun k hk => by cases hk; kernel_rfl) (by kernel_rfl) (lxa_door os _))) ?_
  intro W base args ds gs before hval0 hW _ hcond _ hL hsh _
  have hval : ∀ (j : Nat) t v, Tryd.f6.params[j]? = some t → args[j]? = some v → Value.okWide Tryd.prog W .any base t v := hval0
  have hk := hcond _ rfl
  have hW' := hW
  obtain ⟨p, q, hA0, hV, rfl, hfz, hnd⟩ := hW
  have hA : DataW.TrodAll enc Tryd.prog W 0 (fun _ => true) true Tryd.f6.params.toList args.toList ds p := hA0
  have hA2 := hA
  rw [Tryd.params6] at hA2 hval
  obtain ⟨rfl, rfl⟩ := trodVars_none hV
  simp only [List.append_nil] at hW' hk
  obtain ⟨hcl, hpw⟩ := lxa_laid hL
  obtain ⟨m, us, hmx⟩ := max_of_shape hsh
  obtain ⟨v0, vs0, d0, ds0, p0, q0, hargs, hds, hp, h0, r0⟩ := trodAll_cons hA2
  obtain ⟨v1, vs1, d1, ds1, p1, q1, rfl, rfl, rfl, h1, r1⟩ := trodAll_cons r0
  obtain ⟨v2, vs2, d2, ds2, p2, q2, rfl, rfl, rfl, h2, r2⟩ := trodAll_cons r1
  obtain ⟨v3, vs3, d3, ds3, p3, q3, rfl, rfl, rfl, h3, r3⟩ := trodAll_cons r2
  obtain ⟨rfl, rfl, rfl⟩ := trodAll_nil r3
  obtain rfl : args = #[v0, v1, v2, v3] := by cases args; simp_all
  obtain ⟨s0, rfl, w0⟩ := open_strv Tryd.underlying9 (hval 0 9 v0 rfl rfl) h0
  obtain ⟨L, hLr, hLb⟩ := opened_strs Tryd.underlying34 Tryd.underlying9 (by kernel_rfl) (hval 1 34 v1 rfl rfl) h1
  obtain ⟨a2, rfl, rfl, rfl, w2⟩ := open_int Tryd.underlying3 (hval 2 3 v2 rfl rfl) h2
  obtain ⟨a3, rfl, rfl, rfl, w3⟩ := open_int Tryd.underlying3 (hval 3 3 v3 rfl rfl) h3
  have hbk := bulk_all hk
  have hd1 : Rows.uptoBulk d1 ≤ 1048576 := Nat.le_trans (bulk_part (by rw [hds]; simp)) hbk
  have hmapL : (L.map fun s => AV.v (.string s)) = (L.map (·.data.toList)).map svL := by
    rw [List.map_map]
    exact List.map_congr_left fun s _ => rfl
  have hjw := joinW_len (L.map (·.data.toList))
  have hsum : ((L.map (·.data.toList)).map fun x => x.length + 1).sum = (L.map fun s => s.size + 1).sum := by
    rw [List.map_map]
    exact congrArg List.sum (List.map_congr_left fun s _ => rfl)
  refine (acalls_row (answers_law s0 (L.map (·.data.toList)) a2 a3 GOfF_cls GOfF_pow GOfF_max (bounds_i64 w2).1 (bounds_i64 w2).2 (bounds_i64 w3).1 (bounds_i64 w3).2 (fun _ => by omega)) (GOfF_at hcl hpw hmx) rfl (fun j x v hx hv => ?_)).mono fun e W' ⟨he, hb⟩ => ?_
  · match j, hx, hv with
    | 0, hx, hv => cases hx; cases hv; exact .v _ _
    | 1, hx, hv =>
      cases hx; cases hv
      rw [← hmapL]
      exact hLr _
    | 2, hx, hv => cases hx; cases hv; exact .v _ _
    | 3, hx, hv => cases hx; cases hv; exact .v _ _
  subst he
  exact ⟨_, rfl, law_done laidOutD hW' hA lxa_read rfl rfl Tryd.underlying4 (by subst hds; rfl) hb⟩
theorem lexemeAnswers_row : Rows.LexemeAnswersUptoSaid :=
  OpenClaim.holds_of_cond 6 Tryd.f6 rfl rfl rfl rfl rfl rfl rfl ⟨rfl, rfl, rfl, rfl, rfl⟩ rfl rfl rfl rfl rfl (by kernel_rfl) Tryd.func6 (by kernel_rfl)
    (of_decide_eq_true (by kernel_rfl)) (by unfold Func.isWrapper; first | (rw [if_pos (by decide +kernel)]; kernel_rfl) | (rw [if_neg (by decide +kernel)]; exact ⟨rfl, rfl⟩))
    (fun os started H enc _ F => by rw [OpenClaim.pre_eq_preRow]; exact lxa_lifted os started H enc F)
theorem lexemeAnswers_holds : Rows.LexemeAnswersUptoCardSaid :=
  Claim7.holds_tied_plain_at .later [] _ _ _ _
    lexemeAnswers_row (fun _ h => by cases h) (by kernel_rfl) (fun _ h => by cases h) lexemeAnswersUpto_row_tie rfl ⟨rfl, rfl⟩ (by kernel_rfl) rfl
    (fun f fn hf hfn => by
      obtain rfl : f = 6 := Option.some.inj ((show Tryd.prog.funcNamed Rows.lexemeAnswersRow.func = some 6 by kernel_rfl).symm.trans hf) |>.symm
      obtain rfl : fn = Tryd.f6 := (Option.some.inj (Tryd.func6.symm.trans hfn)).symm
      exact ⟨by kernel_rfl, fun j t ht => by
        rw [Tryd.params6] at ht
        have hm : t ∈ [9, 34, 3, 3] := by simpa using Array.mem_of_getElem? ht
        have hall : ([9, 34, 3, 3].all fun u => !Tryd.prog.wantsStandIn u) = true := by kernel_rfl
        exact (show Tryd.prog.wantsStandIn t = false by simpa using List.all_eq_true.1 hall t hm)⟩)
    (by kernel_rfl)
#print axioms lexemeAnswers_holds
end Go.Proofs.YtblopmoapfcfhaaDoor
