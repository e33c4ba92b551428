/- CalendarSpans: for all its arguments, in whatever memory in which the listed tables stand as the program's text lays them, the law returns true and its arguments read behind the call as they read before; conditions: none beyond the card's. -/
import Derived.Test.YtdejgacclogaiaaDoorRowP
import Derived.Test.YtdejgacclogaiaaDoorOpenB
import Derived.Test.YtdejgacclogaiaaDoorSuL
set_option linter.unusedVariables false
set_option linter.unusedSimpArgs false
namespace Go.Proofs.YtdejgacclogaiaaDoor
open Go Go.ChangeShapes Go.WideShapes Go.ChangeAt Go.RowKit Go.Deep
section
variable {H : Type} {enc : TypeId × Value → H} {W : World}
theorem int_opens : Opens enc Tryd.prog W 3 (fun z : Int => .v (.int .i64 z)) 1 (fun z => (Lit.int .i64 z).wf = true) := opens_int Tryd.underlying3 cellsIntD
def spC (s : Spn) : List AV := [.v (.int .i64 s.from_), .v (.int .i64 s.until_)]
theorem spn_opens : Opens enc Tryd.prog W 48 (fun s : Spn => .ag (spC s)) 2 (fun _ => True) :=
  opens_map (fun x : Int × Int × Unit => (⟨x.1, x.2.1⟩ : Spn)) (opens_struct Tryd.underlying48 (by kernel_rfl) (fopens_cons int_opens rfl rfl (fopens_cons int_opens rfl rfl (fopens_nil _)))) (fun _ => rfl) (fun _ _ => trivial)
theorem spns_opens : Opens enc Tryd.prog W 44 (fun L : List Spn => .sl 2 (L.map fun s => .ag (spC s))) 1 (fun L => L.length ≤ maxLen ∧ ∀ r ∈ L, True) := opens_slice Tryd.underlying44 (by kernel_rfl) (by decide) spn_opens
end
theorem spans_laid {W : World} (h : laidMetH Tryd.prog Rows.calendarSpansRow.laid W) : Pow W := by
  rw [MakeChecks.laidMetH_plain _ _ _ (by kernel_rfl)] at h
  exact pow_of_head h.tail.tail
theorem spans_read : ∀ t ∈ Tryd.f7.params.toList, Tryd.prog.readableRec t = true ∧ t < Tryd.prog.types.size := by
  intro t ht
  rw [Tryd.params7] at ht
  simp at ht
  rcases ht with rfl | rfl | rfl <;> exact ⟨by kernel_rfl, of_decide_eq_true (by kernel_rfl)⟩
theorem spans_door (os : Os) (args : Array Value) : laidMetH Tryd.prog Rows.calendarSpansRow.laid ((World.doorLaid Tryd.prog 400 os).forCall (fun _ _ => 0) ⟨#[], args, []⟩).memory :=
  laidMetH_of_parts3 (fuel := 8) (laidMet_of_run' 8 (by kernel_rfl) (by kernel_rfl)) (by kernel_rfl) (by kernel_rfl)
set_option maxRecDepth 100000 in
theorem spans_lifted (os : Os) (started : os.Started) (H : Type) (enc : TypeId × Value → H) :
    ReturnsInHanded {} Tryd.checked os 7 .any (fun w args => (Rows.calendarSpansSpec.pre enc Tryd.prog Tryd.f7 [] false w args ∧ laidMetH Tryd.prog Rows.calendarSpansRow.laid w) ∧ sizedMet enc Tryd.prog Tryd.f7 (OpenSpec.ofChange Rows.calendarSpansSpec) false w args)
      (Rows.calendarSpansSpec.post enc Tryd.prog Tryd.f7 false true false false) := by
  refine returnsInHanded_of_change_and (C := Tryd.checked) (X := fun w _ => laidMetH Tryd.prog Rows.calendarSpansRow.laid w) (fun _ _ _ hh h => h.of_heap hh) ownD started (by kernel_rfl) Tryd.func7
    (ChangeSpec.witness_shaped (enc := enc) (C := Tryd.checked) (os := os) (X := fun w _ => laidMetH Tryd.prog Rows.calendarSpansRow.laid w) false (World.doorLaid Tryd.prog 400 os) #[.slice none 0 0, .slice none 0 0, .agg #[.int .i64 0, .int .i64 0], .agg #[.int .i64 0, .int .i64 0]] 8 rfl (World.shaped_of_RefB (by kernel_rfl) (by kernel_rfl)) (by kernel_rfl) (by kernel_rfl) (by kernel_rfl) (spans_door os _)) ?_
  intro W base args ds gs before hval0 hW _ _ hL _
  have hval : ∀ (j : Nat) t v, Tryd.f7.params[j]? = some t → args[j]? = some v → Value.okWide Tryd.prog W .any base t v := hval0
  have hW' := hW
  obtain ⟨p, q, hA0, hV, rfl, hfz, hnd⟩ := hW
  have hA : DataW.TrodAll enc Tryd.prog W 0 (fun _ => true) true Tryd.f7.params.toList args.toList ds p := hA0
  have hA2 := hA
  rw [Tryd.params7] at hA2 hval
  obtain ⟨rfl, rfl⟩ := trodVars_none hV
  simp only [List.append_nil] at hW'
  have hpw := spans_laid hL
  obtain ⟨v0, vs0, d0, ds0, p0, q0, hargs, hds, hp, h0, r0⟩ := trodAll_cons hA2
  obtain ⟨v1, vs1, d1, ds1, p1, q1, rfl, rfl, rfl, h1, r1⟩ := trodAll_cons r0
  obtain ⟨v2, vs2, d2, ds2, p2, q2, rfl, rfl, rfl, h2, r2⟩ := trodAll_cons r1
  obtain ⟨v3, vs3, d3, ds3, p3, q3, rfl, rfl, rfl, h3, r3⟩ := trodAll_cons r2
  obtain ⟨rfl, rfl, rfl⟩ := trodAll_nil r3
  obtain rfl : args = #[v0, v1, v2, v3] := by cases args; simp_all
  obtain ⟨l, hl, -⟩ := open_sl (ρ := refρ []) Tryd.underlying29 Tryd.underlying3 cellsIntD (hval 0 29 v0 rfl rfl) h0
  obtain ⟨raw, -, hrawR⟩ := open_slices Tryd.underlying44 spns_opens (hval 1 44 v1 rfl rfl) h1
  obtain ⟨a, -, ha⟩ := open_struct Tryd.underlying48 spn_opens (hval 2 48 v2 rfl rfl) h2
  obtain ⟨b, -, hbb⟩ := open_struct Tryd.underlying48 spn_opens (hval 3 48 v3 rfl rfl) h3
  refine (acalls_row (spans_law l raw a b GOf_pow) (GOf_at hpw) rfl (fun j x v hx hv => ?_)).mono fun e W' ⟨he, hb⟩ => ?_
  · match j, hx, hv with
    | 0, hx, hv => cases hx; cases hv; exact hl
    | 1, hx, hv => cases hx; cases hv; exact hrawR _
    | 2, hx, hv => cases hx; cases hv; exact ha _
    | 3, hx, hv => cases hx; cases hv; exact hbb _
  subst he
  exact ⟨_, rfl, law_done laidOutD hW' hA spans_read rfl rfl Tryd.underlying4 (by subst hds; rfl) hb⟩
theorem calendarSpans_row : Rows.CalendarSpansSaid :=
  OpenClaim.holds_of_wide 7 Tryd.f7 rfl rfl rfl rfl rfl rfl rfl ⟨rfl, rfl, rfl, rfl, rfl⟩ rfl rfl rfl rfl rfl (by kernel_rfl) Tryd.func7 (by kernel_rfl)
    (of_decide_eq_true (by kernel_rfl)) (by unfold Func.isWrapper; first | (rw [if_pos (by decide +kernel)]; kernel_rfl) | (rw [if_neg (by decide +kernel)]; exact ⟨rfl, rfl⟩))
    (fun os started H enc _ => spans_lifted os started H enc)
theorem calendarSpans_holds : Rows.CalendarSpansCardSaid :=
  Claim7.holds_tied_plain_at .later [] Rows.calendarSpansCard.laidKinds true Rows.calendarSpansCard.stood.harness false
    calendarSpans_row (fun _ h => by cases h) (by kernel_rfl) (fun _ h => by cases h) calendarSpans_row_tie rfl ⟨rfl, rfl⟩ (by kernel_rfl) rfl
    (fun f fn hf hfn => by
      obtain rfl : f = 7 := Option.some.inj ((show Tryd.prog.funcNamed Rows.calendarSpansRow.func = some 7 by kernel_rfl).symm.trans hf) |>.symm
      obtain rfl : fn = Tryd.f7 := (Option.some.inj (Tryd.func7.symm.trans hfn)).symm
      exact ⟨by kernel_rfl, fun j t ht => by
        rw [Tryd.params7] at ht
        have hm : t ∈ [29, 44, 48, 48] := by simpa using Array.mem_of_getElem? ht
        have hall : ([29, 44, 48, 48].all fun u => !Tryd.prog.wantsStandIn u) = true := by kernel_rfl
        exact (show Tryd.prog.wantsStandIn t = false by simpa using List.all_eq_true.1 hall t hm)⟩)
    (by kernel_rfl)
#print axioms calendarSpans_holds
end Go.Proofs.YtdejgacclogaiaaDoor
