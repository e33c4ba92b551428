/- PortableExact: for all its arguments, in whatever memory in which the table of classes stands as the program's text lays it, the law returns true and its arguments read behind the call as they read before; conditions: none beyond the card's. -/
import Derived.Test.YtaoegbmgombhdaaDoorRowE
import Derived.Test.YtaoegbmgombhdaaDoorOpenB
import Derived.Test.YtaoegbmgombhdaaDoorPxL
import Derived.Deep.Strs
set_option linter.unusedVariables false
set_option linter.unusedSimpArgs false
namespace Go.Proofs.YtaoegbmgombhdaaDoor
open Go Go.ChangeShapes Go.WideShapes Go.ChangeAt Go.RowKit Go.Deep
instance : Inhabited Rw := ⟨⟨0, hol0⟩⟩
instance : Inhabited Nd := ⟨⟨ByteArray.empty, 0, 0⟩⟩
instance : Inhabited Dv := ⟨⟨ByteArray.empty, 0, 0, 0, 0⟩⟩
section
variable {H : Type} {enc : TypeId × Value → H} {W : World}
theorem int_opens : Opens enc Tryd.prog W 3 (fun z : Int => .v (.int .i64 z)) 1 (fun z => (Lit.int .i64 z).wf = true) := opens_int Tryd.underlying3 (by kernel_rfl)
theorem str_opens : Opens enc Tryd.prog W 9 (fun z : ByteArray => .v (.string z)) 1 (fun z => z.size ≤ maxLen) := opens_str Tryd.underlying9 (by kernel_rfl)
theorem hol_opens : Opens enc Tryd.prog W 43 Hol.av 3 (fun h => h.n.size ≤ maxLen) :=
  opens_map (fun x : Int × Int × ByteArray × Unit => ⟨x.1, x.2.1, x.2.2.1⟩) (opens_struct Tryd.underlying43 (by kernel_rfl) (fopens_cons int_opens rfl rfl (fopens_cons int_opens rfl rfl (fopens_cons str_opens rfl rfl (fopens_nil _))))) (fun _ => rfl) (fun a q => q.2.2.1)
theorem row_opens : Opens enc Tryd.prog W 46 Rw.av 4 (fun r => r.h.n.size ≤ maxLen) :=
  opens_map (fun x : Int × Hol × Unit => ⟨x.1, x.2.1⟩) (opens_struct Tryd.underlying46 (by kernel_rfl) (fopens_cons int_opens rfl rfl (fopens_cons hol_opens rfl rfl (fopens_nil _)))) (fun _ => rfl) (fun a q => q.2.1)
theorem node_opens : Opens enc Tryd.prog W 76 Nd.av 3 (fun x => x.n.size ≤ maxLen) :=
  opens_map (fun x : ByteArray × Int × Int × Unit => ⟨x.1, x.2.1, x.2.2.1⟩) (opens_struct Tryd.underlying76 (by kernel_rfl) (fopens_cons str_opens rfl rfl (fopens_cons int_opens rfl rfl (fopens_cons int_opens rfl rfl (fopens_nil _))))) (fun _ => rfl) (fun a q => q.1)
theorem dev_opens : Opens enc Tryd.prog W 60 Dv.av 5 (fun x => x.n.size ≤ maxLen) :=
  opens_map (fun x : ByteArray × Int × Int × Int × Int × Unit => ⟨x.1, x.2.1, x.2.2.1, x.2.2.2.1, x.2.2.2.2.1⟩) (opens_struct Tryd.underlying60 (by kernel_rfl) (fopens_cons str_opens rfl rfl (fopens_cons int_opens rfl rfl (fopens_cons int_opens rfl rfl (fopens_cons int_opens rfl rfl (fopens_cons int_opens rfl rfl (fopens_nil _))))))) (fun _ => rfl) (fun a q => q.1)
theorem rows_opens : Opens enc Tryd.prog W 49 (fun L : List Rw => .sl 4 (L.map Rw.av)) 1 (fun L => L.length ≤ maxLen ∧ ∀ r ∈ L, r.h.n.size ≤ maxLen) := opens_slice Tryd.underlying49 (by kernel_rfl) (by decide) row_opens
theorem nodes_opens : Opens enc Tryd.prog W 25 (fun L : List Nd => .sl 3 (L.map Nd.av)) 1 (fun L => L.length ≤ maxLen ∧ ∀ r ∈ L, r.n.size ≤ maxLen) := opens_slice Tryd.underlying25 (by kernel_rfl) (by decide) node_opens
theorem devs_opens : Opens enc Tryd.prog W 26 (fun L : List Dv => .sl 5 (L.map Dv.av)) 1 (fun L => L.length ≤ maxLen ∧ ∀ r ∈ L, r.n.size ≤ maxLen) := opens_slice Tryd.underlying26 (by kernel_rfl) (by decide) dev_opens
theorem net_opens : Opens enc Tryd.prog W 28 (fun x : List Nd × List Dv => .ag [.sl 3 (x.1.map Nd.av), .sl 5 (x.2.map Dv.av)]) 2 (fun x => (x.1.length ≤ maxLen ∧ ∀ r ∈ x.1, r.n.size ≤ maxLen) ∧ (x.2.length ≤ maxLen ∧ ∀ r ∈ x.2, r.n.size ≤ maxLen)) :=
  opens_map (fun x : List Nd × List Dv × Unit => (x.1, x.2.1)) (opens_struct Tryd.underlying28 (by kernel_rfl) (fopens_cons nodes_opens rfl rfl (fopens_cons devs_opens rfl rfl (fopens_nil _)))) (fun _ => rfl) (fun a q => ⟨q.1, q.2.1⟩)
end
theorem pexact_laid {W : World} (h : laidMetH Tryd.prog Rows.portableExactRow.laid W) : Cls W := by
  rw [MakeChecks.laidMetH_plain _ _ _ (by kernel_rfl)] at h
  exact cls_of_head h
theorem pexact_read : ∀ t ∈ Tryd.f7.params.toList, Tryd.prog.readableRec t = true ∧ t < Tryd.prog.types.size := by
  intro t ht
  rw [Tryd.params7] at ht
  simp at ht
  rcases ht with rfl | rfl | rfl | rfl | rfl <;> exact ⟨by kernel_rfl, of_decide_eq_true (by kernel_rfl)⟩
theorem pexact_door (os : Os) (args : Array Value) : laidMetH Tryd.prog Rows.portableExactRow.laid ((World.doorLaid Tryd.prog 400 os).forCall (fun _ _ => 0) ⟨#[], args, []⟩).memory :=
  laidMetH_of_parts3 (fuel := 8) (laidMet_of_run' 8 (by kernel_rfl) (by kernel_rfl)) (by kernel_rfl) (by kernel_rfl)
set_option maxRecDepth 100000 in
theorem pexact_lifted (os : Os) (started : os.Started) (H : Type) (enc : TypeId × Value → H) :
    ReturnsInHanded {} Tryd.checked os 7 .any (fun w args => (Rows.portableExactSpec.pre enc Tryd.prog Tryd.f7 [] false w args ∧ laidMetH Tryd.prog Rows.portableExactRow.laid w) ∧ sizedMet enc Tryd.prog Tryd.f7 (OpenSpec.ofChange Rows.portableExactSpec) false w args)
      (Rows.portableExactSpec.post enc Tryd.prog Tryd.f7 false true false false) := by
  refine returnsInHanded_of_change_and (C := Tryd.checked) (X := fun w _ => laidMetH Tryd.prog Rows.portableExactRow.laid w) (fun _ _ _ hh h => h.of_heap hh) ownD started (by kernel_rfl) Tryd.func7
    (ChangeSpec.witness_shaped (enc := enc) (C := Tryd.checked) (os := os) (X := fun w _ => laidMetH Tryd.prog Rows.portableExactRow.laid w) false (World.doorLaid Tryd.prog 400 os) #[.slice none 0 0, .slice none 0 0, .agg #[.slice none 0 0, .slice none 0 0], .int .i64 0, .int .i64 0, .string ⟨#[]⟩] 8 rfl (World.shaped_of_RefB (by kernel_rfl) (by kernel_rfl)) (by kernel_rfl) (by kernel_rfl) (by kernel_rfl) (pexact_door os _)) ?_
  intro W base args ds gs before hval0 hW _ _ hL _
  have hval : ∀ (j : Nat) t v, Tryd.f7.params[j]? = some t → args[j]? = some v → Value.okWide Tryd.prog W .any base t v := hval0
  have hW' := hW
  obtain ⟨p, q, hA0, hV, rfl, hfz, hnd⟩ := hW
  have hA : DataW.TrodAll enc Tryd.prog W 0 (fun _ => true) true Tryd.f7.params.toList args.toList ds p := hA0
  have hA2 := hA
  rw [Tryd.params7] at hA2 hval
  obtain ⟨rfl, rfl⟩ := trodVars_none hV
  simp only [List.append_nil] at hW'
  have hcl := pexact_laid hL
  obtain ⟨v0, vs0, d0, ds0, p0, q0, hargs, hds, hp, h0, r0⟩ := trodAll_cons hA2
  obtain ⟨v1, vs1, d1, ds1, p1, q1, rfl, rfl, rfl, h1, r1⟩ := trodAll_cons r0
  obtain ⟨v2, vs2, d2, ds2, p2, q2, rfl, rfl, rfl, h2, r2⟩ := trodAll_cons r1
  obtain ⟨v3, vs3, d3, ds3, p3, q3, rfl, rfl, rfl, h3, r3⟩ := trodAll_cons r2
  obtain ⟨v4, vs4, d4, ds4, p4, q4, rfl, rfl, rfl, h4, r4⟩ := trodAll_cons r3
  obtain ⟨v5, vs5, d5, ds5, p5, q5, rfl, rfl, rfl, h5, r5⟩ := trodAll_cons r4
  obtain ⟨rfl, rfl, rfl⟩ := trodAll_nil r5
  obtain rfl : args = #[v0, v1, v2, v3, v4, v5] := by cases args; simp_all
  obtain ⟨l, hl, -⟩ := open_sl (ρ := refρ []) Tryd.underlying22 Tryd.underlying3 cellsIntD (hval 0 22 v0 rfl rfl) h0
  obtain ⟨raw, ⟨hrl, hraw⟩, hrawR⟩ := open_slices Tryd.underlying49 rows_opens (hval 1 49 v1 rfl rfl) h1
  obtain ⟨⟨No, Vo⟩, ⟨⟨hNl, hNo⟩, hVl, hVo⟩, hnetR⟩ := open_struct Tryd.underlying28 net_opens (hval 2 28 v2 rfl rfl) h2
  obtain ⟨a3, rfl, rfl, rfl, w3⟩ := open_int Tryd.underlying3 (hval 3 3 v3 rfl rfl) h3
  obtain ⟨a4, rfl, rfl, rfl, w4⟩ := open_int Tryd.underlying3 (hval 4 3 v4 rfl rfl) h4
  obtain ⟨s5, rfl, w5⟩ := open_strv Tryd.underlying9 (hval 5 9 v5 rfl rfl) h5
  refine (acalls_row (pexact_law l raw No Vo a3 a4 s5 hraw hrl hNo hVo hNl hVl w5 GOf_cls) (GOf_at hcl) rfl (fun j x v hx hv => ?_)).mono fun e W' ⟨he, hb⟩ => ?_
  · match j, hx, hv with
    | 0, hx, hv => cases hx; cases hv; exact hl
    | 1, hx, hv => cases hx; cases hv; exact hrawR _
    | 2, hx, hv => cases hx; cases hv; exact hnetR _
    | 3, hx, hv => cases hx; cases hv; exact .v _ _
    | 4, hx, hv => cases hx; cases hv; exact .v _ _
    | 5, hx, hv => cases hx; cases hv; exact .v _ _
  subst he
  exact ⟨_, rfl, law_done laidOutD hW' hA pexact_read rfl rfl Tryd.underlying4 (by subst hds; rfl) hb⟩
theorem portableExact_row : Rows.PortableExactSaid :=
  OpenClaim.holds_of_wide 7 Tryd.f7 rfl rfl rfl rfl rfl rfl rfl ⟨rfl, rfl, rfl, rfl, rfl⟩ rfl rfl rfl rfl rfl (by kernel_rfl) Tryd.func7 (by kernel_rfl)
    (of_decide_eq_true (by kernel_rfl)) (by unfold Func.isWrapper; first | (rw [if_pos (by decide +kernel)]; kernel_rfl) | (rw [if_neg (by decide +kernel)]; exact ⟨rfl, rfl⟩))
    (fun os started H enc _ => pexact_lifted os started H enc)
theorem portableExact_holds : Rows.PortableExactCardSaid :=
  Claim7.holds_tied_plain_at .later [] Rows.portableExactCard.laidKinds true Rows.portableExactCard.stood.harness false
    portableExact_row (fun _ h => by cases h) (by kernel_rfl) (fun _ h => by cases h) portableExact_row_tie rfl ⟨rfl, rfl⟩ (by kernel_rfl) rfl
    (fun f fn hf hfn => by
      obtain rfl : f = 7 := Option.some.inj ((show Tryd.prog.funcNamed Rows.portableExactRow.func = some 7 by kernel_rfl).symm.trans hf) |>.symm
      obtain rfl : fn = Tryd.f7 := (Option.some.inj (Tryd.func7.symm.trans hfn)).symm
      exact ⟨by kernel_rfl, fun j t ht => by
        rw [Tryd.params7] at ht
        have hm : t ∈ [22, 49, 28, 3, 3, 9] := by simpa using Array.mem_of_getElem? ht
        have hall : ([22, 49, 28, 3, 3, 9].all fun u => !Tryd.prog.wantsStandIn u) = true := by kernel_rfl
        exact (show Tryd.prog.wantsStandIn t = false by simpa using List.all_eq_true.1 hall t hm)⟩)
    (by kernel_rfl)
#print axioms portableExact_holds
end Go.Proofs.YtaoegbmgombhdaaDoor
