/- SafesExact: for all its arguments, in whatever memory in which the table of classes stands as the program's text lays it, the law returns true and its arguments read behind the call as they read before; conditions: none beyond the card's. -/
import Derived.Test.YtlmkloghbgglkaaDoorRowE
import Derived.Test.YtlmkloghbgglkaaDoorOpenB
import Derived.Test.YtlmkloghbgglkaaDoorSxL
import Derived.Deep.Strs
set_option linter.unusedVariables false
set_option linter.unusedSimpArgs false
namespace Go.Proofs.YtlmkloghbgglkaaDoor
open Go Go.ChangeShapes Go.WideShapes Go.ChangeAt Go.RowKit Go.Deep
section
variable {H : Type} {enc : TypeId × Value → H} {W : World}
theorem int_opens : Opens enc Tryd.prog W 3 iv 1 (fun z => (Lit.int .i64 z).wf = true) := opens_int Tryd.underlying3 (by kernel_rfl)
theorem str_opens : Opens enc Tryd.prog W 9 sv 1 (fun z : ByteArray => z.size ≤ maxLen) := opens_str Tryd.underlying9 (by kernel_rfl)
theorem ints_opens : Opens enc Tryd.prog W 22 (fun L : List Int => .sl 1 (L.map iv)) 1 (fun L => L.length ≤ maxLen ∧ ∀ r ∈ L, (Lit.int .i64 r).wf = true) := opens_slice Tryd.underlying22 (by kernel_rfl) (by decide) int_opens
theorem strs_opens : Opens enc Tryd.prog W 26 (fun L : List ByteArray => .sl 1 (L.map sv)) 1 (fun L => L.length ≤ maxLen ∧ ∀ r ∈ L, r.size ≤ maxLen) := opens_slice Tryd.underlying26 (by kernel_rfl) (by decide) str_opens
theorem sf_opens : Opens enc Tryd.prog W 28 Sf.av 3 (fun s => ∀ n ∈ s.locked, n.size ≤ maxLen) :=
  opens_map (fun x : Int × List Int × List ByteArray × Unit => ⟨x.1, x.2.1, x.2.2.1⟩) (opens_struct Tryd.underlying28 (by kernel_rfl) (fopens_cons int_opens rfl rfl (fopens_cons ints_opens rfl rfl (fopens_cons strs_opens rfl rfl (fopens_nil _))))) (fun _ => rfl) (fun a q => q.2.2.1.2)
theorem sfs_opens : Opens enc Tryd.prog W 29 (fun L : List Sf => .sl 3 (L.map Sf.av)) 1 (fun L => L.length ≤ maxLen ∧ ∀ r ∈ L, ∀ n ∈ r.locked, n.size ≤ maxLen) := opens_slice Tryd.underlying29 (by kernel_rfl) (by decide) sf_opens
end
theorem sexact_laid {W : World} (h : laidMetH Tryd.prog Rows.safesExactRow.laid W) : Cls W := by
  rw [MakeChecks.laidMetH_plain _ _ _ (by kernel_rfl)] at h
  exact cls_of_head h
theorem sexact_read : ∀ t ∈ Tryd.f4.params.toList, Tryd.prog.readableRec t = true ∧ t < Tryd.prog.types.size := by
  intro t ht
  rw [Tryd.params4] at ht
  simp at ht
  rcases ht with rfl | rfl | rfl | rfl | rfl <;> exact ⟨by kernel_rfl, of_decide_eq_true (by kernel_rfl)⟩
theorem sexact_door (os : Os) (args : Array Value) : laidMetH Tryd.prog Rows.safesExactRow.laid ((World.doorLaid Tryd.prog 400 os).forCall (fun _ _ => 0) ⟨#[], args, []⟩).memory :=
  laidMetH_of_parts3 (fuel := 8) (laidMet_of_run' 8 (by kernel_rfl) (by kernel_rfl)) (by kernel_rfl) (by kernel_rfl)
set_option maxRecDepth 100000 in
theorem sexact_lifted (os : Os) (started : os.Started) (H : Type) (enc : TypeId × Value → H) :
    ReturnsInHanded {} Tryd.checked os 4 .any (fun w args => (Rows.safesExactSpec.pre enc Tryd.prog Tryd.f4 [] false w args ∧ laidMetH Tryd.prog Rows.safesExactRow.laid w) ∧ sizedMet enc Tryd.prog Tryd.f4 (OpenSpec.ofChange Rows.safesExactSpec) false w args)
      (Rows.safesExactSpec.post enc Tryd.prog Tryd.f4 false true false false) := by
  refine returnsInHanded_of_change_and (C := Tryd.checked) (X := fun w _ => laidMetH Tryd.prog Rows.safesExactRow.laid w) (fun _ _ _ hh h => h.of_heap hh) ownD started (by kernel_rfl) Tryd.func4
    (ChangeSpec.witness_shaped (enc := enc) (C := Tryd.checked) (os := os) (X := fun w _ => laidMetH Tryd.prog Rows.safesExactRow.laid w) false (World.doorLaid Tryd.prog 400 os) #[.slice none 0 0, .slice none 0 0, .int .i64 0, .int .i64 0, .string ⟨#[]⟩] 8 rfl (World.shaped_of_RefB (by kernel_rfl) (by kernel_rfl)) (by kernel_rfl) (by kernel_rfl) (by kernel_rfl) (sexact_door os _)) ?_
  intro W base args ds gs before hval0 hW _ _ hL _
  have hval : ∀ (j : Nat) t v, Tryd.f4.params[j]? = some t → args[j]? = some v → Value.okWide Tryd.prog W .any base t v := hval0
  have hW' := hW
  obtain ⟨p, q, hA0, hV, rfl, hfz, hnd⟩ := hW
  have hA : DataW.TrodAll enc Tryd.prog W 0 (fun _ => true) true Tryd.f4.params.toList args.toList ds p := hA0
  have hA2 := hA
  rw [Tryd.params4] at hA2 hval
  obtain ⟨rfl, rfl⟩ := trodVars_none hV
  simp only [List.append_nil] at hW'
  have hcl := sexact_laid hL
  obtain ⟨v0, vs0, d0, ds0, p0, q0, hargs, hds, hp, h0, r0⟩ := trodAll_cons hA2
  obtain ⟨v1, vs1, d1, ds1, p1, q1, rfl, rfl, rfl, h1, r1⟩ := trodAll_cons r0
  obtain ⟨v2, vs2, d2, ds2, p2, q2, rfl, rfl, rfl, h2, r2⟩ := trodAll_cons r1
  obtain ⟨v3, vs3, d3, ds3, p3, q3, rfl, rfl, rfl, h3, r3⟩ := trodAll_cons r2
  obtain ⟨v4, vs4, d4, ds4, p4, q4, rfl, rfl, rfl, h4, r4⟩ := trodAll_cons r3
  obtain ⟨rfl, rfl, rfl⟩ := trodAll_nil r4
  obtain rfl : args = #[v0, v1, v2, v3, v4] := by cases args; simp_all
  obtain ⟨l, hl, -⟩ := open_sl (ρ := refρ []) Tryd.underlying22 Tryd.underlying3 cellsIntD (hval 0 22 v0 rfl rfl) h0
  obtain ⟨raw, ⟨hrl, hraw⟩, hrawR⟩ := open_slices Tryd.underlying29 sfs_opens (hval 1 29 v1 rfl rfl) h1
  obtain ⟨a2, rfl, rfl, rfl, w2⟩ := open_int Tryd.underlying3 (hval 2 3 v2 rfl rfl) h2
  obtain ⟨a3, rfl, rfl, rfl, w3⟩ := open_int Tryd.underlying3 (hval 3 3 v3 rfl rfl) h3
  obtain ⟨s4, rfl, w4⟩ := open_strv Tryd.underlying9 (hval 4 9 v4 rfl rfl) h4
  refine (acalls_row (sexact_law l raw a2 a3 s4 hraw w4 GOf_cls) (GOf_at hcl) rfl (fun j x v hx hv => ?_)).mono fun e W' ⟨he, hb⟩ => ?_
  · match j, hx, hv with
    | 0, hx, hv => cases hx; cases hv; exact hl
    | 1, hx, hv => cases hx; cases hv; exact hrawR _
    | 2, hx, hv => cases hx; cases hv; exact .v _ _
    | 3, hx, hv => cases hx; cases hv; exact .v _ _
    | 4, hx, hv => cases hx; cases hv; exact .v _ _
  subst he
  exact ⟨_, rfl, law_done laidOutD hW' hA sexact_read rfl rfl Tryd.underlying4 (by subst hds; rfl) hb⟩
theorem safesExact_row : Rows.SafesExactSaid :=
  OpenClaim.holds_of_wide 4 Tryd.f4 rfl rfl rfl rfl rfl rfl rfl ⟨rfl, rfl, rfl, rfl, rfl⟩ rfl rfl rfl rfl rfl (by kernel_rfl) Tryd.func4 (by kernel_rfl)
    (of_decide_eq_true (by kernel_rfl)) (by unfold Func.isWrapper; first | (rw [if_pos (by decide +kernel)]; kernel_rfl) | (rw [if_neg (by decide +kernel)]; exact ⟨rfl, rfl⟩))
    (fun os started H enc _ => sexact_lifted os started H enc)
theorem safesExact_holds : Rows.SafesExactCardSaid :=
  Claim7.holds_tied_plain_at .later [] Rows.safesExactCard.laidKinds true Rows.safesExactCard.stood.harness false
    safesExact_row (fun _ h => by cases h) (by kernel_rfl) (fun _ h => by cases h) safesExact_row_tie rfl ⟨rfl, rfl⟩ (by kernel_rfl) rfl
    (fun f fn hf hfn => by
      obtain rfl : f = 4 := Option.some.inj ((show Tryd.prog.funcNamed Rows.safesExactRow.func = some 4 by kernel_rfl).symm.trans hf) |>.symm
      obtain rfl : fn = Tryd.f4 := (Option.some.inj (Tryd.func4.symm.trans hfn)).symm
      exact ⟨by kernel_rfl, fun j t ht => by
        rw [Tryd.params4] at ht
        have hm : t ∈ [22, 29, 3, 3, 9] := by simpa using Array.mem_of_getElem? ht
        have hall : ([22, 29, 3, 3, 9].all fun u => !Tryd.prog.wantsStandIn u) = true := by kernel_rfl
        exact (show Tryd.prog.wantsStandIn t = false by simpa using List.all_eq_true.1 hall t hm)⟩)
    (by kernel_rfl)
#print axioms safesExact_holds
end Go.Proofs.YtlmkloghbgglkaaDoor
