/- KeysExact: for all its arguments, in whatever memory in which the table of classes stands as the program's text lays it, the law returns true and its arguments read behind the call as they read before; conditions: none beyond the card's. -/
import Derived.Test.YtbacidnhjmdnlaaDoorRowE
import Derived.Test.YtbacidnhjmdnlaaDoorOpen
import Derived.Test.YtbacidnhjmdnlaaDoorKxL
import Derived.Deep.Strs
set_option linter.unusedVariables false
set_option linter.unusedSimpArgs false
namespace Go.Proofs.YtbacidnhjmdnlaaDoor
open Go Go.ChangeShapes Go.WideShapes Go.ChangeAt Go.RowKit Go.Deep
instance : Inhabited Rw := ⟨⟨0, hol0⟩⟩
theorem cellsHolD : Tryd.prog.cellsOf 30 = 3 := by kernel_rfl
theorem cellsRowD : Tryd.prog.cellsOf 35 = 4 := by kernel_rfl
theorem cellsStrD : Tryd.prog.cellsOf 9 = 1 := by kernel_rfl
section
variable {H : Type} {enc : TypeId × Value → H} {W : World}
theorem open_hol (n : Nat) (cs : List Value) (x : DataW H × List MemPlace) (h : DataW.trod enc Tryd.prog W 0 (fun _ => true) true n 30 cs = some x) : ∃ b : Hol, cs = b.vals ∧ b.n.size ≤ maxLen := by
  obtain ⟨y0, y1, y2, n', rfl, hl, h0, h1, h2⟩ := trod_struct3 Tryd.underlying30 h
  rw [cellsHolD] at hl
  simp only [cellsIntD, cellsStrD] at h0 h1 h2
  match cs, hl with
  | [v0, v1, v2], _ =>
    simp only [List.drop_zero, List.drop_succ_cons, List.take_succ_cons, List.take_zero] at h0 h1 h2
    obtain ⟨k0, e0, -, -⟩ := DataW.trod_int Tryd.underlying3 h0
    obtain ⟨k1, e1, -, -⟩ := DataW.trod_int Tryd.underlying3 h1
    obtain ⟨s2, e2, -, w2⟩ := DataW.trod_string Tryd.underlying9 h2
    simp only [List.cons.injEq, and_true] at e0 e1 e2
    subst e0; subst e1; subst e2
    exact ⟨⟨k0, k1, s2⟩, rfl, w2⟩
theorem open_row (n : Nat) (cs : List Value) (x : DataW H × List MemPlace) (h : DataW.trod enc Tryd.prog W 0 (fun _ => true) true n 35 cs = some x) : ∃ r : Rw, cs = r.vals ∧ r.h.n.size ≤ maxLen := by
  obtain ⟨y0, y1, n', rfl, hl, h0, h1⟩ := trod_struct2 Tryd.underlying35 h
  rw [cellsRowD] at hl
  simp only [cellsIntD, cellsHolD] at h0 h1
  match cs, hl with
  | [v0, v1, v2, v3], _ =>
    simp only [List.drop_zero, List.drop_succ_cons, List.take_succ_cons, List.take_zero] at h0 h1
    obtain ⟨k0, e0, -, -⟩ := DataW.trod_int Tryd.underlying3 h0
    obtain ⟨b, e1, w1⟩ := open_hol n' _ _ h1
    simp only [List.cons.injEq, and_true] at e0
    subst e0
    exact ⟨⟨k0, b⟩, by rw [e1]; rfl, w1⟩
theorem open_holv {v : Value} {d : DataW H} {p : List MemPlace} {base : Nat} (hv : Value.okWide Tryd.prog W .any base 30 v) (h : DataW.Trod enc Tryd.prog W 0 (fun _ => true) true 30 v d p) : ∃ b : Hol, v = .agg ⟨b.vals⟩ ∧ b.n.size ≤ maxLen := by
  obtain ⟨cs, rfl, -⟩ := okWide_struct Tryd.underlying30 hv
  obtain ⟨fuel, hf⟩ := h
  obtain ⟨b, e, w⟩ := open_hol fuel _ _ hf
  refine ⟨b, ?_, w⟩
  have : cs.toList = b.vals := e
  rw [← this]
end
theorem hol_rep {M : Nat → Option (Array Value)} {ρ : Nat → Nat → Option Value} (b : Hol) : Rep M ρ b.av (.agg ⟨b.vals⟩) := avOf_rep (.agg ⟨b.vals⟩)
theorem exact_laid {W : World} (h : laidMetH Tryd.prog Rows.keysExactRow.laid W) : Cls W := by
  rw [MakeChecks.laidMetH_plain _ _ _ (by kernel_rfl)] at h
  exact cls_of_head h
theorem exact_read : ∀ t ∈ Tryd.f6.params.toList, Tryd.prog.readableRec t = true ∧ t < Tryd.prog.types.size := by
  intro t ht
  rw [Tryd.params6] at ht
  simp at ht
  rcases ht with rfl | rfl | rfl | rfl <;> exact ⟨by kernel_rfl, of_decide_eq_true (by kernel_rfl)⟩
theorem exact_door (os : Os) (args : Array Value) : laidMetH Tryd.prog Rows.keysExactRow.laid ((World.doorLaid Tryd.prog 400 os).forCall (fun _ _ => 0) ⟨#[], args, []⟩).memory :=
  laidMetH_of_parts3 (fuel := 8) (laidMet_of_run' 8 (by kernel_rfl) (by kernel_rfl)) (by kernel_rfl) (by kernel_rfl)
set_option maxRecDepth 100000 in
theorem exact_lifted (os : Os) (started : os.Started) (H : Type) (enc : TypeId × Value → H) :
    ReturnsInHanded {} Tryd.checked os 6 .any (fun w args => (Rows.keysExactSpec.pre enc Tryd.prog Tryd.f6 [] false w args ∧ laidMetH Tryd.prog Rows.keysExactRow.laid w) ∧ sizedMet enc Tryd.prog Tryd.f6 (OpenSpec.ofChange Rows.keysExactSpec) false w args)
      (Rows.keysExactSpec.post enc Tryd.prog Tryd.f6 false true false false) := by
  refine returnsInHanded_of_change_and (C := Tryd.checked) (X := fun w _ => laidMetH Tryd.prog Rows.keysExactRow.laid w) (fun _ _ _ hh h => h.of_heap hh) ownD started (by kernel_rfl) Tryd.func6
    (ChangeSpec.witness_shaped (enc := enc) (C := Tryd.checked) (os := os) (X := fun w _ => laidMetH Tryd.prog Rows.keysExactRow.laid w) false (World.doorLaid Tryd.prog 400 os) #[.slice none 0 0, .slice none 0 0, .agg #[.int .i64 0, .int .i64 0, .string ⟨#[]⟩], .agg #[.int .i64 0, .int .i64 0, .string ⟨#[]⟩], .int .i64 0] 8 rfl (World.shaped_of_RefB (by kernel_rfl) (by kernel_rfl)) (by kernel_rfl) (by kernel_rfl) (by kernel_rfl) (exact_door os _)) ?_
  intro W base args ds gs before hval0 hW _ _ hL _
  have hval : ∀ (j : Nat) t v, Tryd.f6.params[j]? = some t → args[j]? = some v → Value.okWide Tryd.prog W .any base t v := hval0
  have hW' := hW
  obtain ⟨p, q, hA0, hV, rfl, hfz, hnd⟩ := hW
  have hA : DataW.TrodAll enc Tryd.prog W 0 (fun _ => true) true Tryd.f6.params.toList args.toList ds p := hA0
  have hA2 := hA
  rw [Tryd.params6] at hA2 hval
  obtain ⟨rfl, rfl⟩ := trodVars_none hV
  simp only [List.append_nil] at hW'
  have hcl := exact_laid hL
  obtain ⟨v0, vs0, d0, ds0, p0, q0, hargs, hds, hp, h0, r0⟩ := trodAll_cons hA2
  obtain ⟨v1, vs1, d1, ds1, p1, q1, rfl, rfl, rfl, h1, r1⟩ := trodAll_cons r0
  obtain ⟨v2, vs2, d2, ds2, p2, q2, rfl, rfl, rfl, h2, r2⟩ := trodAll_cons r1
  obtain ⟨v3, vs3, d3, ds3, p3, q3, rfl, rfl, rfl, h3, r3⟩ := trodAll_cons r2
  obtain ⟨v4, vs4, d4, ds4, p4, q4, rfl, rfl, rfl, h4, r4⟩ := trodAll_cons r3
  obtain ⟨rfl, rfl, rfl⟩ := trodAll_nil r4
  obtain rfl : args = #[v0, v1, v2, v3, v4] := by cases args; simp_all
  obtain ⟨l, hl, -⟩ := open_sl (ρ := refρ []) Tryd.underlying22 Tryd.underlying3 cellsIntD (hval 0 22 v0 rfl rfl) h0
  obtain ⟨A1, c1, raw, rfl, hA1, hrd, hrl, hraw⟩ := open_recs (f := Rw.vals) (Q := fun r => r.h.n.size ≤ maxLen) Tryd.underlying27 cellsRowD (by decide) (fun _ => rfl) open_row (hval 1 27 v1 rfl rfl) h1
  obtain ⟨b2, rfl, w2⟩ := open_holv (hval 2 30 v2 rfl rfl) h2
  obtain ⟨b3, rfl, w3⟩ := open_holv (hval 3 30 v3 rfl rfl) h3
  obtain ⟨a4, rfl, rfl, rfl, w4⟩ := open_int Tryd.underlying3 (hval 4 3 v4 rfl rfl) h4
  have hcap : raw.length ≤ c1 ∧ c1 ≤ maxLen := by
    obtain ⟨fuel, hf⟩ := h1
    rcases open_slice Tryd.underlying27 hf with ⟨hcs, hx⟩ | ⟨a, len', cap', m, n, D, Pl, hcs, _, hl', hm', hmm, hx, hi⟩
    · simp [Value.cells] at hcs
      obtain ⟨-, h00, h01⟩ := hcs
      subst h00
      simp [h01]
    · simp [Value.cells] at hcs
      obtain ⟨-, h00, h01⟩ := hcs
      subst h01
      exact ⟨by first | omega | (rw [h00]; exact hl'), hm'⟩
  have hrawR : Rep (memM W) (refρ []) (.sl 4 (raw.map Rw.av)) (.slice A1 raw.length c1) := rd_sl (fun _ => rfl) (fun _ => rfl) (by decide) hrd hcap.1 hcap.2
  refine (acalls_row (exact_law l raw b2 b3 a4 hraw hrl w2 w3 GOf_cls) (GOf_at hcl) rfl (fun j x v hx hv => ?_)).mono fun e W' ⟨he, hb⟩ => ?_
  · match j, hx, hv with
    | 0, hx, hv => cases hx; cases hv; exact hl
    | 1, hx, hv => cases hx; cases hv; exact hrawR
    | 2, hx, hv => cases hx; cases hv; exact hol_rep b2
    | 3, hx, hv => cases hx; cases hv; exact hol_rep b3
    | 4, hx, hv => cases hx; cases hv; exact .v _ _
  subst he
  exact ⟨_, rfl, law_done laidOutD hW' hA exact_read rfl rfl Tryd.underlying4 (by subst hds; rfl) hb⟩
theorem keysExact_row : Rows.KeysExactSaid :=
  OpenClaim.holds_of_wide 6 Tryd.f6 rfl rfl rfl rfl rfl rfl rfl ⟨rfl, rfl, rfl, rfl, rfl⟩ rfl rfl rfl rfl rfl (by kernel_rfl) Tryd.func6 (by kernel_rfl)
    (of_decide_eq_true (by kernel_rfl)) (by unfold Func.isWrapper; first | (rw [if_pos (by decide +kernel)]; kernel_rfl) | (rw [if_neg (by decide +kernel)]; exact ⟨rfl, rfl⟩))
    (fun os started H enc _ => exact_lifted os started H enc)
theorem keysExact_holds : Rows.KeysExactCardSaid :=
  Claim7.holds_tied_plain_at .later [] Rows.keysExactCard.laidKinds true Rows.keysExactCard.stood.harness false
    keysExact_row (fun _ h => by cases h) (by kernel_rfl) (fun _ h => by cases h) keysExact_row_tie rfl ⟨rfl, rfl⟩ (by kernel_rfl) rfl
    (fun f fn hf hfn => by
      obtain rfl : f = 6 := Option.some.inj ((show Tryd.prog.funcNamed Rows.keysExactRow.func = some 6 by kernel_rfl).symm.trans hf) |>.symm
      obtain rfl : fn = Tryd.f6 := (Option.some.inj (Tryd.func6.symm.trans hfn)).symm
      exact ⟨by kernel_rfl, fun j t ht => by
        rw [Tryd.params6] at ht
        have hm : t ∈ [22, 27, 30, 30, 3] := by simpa using Array.mem_of_getElem? ht
        have hall : ([22, 27, 30, 30, 3].all fun u => !Tryd.prog.wantsStandIn u) = true := by kernel_rfl
        exact (show Tryd.prog.wantsStandIn t = false by simpa using List.all_eq_true.1 hall t hm)⟩)
    (by kernel_rfl)
#print axioms keysExact_holds
end Go.Proofs.YtbacidnhjmdnlaaDoor
