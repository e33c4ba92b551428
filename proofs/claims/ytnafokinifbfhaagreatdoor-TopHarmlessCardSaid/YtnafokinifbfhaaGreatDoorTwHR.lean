/- TopHarmless: for every list of numbers, in whatever memory in which the tables of classes and of positions stand as the program's text lays them, the law returns true and its argument reads behind the call as it read before; conditions: none beyond the card's. -/
import Derived.Test.YtnafokinifbfhaaGreatDoorNetP
import Derived.Test.YtnafokinifbfhaaGreatDoorTwH
set_option linter.unusedVariables false
set_option linter.unusedSimpArgs false
namespace Go.Proofs.YtnafokinifbfhaaGreatDoor
open Go Go.ChangeShapes Go.WideShapes Go.ChangeAt Go.RowKit
def Pos (w : World) : Prop := ∃ t fr, w.heap[0]? = some (.cells ⟨Cx.posV⟩ t fr)
theorem cellsArrP : Tryz.prog.cellsOf 178 = 8 := by kernel_rfl
theorem sP : Tryz.prog.cellsOf 177 = 2 := by kernel_rfl
theorem cellsBoolP : Tryz.prog.cellsOf 4 = 1 := by kernel_rfl
theorem gPos : Tryz.prog.globalNamed "permitoffice/mask.positions" = some 0 := by kernel_rfl
theorem tPos : (Tryz.prog.globals[0]?).map (·.type) = some 178 := by kernel_rfl
set_option maxRecDepth 100000 in
theorem pos_row {H : Type} {enc : TypeId × Value → H} {W : World} {base : Nat} {sp : Nat → Bool} {held : Bool} {m : Nat} {cs : List Value} {x : DataW H × List MemPlace} (h : DataW.trod enc Tryz.prog W base sp held m 177 cs = some x) :
    ∃ a b, cs = [.bool a, .bool b] ∧ x.1 = .agg [.lit (.bool a), .lit (.bool b)] := by
  obtain ⟨y0, y1, n', rfl, hl, h0, h1⟩ := trod_struct2 Tryz.underlying177 h
  rw [sP] at hl
  simp only [cellsBoolP] at h0 h1
  match cs, hl with
  | [v0, v1], _ =>
    simp only [List.drop_zero, List.drop_succ_cons, List.take_succ_cons, List.take_zero] at h0 h1
    obtain ⟨k0, e0, z0⟩ := DataW.trod_bool Tryz.underlying4 h0
    obtain ⟨k1, e1, z1⟩ := DataW.trod_bool Tryz.underlying4 h1
    simp only [List.cons.injEq, and_true] at e0 e1
    subst e0; subst e1
    exact ⟨k0, k1, rfl, by rw [z0, z1]⟩
set_option maxRecDepth 100000 in
theorem wG {rest : List (String × DataW Unit)} {W : World} (h : laidMet Tryz.prog (("permitoffice/mask.positions", Rows.laid_permitoffice_mask_positions) :: rest) W) : Pos W := by
  obtain ⟨ps, ⟨g', t', cs, fuel, p, q, hg', ht', hvar, hd, _, _⟩, _⟩ := h
  obtain rfl := Option.some.inj (gPos.symm.trans hg')
  obtain rfl := Option.some.inj (tPos.symm.trans ht')
  obtain ⟨xs, m1, rfl, hx1, hlen, hn, hel⟩ := DataW.trod_array Tryz.underlying178 hd
  rw [cellsArrP] at hlen
  simp only [sP] at hel
  obtain ⟨l⟩ := cs
  simp only [Prod.mk.injEq, Rows.laid_permitoffice_mask_positions, DataW.agg.injEq] at hx1
  have hcs : l = Cx.posV := by
    match xs, hn, l, hlen with
    | [x0, x1, x2, x3], _, [v0, v1, v2, v3, v4, v5, v6, v7], _ =>
      obtain ⟨a0, b0, c0, d0⟩ := pos_row (hel 0 (by omega))
      obtain ⟨a1, b1, c1, d1⟩ := pos_row (hel 1 (by omega))
      obtain ⟨a2, b2, c2, d2⟩ := pos_row (hel 2 (by omega))
      obtain ⟨a3, b3, c3, d3⟩ := pos_row (hel 3 (by omega))
      simp at c0 c1 c2 c3
      have hx := hx1.1
      simp only [List.map_cons, List.map_nil, d0, d1, d2, d3] at hx
      simp at hx
      simp_all [Cx.posV]
  unfold World.var? at hvar
  rw [gPos] at hvar
  simp only [Option.bind_some] at hvar
  split at hvar
  · rename_i c t fr hh
    injection hvar with hvar
    refine ⟨t, fr, ?_⟩
    rw [hh, hvar, hcs]
  · cases hvar
def GOfT : Nat → Option (List Value) := fun g => if g = 1 then some clsL else if g = 0 then some Cx.posV else none
theorem GOfT_cls : GCls GOfT := rfl
theorem GOfT_0 : GOfT 0 = some Cx.posV := rfl
theorem GOfT_1 : GOfT 1 = some Cx.clsV := rfl
theorem GOfT_at {W : World} (hc : Cls W) (hp : Pos W) : ∀ g us, GOfT g = some us → ∃ t fr, W.heap[g]? = some (.cells ⟨us⟩ t fr) := fun g us e => by
  unfold GOfT at e
  split at e
  · rename_i hg
    injection e with e
    subst hg; subst e
    exact hc
  · split at e
    · rename_i hg
      injection e with e
      subst hg; subst e
      exact hp
    · cases e
theorem harm_laid {W : World} (h : laidMetH Tryz.prog Rows.topHarmlessRow.laid W) : Cls W ∧ Pos W := by
  rw [MakeChecks.laidMetH_plain _ _ _ (by kernel_rfl)] at h
  exact ⟨vI h, wG h.tail⟩
theorem rE : ∀ t ∈ Tryz.f4.params.toList, Tryz.prog.readableRec t = true ∧ t < Tryz.prog.types.size := by
  intro t ht
  rw [Tryz.params4] at ht
  simp at ht
  rcases ht with rfl <;> exact ⟨by kernel_rfl, of_decide_eq_true (by kernel_rfl)⟩
theorem rG (os : Os) (args : Array Value) : laidMetH Tryz.prog Rows.topHarmlessRow.laid ((World.doorLaid Tryz.prog 400 os).forCall (fun _ _ => 0) ⟨#[], args, []⟩).memory :=
  laidMetH_of_parts3 (fuel := 8) (laidMet_of_run' 8 (by kernel_rfl) (by kernel_rfl)) (by kernel_rfl) (by kernel_rfl)
set_option maxRecDepth 100000 in
theorem mW (os : Os) (started : os.Started) (H : Type) (enc : TypeId × Value → H) :
    ReturnsInHanded {} Tryz.checked os 4 .any (fun w args => (Rows.topHarmlessSpec.pre enc Tryz.prog Tryz.f4 [] false w args ∧ laidMetH Tryz.prog Rows.topHarmlessRow.laid w) ∧ sizedMet enc Tryz.prog Tryz.f4 (OpenSpec.ofChange Rows.topHarmlessSpec) false w args)
      (Rows.topHarmlessSpec.post enc Tryz.prog Tryz.f4 false true false false) := by
  refine returnsInHanded_of_change_and (C := Tryz.checked) (X := fun w _ => laidMetH Tryz.prog Rows.topHarmlessRow.laid w) (fun _ _ _ hh h => h.of_heap hh) ownD started (by kernel_rfl) Tryz.func4
    (ChangeSpec.witness_shaped (enc := enc) (C := Tryz.checked) (os := os) (X := fun w _ => laidMetH Tryz.prog Rows.topHarmlessRow.laid w) false (World.doorLaid Tryz.prog 400 os) #[.slice none 0 0] 8 rfl (World.shaped_of_RefB (by kernel_rfl) (by kernel_rfl)) (by kernel_rfl) (by kernel_rfl) (by kernel_rfl) (rG os _)) ?_
  intro W base args ds gs before hval0 hW _ _ hL _
  have hval : ∀ (j : Nat) t v, Tryz.f4.params[j]? = some t → args[j]? = some v → Value.okWide Tryz.prog W .any base t v := hval0
  have hW' := hW
  obtain ⟨p, q, hA0, hV, rfl, hfz, hnd⟩ := hW
  have hA : DataW.TrodAll enc Tryz.prog W 0 (fun _ => true) true Tryz.f4.params.toList args.toList ds p := hA0
  have hA2 := hA
  rw [Tryz.params4] at hA2 hval
  obtain ⟨rfl, rfl⟩ := trodVars_none hV
  simp only [List.append_nil] at hW'
  have hcl := harm_laid hL
  obtain ⟨v0, vs0, d0, ds0, p0, q0, hargs, hds, hp, h0, r0⟩ := trodAll_cons hA2
  obtain ⟨rfl, rfl, rfl⟩ := trodAll_nil r0
  obtain rfl : args = #[v0] := by cases args; simp_all
  obtain ⟨l, hl, -⟩ := open_sl (ρ := refρ []) Tryz.underlying22 Tryz.underlying3 cellsIntD (hval 0 22 v0 rfl rfl) h0
  refine (acalls_row (harmL_A l GOfT_0 GOfT_1 GOfT_cls) (GOfT_at hcl.1 hcl.2) rfl (fun j x v hx hv => ?_)).mono fun e W' ⟨he, hb⟩ => ?_
  · match j, hx, hv with
    | 0, hx, hv => cases hx; cases hv; exact hl
  subst he
  exact ⟨_, rfl, law_done laidOutD hW' hA rE rfl rfl Tryz.underlying4 (by subst hds; rfl) hb⟩
theorem topHarmless_row : Rows.TopHarmlessSaid :=
  OpenClaim.holds_of_wide 4 Tryz.f4 rfl rfl rfl rfl rfl rfl rfl ⟨rfl, rfl, rfl, rfl, rfl⟩ rfl rfl rfl rfl rfl (by kernel_rfl) Tryz.func4 (by kernel_rfl)
    (of_decide_eq_true (by kernel_rfl)) (by unfold Func.isWrapper; first | (rw [if_pos (by decide +kernel)]; kernel_rfl) | (rw [if_neg (by decide +kernel)]; exact ⟨rfl, rfl⟩))
    (fun os started H enc _ => mW os started H enc)
theorem topHarmless_holds : Rows.TopHarmlessCardSaid :=
  Claim7.holds_tied_plain_at .later [] Rows.topHarmlessCard.laidKinds true Rows.topHarmlessCard.stood.harness Rows.topHarmlessCard.stood.looks
    topHarmless_row (fun _ h => by cases h) (by kernel_rfl) (fun _ h => by cases h) topHarmless_row_tie rfl ⟨rfl, rfl⟩ (by kernel_rfl) rfl
    (fun f fn hf hfn => by
      obtain rfl : f = 4 := Option.some.inj ((show Tryz.prog.funcNamed Rows.topHarmlessRow.func = some 4 by kernel_rfl).symm.trans hf) |>.symm
      obtain rfl : fn = Tryz.f4 := (Option.some.inj (Tryz.func4.symm.trans hfn)).symm
      exact ⟨by kernel_rfl, fun j t ht => by
        rw [Tryz.params4] at ht
        have hm : t ∈ [22] := by simpa using Array.mem_of_getElem? ht
        have hall : ([22].all fun u => !Tryz.prog.wantsStandIn u) = true := by kernel_rfl
        exact (show Tryz.prog.wantsStandIn t = false by simpa using List.all_eq_true.1 hall t hm)⟩)
    (by kernel_rfl)
#print axioms topHarmless_holds
end Go.Proofs.YtnafokinifbfhaaGreatDoor
