/- DocumentExact: for all its arguments, in whatever memory in which the listed tables stand as the program's text lays them, the law returns true and its arguments read behind the call as they read before; conditions: none beyond the card's. -/
import Derived.Test.YtjamibeffalhaaaGreatDoorOpenB
import Derived.Test.YtjamibeffalhaaaGreatDoorLxA
import Derived.Test.YtjamibeffalhaaaGreatDoorDeE
set_option linter.unusedVariables false
set_option linter.unusedSimpArgs false
namespace Go.Proofs.YtjamibeffalhaaaGreatDoor
open Go Go.ChangeShapes Go.WideShapes Go.ChangeAt Go.RowKit Go.Deep
instance : Inhabited Lk := ⟨⟨0, 0, 0⟩⟩
section
variable {H : Type} {enc : TypeId × Value → H} {W : World}
theorem rT : jv enc Tryz.prog W 65 Lk.av 3 (fun _ => True) :=
  qy (fun x : Int × Int × Int × Unit => ⟨x.1, x.2.1, x.2.2.1⟩) (jp Tryz.underlying65 (by kernel_rfl) (yM yq rfl rfl (yM yq rfl rfl (yM yq rfl rfl (qX _))))) (fun _ => rfl) (fun a q => trivial)
theorem oZ : jv enc Tryz.prog W 36 (fun L : List Lk => .sl 3 (L.map Lk.av)) 1 (fun L => L.length ≤ maxLen ∧ ∀ r ∈ L, True) := aS Tryz.underlying36 (by kernel_rfl) (by decide) rT
theorem iN : jv enc Tryz.prog W 22 (fun L : List Int => .sl 1 (L.map iv)) 1 (fun L => L.length ≤ maxLen ∧ ∀ r ∈ L, (Lit.int .i64 r).wf = true) := aS Tryz.underlying22 (by kernel_rfl) (by decide) yq
theorem rV : jv enc Tryz.prog W 38 (fun x : Int × Int => .ag [.v (.int .i64 x.1), .v (.int .i64 x.2)]) 2 (fun _ => True) :=
  qy (fun x : Int × Int × Unit => (x.1, x.2.1)) (jp Tryz.underlying38 (by kernel_rfl) (yM yq rfl rfl (yM yq rfl rfl (qX _)))) (fun _ => rfl) (fun a q => trivial)
theorem uF : jv enc Tryz.prog W 40 Dc.av 12 DcSz :=
  qy (fun x : Int × Int × Int × Int × List Int × Int × List Lk × ByteArray × ByteArray × (Int × Int) × List Int × Unit => ⟨x.1, x.2.1, x.2.2.1, x.2.2.2.1, x.2.2.2.2.1, x.2.2.2.2.2.1, x.2.2.2.2.2.2.1, x.2.2.2.2.2.2.2.1, x.2.2.2.2.2.2.2.2.1, x.2.2.2.2.2.2.2.2.2.1.1, x.2.2.2.2.2.2.2.2.2.1.2, x.2.2.2.2.2.2.2.2.2.2.1⟩)
    (jp Tryz.underlying40 (by kernel_rfl) (yM yq rfl rfl (yM yq rfl rfl (yM yq rfl rfl (yM yq rfl rfl (yM iN rfl rfl (yM yq rfl rfl (yM oZ rfl rfl (yM cZ rfl rfl (yM cZ rfl rfl (yM rV rfl rfl (yM iN rfl rfl (qX _)))))))))))))
    (fun _ => rfl) (fun a q => ⟨q.2.2.2.2.1.1, q.2.2.2.2.2.2.1.1, q.2.2.2.2.2.2.2.1, q.2.2.2.2.2.2.2.2.1, q.2.2.2.2.2.2.2.2.2.2.1.1⟩)
end
theorem nR {W : World} (h : laidMetH Tryz.prog Rows.documentExactRow.laid W) : Cls W ∧ Pow W := by
  rw [MakeChecks.laidMetH_plain _ _ _ (by kernel_rfl)] at h
  exact ⟨fZ h.tail.tail.tail.tail, gB h.tail.tail⟩
theorem pB : ∀ t ∈ Tryz.f6.params.toList, Tryz.prog.readableRec t = true ∧ t < Tryz.prog.types.size := by
  intro t ht
  rw [Tryz.params6] at ht
  simp at ht
  rcases ht with rfl | rfl | rfl | rfl <;> exact ⟨by kernel_rfl, of_decide_eq_true (by kernel_rfl)⟩
theorem nZ (os : Os) (args : Array Value) : laidMetH Tryz.prog Rows.documentExactRow.laid ((World.laidAll Tryz.prog os Rows.documentExactRow.laid).forCall (fun _ _ => 0) ⟨#[], args, []⟩).memory := by
  rw [MakeChecks.laidMetH_plain _ _ _ (by kernel_rfl)]
  exact laidMet_laidAll _ (by kernel_rfl) (by kernel_rfl)
set_option maxRecDepth 100000 in
theorem kB (os : Os) (started : os.Started) (H : Type) (enc : TypeId × Value → H) :
    ReturnsInHanded {} Tryz.checked os 6 .any (fun w args => (Rows.documentExactSpec.pre enc Tryz.prog Tryz.f6 [] false w args ∧ laidMetH Tryz.prog Rows.documentExactRow.laid w) ∧ sizedMet enc Tryz.prog Tryz.f6 (OpenSpec.ofChange Rows.documentExactSpec) false w args)
      (Rows.documentExactSpec.post enc Tryz.prog Tryz.f6 false true false false) := by
  refine aH (C := Tryz.checked) (X := fun w _ => laidMetH Tryz.prog Rows.documentExactRow.laid w) (fun _ _ _ hh h => h.of_heap hh) ownD started (by kernel_rfl) Tryz.func6
    (ChangeSpec.witness_shaped (enc := enc) (C := Tryz.checked) (os := os) (X := fun w _ => laidMetH Tryz.prog Rows.documentExactRow.laid w) false (World.laidAll Tryz.prog os Rows.documentExactRow.laid) #[.slice none 0 0, .agg #[.int .i64 0, .int .i64 0, .int .i64 0, .int .i64 0, .slice none 0 0, .int .i64 0, .slice none 0 0, .string ⟨#[]⟩, .string ⟨#[]⟩, .int .i64 0, .int .i64 0, .slice none 0 0], .agg #[.slice none 0 0, .slice none 0 0], .int .i64 0] 8 (World.laidAll_os _ _ _) (World.shaped_of_ZipB (by kernel_rfl) (by kernel_rfl)) (by kernel_rfl) (by kernel_rfl) (by kernel_rfl) (nZ os _)) ?_
  intro W base args ds gs before hval0 hW _ _ hL hsh _
  have hval : ∀ (j : Nat) t v, Tryz.f6.params[j]? = some t → args[j]? = some v → Value.okWide Tryz.prog W .any base t v := hval0
  have hW' := hW
  obtain ⟨p, q, hA0, hV, rfl, hfz, hnd⟩ := hW
  have hA : DataW.TrodAll enc Tryz.prog W 0 (fun _ => true) true Tryz.f6.params.toList args.toList ds p := hA0
  have hA2 := hA
  rw [Tryz.params6] at hA2 hval
  obtain ⟨rfl, rfl⟩ := trodVars_none hV
  simp only [List.append_nil] at hW'
  obtain ⟨hcl, hpw⟩ := nR hL
  obtain ⟨m, us, hmx⟩ := fB hsh
  obtain ⟨v0, vs0, d0, ds0, p0, q0, hargs, hds, hp, h0, r0⟩ := trodAll_cons hA2
  obtain ⟨v1, vs1, d1, ds1, p1, q1, rfl, rfl, rfl, h1, r1⟩ := trodAll_cons r0
  obtain ⟨v2, vs2, d2, ds2, p2, q2, rfl, rfl, rfl, h2, r2⟩ := trodAll_cons r1
  obtain ⟨v3, vs3, d3, ds3, p3, q3, rfl, rfl, rfl, h3, r3⟩ := trodAll_cons r2
  obtain ⟨rfl, rfl, rfl⟩ := trodAll_nil r3
  obtain rfl : args = #[v0, v1, v2, v3] := by cases args; simp_all
  obtain ⟨l, hl, -⟩ := sM (ρ := refρ []) Tryz.underlying22 Tryz.underlying3 kM (hval 0 22 v0 rfl rfl) h0
  obtain ⟨raw, hraw, hdR⟩ := fT Tryz.underlying40 uF (hval 1 40 v1 rfl rfl) h1
  obtain ⟨⟨No, Vo⟩, ⟨⟨hNl, hNo⟩, hVl, hVo⟩, hnetR⟩ := fT Tryz.underlying30 uD (hval 2 30 v2 rfl rfl) h2
  obtain ⟨a3, rfl, rfl, rfl, w3⟩ := open_int Tryz.underlying3 (hval 3 3 v3 rfl rfl) h3
  refine (acalls_row (vA l raw No Vo a3 ⟨hNo, hVo, hNl, hVl⟩ hraw oQ pI oD) (tP hcl hpw hmx) rfl (fun j x v hx hv => ?_)).mono fun e W' ⟨he, hb⟩ => ?_
  · match j, hx, hv with
    | 0, hx, hv => cases hx; cases hv; exact hl
    | 1, hx, hv => cases hx; cases hv; exact hdR _
    | 2, hx, hv => cases hx; cases hv; exact hnetR _
    | 3, hx, hv => cases hx; cases hv; exact .v _ _
  subst he
  exact ⟨_, rfl, nI oR hW' hA pB rfl rfl Tryz.underlying4 (by subst hds; rfl) hb⟩
theorem documentExact_row : Rows.DocumentExactSaid :=
  OpenClaim.holds_of_wide 6 Tryz.f6 rfl rfl rfl rfl rfl rfl rfl ⟨rfl, rfl, rfl, rfl, rfl⟩ rfl rfl rfl rfl rfl (by kernel_rfl) Tryz.func6 (by kernel_rfl)
    (of_decide_eq_true (by kernel_rfl)) (by unfold Func.isWrapper; first | (rw [if_pos (by decide +kernel)]; kernel_rfl) | (rw [if_neg (by decide +kernel)]; exact ⟨rfl, rfl⟩))
    (fun os started H enc _ => kB os started H enc)
theorem documentExact_holds : Rows.DocumentExactCardSaid :=
  Claim7.holds_tied_plain_at .later [] Rows.documentExactCard.laidKinds true Rows.documentExactCard.stood.harness Rows.documentExactCard.stood.looks
    documentExact_row (fun _ h => by cases h) (by kernel_rfl) (fun _ h => by cases h) documentExact_row_tie rfl ⟨rfl, rfl⟩ (by kernel_rfl) rfl
    (fun f fn hf hfn => by
      obtain rfl : f = 6 := Option.some.inj ((show Tryz.prog.funcNamed Rows.documentExactRow.func = some 6 by kernel_rfl).symm.trans hf) |>.symm
      obtain rfl : fn = Tryz.f6 := (Option.some.inj (Tryz.func6.symm.trans hfn)).symm
      exact ⟨by kernel_rfl, fun j t ht => by
        rw [Tryz.params6] at ht
        have hm : t ∈ [22, 40, 30, 3] := by simpa using Array.mem_of_getElem? ht
        have hall : ([22, 40, 30, 3].all fun u => !Tryz.prog.wantsStandIn u) = true := by kernel_rfl
        exact (show Tryz.prog.wantsStandIn t = false by simpa using List.all_eq_true.1 hall t hm)⟩)
    (by kernel_rfl)
#print axioms documentExact_holds
end Go.Proofs.YtjamibeffalhaaaGreatDoor
