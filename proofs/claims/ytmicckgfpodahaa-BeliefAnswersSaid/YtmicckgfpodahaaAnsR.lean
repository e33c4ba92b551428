/- BeliefAnswers: for all lists, beliefs, reports and numbers, in whatever memory, the law returns true and its arguments read behind the call as they read before; conditions: none. -/
import Derived.Test.YtmicckgfpodahaaRowB
import Derived.Test.YtmicckgfpodahaaAnsO
import Derived.Test.YtmicckgfpodahaaAnsW
set_option linter.unusedVariables false
set_option linter.unusedSimpArgs false
namespace Go.Proofs.Ytmicckgfpodahaa
open Go Go.ChangeShapes Go.WideShapes Go.ChangeAt Go.RowKit
theorem answers_any (A1 A2 A3 A4 : Option Addr) (c1 c2 c3 c4 : Nat) (l norm : List Int) (raw : List Bel) (reps : List Rep) (n now limit : Int) (w : World)
    (h1 : Rd w (· < w.heap.size) A1 1 (fun n => [.int .i64 n]) l) (h2 : Rd w (· < w.heap.size) A2 1 (fun n => [.int .i64 n]) norm) (h3 : Rd w (· < w.heap.size) A3 3 Bel.cells raw) (h4 : Rd w (· < w.heap.size) A4 5 Rep.cells reps)
    (hA3 : A3 = none → c3 = 0) (hI : ∀ b ∈ raw, I64 b.m) (hnow : I64 now) (hlim : I64 limit) :
    Calls Try.prog 8 #[.slice A1 l.length c1, .slice A2 norm.length c2, .slice A3 raw.length c3, .slice A4 reps.length c4, .int .i64 n, .int .i64 now, .int .i64 limit] w fun e w' => e = .returned (.bool true) ∧ Below w.heap.size w w' := by
  by_cases h : l.length ≤ 400 ∧ raw.length ≤ 70 ∧ reps.length ≤ 40 ∧ norm.length ≤ 80
  · exact answers_few A1 A2 A3 A4 c1 c2 c3 c4 l norm raw reps n now limit w h.1 h.2.1 h.2.2.1 h.2.2.2 h1 h2 h3 h4 hA3 hI hnow hlim
  · exact answers_none A1 A2 A3 A4 _ _ _ _ c1 c2 c3 c4 n now limit w h
theorem answers_read : ∀ t ∈ Try.f8.params.toList, Try.prog.readableRec t = true ∧ t < Try.prog.types.size := by
  intro t ht
  rw [Try.params8] at ht
  simp at ht
  rcases ht with rfl | rfl | rfl | rfl <;> exact ⟨by kernel_rfl, of_decide_eq_true (by kernel_rfl)⟩
set_option maxRecDepth 100000 in
theorem answers_lifted (os : Os) (started : os.Started) (H : Type) (enc : TypeId × Value → H) :
    ReturnsInHanded {} Try.checked os 8 .any (Rows.beliefAnswersSpec.pre6 enc Try.prog Try.f8 Rows.beliefAnswersRow.domain false) (Rows.beliefAnswersSpec.post enc Try.prog Try.f8 false true false false) := by
  refine returnsInHanded_of_change (C := Try.checked) own0 started (by kernel_rfl) Try.func8
    (ChangeSpec.witness6 (enc := enc) (C := Try.checked) false ⟨#[], #[.slice none 0 0, .slice none 0 0, .slice none 0 0, .slice none 0 0, .int .i64 0, .int .i64 0, .int .i64 0], []⟩ 8 (by kernel_rfl) (by kernel_rfl) (by kernel_rfl) (by kernel_rfl)) ?_
  intro W base args ds gs before hval0 hW _ _
  have hval : ∀ (j : Nat) t v, Try.f8.params[j]? = some t → args[j]? = some v → Value.okWide Try.prog W .any base t v := hval0
  have hW' := hW
  obtain ⟨p, q, hA0, hV, rfl, hfz, hnd⟩ := hW
  have hA : DataW.TrodAll enc Try.prog W 0 (fun _ => true) true Try.f8.params.toList args.toList ds p := hA0
  have hA2 := hA
  rw [Try.params8] at hA2 hval
  obtain ⟨rfl, rfl⟩ := trodVars_none hV
  simp only [List.append_nil] at hW'
  obtain ⟨v0, vs0, d0, ds0, p0, q0, hargs, hds, hp, h0, r0⟩ := trodAll_cons hA2
  obtain ⟨v1, vs1, d1, ds1, p1, q1, rfl, rfl, rfl, h1, r1⟩ := trodAll_cons r0
  obtain ⟨v2, vs2, d2, ds2, p2, q2, rfl, rfl, rfl, h2, r2⟩ := trodAll_cons r1
  obtain ⟨v3, vs3, d3, ds3, p3, q3, rfl, rfl, rfl, h3, r3⟩ := trodAll_cons r2
  obtain ⟨v4, vs4, d4, ds4, p4, q4, rfl, rfl, rfl, h4, r4⟩ := trodAll_cons r3
  obtain ⟨v5, vs5, d5, ds5, p5, q5, rfl, rfl, rfl, h5, r5⟩ := trodAll_cons r4
  obtain ⟨v6, vs6, d6, ds6, p6, q6, rfl, rfl, rfl, h6, r6⟩ := trodAll_cons r5
  obtain ⟨rfl, rfl, rfl⟩ := trodAll_nil r6
  obtain rfl : args = #[v0, v1, v2, v3, v4, v5, v6] := by cases args; simp_all
  obtain ⟨A1, c1, l, rfl, _, hr1, _, _⟩ := open_il Try.underlying22 Try.underlying3 cellsInt0 (hval 0 22 v0 rfl rfl) h0
  obtain ⟨A2, c2, norm, rfl, _, hr2, _, _⟩ := open_il Try.underlying22 Try.underlying3 cellsInt0 (hval 1 22 v1 rfl rfl) h1
  obtain ⟨A3, c3, raw, rfl, hA3, hr3, _, hI⟩ := open_recs (f := Bel.cells) (Q := fun b => I64 b.m) Try.underlying37 cellsBel0 (by omega) (fun _ => rfl) open_bel (hval 2 37 v2 rfl rfl) h2
  obtain ⟨A4, c4, reps, rfl, _, hr4, _, _⟩ := open_recs (f := Rep.cells) (Q := fun _ => True) Try.underlying39 cellsRep0 (by omega) (fun _ => rfl) open_rep (hval 3 39 v3 rfl rfl) h3
  obtain ⟨n, rfl, rfl, rfl, wn⟩ := open_int Try.underlying3 (hval 4 3 v4 rfl rfl) h4
  obtain ⟨now, rfl, rfl, rfl, wk⟩ := open_int Try.underlying3 (hval 5 3 v5 rfl rfl) h5
  obtain ⟨limit, rfl, rfl, rfl, wl⟩ := open_int Try.underlying3 (hval 6 3 v6 rfl rfl) h6
  refine (answers_any A1 A2 A3 A4 c1 c2 c3 c4 l norm raw reps n now limit W hr1 hr2 hr3 hr4 hA3 hI (bounds_i64 wk) (bounds_i64 wl)).mono fun e W' ⟨he, hb⟩ => ?_
  subst he
  exact ⟨_, rfl, law_done laidOut0 hW' hA answers_read rfl rfl Try.underlying4 (by subst hds; rfl) hb⟩
theorem beliefAnswers_holds : Rows.BeliefAnswersSaid :=
  OpenClaim.holds_of_wide 8 Try.f8 rfl rfl rfl rfl rfl rfl rfl ⟨rfl, rfl, rfl, rfl, rfl⟩ rfl rfl rfl rfl rfl (by kernel_rfl) Try.func8 (by kernel_rfl)
    (of_decide_eq_true (by kernel_rfl)) (by unfold Func.isWrapper; first | (rw [if_pos (by decide +kernel)]; kernel_rfl) | (rw [if_neg (by decide +kernel)]; exact ⟨rfl, rfl⟩))
    (fun os started H enc _ => answers_lifted os started H enc)
#print axioms beliefAnswers_holds
end Go.Proofs.Ytmicckgfpodahaa
