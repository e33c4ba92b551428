/- BeliefStorms: for every list of integers and every small number, in whatever memory, the law returns true and its arguments read behind the call as they read before; conditions: none. -/
import Derived.Test.YtmicckgfpodahaaRowB
import Derived.Test.YtmicckgfpodahaaStorm
set_option linter.unusedVariables false
set_option linter.unusedSimpArgs false
namespace Go.Proofs.Ytmicckgfpodahaa
open Go Go.ChangeShapes Go.WideShapes Go.ChangeAt Go.RowKit
theorem storm_any (A : Option Addr) (c : Nat) (l : List Int) (k : Int) (w : World) (h : Rd w (· < w.heap.size) A 1 (fun n => [.int .i64 n]) l) (hk0 : 0 ≤ k) (hk1 : k ≤ 255) :
    Calls Try.prog 4 #[.slice A l.length c, .int .u8 k] w fun e w' => e = .returned (.bool true) ∧ Below w.heap.size w w' := by
  by_cases hm : l.length ≤ 400
  · exact storm_few A c l k w hm h hk0 hk1
  · exact storm_many A _ c k w hm
theorem storm_read : ∀ t ∈ Try.f4.params.toList, Try.prog.readableRec t = true ∧ t < Try.prog.types.size := by
  intro t ht
  rw [Try.params4] at ht
  simp at ht
  rcases ht with rfl | rfl <;> exact ⟨by kernel_rfl, of_decide_eq_true (by kernel_rfl)⟩
set_option maxRecDepth 100000 in
theorem storm_lifted (os : Os) (started : os.Started) (H : Type) (enc : TypeId × Value → H) :
    ReturnsInHanded {} Try.checked os 4 .any (Rows.beliefStormsSpec.pre6 enc Try.prog Try.f4 Rows.beliefStormsRow.domain false) (Rows.beliefStormsSpec.post enc Try.prog Try.f4 false true false false) := by
  refine returnsInHanded_of_change (C := Try.checked) own0 started (by kernel_rfl) Try.func4
    (ChangeSpec.witness6 (enc := enc) (C := Try.checked) false ⟨#[], #[.slice none 0 0, .int .u8 0], []⟩ 8 (by kernel_rfl) (by kernel_rfl) (by kernel_rfl) (by kernel_rfl)) ?_
  intro W base args ds gs before hval0 hW _ _
  have hval : ∀ (j : Nat) t v, Try.f4.params[j]? = some t → args[j]? = some v → Value.okWide Try.prog W .any base t v := hval0
  have hW' := hW
  obtain ⟨p, q, hA0, hV, rfl, hfz, hnd⟩ := hW
  have hA : DataW.TrodAll enc Try.prog W 0 (fun _ => true) true Try.f4.params.toList args.toList ds p := hA0
  have hA2 := hA
  rw [Try.params4] at hA2 hval
  obtain ⟨rfl, rfl⟩ := trodVars_none hV
  simp only [List.append_nil] at hW'
  obtain ⟨v0, vs0, d0, ds0, p0, q0, hargs, hds, hp, h0, r0⟩ := trodAll_cons hA2
  obtain ⟨v1, vs1, d1, ds1, p1, q1, rfl, rfl, rfl, h1, r1⟩ := trodAll_cons r0
  obtain ⟨rfl, rfl, rfl⟩ := trodAll_nil r1
  obtain rfl : args = #[v0, v1] := by cases args; simp_all
  obtain ⟨A, c, l, rfl, hn, hr, hl, _⟩ := open_il Try.underlying22 Try.underlying3 cellsInt0 (hval 0 22 v0 rfl rfl) h0
  obtain ⟨k, rfl, rfl, rfl, wk⟩ := open_int Try.underlying5 (hval 1 5 v1 rfl rfl) h1
  have hk := bounds_u8 wk
  refine (storm_any A c l k W hr hk.1 hk.2).mono fun e W' ⟨he, hb⟩ => ?_
  subst he
  exact ⟨_, rfl, law_done laidOut0 hW' hA storm_read rfl rfl Try.underlying4 (by subst hds; rfl) hb⟩
theorem beliefStorms_holds : Rows.BeliefStormsSaid :=
  OpenClaim.holds_of_wide 4 Try.f4 rfl rfl rfl rfl rfl rfl rfl ⟨rfl, rfl, rfl, rfl, rfl⟩ rfl rfl rfl rfl rfl (by kernel_rfl) Try.func4 (by kernel_rfl)
    (of_decide_eq_true (by kernel_rfl)) (by unfold Func.isWrapper; first | (rw [if_pos (by decide +kernel)]; kernel_rfl) | (rw [if_neg (by decide +kernel)]; exact ⟨rfl, rfl⟩))
    (fun os started H enc _ => storm_lifted os started H enc)
#print axioms beliefStorms_holds
end Go.Proofs.Ytmicckgfpodahaa
