/- How slices of beliefs and of reports that came in read; conditions: none. -/
import Derived.Test.YtmicckgfpodahaaAnsP
import Derived.Test.YtmicckgfpodahaaOpen
import Derived.Test.YtmicckgfpodahaaRowB
import Derived.Deep.Strs
set_option linter.unusedVariables false
set_option linter.unusedSimpArgs false
namespace Go.Proofs.Ytmicckgfpodahaa
open Go Go.ChangeShapes Go.WideShapes Go.ChangeAt Go.RowKit Go.Deep
instance : Inhabited Bel := ⟨⟨0, 0, 0⟩⟩
instance : Inhabited Rep := ⟨⟨0, 0, 0, 0, false⟩⟩
theorem cellsBel0 : Try.prog.cellsOf 30 = 3 := by kernel_rfl
theorem cellsRep0 : Try.prog.cellsOf 33 = 5 := by kernel_rfl
theorem cellsBool0 : Try.prog.cellsOf 4 = 1 := by kernel_rfl
section
variable {H : Type} {enc : TypeId × Value → H} {W : World}
theorem open_bel (n : Nat) (cs : List Value) (x : DataW H × List MemPlace) (h : DataW.trod enc Try.prog W 0 (fun _ => true) true n 30 cs = some x) : ∃ b : Bel, cs = b.cells ∧ I64 b.m := by
  obtain ⟨y0, y1, y2, n', rfl, hl, h0, h1, h2⟩ := trod_struct3 Try.underlying30 h
  rw [cellsBel0] at hl
  simp only [cellsInt0] at h0 h1 h2
  match cs, hl with
  | [v0, v1, v2], _ =>
    simp only [List.drop_zero, List.drop_succ_cons, List.take_succ_cons, List.take_zero] at h0 h1 h2
    obtain ⟨k0, e0, -, -⟩ := DataW.trod_int Try.underlying3 h0
    obtain ⟨k1, e1, -, w1⟩ := DataW.trod_int Try.underlying3 h1
    obtain ⟨k2, e2, -, -⟩ := DataW.trod_int Try.underlying3 h2
    simp only [List.cons.injEq, and_true] at e0 e1 e2
    subst e0; subst e1; subst e2
    exact ⟨⟨k0, k1, k2⟩, rfl, bounds_i64 w1⟩
theorem open_rep (n : Nat) (cs : List Value) (x : DataW H × List MemPlace) (h : DataW.trod enc Try.prog W 0 (fun _ => true) true n 33 cs = some x) : ∃ r : Rep, cs = r.cells ∧ True := by
  obtain ⟨xs, n', _, rfl, hl, hlen, hf⟩ := DataW.trod_struct Try.underlying33 h
  rw [cellsRep0] at hl
  match cs, hl with
  | [v0, v1, v2, v3, v4], _ =>
    have h0 : DataW.trod enc Try.prog W 0 (fun _ => true) true n' 3 [v0] = xs[0]? := by simpa [cellsInt0] using hf 0 _ rfl
    have h1 : DataW.trod enc Try.prog W 0 (fun _ => true) true n' 3 [v1] = xs[1]? := by simpa [cellsInt0] using hf 1 _ rfl
    have h2 : DataW.trod enc Try.prog W 0 (fun _ => true) true n' 3 [v2] = xs[2]? := by simpa [cellsInt0] using hf 2 _ rfl
    have h3 : DataW.trod enc Try.prog W 0 (fun _ => true) true n' 3 [v3] = xs[3]? := by simpa [cellsInt0] using hf 3 _ rfl
    have h4 : DataW.trod enc Try.prog W 0 (fun _ => true) true n' 4 [v4] = xs[4]? := by simpa [cellsBool0] using hf 4 _ rfl
    match xs, hlen with
    | [y0, y1, y2, y3, y4], _ =>
      obtain ⟨k0, e0, -, -⟩ := DataW.trod_int Try.underlying3 h0
      obtain ⟨k1, e1, -, -⟩ := DataW.trod_int Try.underlying3 h1
      obtain ⟨k2, e2, -, -⟩ := DataW.trod_int Try.underlying3 h2
      obtain ⟨k3, e3, -, -⟩ := DataW.trod_int Try.underlying3 h3
      obtain ⟨k4, e4, -⟩ := DataW.trod_bool Try.underlying4 h4
      simp only [List.cons.injEq, and_true] at e0 e1 e2 e3 e4
      subst e0; subst e1; subst e2; subst e3; subst e4
      exact ⟨⟨k0, k1, k2, k3, k4⟩, rfl, trivial⟩
end
end Go.Proofs.Ytmicckgfpodahaa
