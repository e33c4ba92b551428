/- What a bound on the arguments' bulk gives, and the witness of a row with such a bound; conditions: none. -/
import Derived.Test.YtblopmoapfcfhaaDoorRowF
import Derived.Deep.DeepHandedRow
import Derived.SliceStrings
set_option linter.unusedVariables false
set_option linter.unusedSimpArgs false
namespace Go.Proofs.YtblopmoapfcfhaaDoor
open Go Go.ChangeShapes Go.WideShapes Go.ChangeAt Go.RowKit
section
variable {H : Type} {enc : TypeId × Value → H}
theorem row_witness {C : Checked} {os : Os} {f : FuncId} {fn : Func} {s : OpenSpec} {conds : List PathCond} {apart : Bool} {laid : List (String × DataW Unit)} (modest : Bool) (w0 : World) (args : Array Value) (hos : w0.os = os)
    (hsh : (w0.forCall (fun _ _ => 0) ⟨#[], args, []⟩).Shaped C.prog)
    (hok : Input.okWideB C.prog (w0.forCall (fun _ _ => 0) ⟨#[], args, []⟩) f ⟨#[], args, []⟩ = true)
    (hrow : s.preRow enc C.prog fn conds apart laid (w0.forCall (fun _ _ => 0) ⟨#[], args, []⟩).memory args) :
    ∃ (w : World) (tape : Tape) (i : Input), w.os = os ∧ (w.forCall tape i).Shaped C.prog ∧ i.vars = [] ∧ Input.okWide C.prog (w.forCall tape i) .any w.heap.size f i ∧
      s.preRow enc C.prog fn conds apart laid (w.forCall tape i).memory i.args ∧ ({ modest := modest } : Assume).holds C.prog (lone (Frame.enter C.prog f i.args .normal) [] (w.forCall tape i)) :=
  ⟨w0, fun _ _ => 0, ⟨#[], args, []⟩, hos, hsh, (Input.okWide_of_okWideB (base := 0) hok).1, (Input.okWide_of_okWideB hok).2, hrow, by
    simp only [Assume.holds]
    exact ⟨by simp, by simp, fun _ => Modest.zero, by simp, by simp⟩⟩
theorem bulk_one (d : DataW H) : 1 ≤ Rows.uptoBulk d := by
  cases d with
  | lit l => cases l <;> simp [Rows.uptoBulk]
  | nil => simp [Rows.uptoBulk]
  | ptr d => simp [Rows.uptoBulk]
  | slice elems spare => simp [Rows.uptoBulk]
  | agg parts => simp [Rows.uptoBulk]
  | iface t d => simp [Rows.uptoBulk]
  | map entries => simp [Rows.uptoBulk]
  | held h => simp [Rows.uptoBulk]
theorem bulk_part {d : DataW H} {l : List (DataW H)} (h : d ∈ l) : Rows.uptoBulk d ≤ Rows.uptoBulkAll l := by
  induction l with
  | nil => cases h
  | cons x r ih =>
    simp only [Rows.uptoBulkAll]
    cases List.mem_cons.1 h with
    | inl e => subst e; omega
    | inr e => have := ih e; omega
theorem bulk_all {l : List (DataW H)} (hk : Rows.uptoSmall H l = true) : Rows.uptoBulkAll l ≤ 1048576 := of_decide_eq_true hk
theorem bulk_strs : ∀ ss : List ByteArray, Rows.uptoBulkAll (strs (H := H) ss) = (ss.map fun s => s.size + 1).sum
  | [] => by simp [strs, Rows.uptoBulkAll]
  | s :: ss => by
    have ih := bulk_strs ss
    unfold strs at ih ⊢
    rw [List.map_cons, Rows.uptoBulkAll, ih, Rows.uptoBulk, List.map_cons, List.sum_cons, Array.length_toList]
    rfl
theorem opened_strs {P : Program} {W : World} {t e : TypeId} {base : Nat} {v : Value} {d : DataW H} {p : List MemPlace} (ht : P.underlying t = some (.slice e)) (he : P.underlying e = some .string) (hc : P.cellsOf e = 1)
    (hv : Value.okWide P W .any base t v) (h : DataW.Trod enc P W 0 (fun _ => true) true t v d p) :
    ∃ L : List ByteArray, (∀ ρ, Rep (memM W) ρ (.sl 1 (L.map fun s => .v (.string s))) v) ∧ (L.map fun s => s.size + 1).sum ≤ Rows.uptoBulk d := by
  obtain ⟨a0, len0, cap0, rfl⟩ := okWide_slice ht hv
  obtain ⟨fuel, hf⟩ := h
  rcases open_strings ht he hc hf with ⟨hcs, hx⟩ | ⟨a, len, cap, ss, hcs, _, hl, hm, hz, hx, hcell, hw⟩
  · simp [Value.cells] at hcs
    obtain ⟨rfl, rfl, rfl⟩ := hcs
    exact ⟨[], fun ρ => .sl _ 1 [] none 0 (fun _ _ => undef) (by simp) (by simp) (by simp) (by simp), by simp⟩
  · simp [Value.cells] at hcs
    obtain ⟨rfl, rfl, rfl⟩ := hcs
    injection hx with hx _
    subst hx
    have hzl : len0 ≤ ss.length := by
      rw [hz]
      split <;> omega
    refine ⟨ss.take len0, fun ρ => ?_, ?_⟩
    · have hlen : (ss.take len0).length = len0 := by rw [List.length_take]; omega
      have hrd : Rd W (fun _ => True) (some a) 1 (fun s : ByteArray => [.string s]) (ss.take len0) := fun hp => by
        have h0 := hcell 0 (by omega)
        obtain ⟨b, o, sp⟩ := a
        have hsp : sp = none := by simpa [Addr.add] using World.cell?_spot h0
        subst hsp
        refine ⟨b, o, rfl, trivial, fun k j x u hx hu => ?_⟩
        obtain rfl : j = 0 := by
          cases j with
          | zero => rfl
          | succ j => simp at hu
        simp at hu
        subst hu
        have hk := lt_at hx
        have h1 := hcell k (by omega)
        rw [Go.WideShapes.add_plain] at h1
        rw [Nat.mul_one, Nat.add_zero, h1]
        rw [List.getElem?_take_of_lt (by omega)] at hx
        rw [List.getD_eq_getElem?_getD, hx]
        rfl
      have := rd_sl (ρ := ρ) (f := fun s : ByteArray => [.string s]) (av := fun s => .v (.string s)) (c := cap0) (fun _ => rfl) (fun _ => rfl) (by decide) hrd (by omega) hm
      rw [hlen] at this
      exact this
    · rw [Rows.uptoBulk, bulk_strs]
      omega
end
end Go.Proofs.YtblopmoapfcfhaaDoor
