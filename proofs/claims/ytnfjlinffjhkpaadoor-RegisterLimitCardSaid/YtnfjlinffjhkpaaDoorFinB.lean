/- A slice of numbers of any kind that came in, as an immutable slice of the abstract machine; nothing of the program stands here. -/
import Derived.Test.YtnfjlinffjhkpaaDoorFinA
set_option linter.unusedVariables false
set_option linter.unusedSimpArgs false
namespace Go.Proofs.YtnfjlinffjhkpaaDoor
open Go Go.ChangeShapes Go.WideShapes Go.ChangeAt Go.RowKit
section
variable {H : Type} {enc : TypeId × Value → H} {P : Program}
theorem open_slk {t e : TypeId} {k : IntKind} {W : World} {v : Value} {d : DataW H} {p : List MemPlace} {base : Nat} {ρ : Nat → Nat → Option Value} (ht : P.underlying t = some (.slice e)) (he : P.underlying e = some (.int k)) (hc : P.cellsOf e = 1)
    (hv : Value.okWide P W .any base t v) (h : DataW.Trod enc P W 0 (fun _ => true) true t v d p) : ∃ l : List Int, Rep (memM W) ρ (.sl 1 (l.map fun n => .v (.int k n))) v ∧ ∀ n ∈ l, (Lit.int k n).wf = true := by
  obtain ⟨a0, len, cap, rfl⟩ := okWide_slice ht hv
  obtain ⟨fuel, hf⟩ := h
  rcases open_ints ht he hc hf with ⟨hcs, hx⟩ | ⟨a, len', cap', zs, hcs, _, hl, hm, hz, hx, hcell, hwz⟩
  · simp [Value.cells] at hcs
    obtain ⟨rfl, rfl, rfl⟩ := hcs
    exact ⟨[], rd_sl (f := fun n : Int => [.int k n]) (fun _ => rfl) (fun _ => rfl) (by decide) (Rd.nil W (· < W.heap.size) none 1 _) (by simp) (by simp), by simp⟩
  · simp [Value.cells] at hcs
    obtain ⟨rfl, rfl, rfl⟩ := hcs
    simp only [if_true] at hz
    have hlen : (zs.take len).length = len := by rw [List.length_take, Nat.min_eq_left (by omega)]
    refine ⟨zs.take len, ?_, fun n hn => hwz n (List.mem_of_mem_take hn)⟩
    have key := rd_sl (ρ := ρ) (c := cap) (f := fun n : Int => [.int k n]) (av := fun n : Int => .v (.int k n)) (W := W) (S := (· < W.heap.size)) (A := some a) (sz := 1) (L := zs.take len) (fun _ => rfl) (fun _ => rfl) (by decide) (fun hl0 => by
      obtain ⟨b, o, rfl, hc'⟩ := Go.ints_at hcell (by rw [List.length_take] at hl0; omega)
      have hlt : b < W.heap.size := World.block_lt_of_cell? W ⟨b, o + 0, none⟩ (hc' 0 (by rw [List.length_take] at hl0; omega))
      refine ⟨b, o, rfl, hlt, fun k j x u hx hu => ?_⟩
      have hk := lt_at hx
      rw [List.length_take] at hk
      obtain rfl : j = 0 := by
        cases j with
        | zero => rfl
        | succ j => simp at hu
      simp at hu
      subst hu
      have h1 := hc' k (by omega)
      rw [Nat.mul_one, Nat.add_zero]
      rw [h1]
      rw [List.getElem?_take_of_lt (by omega)] at hx
      rw [List.getD_eq_getElem?_getD, hx]
      rfl) (by omega) hm
    rw [hlen] at key
    exact key
end
theorem bounds_u16 {n : Int} (h : (Lit.int .u16 n).wf = true) : 0 ≤ n ∧ n ≤ 65535 := by
  simp [Lit.wf, IntKind.min, IntKind.max, IntKind.signed, IntKind.bits] at h
  omega
theorem bounds_u8 {n : Int} (h : (Lit.int .u8 n).wf = true) : 0 ≤ n ∧ n ≤ 255 := by
  simp [Lit.wf, IntKind.min, IntKind.max, IntKind.signed, IntKind.bits] at h
  omega
end Go.Proofs.YtnfjlinffjhkpaaDoor
