/- How a slice of structs that came in reads as a list; nothing of the program stands here. -/
import Derived.Test.YtdejgacclogaiaaDoorLib
import Derived.ProofKit
import Derived.OpenShut
import Derived.Deep.Slices
set_option linter.unusedVariables false
set_option linter.unusedSimpArgs false
namespace Go.Proofs.YtdejgacclogaiaaDoor
open Go Go.ChangeShapes Go.WideShapes Go.ChangeAt Go.RowKit Go.Deep
section
variable {H : Type} {enc : TypeId × Value → H} {P : Program}
theorem open_recs {α : Type} [Inhabited α] {f : α → List Value} {Q : α → Prop} {size : Nat} {t e : TypeId} {W : World} {v : Value} {d : DataW H} {p : List MemPlace} {base : Nat} (ht : P.underlying t = some (.slice e)) (hc : P.cellsOf e = size) (hs : 0 < size) (hf : ∀ a, (f a).length = size)
    (hel : ∀ (n : Nat) (cs : List Value) (x : DataW H × List MemPlace), DataW.trod enc P W 0 (fun _ => true) true n e cs = some x → ∃ a, cs = f a ∧ Q a)
    (hv : Value.okWide P W .any base t v) (h : DataW.Trod enc P W 0 (fun _ => true) true t v d p) :
    ∃ A c L, v = .slice A L.length c ∧ (A = none → c = 0) ∧ Rd W (· < W.heap.size) A size f L ∧ L.length ≤ maxLen ∧ ∀ a ∈ L, Q a := by
  obtain ⟨a0, len, cap, rfl⟩ := okWide_slice ht hv
  obtain ⟨fuel, h⟩ := h
  rcases open_slice ht h with ⟨hcs, hx⟩ | ⟨a, len', cap', m, n, D, Pl, hcs, _, hl, hm, hmm, hx, hi⟩
  · simp [Value.cells] at hcs
    obtain ⟨rfl, rfl, rfl⟩ := hcs
    exact ⟨none, 0, [], rfl, fun _ => rfl, Rd.nil _ _ _ _ _, by simp, by simp⟩
  · simp [Value.cells] at hcs
    obtain ⟨rfl, rfl, rfl⟩ := hcs
    simp only [if_true] at hmm
    subst hmm
    obtain ⟨g, hg⟩ := choose_lt (α := α) (n := len) (p := fun i x => W.cells? 0 (a.add (i * size)) size = some (f x) ∧ Q x) (fun i hil => by
      obtain ⟨cs', h1, h2⟩ := hi i (by omega)
      obtain ⟨x, rfl, hq⟩ := hel _ _ _ h2
      rw [hc] at h1
      exact ⟨x, h1, hq⟩)
    have hlen : ((List.range len).map g).length = len := by simp
    refine ⟨some a, m, (List.range len).map g, by rw [hlen], (fun e => by cases e), ?_, (by rw [hlen]; omega), fun x hx => ?_⟩
    · intro hl0
      rw [hlen] at hl0
      obtain ⟨b, o, s⟩ := a
      have h0 := (hg 0 hl0).1
      obtain ⟨_, _, hc0⟩ := World.cells?_some h0
      have hfl := hf (g 0)
      have hz : (f (g 0))[0]? = some ((f (g 0))[0]'(by omega)) := List.getElem?_eq_getElem (by omega)
      have h00 := (hc0 0 hs).trans hz
      have hspot : s = none := by simpa [Addr.add] using World.cell?_spot h00
      subst hspot
      refine ⟨b, o, rfl, World.block_lt_of_cell? W ⟨b, _, none⟩ (by rw [add_plain, add_plain] at h00; exact h00), fun k j x u hx hu => ?_⟩
      have hk := lt_at hx
      rw [hlen] at hk
      rw [List.getElem?_map, List.getElem?_range hk] at hx
      simp at hx
      subst hx
      obtain ⟨_, _, hck⟩ := World.cells?_some (hg k hk).1
      have hj : j < size := by rw [← hf (g k)]; exact lt_at hu
      have := (hck j hj).trans hu
      rw [add_plain, add_plain] at this
      exact this
    · rw [List.mem_map] at hx
      obtain ⟨i, hi', rfl⟩ := hx
      exact (hg i (List.mem_range.1 hi')).2
end
end Go.Proofs.YtdejgacclogaiaaDoor
