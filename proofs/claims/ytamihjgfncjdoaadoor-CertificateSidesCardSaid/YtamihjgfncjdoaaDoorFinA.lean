/- From a contract of the abstract machine to a law's row: the memory that stands, slices that came in, and the call's outcome; nothing of the program stands here. -/
import Derived.Test.YtamihjgfncjdoaaDoorAbsP
import Derived.Test.YtamihjgfncjdoaaDoorFin
set_option linter.unusedVariables false
set_option linter.unusedSimpArgs false
namespace Go.Proofs.YtamihjgfncjdoaaDoor
open Go Go.ChangeShapes Go.WideShapes Go.ChangeAt Go.RowKit
def memM (W : World) : Nat → Option (Array Value) := fun g => match W.heap[g]? with
  | some (.cells arr _ _) => some arr
  | _ => none
theorem memM_of {W : World} {g : Nat} {arr : Array Value} {t : TypeId} {fr : Nat × Nat} (h : W.heap[g]? = some (.cells arr t fr)) : memM W g = some arr := by
  unfold memM; rw [h]
theorem memM_inv {W : World} {g : Nat} {arr : Array Value} (h : memM W g = some arr) : ∃ t fr, W.heap[g]? = some (.cells arr t fr) := by
  unfold memM at h
  split at h
  · rename_i a t fr e
    injection h with h; subst h
    exact ⟨t, fr, e⟩
  · cases h
theorem memM_cell {W : World} {b o : Nat} {u : Value} (h : W.cell? ⟨b, o, none⟩ = some u) : ∃ arr, memM W b = some arr ∧ arr[o]? = some u := by
  unfold World.cell? at h
  unfold memM
  split at h
  · rename_i c t fr e
    simp only at e
    rw [e]
    exact ⟨c, rfl, by simpa using h⟩
  · cases h
theorem acalls_row {P : Program} {G : Nat → Option (List Value)} {f : FuncId} {args : List AV} {u : Value} {vs : List Value} {W : World} (h : ACalls P G f args [] (.v u) []) (hG : ∀ g us, G g = some us → ∃ t fr, W.heap[g]? = some (.cells ⟨us⟩ t fr)) (hl : vs.length = args.length)
    (ha : ∀ (j : Nat) (x : AV) (v : Value), args[j]? = some x → vs[j]? = some v → Rep (memM W) (refρ []) x v) : Calls P f ⟨vs⟩ W (fun e W' => e = .returned u ∧ Below W.heap.size W W') := by
  refine (h.2 (memM W) W [] vs (fun g arr e => memM_inv e) (fun g us e => ?_) (by simp) ⟨rfl, by simp⟩ hl ha).mono fun e W' hp => ?_
  · obtain ⟨t, fr, hh⟩ := hG g us e
    exact memM_of hh
  · obtain ⟨v, M', gs', he, -, -, p1, p2, p3, p4, p5, -, -, -, -, hr⟩ := hp
    cases hr
    exact ⟨he, p1, p2, p3, p4, fun g hg => p5 g hg (by simp)⟩
theorem rd_sl {α : Type} {f : α → List Value} {av : α → AV} {W : World} {S : Nat → Prop} {A : Option Addr} {sz c : Nat} {L : List α} {ρ : Nat → Nat → Option Value} (hav : ∀ x, (av x).cells = (f x).map .v) (hsz : ∀ x, (f x).length = sz) (hpos : 0 < sz) (h : Rd W S A sz f L) (hc : L.length ≤ c) (hm : c ≤ maxLen) : Rep (memM W) ρ (.sl sz (L.map av)) (.slice A L.length c) := by
  have hu : ∀ (k : Nat) (x : AV), (L.map av)[k]? = some x → ∃ x0, L[k]? = some x0 ∧ x = av x0 := fun k x e => by
    rw [List.getElem?_map] at e
    cases hx : L[k]? with
    | none => rw [hx] at e; cases e
    | some x0 => rw [hx] at e; injection e with e; exact ⟨x0, rfl, e.symm⟩
  have key := Rep.sl (M := memM W) ρ sz (L.map av) A c (fun k j => ((L[k]?).bind fun x => (f x)[j]?).getD undef) (by simpa using hc) hm (fun k x j y hx hy => by
    obtain ⟨x0, h0, rfl⟩ := hu k x hx
    rw [hav, List.getElem?_map] at hy
    simp only [h0, Option.bind_some]
    cases hz : (f x0)[j]? with
    | none => rw [hz] at hy; cases hy
    | some u => rw [hz] at hy; injection hy with hy; subst hy; exact .v _ _) (fun k x hx => by
    obtain ⟨x0, h0, rfl⟩ := hu k x hx
    refine ⟨by rw [hav, List.length_map, hsz], ?_⟩
    obtain ⟨b, o, e, -, hcell⟩ := h (by have := lt_at h0; omega)
    have at_ : ∀ j, j < sz → ∃ arr, memM W b = some arr ∧ arr[o + k * sz + j]? = some (((L[k]?).bind fun x => (f x)[j]?).getD undef) := fun j hj => by
      obtain ⟨u, hu⟩ := some_at (L := f x0) (k := j) (by rw [hsz]; exact hj)
      obtain ⟨arr, a1, a2⟩ := memM_cell (hcell k j x0 u h0 hu)
      refine ⟨arr, a1, ?_⟩
      rw [a2, h0]
      simp [hu]
    obtain ⟨arr, a1, -⟩ := at_ 0 hpos
    refine ⟨b, o, arr, e, a1, fun j hj => ?_⟩
    obtain ⟨arr', b1, b2⟩ := at_ j hj
    rw [a1] at b1; injection b1 with b1; subst b1
    exact b2)
  rw [List.length_map] at key
  exact key
section
variable {H : Type} {enc : TypeId × Value → H} {P : Program}
/-- A list of integers that came in, as an immutable slice. -/
theorem open_sl {t e : TypeId} {W : World} {v : Value} {d : DataW H} {p : List MemPlace} {base : Nat} {ρ : Nat → Nat → Option Value} (ht : P.underlying t = some (.slice e)) (he : P.underlying e = some (.int .i64)) (hc : P.cellsOf e = 1)
    (hv : Value.okWide P W .any base t v) (h : DataW.Trod enc P W 0 (fun _ => true) true t v d p) : ∃ l : List Int, Rep (memM W) ρ (.sl 1 (l.map fun n => .v (.int .i64 n))) v ∧ ∀ n ∈ l, -9223372036854775808 ≤ n ∧ n ≤ 9223372036854775807 := by
  obtain ⟨A, c, l, hv', hn, hrd, hm, hb⟩ := open_il ht he hc hv h
  have hcap : l.length ≤ c ∧ c ≤ maxLen := by
    obtain ⟨fuel, hf⟩ := h
    rcases open_ints ht he hc hf with ⟨hcs, hx⟩ | ⟨a, len', cap', zs, hcs, _, hl, hm', hz, hx, hcell, hwz⟩
    · rw [hv'] at hcs
      simp [Value.cells] at hcs
      obtain ⟨rfl, rfl, rfl⟩ := hcs
      exact ⟨by simp, by simp⟩
    · rw [hv'] at hcs
      simp [Value.cells] at hcs
      obtain ⟨rfl, rfl, rfl⟩ := hcs
      exact ⟨hl, hm'⟩
  subst hv'
  exact ⟨l, rd_sl (fun _ => rfl) (fun _ => rfl) (by decide) hrd hcap.1 hcap.2, hb⟩
end
end Go.Proofs.YtamihjgfncjdoaaDoor
