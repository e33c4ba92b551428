/- What laying elements into, and taking them out of, slices of the caller's own needs, for elements of any size; conditions: none. -/
import Derived.Test.YtamihjgfncjdoaaDoorInsA
import Derived.Test.YtamihjgfncjdoaaDoorAbsX
import Derived.Lib.SliceRun
set_option linter.unusedVariables false
set_option linter.unusedSimpArgs false
namespace Go.Proofs.YtamihjgfncjdoaaDoor
open Go Go.RowKit
theorem run_overlaps_own {P : Program} (w : World) (tS tR e : TypeId) (ht : P.underlying tS = some (.slice e)) (size : Nat) (hz : ∀ w, (Go.sizeOf e).run P w = .ok size w)
    (a b : Addr) (la ca lb cb : Nat) (hne : a.block ≠ b.block) (tA tB : TypeId) (kA : Nat) (cl : Array Value) (hsa : w.shape? a.block = some (tA, kA)) (hb : w.heap[b.block]? = some (.cells cl tB (0, 0))) (hcl : cl.size ≠ 0) (hkA : kA ≠ 0) :
    (Extern.SlicesOverlaps.overlaps #[tS, tS] #[tR] #[.slice (some a) la ca, .slice (some b) lb cb]).run P w = .ok (.bool false) w := by
  have hnb : (a.block != b.block) = true := by simpa using hne
  have hnb' : (a.block == b.block) = false := by simpa using hne
  have hsb : w.shape? b.block = some (tB, cl.size) := by unfold World.shape?; rw [hb]
  have hfb : ∀ o s, w.frozen? ⟨b.block, o, s⟩ = false := fun o s => by unfold World.frozen?; simp [hb]
  have hfb0 : w.frozen? b = false := hfb b.off b.spot
  change Sem.run P (α := Value) (do
    let some t := (#[tS, tS] : Array TypeId)[0]? | stuck "slices.overlaps: no parameter types"
    let .slice elem ← underlying t | stuck "slices.overlaps: slice type expected"
    let size ← sizeOf elem
    match (some a : Option Addr), (some b : Option Addr) with
    | some a, some b =>
      if la = 0 ∨ lb = 0 ∨ size = 0 then pure (Value.bool false)
      else if a.block != b.block && (← frozen a) && (← frozen b) then unsupported .addressObserved
      else do
        if a.block != b.block then do
          noView a; noView b
          if ← mayBeOne a b then return Value.bool ((← choose (.extern "sameAddr.stringBytes" 2)) == 1)
        pure (Value.bool (a.block == b.block && a.off < b.off + lb * size && b.off < a.off + la * size))
    | _, _ => pure (Value.bool false)) w = _
  by_cases h0 : la = 0 ∨ lb = 0 ∨ size = 0
  · simp [run_underlying ht, hz, h0]
  · obtain ⟨k, hk⟩ : ∃ k, cl.size = k + 1 := ⟨cl.size - 1, by omega⟩
    rw [hk] at hsb
    obtain ⟨k', rfl⟩ : ∃ k', kA = k' + 1 := ⟨kA - 1, by omega⟩
    cases hfa : w.frozen? a <;> cases hfe : w.frozen? { block := a.block, off := k' + 1 } <;>
      simp [run_underlying ht, hz, h0, hnb, hnb', frozen, noView, viewAt, mayBeOne, stringish, shape, Sem.run, hsa, hsb, hfa, hfe, hfb, hfb0]
theorem ins_cells2 {α : Type} (row us news : List α) (a k m : Nat) (hr : row.take a = us.take a) (hul : us.length = m) (ha : a ≤ m) (hk : news.length = k) (hroom : m + k ≤ row.length) :
    (putL (putL row a news) (a + k) (us.drop a)).take (m + k) = us.take a ++ news ++ us.drop a := by
  have hdl : (us.drop a).length = m - a := by rw [List.length_drop, hul]
  have h2l : (putL row a news).length = row.length := putL_length _ _ _
  have h1 : putL row a news = row.take a ++ news ++ row.drop (a + news.length) := putL_take_all _ _ _ (by omega)
  rw [putL_take_all (us.drop a) _ _ (by rw [h2l, hdl]; omega)]
  have e1 : (putL row a news).take (a + k) = us.take a ++ news := by
    rw [h1, hr]
    have : (us.take a ++ news).length = a + k := by rw [List.length_append, List.length_take, hk]; omega
    (rw [← this, List.take_left']) <;> rfl
  rw [e1]
  have hx : (us.take a ++ news ++ us.drop a).length = m + k := by
    simp only [List.length_append, List.length_take, hdl, hk, hul]
    omega
  (rw [← hx, List.take_left']) <;> rfl
theorem grown_set {w w1 : World} {g : Nat} {row : Option Nat} (h : w.grownBy w1 row) (hg : w.heap.size ≤ g ∨ row = some g) (o : Nat) (vs : List Value) : w.grownBy (w1.setCells g o vs) row := by
  obtain ⟨i1, i2, i3, i4⟩ := same_setCells (g := g) vs o w1
  refine ⟨i1.trans h.os, i2.trans h.tape, i3.trans h.output, by rw [i4]; exact h.size, fun k hk hne => ?_⟩
  rw [far_setCells (by
    rintro rfl
    rcases hg with hg | hg
    · omega
    · exact hne hg.symm) vs o w1]
  exact h.block k hk hne
theorem flat_take {sz : Nat} : ∀ (L : List AV) (i : Nat), (∀ x ∈ L, x.cells.length = sz) → (L.take i).flatMap AV.cells = (L.flatMap AV.cells).take (i * sz) ∧ (L.drop i).flatMap AV.cells = (L.flatMap AV.cells).drop (i * sz)
  | [], i, _ => by simp
  | x :: L, 0, _ => by simp
  | x :: L, i + 1, h => by
    obtain ⟨h1, h2⟩ := flat_take L i fun y hy => h y (by simp [hy])
    have hx := h x (by simp)
    have hle : x.cells.length ≤ sz + i * sz := by rw [hx]; exact Nat.le_add_right _ _
    have he : sz + i * sz - x.cells.length = i * sz := by rw [hx]; exact Nat.add_sub_cancel_left _ _
    rw [List.take_succ_cons, List.drop_succ_cons, List.flatMap_cons, List.flatMap_cons, h1, h2, Nat.succ_mul, Nat.add_comm (i * sz) sz]
    constructor
    · rw [List.take_append, List.take_of_length_le hle, he]
    · rw [List.drop_append, List.drop_of_length_le hle, List.nil_append, he]
theorem rel_ins {α β : Type} {R : α → β → Prop} {F X : List α} {us news : List β} {k : Nat} (hl : F.length = us.length) (hx : X.length = news.length) (h1 : ∀ (j : Nat) (x : α) (y : β), F[j]? = some x → us[j]? = some y → R x y) (h2 : ∀ (j : Nat) (x : α) (y : β), X[j]? = some x → news[j]? = some y → R x y) :
    ∀ (j : Nat) (x : α) (y : β), (F.take k ++ X ++ F.drop k)[j]? = some x → (us.take k ++ news ++ us.drop k)[j]? = some y → R x y := fun j x y a b => by
  have e1 : (F.take k).length = (us.take k).length := by rw [List.length_take, List.length_take, hl]
  have e2 : (F.take k ++ X).length = (us.take k ++ news).length := by rw [List.length_append, List.length_append, e1, hx]
  rw [List.getElem?_append, e2] at a
  rw [List.getElem?_append] at b
  split at a
  · rename_i hj
    rw [if_pos hj] at b
    rw [List.getElem?_append, e1] at a
    rw [List.getElem?_append] at b
    split at a
    · rename_i hj2
      rw [if_pos hj2] at b
      rw [List.getElem?_take] at a b
      split at a
      · rename_i hj3; rw [if_pos hj3] at b; exact h1 j x y a b
      · cases a
    · rename_i hj2
      rw [if_neg hj2] at b
      exact h2 _ x y a b
  · rename_i hj
    rw [if_neg hj] at b
    rw [List.getElem?_drop] at a b
    exact h1 _ x y a b
/-- 'clear' at elements of some cells each. -/
theorem run_clear_k {P : Program} (w : World) (t e ty : TypeId) (z : Value) (ht : P.underlying t = some (.slice e)) (hv : ∀ w, (zeroValue e).run P w = .ok z w) (b o n c : Nat) (cs : List Value) (hz : (Builtin.zeroCells z.cells n).toList = cs) (h1 : ∀ v ∈ cs, v.oneCell' = true) (hn : 0 < n)
    (hc : ∀ j, j < cs.length → (w.cell? ⟨b, o + j, none⟩).isSome = true) (hf : ∀ j, j < cs.length → w.frozen? ⟨b, o + j, none⟩ = false) :
    (Builtin.clear_ #[t] ty #[.slice (some ⟨b, o, none⟩) n c]).run P w = .ok (.tuple #[]) (w.setCells b o cs) := by
  have hst := run_storeCells_cells (P := P) b o cs 0 w (by simpa using hc) (by simpa using hf) h1
  simp only [Nat.add_zero] at hst
  obtain ⟨m, rfl⟩ : ∃ m, n = m + 1 := ⟨n - 1, by omega⟩
  simp [Builtin.clear_, run_underlying ht, hv, hz, hst]
/-- What stands ahead of the cleared end. -/
theorem del_cells {α : Type} (cl us zs : List α) (a k m : Nat) (hu : cl.take m = us) (hm : m ≤ cl.length) (ha : a + k ≤ m) (hk : zs.length = k) :
    (putL (putL cl a (us.drop (a + k))) (m - k) zs).take (m - k) = us.take a ++ us.drop (a + k) := by
  have hul : us.length = m := by rw [← hu, List.length_take]; omega
  have hdl : (us.drop (a + k)).length = m - (a + k) := by rw [List.length_drop, hul]
  have h1 : putL cl a (us.drop (a + k)) = cl.take a ++ us.drop (a + k) ++ cl.drop (a + (us.drop (a + k)).length) := putL_take_all _ _ _ (by rw [hdl]; omega)
  have h2l : (putL cl a (us.drop (a + k))).length = cl.length := putL_length _ _ _
  rw [putL_take_all zs _ _ (by rw [h2l]; omega), h1]
  have e1 : cl.take a = us.take a := by rw [← hu, List.take_take, Nat.min_eq_left (by omega)]
  have hx : (us.take a ++ us.drop (a + k)).length = m - k := by rw [List.length_append, List.length_take, hdl, hul]; omega
  rw [e1, List.append_assoc, List.append_assoc, List.take_append_of_le_length (by rw [List.length_take, List.length_append, List.length_append, hdl, List.length_drop]; simp only [List.length_take, hul]; omega)]
  rw [List.take_take, Nat.min_self, ← List.append_assoc, ← hx, List.take_left']
  rfl
theorem rel_del {α β : Type} {R : α → β → Prop} {F : List α} {us : List β} {a b : Nat} (hl : F.length = us.length) (h1 : ∀ (j : Nat) (x : α) (y : β), F[j]? = some x → us[j]? = some y → R x y) :
    ∀ (j : Nat) (x : α) (y : β), (F.take a ++ F.drop b)[j]? = some x → (us.take a ++ us.drop b)[j]? = some y → R x y := fun j x y p q => by
  have e1 : (F.take a).length = (us.take a).length := by rw [List.length_take, List.length_take, hl]
  rw [List.getElem?_append, e1] at p
  rw [List.getElem?_append] at q
  split at p
  · rename_i hj
    rw [if_pos hj] at q
    rw [List.getElem?_take] at p q
    split at p
    · rename_i hj3; rw [if_pos hj3] at q; exact h1 j x y p q
    · cases p
  · rename_i hj
    rw [if_neg hj] at q
    rw [List.getElem?_drop] at p q
    exact h1 _ x y p q
end Go.Proofs.YtamihjgfncjdoaaDoor
