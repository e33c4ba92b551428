/- The steps of the abstract machine in memory: a value laid, a box made, a block made that stays, a cell stored; nothing of the program stands here; conditions: none. -/
import Derived.Test.YtbacidnhjmdnlaaDoorAbsC
set_option linter.unusedVariables false
set_option linter.unusedSimpArgs false
namespace Go.Proofs.YtbacidnhjmdnlaaDoor
open Go Go.RowKit
section
variable {X : Ctx} {n : Nat} {M : Nat → Option (Array Value)} {ρ : Nat → Nat → Option Value} {σ : AS} {a : Act} {w : World}
theorem Rel.lt (h : Rel X n M ρ σ a w) {g : Nat} {arr : Array Value} (hg : M g = some arr) : g < w.heap.size := by
  obtain ⟨t, fr, h1⟩ := h.live g arr hg
  exact (Array.getElem?_eq_some_iff.1 h1).1
theorem Rel.put (h : Rel X n M ρ σ a w) {d : Option Nat} {y : AV} {u : Value} (hy : Rep M ρ y u) (hd : ∀ i, d = some i → i < n) : Rel X n M ρ (σ.put d y) (a.put d u) w := by
  cases d with
  | none => exact h
  | some i =>
    have hi := hd i rfl
    refine ⟨h.live, by simp [Act.put, h.sz], fun j => ?_, h.box, h.buf, h.sep, h.fresh, h.glob, h.base, h.root, h.os, h.tape, h.output, h.size, h.frame, h.df⟩
    show Rep M ρ (bif Nat.beq j i then y else σ.T j) ((a.tmps.setIfInBounds i u).getD j undef)
    by_cases he : j = i
    · subst he
      rw [Nat.beq_refl]
      have : (a.tmps.setIfInBounds j u).getD j undef = u := by simp [h.sz, hi]
      rw [this]
      exact hy
    · rw [beq_ne he]
      have : (a.tmps.setIfInBounds i u).getD j undef = a.tmps.getD j undef := by simp [Array.getElem?_setIfInBounds_ne (Ne.symm he)]
      rw [this]
      exact h.tm j
def updρ (ρ : Nat → Nat → Option Value) (s k : Nat) (u : Value) : Nat → Nat → Option Value := fun s' k' => if s' = s ∧ k' = k then some u else ρ s' k'
def updM (M : Nat → Option (Array Value)) (g : Nat) (arr : Array Value) : Nat → Option (Array Value) := fun g' => if g' = g then some arr else M g'
theorem updρ_mono {s k : Nat} {u : Value} (hn : ρ s k = none) : ∀ s' k' y, ρ s' k' = some y → updρ ρ s k u s' k' = some y := by
  intro s' k' y h
  unfold updρ
  rw [if_neg]
  · exact h
  · rintro ⟨rfl, rfl⟩
    rw [hn] at h; cases h
theorem updM_mono {g : Nat} {arr : Array Value} (hn : M g = none) : ∀ g' y, M g' = some y → updM M g arr g' = some y := by
  intro g' y h
  unfold updM
  rw [if_neg]
  · exact h
  · rintro rfl
    rw [hn] at h; cases h
theorem BoxAt.mono {M' : Nat → Option (Array Value)} {ρ' : Nat → Nat → Option Value} {w' : World} {s k : Nat} {cs : List AV} (h : BoxAt X M ρ w s k cs) (hM : ∀ g a, M g = some a → M' g = some a) (hr : ∀ s k y, ρ s k = some y → ρ' s k = some y)
    (hw : ∀ g, ρ s k = some (.pointer (some ⟨g, 0, none⟩)) → w'.heap[g]? = w.heap[g]?) (hN : ∀ g, ρ s k = some (.pointer (some ⟨g, 0, none⟩)) → M g = none → M' g = none) : BoxAt X M' ρ' w' s k cs := by
  obtain ⟨g, t, us, h1, h2, h3, h4, h5, h6⟩ := h
  exact ⟨g, t, us, hr _ _ _ h1, (hw g h1).trans h2, hN g h1 h3, h4, h5, fun j x u a b => (h6 j x u a b).mono' hM hr⟩
theorem own_move {w w' : World} {base : Nat} {e : TypeId} {size m : Nat} {u : Value} {xs : List Value} (h : w.ownsRow base e size u m xs) (hb : ∀ g, vblk u = some g → w'.heap[g]? = w.heap[g]?) : w'.ownsRow base e size u m xs := by
  refine ⟨h.1, ?_⟩
  rcases h.2 with h2 | ⟨g, cap, cur, hv, hg, hh, rest⟩
  · exact .inl h2
  · exact .inr ⟨g, cap, cur, hv, hg, (hb g (by rw [hv]; rfl)).trans hh, rest⟩
theorem BufAt.mono {M' : Nat → Option (Array Value)} {ρ' : Nat → Nat → Option Value} {w' : World} {s k : Nat} {e sz : Nat} {L : List AV} (h : BufAt X M ρ w s k e sz L) (hM : ∀ g a, M g = some a → M' g = some a) (hr : ∀ s k y, ρ s k = some y → ρ' s k = some y)
    (hw : ∀ u g, ρ s k = some u → vblk u = some g → w'.heap[g]? = w.heap[g]?) (hN : ∀ u g, ρ s k = some u → vblk u = some g → M g = none → M' g = none) : BufAt X M' ρ' w' s k e sz L := by
  obtain ⟨u, us, h1, h2, h3, h4, h5, h6⟩ := h
  exact ⟨u, us, hr _ _ _ h1, own_move h2 fun g hg => hw u g h1 hg, fun g hg => hN u g h1 hg (h3 g hg), h4, h5, fun j x y a b => ⟨(h6 j x y a b).1.mono' hM (fun _ _ _ e => e), (h6 j x y a b).2⟩⟩
/-- The block of what lives at a site lies in the heap. -/
theorem Rel.blk_lt (h : Rel X n M ρ σ a w) {s g : Nat} (hb : blkOf ρ s (σ.H s) = some g) : g < w.heap.size ∧ M g = none := by
  unfold blkOf at hb
  cases hc : σ.H s with
  | mk k c =>
    rw [hc] at hb
    cases c with
    | dead => simp at hb
    | box cs =>
      obtain ⟨g', t, us, h1, h2, h3, _⟩ := h.box s k cs hc
      simp [h1, vblk] at hb
      subst hb
      exact ⟨(Array.getElem?_eq_some_iff.1 h2).1, h3⟩
    | buf e sz L =>
      obtain ⟨u, us, h1, h2, h3, _⟩ := h.buf s k e sz L hc
      simp [h1] at hb
      refine ⟨?_, h3 g hb⟩
      rcases h2.2 with ⟨rfl, _⟩ | ⟨g', cap, cur, rfl, _, hh, _⟩
      · simp [vblk] at hb
      · simp [vblk] at hb
        subst hb
        exact (Array.getElem?_eq_some_iff.1 hh).1
theorem fresh_next (h : Rel X n M ρ σ a w) (s : Nat) : ρ s ((σ.H s).k + 1) = none := h.fresh s _ (by omega)
/-- A new box. -/
theorem Rel.newBox (h : Rel X n M ρ σ a w) (s : Nat) (t : TypeId) {cs : List AV} {us : List Value} (hl : us.length = cs.length) (hc : ∀ (j : Nat) (x : AV) (u : Value), cs[j]? = some x → us[j]? = some u → Rep M ρ x u) :
    Rel X n M (updρ ρ s ((σ.H s).k + 1) (.pointer (some ⟨w.heap.size, 0, none⟩))) (σ.hup s ⟨(σ.H s).k + 1, .box cs⟩) a (w.alloc (.cells ⟨us⟩ t)) := by
  have hm := updρ_mono (u := .pointer (some ⟨w.heap.size, 0, none⟩)) (fresh_next h s)
  have hold : ∀ g, g < w.heap.size → (w.alloc (.cells ⟨us⟩ t)).heap[g]? = w.heap[g]? := fun g hg => Below.heap_alloc w _ g hg
  have hMn : M w.heap.size = none := by
    cases hx : M w.heap.size with
    | none => rfl
    | some arr => exact absurd (h.lt hx) (Nat.lt_irrefl _)
  have hother : ∀ s', s' ≠ s → (σ.hup s ⟨(σ.H s).k + 1, .box cs⟩).H s' = σ.H s' := fun s' hs => by simp [AS.hup, beq_ne hs]
  have hsame : (σ.hup s ⟨(σ.H s).k + 1, .box cs⟩).H s = ⟨(σ.H s).k + 1, .box cs⟩ := by simp [AS.hup, Nat.beq_refl]
  have hblk : ∀ s', s' ≠ s → blkOf (updρ ρ s ((σ.H s).k + 1) (.pointer (some ⟨w.heap.size, 0, none⟩))) s' (σ.H s') = blkOf ρ s' (σ.H s') := fun s' hs => by
    unfold blkOf updρ
    cases (σ.H s').c <;> simp [hs]
  have hblks : blkOf (updρ ρ s ((σ.H s).k + 1) (.pointer (some ⟨w.heap.size, 0, none⟩))) s ⟨(σ.H s).k + 1, .box cs⟩ = some w.heap.size := by
    simp [blkOf, updρ, vblk]
  refine ⟨fun g arr hg => ?_, h.sz, fun i => (h.tm i).mono' (fun _ _ e => e) hm, fun s' k cs' e => ?_, fun s' k e sz L he => ?_, fun s1 s2 g e1 e2 => ?_, fun s' k hk => ?_, h.glob, h.base, fun i g e => hm _ _ _ (h.root i g e), h.os, h.tape, h.output, ?_, fun g hg hn => ?_, h.df⟩
  · obtain ⟨t', fr, h1⟩ := h.live g arr hg
    exact ⟨t', fr, (hold g (h.lt hg)).trans h1⟩
  · by_cases hs : s' = s
    · subst hs
      rw [hsame] at e
      injection e with e1 e2
      injection e2 with e2
      subst e1; subst e2
      exact ⟨w.heap.size, t, us, by simp [updρ], heap_alloc_new w _, hMn, .inl h.size, hl, fun j x u a b => (hc j x u a b).mono' (fun _ _ e => e) hm⟩
    · rw [hother s' hs] at e
      refine (h.box s' k cs' e).mono (fun _ _ e => e) hm (fun g hg => hold g ?_) (fun _ _ e => e)
      exact (h.blk_lt (s := s') (by rw [e]; simp [blkOf, hg, vblk])).1
  · by_cases hs : s' = s
    · subst hs
      rw [hsame] at he
      injection he with _ he
      cases he
    · rw [hother s' hs] at he
      refine (h.buf s' k e sz L he).mono (fun _ _ e => e) hm (fun u g hu hg => hold g ?_) (fun _ _ _ _ e => e)
      exact (h.blk_lt (s := s') (by rw [he]; simp [blkOf, hu, hg])).1
  · by_cases h1 : s1 = s
    · by_cases h2 : s2 = s
      · rw [h1, h2]
      · exfalso
        subst h1
        rw [hsame, hblks] at e1
        rw [hother s2 h2, hblk s2 h2] at e2
        injection e1 with e1
        have := (h.blk_lt e2).1
        omega
    · by_cases h2 : s2 = s
      · exfalso
        subst h2
        rw [hsame, hblks] at e2
        rw [hother s1 h1, hblk s1 h1] at e1
        injection e2 with e2
        have := (h.blk_lt e1).1
        omega
      · rw [hother s1 h1, hblk s1 h1] at e1
        rw [hother s2 h2, hblk s2 h2] at e2
        exact h.sep s1 s2 g e1 e2
  · by_cases hs : s' = s
    · subst hs
      rw [hsame] at hk
      simp only at hk
      unfold updρ
      rw [if_neg (by omega)]
      exact h.fresh s' k (by omega)
    · rw [hother s' hs] at hk
      unfold updρ
      rw [if_neg (fun e => hs e.1)]
      exact h.fresh s' k hk
  · have := h.size
    simp
    omega
  · rw [hold g (Nat.lt_of_lt_of_le hg h.size)]
    exact h.frame g hg hn
/-- A new block that stays as it is. -/
theorem Rel.newM (h : Rel X n M ρ σ a w) (t : TypeId) (us : Array Value) : M w.heap.size = none ∧ Rel X n (updM M w.heap.size us) ρ σ a (w.alloc (.cells us t)) := by
  have hold : ∀ g, g < w.heap.size → (w.alloc (.cells us t)).heap[g]? = w.heap[g]? := fun g hg => Below.heap_alloc w _ g hg
  have hMn : M w.heap.size = none := by
    cases hx : M w.heap.size with
    | none => rfl
    | some arr => exact absurd (h.lt hx) (Nat.lt_irrefl _)
  have hm := updM_mono (arr := us) hMn
  refine ⟨hMn, ⟨fun g arr hg => ?_, h.sz, fun i => (h.tm i).mono' hm (fun _ _ _ e => e), fun s' k cs' e => ?_, fun s' k e sz L he => ?_, h.sep, h.fresh, fun g vs e => hm _ _ (h.glob g vs e), fun g hg => by
    unfold updM
    rw [if_neg (by have := h.size; omega)]
    exact h.base g hg, h.root, h.os, h.tape, h.output, ?_, fun g hg hn => ?_, h.df⟩⟩
  · unfold updM at hg
    split at hg
    · rename_i he
      subst he
      injection hg with hg
      subst hg
      exact ⟨t, (0, 0), heap_alloc_new w _⟩
    · obtain ⟨t', fr, h1⟩ := h.live g arr hg
      exact ⟨t', fr, (hold g (h.lt hg)).trans h1⟩
  · have hlt := fun g (hg : ρ s' k = some (.pointer (some ⟨g, 0, none⟩))) => (h.blk_lt (s := s') (g := g) (by rw [e]; simp [blkOf, hg, vblk])).1
    refine (h.box s' k cs' e).mono hm (fun _ _ _ e => e) (fun g hg => hold g (hlt g hg)) (fun g hg hn => ?_)
    unfold updM
    rw [if_neg (by have := hlt g hg; omega)]
    exact hn
  · have hlt := fun u g (hu : ρ s' k = some u) (hg : vblk u = some g) => (h.blk_lt (s := s') (g := g) (by rw [he]; simp [blkOf, hu, hg])).1
    refine (h.buf s' k e sz L he).mono hm (fun _ _ _ e => e) (fun u g hu hg => hold g (hlt u g hu hg)) (fun u g hu hg hn => ?_)
    unfold updM
    rw [if_neg (by have := hlt u g hu hg; omega)]
    exact hn
  · have := h.size
    simp
    omega
  · rw [hold g (Nat.lt_of_lt_of_le hg h.size)]
    exact h.frame g hg hn
end
end Go.Proofs.YtbacidnhjmdnlaaDoor
