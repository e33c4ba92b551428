/- Functions of the abstract machine: a call's law out of a walk of the body; a call in a walk; conditions: none. -/
import Derived.Test.YtbacidnhjmdnlaaDoorAbsI
set_option linter.unusedVariables false
set_option linter.unusedSimpArgs false
namespace Go.Proofs.YtbacidnhjmdnlaaDoor
open Go Go.RowKit
section
variable {P : Program} {TB : Tabs} {G : Nat → Option (List Value)} {f : FuncId} {args : List AV} {refs : List (List AV)} {r : AV} {refs' : List (List AV)}
theorem acalls_of (hTB : TabsOk P TB) {fn : Func} {c : Code} (he : Enter P f) (hf : P.funcs[f]? = some fn) (hb : fn.body = some c) (n : Nat) (hn : fn.ntmps = n) (hle : args.length ≤ n)
    (h : ∀ X : Ctx, X.G = G → AWp P X n c (RetQ TB fn refs.length r refs') (start0 args refs)) : ACalls P G f args refs r refs' := by
  refine ⟨he, fun M w gs vs hl hG hnd hr hv hrep => ?_⟩
  refine calls_of_wp hf hb ?_
  rw [hn]
  have hR := start_rel (n := n) hl hG hnd hr hv hrep hle
  refine wp_mono ((h ⟨w, gs, G, M⟩ rfl).run M (refρ gs) _ w hR) ?_
  rintro e a' w' ⟨M', ρ', σ', hR', hQ⟩
  rw [← hr.len] at hQ
  exact retQ_post hTB hnd hl hR' hQ
end
def frameπ2 (ss : List (Nat × Nat)) (d k : Nat) : Nat → Option (Nat × Nat) := fun i => if i < ss.length then ss[i]? else if i = ss.length then some (d, k) else none
def hwOf (ss : List (Nat × Nat)) (cs : List (List AV)) : List (Nat × HC) := match ss, cs with
  | (s, k) :: ss, c :: cs => (s, ⟨k, .box c⟩) :: hwOf ss cs
  | _, _ => []
/-- The boxes that a call is given, and what they hold, as the frame knows them and as the call does. -/
def RefsIn (σ : AS) (π : Nat → Option (Nat × Nat)) : List (Nat × Nat) → List (List AV) → Prop
  | [], [] => True
  | (s, k) :: ss, c :: cs => (∃ c', σ.H s = ⟨k, .box c'⟩ ∧ RenL noB π c c') ∧ RefsIn σ π ss cs
  | _, _ => False
def RefsBack (π : Nat → Option (Nat × Nat)) : List (List AV) → List (List AV) → Prop
  | [], [] => True
  | c :: cs, c' :: cs' => RenBL π c c' ∧ RefsBack π cs cs'
  | _, _ => False
section
variable {P : Program} {X : Ctx} {n : Nat} {M : Nat → Option (Array Value)} {ρ : Nat → Nat → Option Value} {σ : AS} {a : Act} {w : World}
theorem refsIn_at {π : Nat → Option (Nat × Nat)} : ∀ {ss : List (Nat × Nat)} {cs : List (List AV)}, RefsIn σ π ss cs → ss.length = cs.length ∧ ∀ (i : Nat) (p : Nat × Nat) (c : List AV), ss[i]? = some p → cs[i]? = some c → ∃ c', σ.H p.1 = ⟨p.2, .box c'⟩ ∧ RenL noB π c c'
  | [], [], _ => ⟨rfl, by simp⟩
  | (s, k) :: ss, c :: cs, h => by
    obtain ⟨h1, h2⟩ := refsIn_at h.2
    refine ⟨by simp [h1], fun i p c0 hp hc => ?_⟩
    cases i with
    | zero => simp at hp hc; subst hp; subst hc; exact h.1
    | succ i => exact h2 i p c0 (by simpa using hp) (by simpa using hc)
  | [], c :: cs, h => h.elim
  | p :: ss, [], h => h.elim
theorem refsBack_at {π : Nat → Option (Nat × Nat)} : ∀ {cs cs' : List (List AV)}, RefsBack π cs cs' → cs.length = cs'.length ∧ ∀ (i : Nat) (c c' : List AV), cs[i]? = some c → cs'[i]? = some c' → RenBL π c c'
  | [], [], _ => ⟨rfl, by simp⟩
  | c :: cs, c' :: cs', h => by
    obtain ⟨h1, h2⟩ := refsBack_at h.2
    refine ⟨by simp [h1], fun i x y hx hy => ?_⟩
    cases i with
    | zero => simp at hx hy; subst hx; subst hy; exact h.1
    | succ i => exact h2 i x y (by simpa using hx) (by simpa using hy)
  | [], c :: cs, h => h.elim
  | p :: ss, [], h => h.elim
theorem hwOf_at : ∀ {ss : List (Nat × Nat)} {cs : List (List AV)} {σ : AS}, ss.length = cs.length → (ss.map (·.1)).Nodup → ∀ (i : Nat) (p : Nat × Nat) (c : List AV), ss[i]? = some p → cs[i]? = some c → (hups (hwOf ss cs) σ).H p.1 = ⟨p.2, .box c⟩
  | [], [], _, _, _, i, p, c, h, _ => by simp at h
  | (s, k) :: ss, c0 :: cs, σ, hl, hn, i, p, c, hp, hc => by
    rw [hwOf, hups]
    simp only [List.map_cons, List.nodup_cons] at hn
    cases i with
    | zero =>
      simp at hp hc
      subst hp; subst hc
      have : ∀ (ss : List (Nat × Nat)) (cs : List (List AV)) (τ : AS), s ∉ ss.map (·.1) → (hups (hwOf ss cs) τ).H s = τ.H s := by
        intro ss
        induction ss with
        | nil => intro cs τ _; cases cs <;> rfl
        | cons q ss ih =>
          intro cs τ hs
          obtain ⟨s', k'⟩ := q
          cases cs with
          | nil => rfl
          | cons c' cs =>
            rw [hwOf, hups, ih cs _ (by simp at hs ⊢; exact hs.2)]
            simp only [AS.hup]
            rw [beq_ne (by simp at hs; exact hs.1)]; rfl
      rw [this ss cs _ hn.1]
      simp [AS.hup, Nat.beq_refl]
    | succ i => exact hwOf_at (by simpa using hl) hn.2 i p c (by simpa using hp) (by simpa using hc)
  | [], _ :: _, _, h, _, _, _, _, _, _ => by simp at h
  | _ :: _, [], _, h, _, _, _, _, _, _ => by simp at h
theorem hwOf_far : ∀ (ss : List (Nat × Nat)) (cs : List (List AV)) (τ : AS) (s : Nat), s ∉ ss.map (·.1) → (hups (hwOf ss cs) τ).H s = τ.H s
  | [], cs, τ, s, _ => by cases cs <;> rfl
  | (s', k') :: ss, [], τ, s, _ => rfl
  | (s', k') :: ss, c' :: cs, τ, s, hs => by
    rw [hwOf, hups, hwOf_far ss cs _ s (by simp at hs ⊢; exact hs.2)]
    simp only [AS.hup]
    rw [beq_ne (by simp at hs; exact hs.1)]; rfl
/-- Behind a call that gives no new box. -/
theorem Rel.call (h : Rel X n M ρ σ a w) {ss : List (Nat × Nat)} {gs : List Nat} {cs' : List (List AV)} (hnd : (ss.map (·.1)).Nodup) (hlen : ss.length = cs'.length) (hl : gs.length = ss.length)
    (hgs : ∀ (i : Nat) (p : Nat × Nat) (g : Nat), ss[i]? = some p → gs[i]? = some g → ρ p.1 p.2 = some (.pointer (some ⟨g, 0, none⟩)) ∧ ∃ c, σ.H p.1 = ⟨p.2, .box c⟩)
    {M' : Nat → Option (Array Value)} {w' : World} (hM : ∀ g a, M g = some a → M' g = some a) (hl' : LiveM M' w') (h1 : w'.os = w.os) (h2 : w'.tape = w.tape) (h3 : w'.output = w.output) (h4 : w.heap.size ≤ w'.heap.size)
    (h5 : ∀ g, g < w.heap.size → g ∉ gs → w'.heap[g]? = w.heap[g]?) (h6 : ∀ g, g < w.heap.size → M g = none → M' g = none)
    (h7 : ∀ (i g : Nat) (c : List AV), gs[i]? = some g → cs'[i]? = some c → ∃ t us, w'.heap[g]? = some (.cells ⟨us⟩ t (0, 0)) ∧ us.length = c.length ∧ ∀ (j : Nat) (x : AV) (u : Value), c[j]? = some x → us[j]? = some u → Rep M' ρ x u) :
    Rel X n M' ρ (hups (hwOf ss cs') σ) a w' := by
  have hT : (hups (hwOf ss cs') σ).T = σ.T := hups_T _ _
  have hin : ∀ s, s ∈ ss.map (·.1) → ∃ (i : Nat) (p : Nat × Nat) (g : Nat) (c : List AV), ss[i]? = some p ∧ p.1 = s ∧ gs[i]? = some g ∧ cs'[i]? = some c ∧ ρ p.1 p.2 = some (.pointer (some ⟨g, 0, none⟩)) ∧ (hups (hwOf ss cs') σ).H s = ⟨p.2, .box c⟩ ∧ (∃ c0, σ.H p.1 = ⟨p.2, .box c0⟩) := fun s hs => by
    obtain ⟨p, hp, rfl⟩ := List.mem_map.1 hs
    obtain ⟨i, hi⟩ := List.getElem?_of_mem hp
    obtain ⟨g, hg⟩ := some_at (L := gs) (k := i) (by rw [hl]; exact lt_at hi)
    obtain ⟨c, hc⟩ := some_at (L := cs') (k := i) (by rw [← hlen]; exact lt_at hi)
    obtain ⟨e1, e2⟩ := hgs i p g hi hg
    exact ⟨i, p, g, c, hi, rfl, hg, hc, e1, hwOf_at hlen hnd i p c hi hc, e2⟩
  have hk : ∀ s, ((hups (hwOf ss cs') σ).H s).k = (σ.H s).k := fun s => by
    by_cases hs : s ∈ ss.map (·.1)
    · obtain ⟨i, p, g, c, e1, e2, e3, e4, e5, e6, c0, e7⟩ := hin s hs
      rw [e6]; subst e2; rw [e7]
    · rw [hwOf_far ss cs' σ s hs]
  have hb : ∀ s, blkOf ρ s ((hups (hwOf ss cs') σ).H s) = blkOf ρ s (σ.H s) := fun s => by
    by_cases hs : s ∈ ss.map (·.1)
    · obtain ⟨i, p, g, c, e1, e2, e3, e4, e5, e6, c0, e7⟩ := hin s hs
      rw [e6]; subst e2; rw [e7]; rfl
    · rw [hwOf_far ss cs' σ s hs]
  have hfar : ∀ s g, s ∉ ss.map (·.1) → blkOf ρ s (σ.H s) = some g → w'.heap[g]? = w.heap[g]? := fun s g hs hg => by
    refine h5 g (h.blk_lt hg).1 fun hin' => ?_
    obtain ⟨i, hi⟩ := List.getElem?_of_mem hin'
    obtain ⟨p, hp⟩ := some_at (L := ss) (k := i) (by rw [← hl]; exact lt_at hi)
    obtain ⟨e1, c0, e2⟩ := hgs i p g hp hi
    have := h.sep s p.1 g hg (by rw [e2]; simp [blkOf, e1, vblk])
    exact hs (this ▸ List.mem_map_of_mem (List.mem_of_getElem? hp))
  refine ⟨hl', h.sz, fun i => by rw [hT]; exact (h.tm i).mono' hM (fun _ _ _ e => e), fun s k cs e => ?_, fun s k e' sz L e => ?_, fun s s' g e e' => h.sep s s' g (by rw [← hb]; exact e) (by rw [← hb]; exact e'), fun s k e => h.fresh s k (by rw [← hk]; exact e), fun g vs e => hM _ _ (h.glob g vs e), fun g hg => ?_, h.root, h1.trans h.os, h2.trans h.tape, h3.trans h.output, Nat.le_trans h.size h4, fun g hg hn => ?_, h.df⟩
  · by_cases hs : s ∈ ss.map (·.1)
    · obtain ⟨i, p, g, c, e1, e2, e3, e4, e5, e6, c0, e7⟩ := hin s hs
      rw [e6] at e
      injection e with ea eb
      injection eb with eb
      subst ea; subst eb; subst e2
      obtain ⟨g', t, us, b1, b2, b3, b4, b5, b6⟩ := h.box _ _ _ e7
      rw [e5] at b1
      obtain rfl : g = g' := by injection b1 with b1; injection b1 with b1; injection b1 with b1; injection b1
      obtain ⟨t', us', f1, f2, f3⟩ := h7 i g c e3 e4
      exact ⟨g, t', us', e5, f1, h6 g (Array.getElem?_eq_some_iff.1 b2).1 b3, b4, f2, f3⟩
    · rw [hwOf_far ss cs' σ s hs] at e
      have hlt := fun g (hg : ρ s k = some (.pointer (some ⟨g, 0, none⟩))) => (show blkOf ρ s (σ.H s) = some g by rw [e]; simp [blkOf, hg, vblk])
      exact (h.box s k cs e).mono hM (fun _ _ _ e => e) (fun g hg => hfar s g hs (hlt g hg)) (fun g hg hn => h6 g (h.blk_lt (hlt g hg)).1 hn)
  · by_cases hs : s ∈ ss.map (·.1)
    · obtain ⟨i, p, g, c, e1, e2, e3, e4, e5, e6, c0, e7⟩ := hin s hs
      rw [e6] at e
      injection e with _ eb
      cases eb
    · rw [hwOf_far ss cs' σ s hs] at e
      have hlt := fun u g (hu : ρ s k = some u) (hg : vblk u = some g) => (show blkOf ρ s (σ.H s) = some g by rw [e]; simp [blkOf, hu, hg])
      exact (h.buf s k e' sz L e).mono hM (fun _ _ _ e => e) (fun u g hu hg => hfar s g hs (hlt u g hu hg)) (fun u g hu hg hn => h6 g (h.blk_lt (hlt u g hu hg)).1 hn)
  · rw [← h.base g hg]
    cases hm : M g with
    | some b => exact hM g b hm
    | none => exact h6 g (Nat.lt_of_lt_of_le hg h.size) hm
  · have hsz := Nat.lt_of_lt_of_le hg h.size
    rw [h5 g hsz (fun hin' => ?_)]
    · exact h.frame g hg hn
    · obtain ⟨i, hi⟩ := List.getElem?_of_mem hin'
      obtain ⟨p, hp⟩ := some_at (L := ss) (k := i) (by rw [← hl]; exact lt_at hi)
      obtain ⟨e1, c0, e2⟩ := hgs i p g hp hi
      obtain ⟨g', t, us, b1, b2, b3, b4, _⟩ := h.box _ _ _ e2
      rw [e1] at b1
      obtain rfl : g = g' := by injection b1 with b1; injection b1 with b1; injection b1 with b1; injection b1
      rcases b4 with b4 | b4
      · omega
      · exact hn b4
end
end Go.Proofs.YtbacidnhjmdnlaaDoor
