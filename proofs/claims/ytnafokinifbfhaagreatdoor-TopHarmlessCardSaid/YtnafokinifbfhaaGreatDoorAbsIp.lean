/- Calls that change what they are handed in place: boxes and buffers stay where they are; conditions: tables of types that agree with the program's. -/
import Derived.Test.YtnafokinifbfhaaGreatDoorAbsJ
set_option linter.unusedVariables false
set_option linter.unusedSimpArgs false
namespace Go.Proofs.YtnafokinifbfhaaGreatDoor
open Go Go.RowKit
def lX (G : Nat → Option (List Value)) (M : Nat → Option (Array Value)) (w : World) (vs : List Value) (r : AV) (refs' : List Cont) (e : Ending) (w' : World) : Prop :=
  ∃ u M', e = .returned u ∧ (∀ g a, M g = some a → M' g = some a) ∧ aM M' w' ∧ w'.os = w.os ∧ w'.tape = w.tape ∧ w'.output = w.output ∧ w.heap.size ≤ w'.heap.size ∧ (∀ g, g < w.heap.size → g ∉ blks vs → w'.heap[g]? = w.heap[g]?) ∧
    (∀ g, g < w.heap.size → g ∉ blks vs → M g = none → M' g = none) ∧ RefsJ (ctxJ w vs G M) M' w' vs refs' ∧ Rep M' (valρ vs) r u
/-- A call that is handed boxes and buffers and leaves them in place. -/
def qy (P : Program) (G : Nat → Option (List Value)) (f : FuncId) (args : List AV) (refs : List Cont) (r : AV) (refs' : List Cont) : Prop :=
  qK P f ∧ ∀ M w rvs (vs : List Value), aM M w → (∀ g us, G g = some us → M g = some ⟨us⟩) → RefsJ (ctxJ w rvs G M) M w rvs refs → vs.length = args.length →
    (∀ (j : Nat) (x : AV) (u : Value), args[j]? = some x → vs[j]? = some u → Rep M (valρ rvs) x u) → Calls P f ⟨vs⟩ w (lX G M w rvs r refs')
def gN (m : Nat) : List (Nat × Nat) := (List.range m).map fun i => (refB + i, 0)
theorem stdFs_at {m i : Nat} (h : i < m) : (gN m)[i]? = some (refB + i, 0) := by unfold gN; rw [List.getElem?_map, List.getElem?_range h]; rfl
theorem stdFs_len (m : Nat) : (gN m).length = m := by simp [gN]
theorem stdFs_nd (m : Nat) : ((gN m).map (·.1)).Nodup := by
  unfold gN
  rw [List.map_map]
  refine List.Pairwise.map _ (fun a b h e => h ?_) List.nodup_range
  have e : refB + a = refB + b := e
  omega
def RetP (TB : Tabs) (fn : Func) (m : Nat) (r : AV) (refs' : List Cont) (e : Exit) (σ : AS) : Prop :=
  (e = .normal ∨ e = .ret) ∧ ∃ xs, ResL TB σ fn.results.toList xs ∧ Ren noB (πs (gN m)) r (kW xs) ∧ cC σ (πs (gN m)) m 0 (gN m) refs'
theorem sH {TB : Tabs} {fn : Func} {r : AV} {ex : Exit} {σ : AS} {xs L : List AV} {k e sz : Nat} (he : ex = .normal ∨ ex = .ret) (hx : ResL TB σ fn.results.toList xs) (hr : Ren noB (πs [(refB + 0, 0)]) r (kW xs)) (hH : σ.H (refB + 0) = ⟨k, .buf e sz L⟩) (hk : k = 0) : RetP TB fn 1 r [.buf e sz L] ex σ := by
  subst hk
  exact ⟨he, xs, hx, hr, hH, trivial⟩
theorem retP2 {TB : Tabs} {fn : Func} {r : AV} {ex : Exit} {σ : AS} {xs L c : List AV} {k e sz k1 : Nat} (he : ex = .normal ∨ ex = .ret) (hx : ResL TB σ fn.results.toList xs) (hr : Ren noB (πs [(refB + 0, 0), (refB + 1, 0)]) r (kW xs)) (hH : σ.H (refB + 0) = ⟨k, .buf e sz L⟩) (hk : k = 0) (hH1 : σ.H (refB + 1) = ⟨k1, .box c⟩) (hk1 : k1 = 0) (hc : js c = true) : RetP TB fn 2 r [.buf e sz L, .box c] ex σ := by
  subst hk; subst hk1
  exact ⟨he, xs, hx, hr, hH, ⟨⟨c, hH1, jG hc⟩, fun _ => ⟨rfl, rfl⟩⟩, trivial⟩
section
variable {P : Program} {TB : Tabs} {X : Ctx} {n : Nat} {M : Nat → Option (Array Value)} {ρ : Nat → Nat → Option Value} {σ : AS} {a : Act} {w : World}
theorem retP_post {G : Nat → Option (List Value)} {w0 : World} {rvs : List Value} {M0 : Nat → Option (Array Value)} {refs : List Cont} {fn : Func} {r : AV} {refs' : List Cont} {e : Exit} (hTB : TabsOk P TB) (hlive : aM M0 w0) (hr0 : RefsJ (ctxJ w0 rvs G M0) M0 w0 rvs refs)
    (hR : Rel (ctxJ w0 rvs G M0) n M ρ σ a w) (hQ : RetP TB fn rvs.length r refs' e σ) : bodyPost P fn (lX G M0 w0 rvs r refs') e a w := by
  obtain ⟨he, xs, h1, h3, h4⟩ := hQ
  obtain ⟨u, hu, hru⟩ := tH hTB hR h1
  obtain ⟨hlen, hat⟩ := bB h4
  obtain ⟨q1, q2, q3⟩ := hR.refsJ (X' := ctxJ w0 rvs G M0) (stdFs_nd _) hlen (fun j p c hp hc => (hat j p c hp hc).imp (fun ⟨b, b', e1, e2, e3, _⟩ => ⟨b, b', e1, e2, e3⟩) id) (fun _ _ _ _ _ _ _ h => h)
  have hvs : ((gN rvs.length).map fun p => (ρ p.1 p.2).getD undef) = rvs := by
    refine List.ext_getElem? fun i => ?_
    rw [List.getElem?_map]
    by_cases hi : i < rvs.length
    · rw [stdFs_at hi]
      obtain ⟨v, hv⟩ := zB hi
      have := hR.root i v hv
      rw [hv]
      simp [this]
    · rw [List.getElem?_eq_none (by rw [stdFs_len]; omega), List.getElem?_eq_none (by omega)]; rfl
  rw [hvs] at q1 q2
  have hM0 : ∀ g a, M0 g = some a → M g = some a := fun g a h => by
    obtain ⟨t, fr, hh⟩ := hlive g a h
    rw [hR.base g (Array.getElem?_eq_some_iff.1 hh).1 (fun hin => ?_)]
    · exact h
    · obtain ⟨i, v, hi, hg⟩ := bV.1 hin
      rw [(hr0.own_ hi hg).1] at h; cases h
  have hpost : lX G M0 w0 rvs r refs' (.returned u) w :=
    ⟨u, M, rfl, hM0, hR.live, hR.os, hR.tape, hR.output, hR.size, hR.frame, fun g hg hn h0 => by rw [hR.base g hg hn]; exact h0, q1, Ren.out q2 (fun _ _ e => e) (fun _ _ _ _ _ hb _ => hb.elim) h3 hru⟩
  rcases he with rfl | rfl
  · exact ⟨hR.df, u, hu, hpost⟩
  · exact ⟨hR.df, u, hu, hpost⟩
end
section
variable {P : Program} {TB : Tabs} {G : Nat → Option (List Value)} {f : FuncId} {args : List AV} {refs : List Cont} {r : AV} {refs' : List Cont}
theorem qW (hTB : TabsOk P TB) {fn : Func} {c : Code} (he : qK P f) (hf : P.funcs[f]? = some fn) (hb : fn.body = some c) (n : Nat) (hn : fn.ntmps = n) (hle : args.length ≤ n)
    (h : ∀ X : Ctx, X.G = G → AWp P X n c (RetP TB fn refs.length r refs') (eB args refs)) : qy P G f args refs r refs' := by
  refine ⟨he, fun M w rvs vs hl hG hr hv hrep => ?_⟩
  refine calls_of_wp hf hb ?_
  rw [hn]
  have hR := nR (n := n) hl hG hr hv hrep hle
  refine wp_mono ((h (ctxJ w rvs G M) rfl).run M (valρ rvs) _ w hR) ?_
  rintro e a' w' ⟨M', ρ', σ', hR', hQ⟩
  rw [← hr.len] at hQ
  exact retP_post hTB hl hr hR' hQ
end
def cL (π : Nat → Option (Nat × Nat)) : List (Nat × Nat) → List Cont → List Cont → Prop
  | [], [], [] => True
  | _ :: ss, .box c :: cs, c0 :: cs' => (∃ c'', c0 = .box c'' ∧ bC π c c'') ∧ cL π ss cs cs'
  | _ :: ss, .buf e sz L :: cs, c0 :: cs' => c0 = .buf e sz L ∧ cL π ss cs cs'
  | _, _, _ => False
theorem cR {π : Nat → Option (Nat × Nat)} : ∀ {ss : List (Nat × Nat)} {cs cs' : List Cont}, cL π ss cs cs' → cs.length = ss.length ∧ cs'.length = ss.length ∧
    ∀ (j : Nat) (c c' : Cont), cs[j]? = some c → cs'[j]? = some c' → (∃ b b', c = .box b ∧ c' = .box b' ∧ bC π b b') ∨ (∃ e sz L, c = .buf e sz L ∧ c' = .buf e sz L)
  | [], [], [], _ => ⟨rfl, rfl, by simp⟩
  | _ :: ss, .box c :: cs, c0 :: cs', h => by
    obtain ⟨h1, h2, h5⟩ := cR h.2
    obtain ⟨c'', rfl, hb⟩ := h.1
    refine ⟨by simp [h1], by simp [h2], fun j d d' hd hd' => ?_⟩
    cases j with
    | zero => simp at hd hd'; subst hd; subst hd'; exact .inl ⟨c, c'', rfl, rfl, hb⟩
    | succ j => exact h5 j d d' (by simpa using hd) (by simpa using hd')
  | _ :: ss, .buf e sz L :: cs, c0 :: cs', h => by
    obtain ⟨h1, h2, h5⟩ := cR h.2
    obtain rfl := h.1
    refine ⟨by simp [h1], by simp [h2], fun j d d' hd hd' => ?_⟩
    cases j with
    | zero => simp at hd hd'; subst hd; subst hd'; exact .inr ⟨e, sz, L, rfl, rfl⟩
    | succ j => exact h5 j d d' (by simpa using hd) (by simpa using hd')
  | [], [], c :: cs, h => h.elim
  | [], c :: cs, _, h => by cases c <;> exact h.elim
  | p :: ss, [], _, h => h.elim
  | p :: ss, .box c :: cs, [], h => h.elim
  | p :: ss, .buf e sz L :: cs, [], h => h.elim
  | p :: ss, .dead :: cs, _, h => h.elim
  | p :: ss, .ob o :: cs, _, h => h.elim
section
variable {P : Program} {X : Ctx} {n : Nat} {M : Nat → Option (Array Value)} {ρ : Nat → Nat → Option Value} {σ : AS} {a : Act} {w : World}
/-- The frame behind a call that left in place what it was handed. -/
theorem callP_go (hR : Rel X n M ρ σ a w) {f : FuncId} {args : List AV} {refs refs' cs' : List Cont} {r y : AV} {ss : List (Nat × Nat)} {vs : List Value} (hc : qy P X.G f args refs r refs')
    (hss : (ss.map (·.1)).Nodup) (hin : qY σ (πs ss) ss refs) (hback : cL (πs ss) ss refs' cs') (hr : RenB (πs ss) r y) (hvl : vs.length = args.length)
    (hargs : ∀ ρb : Nat → Nat → Option Value, (∀ i s k, πs ss i = some (s, k) → ρb (refB + i) 0 = ρ s k) → ∀ (j : Nat) (x : AV) (u : Value), args[j]? = some x → vs[j]? = some u → Rep M ρb x u) :
    Calls P f ⟨vs⟩ w fun e w' => ∃ u M' ρ', e = .returned u ∧ Rel X n M' ρ' (hups (hwJ ss cs') σ) a w' ∧ Rep M' ρ' y u := by
  obtain ⟨hlen, hat⟩ := cY hin
  obtain ⟨hl2, hl3, hbk⟩ := cR hback
  obtain ⟨q1, q2, q3⟩ := hR.refsJ (X' := ctxJ w (ss.map fun p => (ρ p.1 p.2).getD undef) X.G M) hss hlen hat (fun j p v g hp hv hg _ => .inr (bV.2 ⟨j, v, by rw [List.getElem?_map, hp]; simp [hv], hg⟩))
  generalize hrv : (ss.map fun p => (ρ p.1 p.2).getD undef) = rvs at q1 q2
  have hrl : rvs.length = ss.length := by rw [← hrv]; simp
  have hrat : ∀ (j : Nat) (p : Nat × Nat) (v : Value), ss[j]? = some p → rvs[j]? = some v → ρ p.1 p.2 = some v := fun j p v hp hv => by
    obtain ⟨v', e1, _⟩ := q3 j p hp
    rw [← hrv, List.getElem?_map, hp] at hv
    simp [e1] at hv
    rw [e1, hv]
  have hown : ∀ g, g ∈ blks rvs → ∃ (j : Nat) (p : Nat × Nat), ss[j]? = some p ∧ zI ρ p.1 (σ.H p.1) = some g ∧ (X.w0.heap.size ≤ g ∨ g ∈ X.gs) := fun g hg => by
    obtain ⟨j, v, hv, hg⟩ := bV.1 hg
    obtain ⟨p, hp⟩ := zB (L := ss) (k := j) (by rw [← hrl]; exact zM hv)
    obtain ⟨v', e1, e2⟩ := q3 j p hp
    rw [hrat j p v hp hv] at e1
    injection e1 with e1
    subst e1
    exact ⟨j, p, hp, (e2 g hg).1, (e2 g hg).2⟩
  refine (hc.2 M w rvs vs hR.live hR.glob q1 hvl (hargs _ q2)).mono ?_
  rintro e w' ⟨u, M', rfl, p1, p2, p3, p4, p5, p6, p7, p8, p9, p11⟩
  have hsite : ∀ s, s ∈ ss.map (·.1) → ∃ (j : Nat) (p : Nat × Nat) (c c' : Cont) (v : Value), ss[j]? = some p ∧ refs'[j]? = some c ∧ cs'[j]? = some c' ∧ rvs[j]? = some v ∧ p.1 = s := fun s hs => by
    obtain ⟨p, hp, rfl⟩ := List.mem_map.1 hs
    obtain ⟨j, hj⟩ := List.getElem?_of_mem hp
    have hlt := zM hj
    obtain ⟨c, hc⟩ := zB (L := refs') (k := j) (by omega)
    obtain ⟨c', hc'⟩ := zB (L := cs') (k := j) (by omega)
    obtain ⟨v, hv⟩ := zB (L := rvs) (k := j) (by omega)
    exact ⟨j, p, c, c', v, hj, hc, hc', hv, rfl⟩
  have hT : (hups (hwJ ss cs') σ).T = σ.T := qt _ _
  have hk : ∀ (j : Nat) (p : Nat × Nat), ss[j]? = some p → (σ.H p.1).k = p.2 := fun j p hp => by
    obtain ⟨c0, hc0⟩ := zB (L := refs) (k := j) (by have := zM hp; omega)
    rcases hat j p c0 hp hc0 with ⟨b, b', _, h1, _⟩ | ⟨e, sz, L, _, h1⟩ <;> rw [h1]
  have hfar : ∀ s, s ∉ ss.map (·.1) → (hups (hwJ ss cs') σ).H s = σ.H s := fun s hs => mZ ss cs' σ s hs
  have hnot : ∀ s g, s ∉ ss.map (·.1) → zI ρ s (σ.H s) = some g → g ∉ blks rvs := fun s g hs hg hin' => by
    obtain ⟨j, p, hp, hb, _⟩ := hown g hin'
    exact hs (hR.sep s p.1 g hg hb ▸ List.mem_map_of_mem (f := (·.1)) (List.mem_of_getElem? hp))
  have hkeep : ∀ s g, s ∉ ss.map (·.1) → zI ρ s (σ.H s) = some g → w'.heap[g]? = w.heap[g]? := fun s g hs hg => p7 g (hR.blk_lt hg).1 (hnot s g hs hg)
  have hM'n : ∀ s g, s ∉ ss.map (·.1) → zI ρ s (σ.H s) = some g → M g = none → M' g = none := fun s g hs hg h0 => p8 g (hR.blk_lt hg).1 (hnot s g hs hg) h0
  have hmine : ∀ g, (w.heap.size ≤ g ∨ g ∈ blks rvs) → X.w0.heap.size ≤ g ∨ g ∈ X.gs := fun g hg => by
    rcases hg with hg | hg
    · exact .inl (Nat.le_trans hR.size hg)
    · obtain ⟨_, _, _, _, h⟩ := hown g hg
      exact h
  have hsH : ∀ s (j : Nat) (p : Nat × Nat) (c' : Cont), ss[j]? = some p → cs'[j]? = some c' → p.1 = s → (hups (hwJ ss cs') σ).H s = ⟨p.2, c'⟩ := fun s j p c' h1 h2 h3 => by
    rw [← h3]; exact xR hss j p c' h1 h2
  have hvat : ∀ (j : Nat) (s k : Nat) (p : Nat × Nat) (v : Value), ss[j]? = some p → rvs[j]? = some v → p.1 = s → p.2 = k → ρ s k = some v := fun j s k p v h1 h2 h3 h4 => by
    rw [← h3, ← h4]; exact hrat j p v h1 h2
  have hblks : ∀ s g, zI ρ s ((hups (hwJ ss cs') σ).H s) = some g → zI ρ s (σ.H s) = some g := fun s g hg => by
    by_cases hs : s ∈ ss.map (·.1)
    · obtain ⟨j, p, c, c', v, h1, h2, h3, h4, h5⟩ := hsite s hs
      rw [hsH s j p c' h1 h3 h5] at hg
      have hv := hvat j s p.2 p v h1 h4 h5 rfl
      have hgv : vblk v = some g := by
        unfold zI at hg
        cases c' <;> simp [hv] at hg <;> exact hg
      obtain ⟨v', e1, e2⟩ := q3 j p h1
      rw [hrat j p v h1 h4] at e1
      injection e1 with e1
      subst e1
      have := (e2 g hgv).1
      rw [h5] at this
      exact this
    · rw [hfar s hs] at hg; exact hg
  refine ⟨u, M', ρ, rfl, ⟨p2, hR.sz, fun i => by rw [hT]; exact (hR.tm i).mono' p1 (fun _ _ _ h => h), fun s k cs e => ?_, fun s k e' sz L e => ?_, fun s s' g e e' => hR.sep s s' g (hblks s g e) (hblks s' g e'), fun s k hk' => ?_, fun g us e => p1 _ _ (hR.glob g us e), fun g hg hgn => ?_, fun i v e => hR.root i v e, p3.trans hR.os, p4.trans hR.tape, p5.trans hR.output, Nat.le_trans hR.size p6, fun g hg hgn => ?_, hR.df, fun s k o e => ?_⟩, RenB.back (fun i s k hi => ?_) hr p11⟩
  · by_cases hs : s ∈ ss.map (·.1)
    · obtain ⟨j, p, c, c', v, h1, h2, h3, h4, h5⟩ := hsite s hs
      rw [hsH s j p c' h1 h3 h5] at e
      injection e with e1 e2
      subst e1; subst e2
      rcases hbk j c _ h2 h3 with ⟨b, b', rfl, e2, e3⟩ | ⟨_, _, _, _, e2⟩
      · injection e2 with e2
        subst e2
        obtain ⟨g, t, us, b1, b2, b3, b4, b5, b6⟩ := p9.box j b h2
        refine ⟨g, t, us, ?_, b2, b3, hmine g b4, by rw [b5]; exact e3.spec.1, fun i x z hx hz => ?_⟩
        · rw [hvat j s p.2 p v h1 h4 h5 rfl, ← h4, ← jY]; exact b1
        · obtain ⟨x0, hx0⟩ := zB (L := b) (k := i) (by rw [e3.spec.1]; exact zM hx)
          exact RenB.back q2 (e3.spec.2 i x0 x hx0 hx) (b6 i x0 z hx0 hz)
      · cases e2
    · rw [hfar s hs] at e
      have hlt := fun g (hg : ρ s k = some (.pointer (some ⟨g, 0, none⟩))) => (show zI ρ s (σ.H s) = some g by rw [e]; simp [zI, hg, vblk])
      exact (hR.box s k cs e).mono p1 (fun _ _ _ h => h) (fun g hg => hkeep s g hs (hlt g hg)) (fun g hg hn => hM'n s g hs (hlt g hg) hn)
  · by_cases hs : s ∈ ss.map (·.1)
    · obtain ⟨j, p, c, c', v, h1, h2, h3, h4, h5⟩ := hsite s hs
      rw [hsH s j p c' h1 h3 h5] at e
      injection e with e1 e2
      subst e1; subst e2
      rcases hbk j c _ h2 h3 with ⟨_, _, _, e2, _⟩ | ⟨e1, sz1, L1, rfl, e2⟩
      · cases e2
      · injection e2 with f1 f2 f3
        subst f1; subst f2; subst f3
        obtain ⟨z, us, b1, b2, b3, b4, b5, b6⟩ := p9.buf j _ _ _ h2
        rw [jY, h4] at b1
        injection b1 with b1
        subst b1
        exact ⟨v, us, hvat j s p.2 p v h1 h4 h5 rfl, ⟨b2.1, fun g hg => hmine g (b2.2 g hg)⟩, b3, b4, b5, b6⟩
    · rw [hfar s hs] at e
      have hlt := fun u g (hu : ρ s k = some u) (hg : vblk u = some g) => (show zI ρ s (σ.H s) = some g by rw [e]; simp [zI, hu, hg])
      exact (hR.buf s k e' sz L e).mono p1 (fun _ _ _ h => h) (fun u g hu hg => hkeep s g hs (hlt u g hu hg)) (fun u g hu hg hn => hM'n s g hs (hlt u g hu hg) hn)
  · by_cases hs : s ∈ ss.map (·.1)
    · obtain ⟨j, p, c, c', v, h1, h2, h3, h4, h5⟩ := hsite s hs
      rw [hsH s j p c' h1 h3 h5] at hk'
      have := hk j p h1
      rw [h5] at this
      exact hR.fresh s k (by rw [this]; exact hk')
    · rw [hfar s hs] at hk'
      exact hR.fresh s k hk'
  · rw [← hR.base g hg hgn]
    cases hm : M g with
    | some b => exact p1 g b hm
    | none => exact p8 g (Nat.lt_of_lt_of_le hg hR.size) (fun hin' => (hmine g (.inr hin')).elim (fun h1 => absurd hg (Nat.not_lt.2 h1)) hgn) hm
  · rw [p7 g (Nat.lt_of_lt_of_le hg hR.size) (fun hin' => (hmine g (.inr hin')).elim (fun h1 => absurd hg (Nat.not_lt.2 h1)) hgn)]
    exact hR.frame g hg hgn
  · by_cases hs : s ∈ ss.map (·.1)
    · obtain ⟨j, p, c, c', v, h1, h2, h3, h4, h5⟩ := hsite s hs
      rw [hsH s j p c' h1 h3 h5] at e
      injection e with e1 e2
      subst e2
      rcases hbk j c _ h2 h3 with ⟨_, _, _, e2, _⟩ | ⟨_, _, _, _, e2⟩ <;> cases e2
    · rw [hfar s hs] at e
      exact (hR.mp s k o e).mono (fun _ _ _ h => h) (fun g hg => hkeep s g hs (hR.mp_blk e hg)) (fun g hg hn => hM'n s g hs (hR.mp_blk e hg) hn) p1
  · exact q2 i s k hi
end
section
variable {P : Program} {X : Ctx} {n : Nat} {ops : Array Oper} {os : List Oper} {acc : List Rule} {σ : AS} {K : List Rule → AS → Prop} {gt : List (Nat × AV)} {d : Option Nat} {ty : TypeId} {ps : String} {af : Array Edge} {g : Option (Nat × Bool)}
/-- A call that leaves in place what it is handed. -/
theorem dA {f : FuncId} {tys : Array TypeId} {xs : List Operand} {args : List AV} {refs refs' cs' : List Cont} {r y : AV} {ss : List (Nat × Nat)} (hc : qy P X.G f args refs r refs') (hargs : RenL noB (πs ss) args (xs.map (ev σ)))
    (hss : (ss.map (·.1)).Nodup) (hin : qY σ (πs ss) ss refs) (hback : cL (πs ss) ss refs' cs') (hr : RenB (πs ss) r y)
    (h : Exec P X n ops os (mkG gt σ xs (ss.map (·.1)) d y (hwJ ss cs') :: acc) ((hups (hwJ ss cs') σ).put d y) K) : Op1 P X n ops gt ⟨d, .call ⟨.value (.func f), xs.toArray, tys⟩, ty, ps, af, g⟩ os acc σ K := by
  refine ⟨⟨mkR σ xs (ss.map (fun p : Nat × Nat => p.1)) d y (hwJ ss cs'), fun hlt M ρ τ a w hf hR K Q hK => ?_, zR _ _ _ _ _ _, h⟩⟩
  unfold Oper.wp
  rw [qU hc.1, Oper.upon_enter]
  refine (callP_go hR hc hss (bS hf (fun p hp => hp) hin) hback hr (by have := hargs.spec.1; simp at this ⊢; omega) (fun ρb hπ => (ju hR (fun x hx => zP hf hx) hargs hπ).2)).mono ?_
  rintro e w' ⟨u, M', ρ', rfl, hR', hu⟩
  exact hK M' ρ' _ w' (hR'.put hu hlt)
end
end Go.Proofs.YtnafokinifbfhaaGreatDoor
