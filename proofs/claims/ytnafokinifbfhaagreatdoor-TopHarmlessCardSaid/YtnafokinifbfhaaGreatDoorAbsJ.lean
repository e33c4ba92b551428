/- Calls that are handed boxes with buffers in them: what such a call comes to, how a walk of a body gives its law, how the law serves in a walk; conditions: none. -/
import Derived.Test.YtnafokinifbfhaaGreatDoorAbsZ
set_option linter.unusedVariables false
set_option linter.unusedSimpArgs false
namespace Go.Proofs.YtnafokinifbfhaaGreatDoor
open Go Go.RowKit
/-- What a call is handed, by values. -/
def valρ (vs : List Value) : Nat → Nat → Option Value := fun s k => if k = 0 ∧ refB ≤ s then vs[s - refB]? else none
theorem jY (vs : List Value) (i : Nat) : valρ vs (refB + i) 0 = vs[i]? := by
  unfold valρ
  rw [if_pos ⟨rfl, by omega⟩, show refB + i - refB = i by omega]
def blks (vs : List Value) : List Nat := vs.filterMap vblk
theorem bV {vs : List Value} {g : Nat} : g ∈ blks vs ↔ ∃ (i : Nat) (v : Value), vs[i]? = some v ∧ vblk v = some g := by
  unfold blks
  rw [List.mem_filterMap]
  constructor
  · rintro ⟨v, hv, h⟩
    obtain ⟨i, hi⟩ := List.getElem?_of_mem hv
    exact ⟨i, v, hi, h⟩
  · rintro ⟨i, v, hi, h⟩
    exact ⟨v, List.mem_of_getElem? hi, h⟩
def Cont.live : Cont → Bool
  | .box _ => true
  | .buf _ _ _ => true
  | _ => false
structure RefsJ (X : Ctx) (M : Nat → Option (Array Value)) (w : World) (vs : List Value) (cs : List Cont) : Prop where
  len : vs.length = cs.length
  box : ∀ (i : Nat) (c : List AV), cs[i]? = some (.box c) → wJ X M (valρ vs) w (refB + i) 0 c
  buf : ∀ (i e sz : Nat) (L : List AV), cs[i]? = some (.buf e sz L) → eP X M (valρ vs) w (refB + i) 0 e sz L
  ok : ∀ (i : Nat) (c : Cont), cs[i]? = some c → c.live = true
  sep : ∀ (i j : Nat) (u v : Value) (g : Nat), vs[i]? = some u → vs[j]? = some v → vblk u = some g → vblk v = some g → i = j
theorem RefsJ.own_ {X : Ctx} {M : Nat → Option (Array Value)} {w : World} {vs : List Value} {cs : List Cont} (h : RefsJ X M w vs cs) {i g : Nat} {v : Value} (hi : vs[i]? = some v) (hg : vblk v = some g) : M g = none ∧ g < w.heap.size ∧ (X.w0.heap.size ≤ g ∨ g ∈ X.gs) := by
  obtain ⟨c, hc⟩ := zB (L := cs) (k := i) (by rw [← h.len]; exact zM hi)
  have hl := h.ok i c hc
  cases c with
  | dead => cases hl
  | ob o => cases hl
  | box c =>
    obtain ⟨g', t, us, h1, h2, h3, h4, _⟩ := h.box i c hc
    rw [jY, hi] at h1
    injection h1 with h1
    rw [h1] at hg
    simp [vblk] at hg
    subst hg
    exact ⟨h3, (Array.getElem?_eq_some_iff.1 h2).1, h4⟩
  | buf e sz L =>
    obtain ⟨u, us, h1, h2, h3, _⟩ := h.buf i e sz L hc
    rw [jY, hi] at h1
    injection h1 with h1
    subst h1
    refine ⟨h3 g hg, ?_, h2.2 g hg⟩
    rcases h2.1.2 with ⟨rfl, _⟩ | ⟨g', cap, cur, rfl, _, hh, _⟩
    · simp [vblk] at hg
    · simp [vblk] at hg
      subst hg
      exact (Array.getElem?_eq_some_iff.1 hh).1
@[reducible] def ctxJ (w : World) (vs : List Value) (G : Nat → Option (List Value)) (M : Nat → Option (Array Value)) : Ctx := ⟨w, blks vs, vs, G, M⟩
def lR (G : Nat → Option (List Value)) (M : Nat → Option (Array Value)) (w : World) (vs : List Value) (r : AV) (refs' : List Cont) (e : Ending) (w' : World) : Prop :=
  ∃ u M' vs', e = .returned u ∧ (∀ g a, M g = some a → M' g = some a) ∧ aM M' w' ∧ w'.os = w.os ∧ w'.tape = w.tape ∧ w'.output = w.output ∧ w.heap.size ≤ w'.heap.size ∧ (∀ g, g < w.heap.size → g ∉ blks vs → w'.heap[g]? = w.heap[g]?) ∧
    (∀ g, g < w.heap.size → g ∉ blks vs → M g = none → M' g = none) ∧ RefsJ (ctxJ w vs G M) M' w' vs' refs' ∧ (∀ i c, refs'[i]? = some (.box c) → i < vs.length → vs'[i]? = vs[i]?) ∧ Rep M' (valρ vs') r u
/-- A call that is handed boxes and buffers. -/
def qa (P : Program) (G : Nat → Option (List Value)) (f : FuncId) (args : List AV) (refs : List Cont) (r : AV) (refs' : List Cont) : Prop :=
  qK P f ∧ ∀ M w rvs (vs : List Value), aM M w → (∀ g us, G g = some us → M g = some ⟨us⟩) → RefsJ (ctxJ w rvs G M) M w rvs refs → vs.length = args.length →
    (∀ (j : Nat) (x : AV) (u : Value), args[j]? = some x → vs[j]? = some u → Rep M (valρ rvs) x u) → Calls P f ⟨vs⟩ w (lR G M w rvs r refs')
def nthD : List Cont → Nat → Cont
  | [], _ => .dead
  | c :: _, 0 => c
  | _ :: l, n + 1 => nthD l n
theorem nthD_eq : ∀ (l : List Cont) (n : Nat), nthD l n = (l[n]?).getD .dead
  | [], n => rfl
  | x :: l, 0 => rfl
  | x :: l, n + 1 => by rw [nthD, nthD_eq l n]; simp
def eB (args : List AV) (refs : List Cont) : AS := ⟨nth args, fun s => ⟨0, bif Nat.ble refB s then nthD refs (s - refB) else .dead⟩⟩
theorem kR {args : List AV} {refs : List Cont} {s k : Nat} {c : Cont} (h : (eB args refs).H s = ⟨k, c⟩) (hc : c ≠ .dead) : k = 0 ∧ ∃ i, s = refB + i ∧ refs[i]? = some c := by
  unfold eB at h
  simp only [HC.mk.injEq] at h
  obtain ⟨rfl, h⟩ := h
  refine ⟨rfl, ?_⟩
  cases hb : Nat.ble refB s
  · rw [hb] at h; exact absurd h.symm hc
  · rw [hb, cond_true, nthD_eq] at h
    have hle := Nat.le_of_ble_eq_true hb
    cases hr : refs[s - refB]? with
    | none => rw [hr] at h; exact absurd h.symm hc
    | some cs => rw [hr] at h; exact ⟨s - refB, by omega, by rw [hr]; exact congrArg some h⟩
theorem nR {M : Nat → Option (Array Value)} {w : World} {rvs : List Value} {G : Nat → Option (List Value)} {args : List AV} {refs : List Cont} {vs : List Value} {n : Nat} (hl : aM M w) (hG : ∀ g us, G g = some us → M g = some ⟨us⟩) (hr : RefsJ (ctxJ w rvs G M) M w rvs refs)
    (hv : vs.length = args.length) (hrep : ∀ (j : Nat) (x : AV) (u : Value), args[j]? = some x → vs[j]? = some u → Rep M (valρ rvs) x u) (hle : args.length ≤ n) :
    Rel (ctxJ w rvs G M) n M (valρ rvs) (eB args refs) { tmps := (⟨vs⟩ : Array Value) ++ Array.replicate (n - (⟨vs⟩ : Array Value).size) undef, defers := [] } w := by
  have hblk : ∀ s g, zI (valρ rvs) s ((eB args refs).H s) = some g → ∃ i v, s = refB + i ∧ rvs[i]? = some v ∧ vblk v = some g := by
    intro s g h
    unfold zI at h
    cases hc : (eB args refs).H s with
    | mk k c =>
      rw [hc] at h
      have hnd : c ≠ .dead := by rintro rfl; simp at h
      obtain ⟨rfl, i, rfl, hi⟩ := kR hc hnd
      obtain ⟨v, hv⟩ := zB (L := rvs) (k := i) (by rw [hr.len]; exact zM hi)
      refine ⟨i, v, rfl, hv, ?_⟩
      cases c with
      | dead => exact absurd rfl hnd
      | box cs => simpa [jY, hv] using h
      | buf e sz L => simpa [jY, hv] using h
      | ob o => simpa [jY, hv] using h
  refine ⟨hl, by simp; omega, fun i => ?_, fun s k cs h => ?_, fun s k e sz L h => ?_, fun s s' g h1 h2 => ?_, fun s k hk => ?_, hG, fun _ _ _ => rfl, fun i v e => by rw [jY]; exact e, rfl, rfl, rfl, Nat.le_refl _, fun _ _ _ => rfl, rfl, fun s k L h => by
    obtain ⟨_, i, _, hi⟩ := kR h (by simp)
    exact absurd (hr.ok i _ hi) (by simp [Cont.live])⟩
  · show Rep M (valρ rvs) (nth args i) _
    rw [xV]
    cases ha : args[i]? with
    | none => exact .junk _ _
    | some x =>
      obtain ⟨u, hu⟩ := zB (L := vs) (k := i) (by rw [hv]; exact zM ha)
      have hlt := zM hu
      have : (((⟨vs⟩ : Array Value) ++ Array.replicate (n - (⟨vs⟩ : Array Value).size) undef).getD i undef) = u := by
        rw [Array.getD_eq_getD_getElem?, Array.getElem?_append_left (by simpa using hlt)]
        simp [hu]
      rw [this]
      exact hrep i x u ha hu
  · obtain ⟨rfl, i, rfl, hi⟩ := kR h (by simp)
    exact hr.box i cs hi
  · obtain ⟨rfl, i, rfl, hi⟩ := kR h (by simp)
    exact hr.buf i e sz L hi
  · obtain ⟨i, v, rfl, hi, gi⟩ := hblk s g h1
    obtain ⟨j, v', rfl, hj, gj⟩ := hblk s' g h2
    rw [hr.sep i j v v' g hi hj gi gj]
  · have : ((eB args refs).H s).k = 0 := rfl
    rw [this] at hk
    unfold valρ
    rw [if_neg (by omega)]
/-- What a body hands back: the i-th entry stands at the i-th of the sites. -/
def cC (σ : AS) (π : Nat → Option (Nat × Nat)) (m : Nat) : Nat → List (Nat × Nat) → List Cont → Prop
  | _, [], [] => True
  | i, (s, k) :: fs, .box c :: cs => ((∃ c', σ.H s = ⟨k, .box c'⟩ ∧ RenL noB π c c') ∧ (i < m → s = refB + i ∧ k = 0)) ∧ cC σ π m (i + 1) fs cs
  | i, (s, k) :: fs, .buf e sz L :: cs => σ.H s = ⟨k, .buf e sz L⟩ ∧ cC σ π m (i + 1) fs cs
  | _, _, _ => False
theorem bB {σ : AS} {π : Nat → Option (Nat × Nat)} {m : Nat} : ∀ {i : Nat} {fs : List (Nat × Nat)} {cs : List Cont}, cC σ π m i fs cs → fs.length = cs.length ∧ ∀ (j : Nat) (p : Nat × Nat) (c : Cont), fs[j]? = some p → cs[j]? = some c →
    (∃ b b', c = .box b ∧ σ.H p.1 = ⟨p.2, .box b'⟩ ∧ RenL noB π b b' ∧ (i + j < m → p = (refB + (i + j), 0))) ∨ (∃ e sz L, c = .buf e sz L ∧ σ.H p.1 = ⟨p.2, .buf e sz L⟩)
  | _, [], [], _ => ⟨rfl, by simp⟩
  | i, (s, k) :: fs, .box c :: cs, h => by
    obtain ⟨h1, h2⟩ := bB h.2
    refine ⟨by simp [h1], fun j p c0 hp hc => ?_⟩
    cases j with
    | zero =>
      simp at hp hc; subst hp; subst hc
      obtain ⟨⟨c', a1, a2⟩, a3⟩ := h.1
      exact .inl ⟨c, c', rfl, a1, a2, fun hm => by obtain ⟨e1, e2⟩ := a3 (by omega); simp [e1, e2]⟩
    | succ j =>
      have := h2 j p c0 (by simpa using hp) (by simpa using hc)
      rwa [show i + 1 + j = i + (j + 1) by omega] at this
  | i, (s, k) :: fs, .buf e sz L :: cs, h => by
    obtain ⟨h1, h2⟩ := bB h.2
    refine ⟨by simp [h1], fun j p c0 hp hc => ?_⟩
    cases j with
    | zero => simp at hp hc; subst hp; subst hc; exact .inr ⟨e, sz, L, rfl, h.1⟩
    | succ j =>
      have := h2 j p c0 (by simpa using hp) (by simpa using hc)
      rwa [show i + 1 + j = i + (j + 1) by omega] at this
  | _, [], c :: cs, h => by cases c <;> exact h.elim
  | _, p :: fs, [], h => h.elim
  | _, p :: fs, .dead :: cs, h => h.elim
  | _, p :: fs, .ob o :: cs, h => h.elim
def RetJ (TB : Tabs) (fn : Func) (m : Nat) (r : AV) (refs' : List Cont) (e : Exit) (σ : AS) : Prop :=
  (e = .normal ∨ e = .ret) ∧ ∃ xs fs, ResL TB σ fn.results.toList xs ∧ (fs.map (·.1)).Nodup ∧ Ren noB (πs fs) r (kW xs) ∧ cC σ (πs fs) m 0 fs refs'
theorem retJ {TB : Tabs} {fn : Func} {m : Nat} {r : AV} {refs' : List Cont} {e : Exit} {σ : AS} {xs : List AV} {fs : List (Nat × Nat)} (he : e = .normal ∨ e = .ret) (hx : ResL TB σ fn.results.toList xs) (hn : (fs.map (·.1)).Nodup) (hr : Ren noB (πs fs) r (kW xs)) (ho : cC σ (πs fs) m 0 fs refs') : RetJ TB fn m r refs' e σ := ⟨he, xs, fs, hx, hn, hr, ho⟩
section
variable {P : Program} {TB : Tabs} {X : Ctx} {n : Nat} {M : Nat → Option (Array Value)} {ρ : Nat → Nat → Option Value} {σ : AS} {a : Act} {w : World}
/-- Boxes and buffers of a frame, as a call wants them. -/
theorem Rel.refsJ (h : Rel X n M ρ σ a w) {X' : Ctx} {fs : List (Nat × Nat)} {cs : List Cont} (hnd : (fs.map (·.1)).Nodup) (hlen : fs.length = cs.length)
    (hat : ∀ (j : Nat) (p : Nat × Nat) (c : Cont), fs[j]? = some p → cs[j]? = some c → (∃ b b', c = .box b ∧ σ.H p.1 = ⟨p.2, .box b'⟩ ∧ RenL noB (πs fs) b b') ∨ (∃ e sz L, c = .buf e sz L ∧ σ.H p.1 = ⟨p.2, .buf e sz L⟩))
    (hX : ∀ (j : Nat) (p : Nat × Nat) (v : Value) (g : Nat), fs[j]? = some p → ρ p.1 p.2 = some v → vblk v = some g → (X.w0.heap.size ≤ g ∨ g ∈ X.gs) → X'.w0.heap.size ≤ g ∨ g ∈ X'.gs) :
    RefsJ X' M w (fs.map fun p => (ρ p.1 p.2).getD undef) cs ∧ (∀ i s k, πs fs i = some (s, k) → valρ (fs.map fun p => (ρ p.1 p.2).getD undef) (refB + i) 0 = ρ s k) ∧ (∀ (j : Nat) (p : Nat × Nat), fs[j]? = some p → ∃ v, ρ p.1 p.2 = some v ∧ ∀ g, vblk v = some g → zI ρ p.1 (σ.H p.1) = some g ∧ (X.w0.heap.size ≤ g ∨ g ∈ X.gs)) := by
  have hv : ∀ (j : Nat) (p : Nat × Nat), fs[j]? = some p → ∃ v, ρ p.1 p.2 = some v ∧ ∀ g, vblk v = some g → zI ρ p.1 (σ.H p.1) = some g ∧ (X.w0.heap.size ≤ g ∨ g ∈ X.gs) := fun j p hp => by
    obtain ⟨c, hc⟩ := zB (L := cs) (k := j) (by rw [← hlen]; exact zM hp)
    rcases hat j p c hp hc with ⟨b, b', _, h1, _⟩ | ⟨e, sz, L, _, h1⟩
    · obtain ⟨g, t, us, b1, b2, b3, b4, _⟩ := h.box _ _ _ h1
      refine ⟨_, b1, fun g' hg' => ?_⟩
      simp [vblk] at hg'
      subst hg'
      exact ⟨by rw [h1]; simp [zI, b1, vblk], b4⟩
    · obtain ⟨u, us, b1, b2, _⟩ := h.buf _ _ _ _ _ h1
      exact ⟨u, b1, fun g hg => ⟨by rw [h1]; simp [zI, b1, hg], b2.2 g hg⟩⟩
  have hπ : ∀ i s k, πs fs i = some (s, k) → valρ (fs.map fun p => (ρ p.1 p.2).getD undef) (refB + i) 0 = ρ s k := fun i s k hi => by
    have hi' : fs[i]? = some (s, k) := hi
    obtain ⟨v, hv1, _⟩ := hv i _ hi'
    rw [jY, List.getElem?_map, hi']
    simp only at hv1
    simp [hv1]
  refine ⟨⟨by simp [hlen], fun i c hc => ?_, fun i e sz L hc => ?_, fun i c hc => ?_, fun i j u v g hi hj gi gj => ?_⟩, hπ, hv⟩
  · obtain ⟨p, hp⟩ := zB (L := fs) (k := i) (by rw [hlen]; exact zM hc)
    rcases hat i p _ hp hc with ⟨b, b', e, h1, h2⟩ | ⟨e, sz, L, e', _⟩
    · injection e with e
      subst e
      obtain ⟨g, t, us, b1, b2, b3, b4, b5, b6⟩ := h.box _ _ _ h1
      refine ⟨g, t, us, (hπ i p.1 p.2 hp).trans b1, b2, b3, hX i p _ g hp b1 rfl b4, by rw [b5]; exact h2.spec.1.symm, fun j x u hx hu => ?_⟩
      obtain ⟨y, hy⟩ := zB (L := b') (k := j) (by rw [← h2.spec.1]; exact zM hx)
      exact Ren.out hπ (fun _ _ e => e) (fun _ _ _ _ _ hb _ => hb.elim) (h2.spec.2 j x y hx hy) (b6 j y u hy hu)
    · cases e'
  · obtain ⟨p, hp⟩ := zB (L := fs) (k := i) (by rw [hlen]; exact zM hc)
    rcases hat i p _ hp hc with ⟨b, b', e, h1, h2⟩ | ⟨e', sz', L', q, h1⟩
    · cases e
    · injection q with q1 q2 q3
      subst q1; subst q2; subst q3
      obtain ⟨u, us, b1, b2, b3, b4, b5, b6⟩ := h.buf _ _ _ _ _ h1
      exact ⟨u, us, (hπ i p.1 p.2 hp).trans b1, ⟨b2.1, fun g hg => hX i p u g hp b1 hg (b2.2 g hg)⟩, b3, b4, b5, b6⟩
  · obtain ⟨p, hp⟩ := zB (L := fs) (k := i) (by rw [hlen]; exact zM hc)
    rcases hat i p c hp hc with ⟨b, b', rfl, _⟩ | ⟨e, sz, L, rfl, _⟩ <;> rfl
  · rw [List.getElem?_map] at hi hj
    cases hp : fs[i]? with
    | none => rw [hp] at hi; cases hi
    | some p =>
      cases hq : fs[j]? with
      | none => rw [hq] at hj; cases hj
      | some q =>
        rw [hp] at hi
        rw [hq] at hj
        obtain ⟨v1, e1, f1⟩ := hv i p hp
        obtain ⟨v2, e2, f2⟩ := hv j q hq
        simp [e1] at hi
        simp [e2] at hj
        subst hi; subst hj
        have hs := h.sep p.1 q.1 g (f1 g gi).1 (f2 g gj).1
        exact nT hnd (i := i) (j := j) (g := p.1) (by rw [List.getElem?_map, hp]; rfl) (by rw [List.getElem?_map, hq, hs]; rfl)
theorem retJ_post {G : Nat → Option (List Value)} {w0 : World} {rvs : List Value} {M0 : Nat → Option (Array Value)} {refs : List Cont} {fn : Func} {r : AV} {refs' : List Cont} {e : Exit} (hTB : TabsOk P TB) (hlive : aM M0 w0) (hr0 : RefsJ (ctxJ w0 rvs G M0) M0 w0 rvs refs)
    (hR : Rel (ctxJ w0 rvs G M0) n M ρ σ a w) (hQ : RetJ TB fn rvs.length r refs' e σ) : bodyPost P fn (lR G M0 w0 rvs r refs') e a w := by
  obtain ⟨he, xs, fs, h1, h2, h3, h4⟩ := hQ
  obtain ⟨u, hu, hru⟩ := tH hTB hR h1
  obtain ⟨hlen, hat⟩ := bB h4
  obtain ⟨q1, q2, q3⟩ := hR.refsJ (X' := ctxJ w0 rvs G M0) h2 hlen (fun j p c hp hc => (hat j p c hp hc).imp (fun ⟨b, b', e1, e2, e3, _⟩ => ⟨b, b', e1, e2, e3⟩) id) (fun _ _ _ _ _ _ _ h => h)
  have hM0 : ∀ g a, M0 g = some a → M g = some a := fun g a h => by
    obtain ⟨t, fr, hh⟩ := hlive g a h
    rw [hR.base g (Array.getElem?_eq_some_iff.1 hh).1 (fun hin => ?_)]
    · exact h
    · obtain ⟨i, v, hi, hg⟩ := bV.1 hin
      rw [(hr0.own_ hi hg).1] at h; cases h
  have hpost : lR G M0 w0 rvs r refs' (.returned u) w := by
    refine ⟨u, M, _, rfl, hM0, hR.live, hR.os, hR.tape, hR.output, hR.size, hR.frame, fun g hg hn h0 => by rw [hR.base g hg hn]; exact h0, q1, fun i c hc hi => ?_, ?_⟩
    · obtain ⟨p, hp⟩ := zB (L := fs) (k := i) (by rw [hlen]; exact zM hc)
      rcases hat i p _ hp hc with ⟨b, b', e1, e2, e3, e4⟩ | ⟨e', sz, L, e1, _⟩
      · have hp0 := e4 (by omega)
        rw [Nat.zero_add] at hp0
        subst hp0
        obtain ⟨v, hv⟩ := zB hi
        have := hR.root i v hv
        rw [List.getElem?_map, hp, hv]
        simp [this]
      · cases e1
    · exact Ren.out q2 (fun _ _ e => e) (fun _ _ _ _ _ hb _ => hb.elim) h3 hru
  rcases he with rfl | rfl
  · exact ⟨hR.df, u, hu, hpost⟩
  · exact ⟨hR.df, u, hu, hpost⟩
end
section
variable {P : Program} {TB : Tabs} {G : Nat → Option (List Value)} {f : FuncId} {args : List AV} {refs : List Cont} {r : AV} {refs' : List Cont}
theorem aO (hTB : TabsOk P TB) {fn : Func} {c : Code} (he : qK P f) (hf : P.funcs[f]? = some fn) (hb : fn.body = some c) (n : Nat) (hn : fn.ntmps = n) (hle : args.length ≤ n)
    (h : ∀ X : Ctx, X.G = G → AWp P X n c (RetJ TB fn refs.length r refs') (eB args refs)) : qa P G f args refs r refs' := by
  refine ⟨he, fun M w rvs vs hl hG hr hv hrep => ?_⟩
  refine calls_of_wp hf hb ?_
  rw [hn]
  have hR := nR (n := n) hl hG hr hv hrep hle
  refine wp_mono ((h (ctxJ w rvs G M) rfl).run M (valρ rvs) _ w hR) ?_
  rintro e a' w' ⟨M', ρ', σ', hR', hQ⟩
  rw [← hr.len] at hQ
  exact retJ_post hTB hl hr hR' hQ
end
/-- Sites with what they hold behind a call. -/
def hwJ : List (Nat × Nat) → List Cont → List (Nat × HC)
  | (s, k) :: ss, c :: cs => (s, ⟨k, c⟩) :: hwJ ss cs
  | _, _ => []
theorem mZ : ∀ (ss : List (Nat × Nat)) (cs : List Cont) (τ : AS) (s : Nat), s ∉ ss.map (·.1) → (hups (hwJ ss cs) τ).H s = τ.H s
  | [], cs, τ, s, _ => by cases cs <;> rfl
  | (s', k') :: ss, [], τ, s, _ => rfl
  | (s', k') :: ss, c :: cs, τ, s, hs => by
    simp only [List.map_cons, List.mem_cons, not_or] at hs
    rw [hwJ, hups, mZ ss cs _ s hs.2]
    simp only [AS.hup]
    rw [zV hs.1]; rfl
theorem xR : ∀ {ss : List (Nat × Nat)} {cs : List Cont} {σ : AS}, (ss.map (·.1)).Nodup → ∀ (i : Nat) (p : Nat × Nat) (c : Cont), ss[i]? = some p → cs[i]? = some c → (hups (hwJ ss cs) σ).H p.1 = ⟨p.2, c⟩
  | [], _, _, _, i, p, c, h, _ => by simp at h
  | _ :: _, [], _, _, i, p, c, _, h => by simp at h
  | (s, k) :: ss, c0 :: cs, σ, hn, i, p, c, hp, hc => by
    rw [hwJ, hups]
    simp only [List.map_cons, List.nodup_cons] at hn
    cases i with
    | zero =>
      simp at hp hc
      subst hp; subst hc
      rw [mZ ss cs _ s hn.1]
      simp [AS.hup, Nat.beq_refl]
    | succ i => exact xR hn.2 i p c (by simpa using hp) (by simpa using hc)
/-- The values of sites, told anew. -/
def bL (ρ : Nat → Nat → Option Value) : List (Nat × Nat) → List Value → Nat → Nat → Option Value
  | (s, k) :: ss, v :: vs => updρ (bL ρ ss vs) s k v
  | _, _ => ρ
theorem fX (ρ : Nat → Nat → Option Value) : ∀ (ss : List (Nat × Nat)) (vs : List Value) (s k : Nat), (s, k) ∉ ss → bL ρ ss vs s k = ρ s k
  | [], vs, s, k, _ => by cases vs <;> rfl
  | p :: ss, [], s, k, _ => rfl
  | (s', k') :: ss, v :: vs, s, k, h => by
    simp only [List.mem_cons, not_or, Prod.mk.injEq] at h
    rw [bL]
    unfold updρ
    rw [if_neg h.1]
    exact fX ρ ss vs s k h.2
theorem wH (ρ : Nat → Nat → Option Value) : ∀ {ss : List (Nat × Nat)} {vs : List Value}, (ss.map (·.1)).Nodup → ∀ (i : Nat) (p : Nat × Nat) (v : Value), ss[i]? = some p → vs[i]? = some v → bL ρ ss vs p.1 p.2 = some v
  | [], _, _, i, p, v, h, _ => by simp at h
  | _ :: _, [], _, i, p, v, _, h => by simp at h
  | (s, k) :: ss, v0 :: vs, hn, i, p, v, hp, hv => by
    rw [bL]
    simp only [List.map_cons, List.nodup_cons] at hn
    cases i with
    | zero => simp at hp hv; subst hp; subst hv; simp [updρ]
    | succ i =>
      have hp' : ss[i]? = some p := by simpa using hp
      have hne : p.1 ≠ s := fun e => hn.1 (e ▸ List.mem_map_of_mem (List.mem_of_getElem? hp'))
      unfold updρ
      rw [if_neg (fun e => hne e.1)]
      exact wH ρ hn.2 i p v hp' (by simpa using hv)
/-- The boxes and buffers that a call is given, as the frame knows them and as the call does. -/
def qY (σ : AS) (π : Nat → Option (Nat × Nat)) : List (Nat × Nat) → List Cont → Prop
  | [], [] => True
  | (s, k) :: ss, .box c :: cs => (∃ c', σ.H s = ⟨k, .box c'⟩ ∧ RenL noB π c c') ∧ qY σ π ss cs
  | (s, k) :: ss, .buf e sz L :: cs => σ.H s = ⟨k, .buf e sz L⟩ ∧ qY σ π ss cs
  | _, _ => False
/-- What comes back: a box stays at its site and version, a buffer has the next version. -/
def aF (π : Nat → Option (Nat × Nat)) : List (Nat × Nat) → List (Nat × Nat) → List Cont → List Cont → List Cont → Prop
  | [], [], [], [], [] => True
  | (s, k) :: ss, (s', k') :: ss', .box _ :: rs, .box c :: cs, c0 :: cs' => ((s' = s ∧ k' = k) ∧ ∃ c'', c0 = .box c'' ∧ bC π c c'') ∧ aF π ss ss' rs cs cs'
  | (s, k) :: ss, (s', k') :: ss', .buf _ _ _ :: rs, .buf e sz L :: cs, c0 :: cs' => ((s' = s ∧ k' = k + 1) ∧ c0 = .buf e sz L) ∧ aF π ss ss' rs cs cs'
  | _, _, _, _, _ => False
theorem cY {σ : AS} {π : Nat → Option (Nat × Nat)} : ∀ {ss : List (Nat × Nat)} {cs : List Cont}, qY σ π ss cs → ss.length = cs.length ∧ ∀ (j : Nat) (p : Nat × Nat) (c : Cont), ss[j]? = some p → cs[j]? = some c →
    (∃ b b', c = .box b ∧ σ.H p.1 = ⟨p.2, .box b'⟩ ∧ RenL noB π b b') ∨ (∃ e sz L, c = .buf e sz L ∧ σ.H p.1 = ⟨p.2, .buf e sz L⟩)
  | [], [], _ => ⟨rfl, by simp⟩
  | (s, k) :: fs, .box c :: cs, h => by
    obtain ⟨h1, h2⟩ := cY h.2
    refine ⟨by simp [h1], fun j p c0 hp hc => ?_⟩
    cases j with
    | zero => simp at hp hc; subst hp; subst hc; obtain ⟨c', a1, a2⟩ := h.1; exact .inl ⟨c, c', rfl, a1, a2⟩
    | succ j => exact h2 j p c0 (by simpa using hp) (by simpa using hc)
  | (s, k) :: fs, .buf e sz L :: cs, h => by
    obtain ⟨h1, h2⟩ := cY h.2
    refine ⟨by simp [h1], fun j p c0 hp hc => ?_⟩
    cases j with
    | zero => simp at hp hc; subst hp; subst hc; exact .inr ⟨e, sz, L, rfl, h.1⟩
    | succ j => exact h2 j p c0 (by simpa using hp) (by simpa using hc)
  | [], c :: cs, h => by cases c <;> exact h.elim
  | p :: fs, [], h => h.elim
  | p :: fs, .dead :: cs, h => h.elim
  | p :: fs, .ob o :: cs, h => h.elim
theorem dE {π : Nat → Option (Nat × Nat)} : ∀ {ss ss' : List (Nat × Nat)} {rs cs cs' : List Cont}, aF π ss ss' rs cs cs' → ss'.length = ss.length ∧ cs.length = ss.length ∧ cs'.length = ss.length ∧ ss'.map (·.1) = ss.map (·.1) ∧
    ∀ (j : Nat) (p p' : Nat × Nat) (c c' : Cont), ss[j]? = some p → ss'[j]? = some p' → cs[j]? = some c → cs'[j]? = some c' →
      (p' = p ∧ ∃ b b', c = .box b ∧ c' = .box b' ∧ bC π b b') ∨ (p' = (p.1, p.2 + 1) ∧ ∃ e sz L, c = .buf e sz L ∧ c' = .buf e sz L)
  | [], [], [], [], [], _ => ⟨rfl, rfl, rfl, rfl, by simp⟩
  | (s, k) :: ss, (s', k') :: ss', .box r :: rs, .box c :: cs, c0 :: cs', h => by
    obtain ⟨h1, h2, h3, h4, h5⟩ := dE h.2
    obtain ⟨⟨rfl, rfl⟩, c'', rfl, hb⟩ := h.1
    refine ⟨by simp [h1], by simp [h2], by simp [h3], by simp [h4], fun j p p' d d' hp hp' hd hd' => ?_⟩
    cases j with
    | zero => simp at hp hp' hd hd'; subst hp; subst hp'; subst hd; subst hd'; exact .inl ⟨rfl, c, c'', rfl, rfl, hb⟩
    | succ j => exact h5 j p p' d d' (by simpa using hp) (by simpa using hp') (by simpa using hd) (by simpa using hd')
  | (s, k) :: ss, (s', k') :: ss', .buf _ _ _ :: rs, .buf e sz L :: cs, c0 :: cs', h => by
    obtain ⟨h1, h2, h3, h4, h5⟩ := dE h.2
    obtain ⟨⟨rfl, rfl⟩, rfl⟩ := h.1
    refine ⟨by simp [h1], by simp [h2], by simp [h3], by simp [h4], fun j p p' d d' hp hp' hd hd' => ?_⟩
    cases j with
    | zero => simp at hp hp' hd hd'; subst hp; subst hp'; subst hd; subst hd'; exact .inr ⟨rfl, e, sz, L, rfl, rfl⟩
    | succ j => exact h5 j p p' d d' (by simpa using hp) (by simpa using hp') (by simpa using hd) (by simpa using hd')
section
variable {P : Program} {X : Ctx} {n : Nat} {M : Nat → Option (Array Value)} {ρ : Nat → Nat → Option Value} {σ : AS} {a : Act} {w : World}
/-- The frame behind a call that was handed boxes and buffers. -/
theorem vA (hR : Rel X n M ρ σ a w) {f : FuncId} {args : List AV} {refs refs' cs' : List Cont} {r y : AV} {ss ss' : List (Nat × Nat)} {vs : List Value} (hc : qa P X.G f args refs r refs')
    (hss : (ss.map (·.1)).Nodup) (hin : qY σ (πs ss) ss refs) (hback : aF (πs ss') ss ss' refs refs' cs') (hr : RenB (πs ss') r y) (hvl : vs.length = args.length)
    (hargs : ∀ ρb : Nat → Nat → Option Value, (∀ i s k, πs ss i = some (s, k) → ρb (refB + i) 0 = ρ s k) → ∀ (j : Nat) (x : AV) (u : Value), args[j]? = some x → vs[j]? = some u → Rep M ρb x u) :
    Calls P f ⟨vs⟩ w fun e w' => ∃ u M' ρ', e = .returned u ∧ Rel X n M' ρ' (hups (hwJ ss' cs') σ) a w' ∧ Rep M' ρ' y u := by
  obtain ⟨hlen, hat⟩ := cY hin
  obtain ⟨hl1, hl2, hl3, hl4, hbk⟩ := dE hback
  obtain ⟨q1, q2, q3⟩ := hR.refsJ (X' := ctxJ w (ss.map fun p => (ρ p.1 p.2).getD undef) X.G M) hss hlen hat (fun j p v g hp hv hg _ => .inr (bV.2 ⟨j, v, by rw [List.getElem?_map, hp]; simp [hv], hg⟩))
  generalize hrv : (ss.map fun p => (ρ p.1 p.2).getD undef) = rvs at q1 q2
  have hrl : rvs.length = ss.length := by rw [← hrv]; simp
  have hrat : ∀ (j : Nat) (p : Nat × Nat) (v : Value), ss[j]? = some p → rvs[j]? = some v → ρ p.1 p.2 = some v := fun j p v hp hv => by
    obtain ⟨v', e1, _⟩ := q3 j p hp
    rw [← hrv, List.getElem?_map, hp] at hv
    simp [e1] at hv
    rw [e1, hv]
  -- a block of what was handed over is the frame's own
  have hown : ∀ g, g ∈ blks rvs → ∃ (j : Nat) (p : Nat × Nat), ss[j]? = some p ∧ zI ρ p.1 (σ.H p.1) = some g ∧ (X.w0.heap.size ≤ g ∨ g ∈ X.gs) := fun g hg => by
    obtain ⟨j, v, hv, hg⟩ := bV.1 hg
    obtain ⟨p, hp⟩ := zB (L := ss) (k := j) (by rw [← hrl]; exact zM hv)
    obtain ⟨v', e1, e2⟩ := q3 j p hp
    rw [hrat j p v hp hv] at e1
    injection e1 with e1
    subst e1
    exact ⟨j, p, hp, (e2 g hg).1, (e2 g hg).2⟩
  refine (hc.2 M w rvs vs hR.live hR.glob q1 hvl (hargs _ q2)).mono ?_
  rintro e w' ⟨u, M', vs', rfl, p1, p2, p3, p4, p5, p6, p7, p8, p9, p10, p11⟩
  have hvl' : vs'.length = ss.length := by rw [p9.len, hl2]
  have hnd' : (ss'.map (·.1)).Nodup := by rw [hl4]; exact hss
  -- the sites
  have hsite : ∀ s, s ∈ ss.map (·.1) → ∃ (j : Nat) (p p' : Nat × Nat) (c c' : Cont) (v : Value), ss[j]? = some p ∧ ss'[j]? = some p' ∧ refs'[j]? = some c ∧ cs'[j]? = some c' ∧ vs'[j]? = some v ∧ p.1 = s ∧ p'.1 = s := fun s hs => by
    obtain ⟨p, hp, rfl⟩ := List.mem_map.1 hs
    obtain ⟨j, hj⟩ := List.getElem?_of_mem hp
    have hlt := zM hj
    obtain ⟨p', hp'⟩ := zB (L := ss') (k := j) (by omega)
    obtain ⟨c, hc⟩ := zB (L := refs') (k := j) (by omega)
    obtain ⟨c', hc'⟩ := zB (L := cs') (k := j) (by omega)
    obtain ⟨v, hv⟩ := zB (L := vs') (k := j) (by omega)
    refine ⟨j, p, p', c, c', v, hj, hp', hc, hc', hv, rfl, ?_⟩
    rcases hbk j p p' c c' hj hp' hc hc' with ⟨e, _⟩ | ⟨e, _⟩ <;> rw [e]
  have hT : (hups (hwJ ss' cs') σ).T = σ.T := qt _ _
  have hρat : ∀ (j : Nat) (p' : Nat × Nat) (v : Value), ss'[j]? = some p' → vs'[j]? = some v → bL ρ ss' vs' p'.1 p'.2 = some v := fun j p' v hp' hv => wH ρ hnd' j p' v hp' hv
  have hπ' : ∀ i s k, πs ss' i = some (s, k) → valρ vs' (refB + i) 0 = bL ρ ss' vs' s k := fun i s k hi => by
    have hi' : ss'[i]? = some (s, k) := hi
    obtain ⟨v, hv⟩ := zB (L := vs') (k := i) (by have := zM hi'; omega)
    rw [jY, hv, hρat i _ v hi' hv]
  have hfresh : ∀ (j : Nat) (p p' : Nat × Nat), ss[j]? = some p → ss'[j]? = some p' → p'.1 = p.1 ∧ p.2 ≤ p'.2 ∧ (σ.H p.1).k = p.2 := fun j p p' hp hp' => by
    obtain ⟨c, hc⟩ := zB (L := refs') (k := j) (by have := zM hp; omega)
    obtain ⟨c', hc'⟩ := zB (L := cs') (k := j) (by have := zM hp; omega)
    obtain ⟨c0, hc0⟩ := zB (L := refs) (k := j) (by have := zM hp; omega)
    have hk : (σ.H p.1).k = p.2 := by
      rcases hat j p c0 hp hc0 with ⟨b, b', _, h1, _⟩ | ⟨e, sz, L, _, h1⟩ <;> rw [h1]
    rcases hbk j p p' c c' hp hp' hc hc' with ⟨e, _⟩ | ⟨e, _⟩
    · rw [e]; exact ⟨rfl, Nat.le_refl _, hk⟩
    · rw [e]; exact ⟨rfl, Nat.le_succ _, hk⟩
  have hmono : ∀ s k z, ρ s k = some z → bL ρ ss' vs' s k = some z := fun s k z hz => by
    by_cases hm : (s, k) ∈ ss'
    · obtain ⟨j, hj⟩ := List.getElem?_of_mem hm
      have hlt := zM hj
      obtain ⟨p, hp⟩ := zB (L := ss) (k := j) (by omega)
      obtain ⟨c, hc⟩ := zB (L := refs') (k := j) (by omega)
      obtain ⟨c', hc'⟩ := zB (L := cs') (k := j) (by omega)
      obtain ⟨v, hv⟩ := zB (L := vs') (k := j) (by omega)
      rw [hρat j (s, k) v hj hv]
      rcases hbk j p (s, k) c c' hp hj hc hc' with ⟨e, b, b', rfl, _⟩ | ⟨e, _⟩
      · have h1 := p10 j b hc (by omega)
        rw [hv] at h1
        have h2 := hrat j p v hp h1.symm
        rw [← e] at h2
        simp only at h2
        rw [← h2, hz]
      · injection e with e1 e2
        have h1 := hR.fresh p.1 (p.2 + 1) (by have := (hfresh j p (s, k) hp hj).2.2; omega)
        rw [e1, e2] at hz
        rw [hz] at h1; cases h1
    · rw [fX ρ ss' vs' s k hm]; exact hz
  have hfar : ∀ s, s ∉ ss.map (·.1) → (hups (hwJ ss' cs') σ).H s = σ.H s ∧ ∀ k, bL ρ ss' vs' s k = ρ s k := fun s hs => by
    have hs' : s ∉ ss'.map (·.1) := by rw [hl4]; exact hs
    refine ⟨mZ ss' cs' σ s hs', fun k => fX ρ ss' vs' s k fun hm => hs' (List.mem_map_of_mem (f := (·.1)) hm)⟩
  have hnot : ∀ s g, s ∉ ss.map (·.1) → zI ρ s (σ.H s) = some g → g ∉ blks rvs := fun s g hs hg hin' => by
    obtain ⟨j, p, hp, hb, _⟩ := hown g hin'
    exact hs (hR.sep s p.1 g hg hb ▸ List.mem_map_of_mem (f := (·.1)) (List.mem_of_getElem? hp))
  have hkeep : ∀ s g, s ∉ ss.map (·.1) → zI ρ s (σ.H s) = some g → w'.heap[g]? = w.heap[g]? := fun s g hs hg => p7 g (hR.blk_lt hg).1 (hnot s g hs hg)
  have hM'n : ∀ s g, s ∉ ss.map (·.1) → zI ρ s (σ.H s) = some g → M g = none → M' g = none := fun s g hs hg h0 => p8 g (hR.blk_lt hg).1 (hnot s g hs hg) h0
  have hmine : ∀ g, (w.heap.size ≤ g ∨ g ∈ blks rvs) → X.w0.heap.size ≤ g ∨ g ∈ X.gs := fun g hg => by
    rcases hg with hg | hg
    · exact .inl (Nat.le_trans hR.size hg)
    · obtain ⟨_, _, _, _, h⟩ := hown g hg
      exact h
  have hsH : ∀ s (j : Nat) (p p' : Nat × Nat) (c' : Cont), ss'[j]? = some p' → cs'[j]? = some c' → p'.1 = s → (hups (hwJ ss' cs') σ).H s = ⟨p'.2, c'⟩ := fun s j p p' c' h1 h2 h3 => by
    rw [← h3]; exact xR hnd' j p' c' h1 h2
  have hblks : ∀ s, s ∈ ss.map (·.1) → ∀ g, zI (bL ρ ss' vs') s ((hups (hwJ ss' cs') σ).H s) = some g → ∃ (j : Nat) (p : Nat × Nat) (v : Value), ss[j]? = some p ∧ p.1 = s ∧ vs'[j]? = some v ∧ vblk v = some g := fun s hs g hg => by
    obtain ⟨j, p, p', c, c', v, h1, h2, h3, h4, h5, h6, h7⟩ := hsite s hs
    refine ⟨j, p, v, h1, h6, h5, ?_⟩
    rw [hsH s j p p' c' h2 h4 h7] at hg
    have hv := hρat j p' v h2 h5
    rw [h7] at hv
    unfold zI at hg
    cases c' <;> simp [hv] at hg <;> exact hg
  refine ⟨u, M', bL ρ ss' vs', rfl, ⟨p2, hR.sz, fun i => by rw [hT]; exact (hR.tm i).mono' p1 hmono, fun s k cs e => ?_, fun s k e' sz L e => ?_, fun s s' g e e' => ?_, fun s k hk => ?_, fun g us e => p1 _ _ (hR.glob g us e), fun g hg hgn => ?_, fun i v e => hmono _ _ _ (hR.root i v e), p3.trans hR.os, p4.trans hR.tape, p5.trans hR.output, Nat.le_trans hR.size p6, fun g hg hgn => ?_, hR.df, fun s k o e => ?_⟩, RenB.back hπ' hr p11⟩
  · by_cases hs : s ∈ ss.map (·.1)
    · obtain ⟨j, p, p', c, c', v, h1, h2, h3, h4, h5, h6, h7⟩ := hsite s hs
      rw [hsH s j p p' c' h2 h4 h7] at e
      injection e with e1 e2
      subst e1; subst e2
      rcases hbk j p p' c _ h1 h2 h3 h4 with ⟨e1, b, b', rfl, e2, e3⟩ | ⟨_, _, _, _, _, e2⟩
      · injection e2 with e2
        subst e2
        obtain ⟨g, t, us, b1, b2, b3, b4, b5, b6⟩ := p9.box j b h3
        refine ⟨g, t, us, ?_, b2, b3, hmine g b4, by rw [b5]; exact e3.spec.1, fun i x z hx hz => ?_⟩
        · have hv := hρat j p' v h2 h5
          rw [h7] at hv
          rw [hv, ← h5, ← jY]; exact b1
        · obtain ⟨x0, hx0⟩ := zB (L := b) (k := i) (by rw [e3.spec.1]; exact zM hx)
          exact RenB.back hπ' (e3.spec.2 i x0 x hx0 hx) (b6 i x0 z hx0 hz)
      · cases e2
    · rw [(hfar s hs).1] at e
      have hlt := fun g (hg : ρ s k = some (.pointer (some ⟨g, 0, none⟩))) => (show zI ρ s (σ.H s) = some g by rw [e]; simp [zI, hg, vblk])
      exact (hR.box s k cs e).mono p1 hmono (fun g hg => hkeep s g hs (hlt g hg)) (fun g hg hn => hM'n s g hs (hlt g hg) hn)
  · by_cases hs : s ∈ ss.map (·.1)
    · obtain ⟨j, p, p', c, c', v, h1, h2, h3, h4, h5, h6, h7⟩ := hsite s hs
      rw [hsH s j p p' c' h2 h4 h7] at e
      injection e with e1 e2
      subst e1; subst e2
      rcases hbk j p p' c _ h1 h2 h3 h4 with ⟨_, _, _, _, e2, _⟩ | ⟨_, e1, sz1, L1, rfl, e2⟩
      · cases e2
      · injection e2 with f1 f2 f3
        subst f1; subst f2; subst f3
        obtain ⟨z, us, b1, b2, b3, b4, b5, b6⟩ := p9.buf j _ _ _ h3
        rw [jY, h5] at b1
        injection b1 with b1
        subst b1
        have hv := hρat j p' v h2 h5
        rw [h7] at hv
        exact ⟨v, us, hv, ⟨b2.1, fun g hg => hmine g (b2.2 g hg)⟩, b3, b4, b5, b6⟩
    · rw [(hfar s hs).1] at e
      have hlt := fun u g (hu : ρ s k = some u) (hg : vblk u = some g) => (show zI ρ s (σ.H s) = some g by rw [e]; simp [zI, hu, hg])
      exact (hR.buf s k e' sz L e).mono p1 hmono (fun u g hu hg => hkeep s g hs (hlt u g hu hg)) (fun u g hu hg hn => hM'n s g hs (hlt u g hu hg) hn)
  · have hcross : ∀ s s', s ∈ ss.map (·.1) → s' ∉ ss.map (·.1) → zI (bL ρ ss' vs') s ((hups (hwJ ss' cs') σ).H s) = some g → zI (bL ρ ss' vs') s' ((hups (hwJ ss' cs') σ).H s') = some g → False := fun s s' hs hs' e e' => by
      obtain ⟨j, p, v, h1, h2, h3, h4⟩ := hblks s hs g e
      have e'' : zI ρ s' (σ.H s') = some g := by
        rw [(hfar s' hs').1] at e'
        unfold zI at e' ⊢
        cases hcc : (σ.H s').c <;> simp [hcc, (hfar s' hs').2] at e' ⊢ <;> exact e'
      rcases (p9.own_ h3 h4).2.2 with h5 | h5
      · exact absurd (hR.blk_lt e'').1 (Nat.not_lt.2 h5)
      · exact hnot s' g hs' e'' h5
    by_cases hs : s ∈ ss.map (·.1) <;> by_cases hs' : s' ∈ ss.map (·.1)
    · obtain ⟨j, p, v, h1, h2, h3, h4⟩ := hblks s hs g e
      obtain ⟨j', p', v', k1, k2, k3, k4⟩ := hblks s' hs' g e'
      have := p9.sep j j' v v' g h3 k3 h4 k4
      subst this
      rw [h1] at k1
      injection k1 with k1
      rw [← h2, ← k2, k1]
    · exact (hcross s s' hs hs' e e').elim
    · exact (hcross s' s hs' hs e' e).elim
    · have hold : ∀ s, s ∉ ss.map (·.1) → zI (bL ρ ss' vs') s ((hups (hwJ ss' cs') σ).H s) = some g → zI ρ s (σ.H s) = some g := fun s hs e => by
        rw [(hfar s hs).1] at e
        unfold zI at e ⊢
        cases hcc : (σ.H s).c <;> simp [hcc, (hfar s hs).2] at e ⊢ <;> exact e
      exact hR.sep s s' g (hold s hs e) (hold s' hs' e')
  · by_cases hs : s ∈ ss.map (·.1)
    · obtain ⟨j, p, p', c, c', v, h1, h2, h3, h4, h5, h6, h7⟩ := hsite s hs
      rw [hsH s j p p' c' h2 h4 h7] at hk
      simp only at hk
      obtain ⟨f1, f2, f3⟩ := hfresh j p p' h1 h2
      rw [fX ρ ss' vs' s k (fun hm => ?_)]
      · rw [← h6]; exact hR.fresh p.1 k (by omega)
      · obtain ⟨i, hi⟩ := List.getElem?_of_mem hm
        have hij : i = j := nT hnd' (g := s) (by rw [List.getElem?_map, hi]; rfl) (by rw [List.getElem?_map, h2]; simp [h7])
        subst hij
        rw [h2] at hi
        injection hi with hi
        rw [hi] at hk
        simp at hk
    · rw [(hfar s hs).1] at hk
      rw [(hfar s hs).2]
      exact hR.fresh s k hk
  · rw [← hR.base g hg hgn]
    cases hm : M g with
    | some b => exact p1 g b hm
    | none => exact p8 g (Nat.lt_of_lt_of_le hg hR.size) (fun hin' => (hmine g (.inr hin')).elim (fun h1 => absurd hg (Nat.not_lt.2 h1)) hgn) hm
  · rw [p7 g (Nat.lt_of_lt_of_le hg hR.size) (fun hin' => (hmine g (.inr hin')).elim (fun h1 => absurd hg (Nat.not_lt.2 h1)) hgn)]
    exact hR.frame g hg hgn
  · by_cases hs : s ∈ ss.map (·.1)
    · obtain ⟨j, p, p', c, c', v, h1, h2, h3, h4, h5, h6, h7⟩ := hsite s hs
      rw [hsH s j p p' c' h2 h4 h7] at e
      injection e with e1 e2
      subst e2
      rcases hbk j p p' c _ h1 h2 h3 h4 with ⟨_, _, _, _, e2, _⟩ | ⟨_, _, _, _, _, e2⟩ <;> cases e2
    · rw [(hfar s hs).1] at e
      exact (hR.mp s k o e).mono hmono (fun g hg => hkeep s g hs (hR.mp_blk e hg)) (fun g hg hn => hM'n s g hs (hR.mp_blk e hg) hn) p1
end
section
variable {P : Program} {X : Ctx} {n : Nat} {ops : Array Oper} {os : List Oper} {acc : List Rule} {σ : AS} {K : List Rule → AS → Prop} {gt : List (Nat × AV)} {d : Option Nat} {ty : TypeId} {ps : String} {af : Array Edge} {g : Option (Nat × Bool)}
theorem bS {σ τ : AS} {xs : List Operand} {ss : List (Nat × Nat)} {y : AV} {hw : List (Nat × HC)} (hf : (mkR σ xs (ss.map (·.1)) d y hw).fires τ) {π : Nat → Option (Nat × Nat)} : ∀ {ss' : List (Nat × Nat)} {cs : List Cont}, (∀ p ∈ ss', p ∈ ss) → qY σ π ss' cs → qY τ π ss' cs
  | [], [], _, h => h
  | (s, k) :: ss', .box c :: cs, hs, h => by
    obtain ⟨⟨c', h1, h2⟩, h3⟩ := h
    exact ⟨⟨c', (zo hf (s := s) (List.mem_map_of_mem (f := (·.1)) (hs (s, k) (by simp)))).trans h1, h2⟩, bS hf (fun p hp => hs p (by simp [hp])) h3⟩
  | (s, k) :: ss', .buf e sz L :: cs, hs, h => by
    obtain ⟨h1, h3⟩ := h
    exact ⟨(zo hf (s := s) (List.mem_map_of_mem (f := (·.1)) (hs (s, k) (by simp)))).trans h1, bS hf (fun p hp => hs p (by simp [hp])) h3⟩
  | [], c :: cs, _, h => by cases c <;> exact h.elim
  | p :: ss', [], _, h => h.elim
  | p :: ss', .dead :: cs, _, h => h.elim
  | p :: ss', .ob o :: cs, _, h => h.elim
/-- A call that is handed boxes and buffers. -/
theorem x_callJ {f : FuncId} {tys : Array TypeId} {xs : List Operand} {args : List AV} {refs refs' cs' : List Cont} {r y : AV} {ss ss' : List (Nat × Nat)} (hc : qa P X.G f args refs r refs') (hargs : RenL noB (πs ss) args (xs.map (ev σ)))
    (hss : (ss.map (·.1)).Nodup) (hin : qY σ (πs ss) ss refs) (hback : aF (πs ss') ss ss' refs refs' cs') (hr : RenB (πs ss') r y)
    (h : Exec P X n ops os (mkG gt σ xs (ss.map (·.1)) d y (hwJ ss' cs') :: acc) ((hups (hwJ ss' cs') σ).put d y) K) : Op1 P X n ops gt ⟨d, .call ⟨.value (.func f), xs.toArray, tys⟩, ty, ps, af, g⟩ os acc σ K := by
  refine ⟨⟨mkR σ xs (ss.map (fun p : Nat × Nat => p.1)) d y (hwJ ss' cs'), fun hlt M ρ τ a w hf hR K Q hK => ?_, zR _ _ _ _ _ _, h⟩⟩
  unfold Oper.wp
  rw [qU hc.1, Oper.upon_enter]
  refine (vA hR hc hss (bS hf (fun p hp => hp) hin) hback hr (by have := hargs.spec.1; simp at this ⊢; omega) (fun ρb hπ => (ju hR (fun x hx => zP hf hx) hargs hπ).2)).mono ?_
  rintro e w' ⟨u, M', ρ', rfl, hR', hu⟩
  exact hK M' ρ' _ w' (hR'.put hu hlt)
/-- The same, of a function value. -/
theorem aS {t : Nat} {f : FuncId} {tys : Array TypeId} {xs : List Operand} {cap args : List AV} {refs refs' cs' : List Cont} {r y : AV} {ss ss' : List (Nat × Nat)} (hc : qa P X.G f args refs r refs') (hf : σ.T t = .fn f cap) (hargs : RenL noB (πs ss) args (xs.map (ev σ) ++ cap))
    (hss : (ss.map (·.1)).Nodup) (hin : qY σ (πs ss) ss refs) (hback : aF (πs ss') ss ss' refs refs' cs') (hr : RenB (πs ss') r y)
    (h : Exec P X n ops os (mkG gt σ (.tmp t :: xs) (ss.map (·.1)) d y (hwJ ss' cs') :: acc) ((hups (hwJ ss' cs') σ).put d y) K) : Op1 P X n ops gt ⟨d, .call ⟨.value (.tmp t), xs.toArray, tys⟩, ty, ps, af, g⟩ os acc σ K := by
  refine ⟨⟨mkR σ (.tmp t :: xs) (ss.map (fun p : Nat × Nat => p.1)) d y (hwJ ss' cs'), fun hlt M ρ τ a w hfi hR K Q hK => ?_, zR _ _ _ _ _ _, h⟩⟩
  obtain ⟨a1, a2, rfl, ha1, ha2⟩ := kA hargs
  have hfn := hR.ev (.tmp t)
  rw [zP hfi (by simp), show ev σ (.tmp t) = _ from hf] at hfn
  obtain ⟨vs, hv1, hv2, hv3⟩ : ∃ vs : List Value, a.eval (.tmp t) = .func (.func f) #[] ⟨vs⟩ ∧ vs.length = cap.length ∧ ∀ (j : Nat) (x : AV) (u : Value), cap[j]? = some x → vs[j]? = some u → Rep M ρ x u := by
    generalize a.eval (.tmp t) = q at hfn
    cases hfn with
    | fn _ _ _ vs h1 h2 => exact ⟨vs, rfl, h1, h2⟩
  have l1 : (xs.map a.eval).length = a1.length := by have := ha1.spec.1; simp at this ⊢; omega
  unfold Oper.wp
  rw [lQ hc.1 hv1, Oper.upon_enter]
  refine (vA hR hc hss (bS hfi (fun p hp => hp) hin) hback hr (by simp [hv2, ha2.spec.1]; simpa using l1) (fun ρb hπ j x u hx hu => ?_)).mono ?_
  · rw [List.getElem?_append] at hx hu
    have hll : a1.length = (xs.map a.eval).length := l1.symm
    split at hx
    · rename_i hj
      rw [if_pos (by omega)] at hu
      exact (ju hR (fun x hx => zP hfi (by simp [hx])) ha1 hπ).2 j x u hx hu
    · rename_i hj
      rw [if_neg (by omega), ← hll] at hu
      obtain ⟨y0, hy0⟩ := zB (L := cap) (k := j - a1.length) (by rw [← ha2.spec.1]; exact zM hx)
      exact Ren.out hπ (fun _ _ e => e) (fun _ _ _ _ _ hb _ => hb.elim) (ha2.spec.2 _ x y0 hx hy0) (hv3 _ y0 u hy0 hu)
  rintro e w' ⟨u, M', ρ', rfl, hR', hu⟩
  exact hK M' ρ' _ w' (hR'.put hu hlt)
end
section
variable {P : Program} {X : Ctx} {n : Nat} {σ : AS} {Q : Exit → AS → Prop} {c : Code}
end
section
variable {P : Program} {X : Ctx} {n : Nat} {ops : Array Oper} {os : List Oper} {acc : List Rule} {σ : AS} {K : List Rule → AS → Prop} {gt : List (Nat × AV)} {ty : TypeId} {ps : String} {af : Array Edge} {g : Option (Nat × Bool)}
theorem uX {d : Option Nat} {f : FuncId} {x x2 x3 : Operand} (y y2 y3 : AV) (hy : ev σ x = y) (hy2 : ev σ x2 = y2) (hy3 : ev σ x3 = y3) (h : Exec P X n ops os (mkG gt σ [x, x2, x3] [] d (.fn f [y, y2, y3]) [] :: acc) (σ.put d (.fn f [y, y2, y3])) K) : Op1 P X n ops gt ⟨d, .makeFunc (.func f) #[] #[x, x2, x3], ty, ps, af, g⟩ os acc σ K :=
  yb (fun M ρ τ a w he hR => by
    have h1 := hR.ev x
    rw [he x (by simp), hy] at h1
    have h2 := hR.ev x2
    rw [he x2 (by simp), hy2] at h2
    have h3 := hR.ev x3
    rw [he x3 (by simp), hy3] at h3
    refine ⟨.func (.func f) #[] ⟨[a.eval x, a.eval x2, a.eval x3]⟩, by unfold execOp; simp [Instr.makeFunc], .fn _ f _ _ rfl (fun j y u a b => ?_)⟩
    match j, a, b with
    | 0, a, b => cases a; cases b; exact h1
    | 1, a, b => cases a; cases b; exact h2
    | 2, a, b => cases a; cases b; exact h3
    | j + 3, a, b => simp at a) h
end
section
variable {P : Program} {X : Ctx} {n : Nat} {ops : Array Oper} {os : List Oper} {acc : List Rule} {σ : AS} {K : List Rule → AS → Prop} {gt : List (Nat × AV)} {ty : TypeId} {ps : String} {af : Array Edge} {g : Option (Nat × Bool)}
/-- A call that gives back a value that holds a new buffer. -/
theorem mV {f : FuncId} {tys : Array TypeId} {xs : List Operand} {args : List AV} {d : Option Nat} {s1 k1 e sz : Nat} {q1 : Cont} {L : List AV} {r y : AV} (hc : qa P X.G f args [] r [.buf e sz L]) (hargs : RenL noB (πs []) args (xs.map (ev σ))) (hr : RenB (πs [(s1, k1 + 1)]) r y) (hH1 : σ.H s1 = ⟨k1, q1⟩)
    (h : Exec P X n ops os (mkG gt σ xs [s1] d y [(s1, ⟨k1 + 1, .buf e sz L⟩)] :: acc) ((σ.hup s1 ⟨k1 + 1, .buf e sz L⟩).put d y) K) : Op1 P X n ops gt ⟨d, .call ⟨.value (.func f), xs.toArray, tys⟩, ty, ps, af, g⟩ os acc σ K := by
  obtain rfl : (σ.H s1).k = k1 := by rw [hH1]
  refine ⟨⟨mkR σ xs [s1] d y [(s1, ⟨(σ.H s1).k + 1, .buf e sz L⟩)], fun hlt M ρ τ a w hf hR K Q hK => ?_, zR _ _ _ _ _ _, h⟩⟩
  have hH := zo hf (s := s1) (by simp)
  obtain ⟨c1, c2, c3, c4⟩ := cZ (ss := []) (refs := []) hR (by simp) trivial
  obtain ⟨a1, a2⟩ := ju hR (fun x hx => zP hf hx) hargs (ρb := valρ []) (fun i s k hi => by simp [πs] at hi)
  unfold Oper.wp
  rw [qU hc.1, Oper.upon_enter]
  refine (hc.2 M w [] _ hR.live hR.glob ⟨rfl, by simp, by simp, by simp, by simp⟩ a1 a2).mono ?_
  rintro en w' ⟨u, M', vs', rfl, p1, p2, p3, p4, p5, p6, p7, p8, p9, p10, p11⟩
  obtain ⟨u1, rfl⟩ : ∃ u1, vs' = [u1] := List.length_eq_one_iff.1 p9.len
  obtain ⟨z, us, b1, b2, b3, b4, b5, b6⟩ := p9.buf 0 e sz L rfl
  rw [jY] at b1
  injection b1 with b1
  subst b1
  have hnew : ∀ g, vblk u1 = some g → w.heap.size ≤ g := fun g hg => by
    rcases b2.2 g hg with h1 | h1
    · exact h1
    · simp [blks] at h1
  have hR' := hR.call (ss := []) (gs := []) (cs' := []) (w' := w') (by simp) rfl rfl (by simp) p1 p2 p3 p4 p5 p6 (fun g hg _ => p7 g hg (by simp [blks])) (fun g hg => p8 g hg (by simp [blks])) (by simp)
  have hR' : Rel X n M' ρ τ a w' := hR'
  have hown : nY X w' e sz u1 L.length us := ⟨b2.1, fun g hg => .inl (Nat.le_trans hR.size (hnew g hg))⟩
  have hA := hR'.appendTo s1 (L := L) (us := us) (news := []) hown (by rw [List.append_nil]; exact b2.1) ⟨rfl, rfl, rfl, Nat.le_refl _, fun _ _ _ => rfl⟩ (.inl rfl) b3 (fun s' g hg e => absurd (hR.blk_lt (s := s') e).1 (Nat.not_lt.2 (hnew g hg))) (by rw [List.append_nil]; exact b4) b5 (by rw [List.append_nil]; exact b6)
  rw [hH] at hA
  refine hK M' _ _ w' (hA.put (RenB.back (ρb := valρ [u1]) (fun i s k hi => ?_) hr p11) hlt)
  cases i with
  | zero =>
    simp [πs] at hi
    obtain ⟨rfl, rfl⟩ := hi
    rw [jY]
    simp [updρ]
  | succ i => simp [πs] at hi
end
end Go.Proofs.YtnafokinifbfhaaGreatDoor
