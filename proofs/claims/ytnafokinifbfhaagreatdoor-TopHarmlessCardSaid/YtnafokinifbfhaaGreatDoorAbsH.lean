/- Functions of the abstract machine: what a call comes to, by values without addresses; conditions: none. | Functions of the abstract machine: how a walk of a body gives a call's law, and how a call's law serves in a walk; conditions: none. | Functions of the abstract machine: a call's law out of a walk of the body; a call in a walk; conditions: none. | Calls as operations of the abstract machine; conditions: none. -/
import Derived.Test.YtnafokinifbfhaaGreatDoorAbsE
set_option linter.unusedVariables false
set_option linter.unusedSimpArgs false
namespace Go.Proofs.YtnafokinifbfhaaGreatDoor
open Go Go.RowKit
def ptrV (g : Nat) : Value := .pointer (some ⟨g, 0, none⟩)
def refρ (gs : List Nat) : Nat → Nat → Option Value := fun s k => if k = 0 ∧ refB ≤ s then (gs[s - refB]?).map fun g => .pointer (some ⟨g, 0, none⟩) else none
theorem bM {gs : List Nat} {i g : Nat} (h : gs[i]? = some g) : refρ gs (refB + i) 0 = some (.pointer (some ⟨g, 0, none⟩)) := by
  unfold refρ
  rw [if_pos ⟨rfl, by omega⟩, show refB + i - refB = i by omega, h]; rfl
/-- A value of a call's border and the same value in a frame: pointers to boxes have other names there. -/
inductive Ren (B : Nat → Nat → Nat → List AV → Prop) (π : Nat → Option (Nat × Nat)) : AV → AV → Prop where
  | v (x : Value) : Ren B π (.v x) (.v x)
  | sl (sz : Nat) (L : List AV) : Ren B π (.sl sz L) (.sl sz L)
  | ep (cs : List AV) : Ren B π (.ep cs) (.ep cs)
  | junk (y : AV) : Ren B π .junk y
  | ptr (i s k off : Nat) (h : π i = some (s, k)) : Ren B π (.ptr (refB + i) 0 off) (.ptr s k off)
  | own (s k sz : Nat) (L : List AV) (h : B s k sz L) : Ren B π (.sl sz L) (.own s k)
  | bs (i s k sz len : Nat) (h : π i = some (s, k)) : Ren B π (.bs (refB + i) 0 sz len) (.bs s k sz len)
  | nil (sz : Nat) : Ren B π (.sl sz []) (.v (.slice none 0 0))
  | ownr (i s k : Nat) (h : π i = some (s, k)) : Ren B π (.own (refB + i) 0) (.own s k)
  | ag (cs cs' : List AV) (hl : cs.length = cs'.length) (h : ∀ (j : Nat) (x y : AV), cs[j]? = some x → cs'[j]? = some y → Ren B π x y) : Ren B π (.ag cs) (.ag cs')
  | tu (cs cs' : List AV) (hl : cs.length = cs'.length) (h : ∀ (j : Nat) (x y : AV), cs[j]? = some x → cs'[j]? = some y → Ren B π x y) : Ren B π (.tu cs) (.tu cs')
  | fn (f : FuncId) (cs cs' : List AV) (hl : cs.length = cs'.length) (h : ∀ (j : Nat) (x y : AV), cs[j]? = some x → cs'[j]? = some y → Ren B π x y) : Ren B π (.fn f cs) (.fn f cs')
def RenL (B : Nat → Nat → Nat → List AV → Prop) (π : Nat → Option (Nat × Nat)) : List AV → List AV → Prop
  | [], [] => True
  | x :: xs, y :: ys => Ren B π x y ∧ RenL B π xs ys
  | _, _ => False
theorem RenL.spec {B : Nat → Nat → Nat → List AV → Prop} {π : Nat → Option (Nat × Nat)} : ∀ {cs cs' : List AV}, RenL B π cs cs' → cs.length = cs'.length ∧ ∀ (j : Nat) (x y : AV), cs[j]? = some x → cs'[j]? = some y → Ren B π x y
  | [], [], _ => ⟨rfl, fun j x y h => by simp at h⟩
  | x :: xs, y :: ys, h => by
    obtain ⟨h1, h2⟩ := RenL.spec h.2
    refine ⟨by simp [h1], fun j a b ha hb => ?_⟩
    cases j with
    | zero => simp at ha hb; subst ha; subst hb; exact h.1
    | succ j => exact h2 j a b (by simpa using ha) (by simpa using hb)
  | [], y :: ys, h => h.elim
  | x :: xs, [], h => h.elim
theorem zO {B : Nat → Nat → Nat → List AV → Prop} {π : Nat → Option (Nat × Nat)} {cs cs' : List AV} (h : RenL B π cs cs') : Ren B π (.ag cs) (.ag cs') := .ag _ _ h.spec.1 h.spec.2
theorem zf {B : Nat → Nat → Nat → List AV → Prop} {π : Nat → Option (Nat × Nat)} {cs cs' : List AV} (h : RenL B π cs cs') : Ren B π (.tu cs) (.tu cs') := .tu _ _ h.spec.1 h.spec.2
theorem yJ {B : Nat → Nat → Nat → List AV → Prop} {π : Nat → Option (Nat × Nat)} {cs cs' : List AV} {f : FuncId} (h : RenL B π cs cs') : Ren B π (.fn f cs) (.fn f cs') := .fn f _ _ h.spec.1 h.spec.2
def noB : Nat → Nat → Nat → List AV → Prop := fun _ _ _ _ => False
section
variable {M : Nat → Option (Array Value)} {B : Nat → Nat → Nat → List AV → Prop} {π : Nat → Option (Nat × Nat)} {ρ ρb : Nat → Nat → Option Value}
/-- From the frame to the border. -/
theorem Ren.out {M' : Nat → Option (Array Value)} (hπ : ∀ i s k, π i = some (s, k) → ρb (refB + i) 0 = ρ s k) (hM : ∀ g a, M g = some a → M' g = some a) (hB : ∀ s k sz L u, B s k sz L → Rep M ρ (.own s k) u → Rep M' ρb (.sl sz L) u) {x y : AV} (h : Ren B π x y) : ∀ {u : Value}, Rep M ρ y u → Rep M' ρb x u := by
  induction h with
  | v x => intro u h; cases h; exact .v _ _
  | sl sz L => intro u h; cases h with | sl _ _ _ A c us h1 h2 h3 h4 => exact .sl _ _ _ A c us h1 h2 (fun k x j y a b => (h3 k x j y a b).mono' hM (fun _ _ _ e => e)) (fun k x a => by
      obtain ⟨e1, b, o, arr, e2, e3, e4⟩ := h4 k x a
      exact ⟨e1, b, o, arr, e2, hM _ _ e3, e4⟩)
  | ep cs => intro u h; cases h with | ep _ _ b o arr us h1 h2 h3 => exact .ep _ _ b o arr us (hM _ _ h1) h2 (fun j x a => (h3 j x a).mono' hM (fun _ _ _ e => e))
  | junk y => intro u h; exact .junk _ _
  | ptr i s k off hi =>
    intro u h
    obtain ⟨g, h1, rfl⟩ := h.ptr_inv
    exact .ptr _ _ _ _ g ((hπ i s k hi).trans h1)
  | own s k sz L hb => intro u h; exact hB s k sz L u hb h
  | bs i s k sz len hi =>
    intro u h
    cases h with
    | bs _ _ _ _ _ g c h1 hc hm => exact .bs _ _ _ _ _ g c ((hπ i s k hi).trans h1) hc hm
  | nil sz => intro u h; cases h; exact .sl _ sz [] none 0 (fun _ _ => undef) (by simp) (by simp) (by simp) (by simp)
  | ownr i s k hi =>
    intro u h
    cases h with
    | own _ _ _ _ h1 h2 => exact .own _ _ _ _ ((hπ i s k hi).trans h1) h2
  | ag cs cs' hl _ ih =>
    intro u h
    obtain ⟨vs, rfl, h1, h2⟩ := h.ag_inv
    refine .ag _ _ vs (by omega) fun j x u a b => ?_
    obtain ⟨y, hy⟩ := zB (L := cs') (k := j) (by have := zM b; omega)
    exact ih j x y a hy (h2 j y u hy b)
  | tu cs cs' hl _ ih =>
    intro u h
    obtain ⟨vs, rfl, h1, h2⟩ := h.tu_inv
    refine .tu _ _ vs (by omega) fun j x u a b => ?_
    obtain ⟨y, hy⟩ := zB (L := cs') (k := j) (by have := zM b; omega)
    exact ih j x y a hy (h2 j y u hy b)
  | fn f cs cs' hl _ ih =>
    intro u h
    cases h with
    | fn _ _ _ vs h1 h2 =>
      refine .fn _ f _ vs (by omega) fun j x u a b => ?_
      obtain ⟨y, hy⟩ := zB (L := cs') (k := j) (by have := zM b; omega)
      exact ih j x y a hy (h2 j y u hy b)
end
/-- From the border to the frame: nothing is forgotten on this way. -/
inductive RenB (π : Nat → Option (Nat × Nat)) : AV → AV → Prop where
  | v (x : Value) : RenB π (.v x) (.v x)
  | sl (sz : Nat) (L : List AV) : RenB π (.sl sz L) (.sl sz L)
  | ep (cs : List AV) : RenB π (.ep cs) (.ep cs)
  | junk (x : AV) : RenB π x .junk
  | ptr (i s k off : Nat) (h : π i = some (s, k)) : RenB π (.ptr (refB + i) 0 off) (.ptr s k off)
  | own (i s k : Nat) (h : π i = some (s, k)) : RenB π (.own (refB + i) 0) (.own s k)
  | ag (cs cs' : List AV) (hl : cs.length = cs'.length) (h : ∀ (j : Nat) (x y : AV), cs[j]? = some x → cs'[j]? = some y → RenB π x y) : RenB π (.ag cs) (.ag cs')
  | tu (cs cs' : List AV) (hl : cs.length = cs'.length) (h : ∀ (j : Nat) (x y : AV), cs[j]? = some x → cs'[j]? = some y → RenB π x y) : RenB π (.tu cs) (.tu cs')
  | fn (f : FuncId) (cs cs' : List AV) (hl : cs.length = cs'.length) (h : ∀ (j : Nat) (x y : AV), cs[j]? = some x → cs'[j]? = some y → RenB π x y) : RenB π (.fn f cs) (.fn f cs')
def bC (π : Nat → Option (Nat × Nat)) : List AV → List AV → Prop
  | [], [] => True
  | x :: xs, y :: ys => RenB π x y ∧ bC π xs ys
  | _, _ => False
theorem bC.spec {π : Nat → Option (Nat × Nat)} : ∀ {cs cs' : List AV}, bC π cs cs' → cs.length = cs'.length ∧ ∀ (j : Nat) (x y : AV), cs[j]? = some x → cs'[j]? = some y → RenB π x y
  | [], [], _ => ⟨rfl, fun j x y h => by simp at h⟩
  | x :: xs, y :: ys, h => by
    obtain ⟨h1, h2⟩ := bC.spec h.2
    refine ⟨by simp [h1], fun j a b ha hb => ?_⟩
    cases j with
    | zero => simp at ha hb; subst ha; subst hb; exact h.1
    | succ j => exact h2 j a b (by simpa using ha) (by simpa using hb)
  | [], y :: ys, h => h.elim
  | x :: xs, [], h => h.elim
theorem gB {π : Nat → Option (Nat × Nat)} {cs cs' : List AV} (h : bC π cs cs') : RenB π (.ag cs) (.ag cs') := .ag _ _ h.spec.1 h.spec.2
theorem zZ {π : Nat → Option (Nat × Nat)} {cs cs' : List AV} (h : bC π cs cs') : RenB π (.tu cs) (.tu cs') := .tu _ _ h.spec.1 h.spec.2
section
variable {M : Nat → Option (Array Value)} {π : Nat → Option (Nat × Nat)} {ρ ρb : Nat → Nat → Option Value}
theorem RenB.back (hπ : ∀ i s k, π i = some (s, k) → ρb (refB + i) 0 = ρ s k) {x y : AV} (h : RenB π x y) : ∀ {u : Value}, Rep M ρb x u → Rep M ρ y u := by
  induction h with
  | v x => intro u h; cases h; exact .v _ _
  | sl sz L => intro u h; cases h with | sl _ _ _ A c us h1 h2 h3 h4 => exact .sl _ _ _ A c us h1 h2 h3 h4
  | ep cs => intro u h; cases h with | ep _ _ b o arr us h1 h2 h3 => exact .ep _ _ b o arr us h1 h2 h3
  | junk y => intro u h; exact .junk _ _
  | ptr i s k off hi =>
    intro u h
    obtain ⟨g, h1, rfl⟩ := h.ptr_inv
    exact .ptr _ _ _ _ g ((hπ i s k hi).symm.trans h1)
  | own i s k hi =>
    intro u h
    cases h with
    | own _ _ _ _ h1 h2 => exact .own _ _ _ _ ((hπ i s k hi).symm.trans h1) h2
  | ag cs cs' hl _ ih =>
    intro u h
    obtain ⟨vs, rfl, h1, h2⟩ := h.ag_inv
    refine .ag _ _ vs (by omega) fun j y u a b => ?_
    obtain ⟨x, hx⟩ := zB (L := cs) (k := j) (by have := zM b; omega)
    exact ih j x y hx a (h2 j x u hx b)
  | tu cs cs' hl _ ih =>
    intro u h
    obtain ⟨vs, rfl, h1, h2⟩ := h.tu_inv
    refine .tu _ _ vs (by omega) fun j y u a b => ?_
    obtain ⟨x, hx⟩ := zB (L := cs) (k := j) (by have := zM b; omega)
    exact ih j x y hx a (h2 j x u hx b)
  | fn f cs cs' hl _ ih =>
    intro u h
    cases h with
    | fn _ _ _ vs h1 h2 =>
      refine .fn _ f _ vs (by omega) fun j y u a b => ?_
      obtain ⟨x, hx⟩ := zB (L := cs) (k := j) (by have := zM b; omega)
      exact ih j x y hx a (h2 j x u hx b)
end
def aM (M : Nat → Option (Array Value)) (w : World) : Prop := ∀ g arr, M g = some arr → ∃ t fr, w.heap[g]? = some (.cells arr t fr)
structure Refs (M : Nat → Option (Array Value)) (ρ : Nat → Nat → Option Value) (w : World) (gs : List Nat) (cs : List (List AV)) : Prop where
  len : gs.length = cs.length
  at_ : ∀ (i g : Nat) (c : List AV), gs[i]? = some g → cs[i]? = some c → M g = none ∧ ∃ t us, w.heap[g]? = some (.cells ⟨us⟩ t (0, 0)) ∧ us.length = c.length ∧ ∀ (j : Nat) (x : AV) (u : Value), c[j]? = some x → us[j]? = some u → Rep M ρ x u
def qK (P : Program) (f : FuncId) : Prop := ∀ args w, (callFunc f args).run P w = .ok (.enter f args) w
def nL (M : Nat → Option (Array Value)) (w : World) (gs : List Nat) (r : AV) (refs' : List (List AV)) (e : Ending) (w' : World) : Prop :=
  ∃ u M' gs', e = .returned u ∧ (∀ g a, M g = some a → M' g = some a) ∧ aM M' w' ∧ w'.os = w.os ∧ w'.tape = w.tape ∧ w'.output = w.output ∧ w.heap.size ≤ w'.heap.size ∧ (∀ g, g < w.heap.size → g ∉ gs → w'.heap[g]? = w.heap[g]?) ∧
    (∀ g, g < w.heap.size → M g = none → M' g = none) ∧ (gs ++ gs').Nodup ∧ (∀ g, g ∈ gs' → w.heap.size ≤ g) ∧ Refs M' (refρ (gs ++ gs')) w' (gs ++ gs') refs' ∧ Rep M' (refρ (gs ++ gs')) r u
def zJ (P : Program) (G : Nat → Option (List Value)) (f : FuncId) (args : List AV) (refs : List (List AV)) (r : AV) (refs' : List (List AV)) : Prop :=
  qK P f ∧ ∀ M w gs (vs : List Value), aM M w → (∀ g us, G g = some us → M g = some ⟨us⟩) → gs.Nodup → Refs M (refρ gs) w gs refs → vs.length = args.length →
    (∀ (j : Nat) (x : AV) (u : Value), args[j]? = some x → vs[j]? = some u → Rep M (refρ gs) x u) → Calls P f ⟨vs⟩ w (nL M w gs r refs')
def nth : List AV → Nat → AV
  | [], _ => .junk
  | x :: _, 0 => x
  | _ :: l, n + 1 => nth l n
theorem xV : ∀ (l : List AV) (n : Nat), nth l n = (l[n]?).getD .junk
  | [], n => rfl
  | x :: l, 0 => rfl
  | x :: l, n + 1 => by rw [nth, xV l n]; simp
def nthC : List (List AV) → Nat → Cont
  | [], _ => .dead
  | c :: _, 0 => .box c
  | _ :: l, n + 1 => nthC l n
theorem nthC_eq : ∀ (l : List (List AV)) (n : Nat), nthC l n = match l[n]? with | some c => .box c | none => .dead
  | [], n => rfl
  | x :: l, 0 => rfl
  | x :: l, n + 1 => by rw [nthC, nthC_eq l n]; simp
def dR (args : List AV) (refs : List (List AV)) : AS := ⟨nth args, fun s => ⟨0, bif Nat.ble refB s then nthC refs (s - refB) else .dead⟩⟩
theorem fY {args : List AV} {refs : List (List AV)} {s k : Nat} {c : Cont} (h : (dR args refs).H s = ⟨k, c⟩) (hc : c ≠ .dead) : k = 0 ∧ ∃ i cs, s = refB + i ∧ refs[i]? = some cs ∧ c = .box cs := by
  unfold dR at h
  simp only [HC.mk.injEq] at h
  obtain ⟨rfl, h⟩ := h
  refine ⟨rfl, ?_⟩
  cases hb : Nat.ble refB s
  · rw [hb] at h; exact absurd h.symm hc
  · rw [hb, cond_true, nthC_eq] at h
    have hle := Nat.le_of_ble_eq_true hb
    cases hr : refs[s - refB]? with
    | none => rw [hr] at h; exact absurd h.symm hc
    | some cs => rw [hr] at h; exact ⟨s - refB, cs, by omega, hr, h.symm⟩
theorem nT {l : List Nat} (hn : l.Nodup) {i j g : Nat} (hi : l[i]? = some g) (hj : l[j]? = some g) : i = j := by
  have h := List.pairwise_iff_getElem.1 hn
  obtain ⟨h1, h2⟩ := List.getElem?_eq_some_iff.1 hi
  obtain ⟨h3, h4⟩ := List.getElem?_eq_some_iff.1 hj
  rcases Nat.lt_trichotomy i j with h' | h' | h'
  · exact absurd (h2.trans h4.symm) (h i j h1 h3 h')
  · exact h'
  · exact absurd (h4.trans h2.symm) (h j i h3 h1 h')
theorem tF {M : Nat → Option (Array Value)} {w : World} {gs : List Nat} {G : Nat → Option (List Value)} {args : List AV} {refs : List (List AV)} {vs : List Value} {n : Nat} (hl : aM M w) (hG : ∀ g us, G g = some us → M g = some ⟨us⟩) (hn : gs.Nodup) (hr : Refs M (refρ gs) w gs refs)
    (hv : vs.length = args.length) (hrep : ∀ (j : Nat) (x : AV) (u : Value), args[j]? = some x → vs[j]? = some u → Rep M (refρ gs) x u) (hle : args.length ≤ n) :
    Rel ⟨w, gs, gs.map ptrV, G, M⟩ n M (refρ gs) (dR args refs) { tmps := (⟨vs⟩ : Array Value) ++ Array.replicate (n - (⟨vs⟩ : Array Value).size) undef, defers := [] } w := by
  have hblk : ∀ s g, zI (refρ gs) s ((dR args refs).H s) = some g → ∃ i, s = refB + i ∧ gs[i]? = some g := by
    intro s g h
    unfold zI at h
    cases hc : (dR args refs).H s with
    | mk k c =>
      rw [hc] at h
      cases c with
      | dead => simp at h
      | box cs =>
        obtain ⟨rfl, i, cs', rfl, hi, _⟩ := fY hc (by simp)
        obtain ⟨g', hg'⟩ := zB (L := gs) (k := i) (by rw [hr.len]; exact zM hi)
        simp [bM hg', vblk] at h
        subst h
        exact ⟨i, rfl, hg'⟩
      | buf e sz L =>
        obtain ⟨_, _, _, _, _, hx⟩ := fY hc (by simp)
        cases hx
      | ob L =>
        obtain ⟨_, _, _, _, _, hx⟩ := fY hc (by simp)
        cases hx
  refine ⟨hl, by simp; omega, fun i => ?_, fun s k cs h => ?_, fun s k e sz L h => ?_, fun s s' g h1 h2 => ?_, fun s k hk => ?_, hG, fun _ _ _ => rfl, fun i v e => by
    rw [List.getElem?_map] at e
    cases hg : gs[i]? with
    | none => rw [hg] at e; cases e
    | some g => rw [hg] at e; injection e with e; rw [← e]; exact bM hg, rfl, rfl, rfl, Nat.le_refl _, fun _ _ _ => rfl, rfl, fun s k L h => by
    obtain ⟨_, _, _, _, _, hx⟩ := fY h (by simp)
    cases hx⟩
  · show Rep M (refρ gs) (nth args i) _
    rw [xV]
    cases ha : args[i]? with
    | none => exact .junk _ _
    | some x =>
      obtain ⟨u, hu⟩ := zB (L := vs) (k := i) (by rw [hv]; exact zM ha)
      have hlt := zM hu
      have : (((⟨vs⟩ : Array Value) ++ Array.replicate (n - (⟨vs⟩ : Array Value).size) undef).getD i undef) = u := by
        rw [Array.getD_eq_getD_getElem?, Array.getElem?_append_left (by simpa using hlt)]
        simp [hu]
      rw [this]
      exact hrep i x u ha hu
  · obtain ⟨rfl, i, cs', rfl, hi, hx⟩ := fY h (by simp)
    injection hx with hx
    subst hx
    obtain ⟨g', hg'⟩ := zB (L := gs) (k := i) (by rw [hr.len]; exact zM hi)
    obtain ⟨h1, t, us, h2, h3, h4⟩ := hr.at_ i g' cs hg' hi
    exact ⟨g', t, us, bM hg', h2, h1, .inr (List.mem_of_getElem? hg'), h3, h4⟩
  · obtain ⟨_, _, _, _, _, hx⟩ := fY h (by simp)
    cases hx
  · obtain ⟨i, rfl, hi⟩ := hblk s g h1
    obtain ⟨j, rfl, hj⟩ := hblk s' g h2
    have : i = j := by
      exact nT hn hi hj
    rw [this]
  · have : ((dR args refs).H s).k = 0 := rfl
    rw [this] at hk
    unfold refρ
    rw [if_neg (by omega)]
end Go.Proofs.YtnafokinifbfhaaGreatDoor
namespace Go.Proofs.YtnafokinifbfhaaGreatDoor
open Go Go.RowKit
inductive ResV (TB : Tabs) (σ : AS) : ResultVar → AV → Prop where
  | tmp (t : Nat) : ResV TB σ (.tmp t) (σ.T t)
  | agg (p ty s k m : Nat) (cs : List AV) (hT : σ.T p = .ptr s k 0) (hH : σ.H s = ⟨k, .box cs⟩) (ht : lk TB.ty ty = some (true, m)) (hl : cs.length = m) : ResV TB σ (.cell p ty) (.ag cs)
  | one (p ty s k m : Nat) (x : AV) (cs : List AV) (hT : σ.T p = .ptr s k 0) (hH : σ.H s = ⟨k, .box (x :: cs)⟩) (ht : lk TB.ty ty = some (false, m)) : ResV TB σ (.cell p ty) x
def ResL (TB : Tabs) (σ : AS) : List ResultVar → List AV → Prop
  | [], [] => True
  | r :: rs, x :: xs => ResV TB σ r x ∧ ResL TB σ rs xs
  | _, _ => False
def kW : List AV → AV
  | [x] => x
  | xs => .tu xs
section
variable {P : Program} {TB : Tabs} {X : Ctx} {n : Nat} {M : Nat → Option (Array Value)} {ρ : Nat → Nat → Option Value} {σ : AS} {a : Act} {w : World}
def resF (tmps : Array Value) : ResultVar → Sem Value
  | .tmp t => pure (tmps.getD t undef)
  | .cell b t => do loadVar t (← asAddr (tmps.getD b undef))
theorem resV_run (hTB : TabsOk P TB) (hR : Rel X n M ρ σ a w) {r : ResultVar} {x : AV} (h : ResV TB σ r x) :
    ∃ u, (resF a.tmps r).run P w = .ok u w ∧ Rep M ρ x u := by
  cases h with
  | tmp t => exact ⟨_, rfl, hR.tm t⟩
  | agg p ty s k m cs hT hH ht hl =>
    have h1 := hR.tm p
    rw [hT] at h1
    obtain ⟨g', e1, e2⟩ := h1.ptr_inv
    obtain ⟨g'', t', us, b1, b2, _, _, b5, b6⟩ := hR.box s k cs hH
    rw [e1] at b1
    obtain rfl : g' = g'' := by injection b1 with b1; injection b1 with b1; injection b1 with b1; injection b1
    obtain ⟨dd, u1, u2, u3⟩ := jX hTB ht
    refine ⟨.agg ⟨us⟩, ?_, .ag _ _ us b5 b6⟩
    have hr : w.rangeAt g' 0 us := jb b2 fun j u hu => by simpa using hu
    have := run_loadVar_mid (P := P) w g' 0 ty us dd hr u1 u2 (by rw [b5, hl]; exact u3)
    simp only [resF, e2, asAddr, Sem.run_bind, Sem.run_pure, Result.andThen_ok, this]
  | one p ty s k m _ cs hT hH ht =>
    have h1 := hR.tm p
    rw [hT] at h1
    obtain ⟨g', e1, e2⟩ := h1.ptr_inv
    obtain ⟨g'', t', us, b1, b2, _, _, b5, b6⟩ := hR.box s k _ hH
    rw [e1] at b1
    obtain rfl : g' = g'' := by injection b1 with b1; injection b1 with b1; injection b1 with b1; injection b1
    obtain ⟨u, hu⟩ := zB (L := us) (k := 0) (by simp at b5; omega)
    refine ⟨u, ?_, b6 0 x u rfl hu⟩
    have hc : w.cell? ⟨g', 0, none⟩ = some u := by rw [cell_of_row w g' 0 ⟨us⟩ t' (0, 0) b2]; simpa using hu
    simp only [resF, e2, asAddr, loadVar, Sem.run_bind, Sem.run_pure, Result.andThen_ok, qH hTB ht, Bool.false_eq_true, if_false, run_load, hc]
theorem vS (hTB : TabsOk P TB) (hR : Rel X n M ρ σ a w) : ∀ {rs : List ResultVar} {xs : List AV}, ResL TB σ rs xs →
    ∃ us : List Value, (rs.mapM (resF a.tmps)).run P w = .ok us w ∧ us.length = xs.length ∧
      ∀ (j : Nat) (x : AV) (u : Value), xs[j]? = some x → us[j]? = some u → Rep M ρ x u
  | [], [], _ => ⟨[], by simp, rfl, by simp⟩
  | r :: rs, x :: xs, h => by
    obtain ⟨u, h1, h2⟩ := resV_run hTB hR h.1
    obtain ⟨us, h3, h4, h5⟩ := vS hTB hR h.2
    refine ⟨u :: us, ?_, by simp [h4], fun j y z ha hb => ?_⟩
    · rw [List.mapM_cons, Sem.run_bind, h1, Result.andThen_ok, Sem.run_bind, h3, Result.andThen_ok, Sem.run_pure]
    · cases j with
      | zero => simp at ha hb; subst ha; subst hb; exact h2
      | succ j => exact h5 j y z (by simpa using ha) (by simpa using hb)
  | [], x :: xs, h => h.elim
  | r :: rs, [], h => h.elim
theorem tH (hTB : TabsOk P TB) (hR : Rel X n M ρ σ a w) {fn : Func} {xs : List AV} (h : ResL TB σ fn.results.toList xs) : ∃ u, (results fn a.tmps).run P w = .ok u w ∧ Rep M ρ (kW xs) u := by
  obtain ⟨us, h1, h2, h3⟩ := vS hTB hR h
  have e : results fn a.tmps = (do let vs ← fn.results.mapM (resF a.tmps); pure (if h : vs.size = 1 then vs[0] else .tuple vs)) := rfl
  rw [e, Array.mapM_eq_mapM_toList]
  simp only [Sem.run_bind, map_eq_pure_bind, Sem.run_pure]
  rw [h1]
  simp only [Result.andThen_ok]
  match xs, us, h2, h3 with
  | [], [], _, _ => exact ⟨_, rfl, .tu _ _ [] rfl (by simp)⟩
  | [x], [u], _, h3 => exact ⟨u, rfl, h3 0 x u rfl rfl⟩
  | x :: y :: xs, u :: v :: us, h2, h3 => exact ⟨.tuple ⟨u :: v :: us⟩, by simp, .tu _ _ (u :: v :: us) h2 h3⟩
def bufs (σ : AS) : Nat → Nat → Nat → List AV → Prop := fun s k sz L => ∃ e, σ.H s = ⟨k, .buf e sz L⟩
def yg (m : Nat) (fs : List (Nat × Nat)) : Nat → Option (Nat × Nat) := fun i => if i < m then some (refB + i, 0) else fs[i - m]?
def uI (σ : AS) (π : Nat → Option (Nat × Nat)) : Nat → List (List AV) → Prop
  | _, [] => True
  | i, c :: cs => (∃ s k c', π i = some (s, k) ∧ σ.H s = ⟨k, .box c'⟩ ∧ RenL (bufs σ) π c c') ∧ uI σ π (i + 1) cs
def RetQ (TB : Tabs) (fn : Func) (m : Nat) (r : AV) (refs' : List (List AV)) (e : Exit) (σ : AS) : Prop :=
  (e = .normal ∨ e = .ret) ∧ ∃ xs fs, ResL TB σ fn.results.toList xs ∧ refs'.length = m + fs.length ∧ (fs.map (·.1)).Nodup ∧ (∀ p ∈ fs, p.1 < refB) ∧ Ren (bufs σ) (yg m fs) r (kW xs) ∧ uI σ (yg m fs) 0 refs'
theorem nO {π : Nat → Option (Nat × Nat)} : ∀ {cs : List (List AV)} {i : Nat}, uI σ π i cs → ∀ {j : Nat} {c : List AV}, cs[j]? = some c → ∃ s k c', π (i + j) = some (s, k) ∧ σ.H s = ⟨k, .box c'⟩ ∧ RenL (bufs σ) π c c'
  | c0 :: cs, i, h, 0, c, hc => by simp at hc; subst hc; exact h.1
  | c0 :: cs, i, h, j + 1, c, hc => by
    have := nO h.2 (j := j) (by simpa using hc)
    rwa [show i + 1 + j = i + (j + 1) by omega] at this
/-- Memory that stays, with what the frame has built laid to it. -/
noncomputable def addBufs (M : Nat → Option (Array Value)) (ρ : Nat → Nat → Option Value) (σ : AS) (w : World) : Nat → Option (Array Value) := fun g =>
  match M g with
  | some arr => some arr
  | none => open Classical in if ∃ s k e sz L u, σ.H s = ⟨k, .buf e sz L⟩ ∧ ρ s k = some u ∧ vblk u = some g then (match w.heap[g]? with | some (.cells arr _ _) => some arr | _ => none) else none
theorem cU {g : Nat} {arr : Array Value} (h : M g = some arr) : addBufs M ρ σ w g = some arr := by unfold addBufs; rw [h]
theorem kL {g : Nat} (h : M g = none) (hn : ∀ s k e sz L u, σ.H s = ⟨k, .buf e sz L⟩ → ρ s k = some u → vblk u ≠ some g) : addBufs M ρ σ w g = none := by
  unfold addBufs
  rw [h]
  simp only
  rw [if_neg]
  rintro ⟨s, k, e, sz, L, u, h1, h2, h3⟩
  exact hn s k e sz L u h1 h2 h3
theorem uN (hR : Rel X n M ρ σ a w) : aM (addBufs M ρ σ w) w := by
  intro g arr h
  unfold addBufs at h
  cases hm : M g with
  | some b => rw [hm] at h; injection h with h; subst h; exact hR.live g b hm
  | none =>
    rw [hm] at h
    simp only at h
    split at h
    · split at h
      · rename_i c t fr hh; injection h with h; subst h; exact ⟨t, fr, hh⟩
      · cases h
    · cases h
theorem buf_at {M' : Nat → Option (Array Value)} {L : List AV} {us : List Value} {sz : Nat} (hsz : ∀ x ∈ L, x.cells.length = sz) : ∀ (k : Nat) (x : AV) (j : Nat) (y : AV), L[k]? = some x → x.cells[j]? = some y → (L.flatMap AV.cells)[k * sz + j]? = some y := by
  induction L with
  | nil => intro k x j y h; simp at h
  | cons z L ih =>
    intro k x j y h hy
    cases k with
    | zero =>
      simp at h
      subst h
      rw [List.flatMap_cons, Nat.zero_mul, Nat.zero_add, List.getElem?_append_left (zM hy)]
      exact hy
    | succ k =>
      rw [List.flatMap_cons, List.getElem?_append_right (by rw [hsz z (by simp), Nat.succ_mul]; omega), hsz z (by simp), show (k + 1) * sz + j - sz = k * sz + j by rw [Nat.succ_mul]; omega]
      exact ih (fun x hx => hsz x (by simp [hx])) k x j y (by simpa using h) hy
theorem yc {L : List AV} {sz : Nat} (hsz : ∀ x ∈ L, x.cells.length = sz) : (L.flatMap AV.cells).length = L.length * sz := by
  induction L with
  | nil => simp
  | cons x L ih => rw [List.flatMap_cons, List.length_append, ih (fun x hx => hsz x (by simp [hx])), hsz x (by simp), List.length_cons, Nat.succ_mul]; omega
/-- What the frame has built reads as a list where its block stays. -/
theorem own_sl {M' : Nat → Option (Array Value)} {ρ' : Nat → Nat → Option Value} {s k e sz : Nat} {L : List AV} {u : Value} (hb : eP X M ρ w s k e sz L) (hM : ∀ g a, M g = some a → M' g = some a)
    (hM' : ∀ v g t fr arr, ρ s k = some v → vblk v = some g → w.heap[g]? = some (.cells arr t fr) → M' g = some arr) (h : Rep M ρ (.own s k) u) : Rep M' ρ' (.sl sz L) u := by
  obtain ⟨v, us, h1, h2, h3, h4, h5, h6⟩ := hb
  cases h with
  | own _ _ _ u e1 e2 =>
    rw [h1] at e1
    injection e1 with e1
    subst e1
    rcases h2.1.2 with ⟨rfl, h0⟩ | ⟨g, cap, cur, rfl, hbase, hh, hcap, hmax, hsize, htake⟩
    · have : L = [] := List.eq_nil_of_length_eq_zero h0
      subst this
      exact .sl _ sz [] none 0 (fun _ _ => undef) (by simp) (by simp) (by simp) (by simp)
    · have hM2 := hM' _ g e (0, 0) cur h1 rfl hh
      have hlen := yc h5
      refine .sl _ sz L (some ⟨g, 0, none⟩) cap (fun k j => (us[k * sz + j]?).getD undef) hcap hmax (fun k x j y hx hy => ?_) (fun k x hx => ?_)
      · have hf := buf_at (M' := M') (us := us) h5 k x j y hx hy
        obtain ⟨z, hz⟩ := zB (L := us) (k := k * sz + j) (by rw [h4]; exact zM hf)
        rw [hz]
        exact (h6 _ y z hf hz).1.mono' hM (fun _ _ _ e => e)
      · refine ⟨h5 x (List.mem_of_getElem? hx), g, 0, cur, rfl, hM2, fun j hj => ?_⟩
        have hk := zM hx
        have hlt : k * sz + j < L.length * sz := by
          have : (k + 1) * sz ≤ L.length * sz := Nat.mul_le_mul_right _ hk
          rw [Nat.succ_mul] at this
          omega
        have hj' : us[k * sz + j]? = cur[k * sz + j]? := by
          rw [← htake, List.getElem?_take_of_lt hlt]
          simp
        rw [Nat.zero_add, ← hj']
        obtain ⟨z, hz⟩ := zB (L := us) (k := k * sz + j) (by rw [h4, hlen]; exact hlt)
        rw [hz]; rfl
theorem getElem?_map_app {l l' : List Nat} {i : Nat} : (l ++ l')[i]? = if i < l.length then l[i]? else l'[i - l.length]? := by
  split
  · rename_i h; exact List.getElem?_append_left h
  · rename_i h; exact List.getElem?_append_right (by omega)
theorem sW {G : Nat → Option (List Value)} {w0 : World} {gs : List Nat} {M0 : Nat → Option (Array Value)} {fn : Func} {r : AV} {refs' : List (List AV)} {e : Exit} (hTB : TabsOk P TB) (hgs : gs.Nodup) (hlive : aM M0 w0) (hnone : ∀ g ∈ gs, M0 g = none)
    (hR : Rel ⟨w0, gs, gs.map ptrV, G, M0⟩ n M ρ σ a w) (hQ : RetQ TB fn gs.length r refs' e σ) :
    bodyPost P fn (nL M0 w0 gs r refs') e a w := by
  obtain ⟨he, xs, fs, h1, h2, h3, h4, h5, h6⟩ := hQ
  obtain ⟨u, hu, hru⟩ := tH hTB hR h1
  have hout : ∀ i c, refs'[i]? = some c → ∃ s k c', yg gs.length fs i = some (s, k) ∧ σ.H s = ⟨k, .box c'⟩ ∧ RenL (bufs σ) (yg gs.length fs) c c' := fun i c hc => by
    have := nO h6 hc
    rwa [Nat.zero_add] at this
  -- the blocks of the boxes handed on
  have hblk : ∀ i s k, yg gs.length fs i = some (s, k) → i < refs'.length → ∃ g c', σ.H s = ⟨k, .box c'⟩ ∧ ρ s k = some (.pointer (some ⟨g, 0, none⟩)) ∧ zI ρ s (σ.H s) = some g := fun i s k hi hlt => by
    obtain ⟨c, hc⟩ := zB hlt
    obtain ⟨s', k', c', e1, e2, e3⟩ := hout i c hc
    rw [hi] at e1
    injection e1 with e1
    injection e1 with ea eb
    subst ea; subst eb
    obtain ⟨g, t, us, b1, _⟩ := hR.box _ _ _ e2
    exact ⟨g, c', e2, b1, by rw [e2]; simp [zI, b1, vblk]⟩
  let gof : Nat × Nat → Nat := fun p => ((ρ p.1 p.2).bind vblk).getD 0
  let gs' := fs.map gof
  have hgof : ∀ p ∈ fs, zI ρ p.1 (σ.H p.1) = some (gof p) ∧ ρ p.1 p.2 = some (.pointer (some ⟨gof p, 0, none⟩)) ∧ ∃ c', σ.H p.1 = ⟨p.2, .box c'⟩ := fun p hp => by
    obtain ⟨i, hi⟩ := List.getElem?_of_mem hp
    have hlt := zM hi
    obtain ⟨g, c', e1, e2, e3⟩ := hblk (gs.length + i) p.1 p.2 (by unfold yg; rw [if_neg (by omega), show gs.length + i - gs.length = i by omega, hi]) (by omega)
    have : gof p = g := by simp [gof, e2, vblk]
    rw [this]
    exact ⟨e3, e2, c', e1⟩
  have hgsb : ∀ i g, gs[i]? = some g → zI ρ (refB + i) (σ.H (refB + i)) = some g ∧ ρ (refB + i) 0 = some (.pointer (some ⟨g, 0, none⟩)) := fun i g hg => by
    have hlt := zM hg
    obtain ⟨g', c', e1, e2, e3⟩ := hblk i (refB + i) 0 (by unfold yg; rw [if_pos hlt]) (by omega)
    have := hR.root i (ptrV g) (by simp [hg])
    unfold ptrV at this
    rw [e2] at this
    injection this with this
    injection this with this
    injection this with this
    injection this with this
    subst this
    exact ⟨e3, e2⟩
  have hnew : ∀ g ∈ gs', w0.heap.size ≤ g ∧ g ∉ gs := fun g hg => by
    obtain ⟨p, hp, rfl⟩ := List.mem_map.1 hg
    obtain ⟨e1, e2, c', e3⟩ := hgof p hp
    obtain ⟨g', t, us, b1, b2, b3, b4, _⟩ := hR.box _ _ _ e3
    rw [e2] at b1
    have hgg : gof p = g' := by injection b1 with b1; injection b1 with b1; injection b1 with b1; injection b1
    have hno : gof p ∉ gs := fun hin => by
      obtain ⟨i, hi⟩ := List.getElem?_of_mem hin
      have := hR.sep p.1 (refB + i) (gof p) e1 (hgsb i _ hi).1
      have := h4 p hp
      omega
    refine ⟨?_, hno⟩
    rcases b4 with b4 | b4
    · rw [hgg]; exact b4
    · rw [← hgg] at b4; exact absurd b4 hno
  have hnd : (gs ++ gs').Nodup := by
    rw [List.nodup_append]
    refine ⟨hgs, ?_, fun x hx y hy hxy => (hnew y hy).2 (hxy ▸ hx)⟩
    unfold List.Nodup at h3
    rw [List.pairwise_map] at h3
    unfold List.Nodup
    rw [List.pairwise_map]
    exact h3.imp_of_mem fun {p q} hp hq hpq he => hpq (hR.sep p.1 q.1 (gof p) (hgof p hp).1 (by rw [he]; exact (hgof q hq).1))
  have hπ : ∀ i s k, yg gs.length fs i = some (s, k) → refρ (gs ++ gs') (refB + i) 0 = ρ s k := fun i s k hi => by
    unfold yg at hi
    split at hi
    · rename_i hlt
      injection hi with hi
      injection hi with ea eb
      subst ea; subst eb
      obtain ⟨g, hg⟩ := zB hlt
      rw [bM (g := g) (by rw [getElem?_map_app, if_pos hlt]; exact hg), (hgsb i g hg).2]
    · rename_i hlt
      have hm : (s, k) ∈ fs := List.mem_of_getElem? hi
      rw [bM (g := gof (s, k)) (by rw [getElem?_map_app, if_neg hlt]; simp [gs', hi]), (hgof _ hm).2.1]
  have hnb : ∀ g s, zI ρ s (σ.H s) = some g → (∃ k c, σ.H s = ⟨k, .box c⟩) → addBufs M ρ σ w g = none := fun g s hg hbx => by
    obtain ⟨k, c, hc⟩ := hbx
    refine kL (hR.blk_lt hg).2 fun s' k' e' sz L u' e1 e2 e3 => ?_
    have : s = s' := hR.sep s s' g hg (by rw [e1]; simp [zI, e2, e3])
    subst this
    rw [hc] at e1
    injection e1 with _ e1
    cases e1
  have hRen : ∀ {x y : AV} {z : Value}, Ren (bufs σ) (yg gs.length fs) x y → Rep M ρ y z → Rep (addBufs M ρ σ w) (refρ (gs ++ gs')) x z := fun hh hz =>
    Ren.out hπ (fun g a h => cU h) (fun s k sz L u ⟨e, he⟩ ho => own_sl (hR.buf s k e sz L he) (fun g a h => cU h) (fun v g t fr arr h1 h2 h3 => by
      unfold addBufs
      obtain ⟨v', us', b1, _, b3, _⟩ := hR.buf s k e sz L he
      rw [h1] at b1
      injection b1 with b1
      subst b1
      rw [b3 g h2]
      simp only
      rw [if_pos ⟨s, k, e, sz, L, _, he, h1, h2⟩, h3]) ho) hh hz
  have hpost : nL M0 w0 gs r refs' (.returned u) w := by
    have hM0 : ∀ g a, M0 g = some a → M g = some a := fun g a h => by
      obtain ⟨t, fr, hh⟩ := hlive g a h
      rw [hR.base g (Array.getElem?_eq_some_iff.1 hh).1 (fun hin => by rw [hnone g hin] at h; cases h)]; exact h
    refine ⟨u, addBufs M ρ σ w, gs', rfl, fun g a h => cU (hM0 g a h), uN hR, hR.os, hR.tape, hR.output, hR.size, hR.frame, fun g hg hn => ?_, hnd, fun g hg => (hnew g hg).1, ⟨by simp [gs', h2], fun i g c hg hc => ?_⟩, hRen h5 hru⟩
    · by_cases hgi : g ∈ gs
      · obtain ⟨i, hi⟩ := List.getElem?_of_mem hgi
        obtain ⟨g2, c2, f1, f2, f3⟩ := hblk i (refB + i) 0 (by unfold yg; rw [if_pos (zM hi)]) (by have := zM hi; omega)
        have hrt := hR.root i (ptrV g) (by simp [hi])
        unfold ptrV at hrt
        rw [f2] at hrt
        obtain rfl : g2 = g := by injection hrt with hrt; injection hrt with hrt; injection hrt with hrt; injection hrt
        exact hnb _ _ f3 ⟨_, _, f1⟩
      · refine kL (by rw [hR.base g hg hgi]; exact hn) fun s k e' sz L v e1 e2 e3 => ?_
        obtain ⟨v', us', b1, b2, _⟩ := hR.buf s k e' sz L e1
        rw [e2] at b1
        injection b1 with b1
        subst b1
        rcases b2.2 g e3 with h | h
        · exact absurd hg (Nat.not_lt.2 h)
        · exact hgi h
    · obtain ⟨s, k, c', e1, e2, e3⟩ := hout i c hc
      obtain ⟨g', t, us, b1, b2, b3, b4, b5, b6⟩ := hR.box s k c' e2
      have hp := hπ i s k e1
      rw [bM hg, b1] at hp
      obtain rfl : g = g' := by injection hp with hp; injection hp with hp; injection hp with hp; injection hp
      refine ⟨hnb g s (by rw [e2]; simp [zI, b1, vblk]) ⟨k, c', e2⟩, t, us, b2, by rw [b5]; exact e3.spec.1.symm, fun j x z hx hz => ?_⟩
      obtain ⟨y, hy⟩ := zB (L := c') (k := j) (by rw [← e3.spec.1]; exact zM hx)
      exact hRen (e3.spec.2 j x y hx hy) (b6 j y z hy hz)
  rcases he with rfl | rfl
  · exact ⟨hR.df, u, hu, hpost⟩
  · exact ⟨hR.df, u, hu, hpost⟩
end
end Go.Proofs.YtnafokinifbfhaaGreatDoor
namespace Go.Proofs.YtnafokinifbfhaaGreatDoor
open Go Go.RowKit
section
variable {P : Program} {TB : Tabs} {G : Nat → Option (List Value)} {f : FuncId} {args : List AV} {refs : List (List AV)} {r : AV} {refs' : List (List AV)}
theorem zE (hTB : TabsOk P TB) {fn : Func} {c : Code} (he : qK P f) (hf : P.funcs[f]? = some fn) (hb : fn.body = some c) (n : Nat) (hn : fn.ntmps = n) (hle : args.length ≤ n)
    (h : ∀ X : Ctx, X.G = G → AWp P X n c (RetQ TB fn refs.length r refs') (dR args refs)) : zJ P G f args refs r refs' := by
  refine ⟨he, fun M w gs vs hl hG hnd hr hv hrep => ?_⟩
  refine calls_of_wp hf hb ?_
  rw [hn]
  have hR := tF (n := n) hl hG hnd hr hv hrep hle
  refine wp_mono ((h ⟨w, gs, gs.map ptrV, G, M⟩ rfl).run M (refρ gs) _ w hR) ?_
  rintro e a' w' ⟨M', ρ', σ', hR', hQ⟩
  rw [← hr.len] at hQ
  exact sW hTB hnd hl (fun g hg => by
    obtain ⟨i, hi⟩ := List.getElem?_of_mem hg
    obtain ⟨c, hc⟩ := zB (L := refs) (k := i) (by rw [← hr.len]; exact zM hi)
    exact (hr.at_ i g c hi hc).1) hR' hQ
end
def hwOf (ss : List (Nat × Nat)) (cs : List (List AV)) : List (Nat × HC) := match ss, cs with
  | (s, k) :: ss, c :: cs => (s, ⟨k, .box c⟩) :: hwOf ss cs
  | _, _ => []
/-- The boxes that a call is given, and what they hold, as the frame knows them and as the call does. -/
def dK (σ : AS) (π : Nat → Option (Nat × Nat)) : List (Nat × Nat) → List (List AV) → Prop
  | [], [] => True
  | (s, k) :: ss, c :: cs => (∃ c', σ.H s = ⟨k, .box c'⟩ ∧ RenL noB π c c') ∧ dK σ π ss cs
  | _, _ => False
def bW (π : Nat → Option (Nat × Nat)) : List (List AV) → List (List AV) → Prop
  | [], [] => True
  | c :: cs, c' :: cs' => bC π c c' ∧ bW π cs cs'
  | _, _ => False
section
variable {P : Program} {X : Ctx} {n : Nat} {M : Nat → Option (Array Value)} {ρ : Nat → Nat → Option Value} {σ : AS} {a : Act} {w : World}
theorem rX {π : Nat → Option (Nat × Nat)} : ∀ {ss : List (Nat × Nat)} {cs : List (List AV)}, dK σ π ss cs → ss.length = cs.length ∧ ∀ (i : Nat) (p : Nat × Nat) (c : List AV), ss[i]? = some p → cs[i]? = some c → ∃ c', σ.H p.1 = ⟨p.2, .box c'⟩ ∧ RenL noB π c c'
  | [], [], _ => ⟨rfl, by simp⟩
  | (s, k) :: ss, c :: cs, h => by
    obtain ⟨h1, h2⟩ := rX h.2
    refine ⟨by simp [h1], fun i p c0 hp hc => ?_⟩
    cases i with
    | zero => simp at hp hc; subst hp; subst hc; exact h.1
    | succ i => exact h2 i p c0 (by simpa using hp) (by simpa using hc)
  | [], c :: cs, h => h.elim
  | p :: ss, [], h => h.elim
theorem bE {π : Nat → Option (Nat × Nat)} : ∀ {cs cs' : List (List AV)}, bW π cs cs' → cs.length = cs'.length ∧ ∀ (i : Nat) (c c' : List AV), cs[i]? = some c → cs'[i]? = some c' → bC π c c'
  | [], [], _ => ⟨rfl, by simp⟩
  | c :: cs, c' :: cs', h => by
    obtain ⟨h1, h2⟩ := bE h.2
    refine ⟨by simp [h1], fun i x y hx hy => ?_⟩
    cases i with
    | zero => simp at hx hy; subst hx; subst hy; exact h.1
    | succ i => exact h2 i x y (by simpa using hx) (by simpa using hy)
  | [], c :: cs, h => h.elim
  | p :: ss, [], h => h.elim
theorem hwOf_at : ∀ {ss : List (Nat × Nat)} {cs : List (List AV)} {σ : AS}, ss.length = cs.length → (ss.map (·.1)).Nodup → ∀ (i : Nat) (p : Nat × Nat) (c : List AV), ss[i]? = some p → cs[i]? = some c → (hups (hwOf ss cs) σ).H p.1 = ⟨p.2, .box c⟩
  | [], [], _, _, _, i, p, c, h, _ => by simp at h
  | (s, k) :: ss, c0 :: cs, σ, hl, hn, i, p, c, hp, hc => by
    rw [hwOf, hups]
    simp only [List.map_cons, List.nodup_cons] at hn
    cases i with
    | zero =>
      simp at hp hc
      subst hp; subst hc
      have : ∀ (ss : List (Nat × Nat)) (cs : List (List AV)) (τ : AS), s ∉ ss.map (·.1) → (hups (hwOf ss cs) τ).H s = τ.H s := by
        intro ss
        induction ss with
        | nil => intro cs τ _; cases cs <;> rfl
        | cons q ss ih =>
          intro cs τ hs
          obtain ⟨s', k'⟩ := q
          cases cs with
          | nil => rfl
          | cons c' cs =>
            rw [hwOf, hups, ih cs _ (by simp at hs ⊢; exact hs.2)]
            simp only [AS.hup]
            rw [zV (by simp at hs; exact hs.1)]; rfl
      rw [this ss cs _ hn.1]
      simp [AS.hup, Nat.beq_refl]
    | succ i => exact hwOf_at (by simpa using hl) hn.2 i p c (by simpa using hp) (by simpa using hc)
  | [], _ :: _, _, h, _, _, _, _, _, _ => by simp at h
  | _ :: _, [], _, h, _, _, _, _, _, _ => by simp at h
theorem cD : ∀ (ss : List (Nat × Nat)) (cs : List (List AV)) (τ : AS) (s : Nat), s ∉ ss.map (·.1) → (hups (hwOf ss cs) τ).H s = τ.H s
  | [], cs, τ, s, _ => by cases cs <;> rfl
  | (s', k') :: ss, [], τ, s, _ => rfl
  | (s', k') :: ss, c' :: cs, τ, s, hs => by
    rw [hwOf, hups, cD ss cs _ s (by simp at hs ⊢; exact hs.2)]
    simp only [AS.hup]
    rw [zV (by simp at hs; exact hs.1)]; rfl
/-- Behind a call that gives no new box. -/
theorem Rel.call (h : Rel X n M ρ σ a w) {ss : List (Nat × Nat)} {gs : List Nat} {cs' : List (List AV)} (hnd : (ss.map (·.1)).Nodup) (hlen : ss.length = cs'.length) (hl : gs.length = ss.length)
    (hgs : ∀ (i : Nat) (p : Nat × Nat) (g : Nat), ss[i]? = some p → gs[i]? = some g → ρ p.1 p.2 = some (.pointer (some ⟨g, 0, none⟩)) ∧ ∃ c, σ.H p.1 = ⟨p.2, .box c⟩)
    {M' : Nat → Option (Array Value)} {w' : World} (hM : ∀ g a, M g = some a → M' g = some a) (hl' : aM M' w') (h1 : w'.os = w.os) (h2 : w'.tape = w.tape) (h3 : w'.output = w.output) (h4 : w.heap.size ≤ w'.heap.size)
    (h5 : ∀ g, g < w.heap.size → g ∉ gs → w'.heap[g]? = w.heap[g]?) (h6 : ∀ g, g < w.heap.size → M g = none → M' g = none)
    (h7 : ∀ (i g : Nat) (c : List AV), gs[i]? = some g → cs'[i]? = some c → ∃ t us, w'.heap[g]? = some (.cells ⟨us⟩ t (0, 0)) ∧ us.length = c.length ∧ ∀ (j : Nat) (x : AV) (u : Value), c[j]? = some x → us[j]? = some u → Rep M' ρ x u) :
    Rel X n M' ρ (hups (hwOf ss cs') σ) a w' := by
  have hT : (hups (hwOf ss cs') σ).T = σ.T := qt _ _
  have hin : ∀ s, s ∈ ss.map (·.1) → ∃ (i : Nat) (p : Nat × Nat) (g : Nat) (c : List AV), ss[i]? = some p ∧ p.1 = s ∧ gs[i]? = some g ∧ cs'[i]? = some c ∧ ρ p.1 p.2 = some (.pointer (some ⟨g, 0, none⟩)) ∧ (hups (hwOf ss cs') σ).H s = ⟨p.2, .box c⟩ ∧ (∃ c0, σ.H p.1 = ⟨p.2, .box c0⟩) := fun s hs => by
    obtain ⟨p, hp, rfl⟩ := List.mem_map.1 hs
    obtain ⟨i, hi⟩ := List.getElem?_of_mem hp
    obtain ⟨g, hg⟩ := zB (L := gs) (k := i) (by rw [hl]; exact zM hi)
    obtain ⟨c, hc⟩ := zB (L := cs') (k := i) (by rw [← hlen]; exact zM hi)
    obtain ⟨e1, e2⟩ := hgs i p g hi hg
    exact ⟨i, p, g, c, hi, rfl, hg, hc, e1, hwOf_at hlen hnd i p c hi hc, e2⟩
  have hk : ∀ s, ((hups (hwOf ss cs') σ).H s).k = (σ.H s).k := fun s => by
    by_cases hs : s ∈ ss.map (·.1)
    · obtain ⟨i, p, g, c, e1, e2, e3, e4, e5, e6, c0, e7⟩ := hin s hs
      rw [e6]; subst e2; rw [e7]
    · rw [cD ss cs' σ s hs]
  have hb : ∀ s, zI ρ s ((hups (hwOf ss cs') σ).H s) = zI ρ s (σ.H s) := fun s => by
    by_cases hs : s ∈ ss.map (·.1)
    · obtain ⟨i, p, g, c, e1, e2, e3, e4, e5, e6, c0, e7⟩ := hin s hs
      rw [e6]; subst e2; rw [e7]; rfl
    · rw [cD ss cs' σ s hs]
  have hfar : ∀ s g, s ∉ ss.map (·.1) → zI ρ s (σ.H s) = some g → w'.heap[g]? = w.heap[g]? := fun s g hs hg => by
    refine h5 g (h.blk_lt hg).1 fun hin' => ?_
    obtain ⟨i, hi⟩ := List.getElem?_of_mem hin'
    obtain ⟨p, hp⟩ := zB (L := ss) (k := i) (by rw [← hl]; exact zM hi)
    obtain ⟨e1, c0, e2⟩ := hgs i p g hp hi
    have := h.sep s p.1 g hg (by rw [e2]; simp [zI, e1, vblk])
    exact hs (this ▸ List.mem_map_of_mem (List.mem_of_getElem? hp))
  refine ⟨hl', h.sz, fun i => by rw [hT]; exact (h.tm i).mono' hM (fun _ _ _ e => e), fun s k cs e => ?_, fun s k e' sz L e => ?_, fun s s' g e e' => h.sep s s' g (by rw [← hb]; exact e) (by rw [← hb]; exact e'), fun s k e => h.fresh s k (by rw [← hk]; exact e), fun g vs e => hM _ _ (h.glob g vs e), fun g hg hgn => ?_, h.root, h1.trans h.os, h2.trans h.tape, h3.trans h.output, Nat.le_trans h.size h4, fun g hg hn => ?_, h.df, fun s k L e => by
    by_cases hs : s ∈ ss.map (·.1)
    · obtain ⟨i, p, g, c, e1, e2, e3, e4, e5, e6, c0, e7⟩ := hin s hs
      rw [e6] at e
      injection e with _ e
      cases e
    · rw [cD ss cs' σ s hs] at e
      exact (h.mp s k L e).mono (fun _ _ _ e => e) (fun g hg => hfar s g hs (h.mp_blk e hg)) (fun g hg hn => h6 g (h.blk_lt (h.mp_blk e hg)).1 hn) hM⟩
  · by_cases hs : s ∈ ss.map (·.1)
    · obtain ⟨i, p, g, c, e1, e2, e3, e4, e5, e6, c0, e7⟩ := hin s hs
      rw [e6] at e
      injection e with ea eb
      injection eb with eb
      subst ea; subst eb; subst e2
      obtain ⟨g', t, us, b1, b2, b3, b4, b5, b6⟩ := h.box _ _ _ e7
      rw [e5] at b1
      obtain rfl : g = g' := by injection b1 with b1; injection b1 with b1; injection b1 with b1; injection b1
      obtain ⟨t', us', f1, f2, f3⟩ := h7 i g c e3 e4
      exact ⟨g, t', us', e5, f1, h6 g (Array.getElem?_eq_some_iff.1 b2).1 b3, b4, f2, f3⟩
    · rw [cD ss cs' σ s hs] at e
      have hlt := fun g (hg : ρ s k = some (.pointer (some ⟨g, 0, none⟩))) => (show zI ρ s (σ.H s) = some g by rw [e]; simp [zI, hg, vblk])
      exact (h.box s k cs e).mono hM (fun _ _ _ e => e) (fun g hg => hfar s g hs (hlt g hg)) (fun g hg hn => h6 g (h.blk_lt (hlt g hg)).1 hn)
  · by_cases hs : s ∈ ss.map (·.1)
    · obtain ⟨i, p, g, c, e1, e2, e3, e4, e5, e6, c0, e7⟩ := hin s hs
      rw [e6] at e
      injection e with _ eb
      cases eb
    · rw [cD ss cs' σ s hs] at e
      have hlt := fun u g (hu : ρ s k = some u) (hg : vblk u = some g) => (show zI ρ s (σ.H s) = some g by rw [e]; simp [zI, hu, hg])
      exact (h.buf s k e' sz L e).mono hM (fun _ _ _ e => e) (fun u g hu hg => hfar s g hs (hlt u g hu hg)) (fun u g hu hg hn => h6 g (h.blk_lt (hlt u g hu hg)).1 hn)
  · rw [← h.base g hg hgn]
    cases hm : M g with
    | some b => exact hM g b hm
    | none => exact h6 g (Nat.lt_of_lt_of_le hg h.size) hm
  · have hsz := Nat.lt_of_lt_of_le hg h.size
    rw [h5 g hsz (fun hin' => ?_)]
    · exact h.frame g hg hn
    · obtain ⟨i, hi⟩ := List.getElem?_of_mem hin'
      obtain ⟨p, hp⟩ := zB (L := ss) (k := i) (by rw [← hl]; exact zM hi)
      obtain ⟨e1, c0, e2⟩ := hgs i p g hp hi
      obtain ⟨g', t, us, b1, b2, b3, b4, _⟩ := h.box _ _ _ e2
      rw [e1] at b1
      obtain rfl : g = g' := by injection b1 with b1; injection b1 with b1; injection b1 with b1; injection b1
      rcases b4 with b4 | b4
      · omega
      · exact hn b4
end
end Go.Proofs.YtnafokinifbfhaaGreatDoor
namespace Go.Proofs.YtnafokinifbfhaaGreatDoor
open Go Go.RowKit
section
variable {X : Ctx} {n : Nat} {M : Nat → Option (Array Value)} {ρ : Nat → Nat → Option Value} {σ : AS} {a : Act} {w : World}
/-- A box that another has made. -/
theorem Rel.addBox (h : Rel X n M ρ σ a w) (s g : Nat) (t : TypeId) {cs : List AV} {us : List Value} (hg : w.heap[g]? = some (.cells ⟨us⟩ t (0, 0))) (hM : M g = none) (hX : X.w0.heap.size ≤ g ∨ g ∈ X.gs) (hne : ∀ s', zI ρ s' (σ.H s') ≠ some g)
    (hl : us.length = cs.length) (hc : ∀ (j : Nat) (x : AV) (u : Value), cs[j]? = some x → us[j]? = some u → Rep M (updρ ρ s ((σ.H s).k + 1) (.pointer (some ⟨g, 0, none⟩))) x u) :
    Rel X n M (updρ ρ s ((σ.H s).k + 1) (.pointer (some ⟨g, 0, none⟩))) (σ.hup s ⟨(σ.H s).k + 1, .box cs⟩) a w := by
  have hm := aD (u := .pointer (some ⟨g, 0, none⟩)) (qV h s)
  have hother : ∀ s', s' ≠ s → (σ.hup s ⟨(σ.H s).k + 1, .box cs⟩).H s' = σ.H s' := fun s' hs => by simp [AS.hup, zV hs]
  have hsame : (σ.hup s ⟨(σ.H s).k + 1, .box cs⟩).H s = ⟨(σ.H s).k + 1, .box cs⟩ := by simp [AS.hup, Nat.beq_refl]
  have hblk : ∀ s', s' ≠ s → zI (updρ ρ s ((σ.H s).k + 1) (.pointer (some ⟨g, 0, none⟩))) s' (σ.H s') = zI ρ s' (σ.H s') := fun s' hs => by
    unfold zI updρ
    cases (σ.H s').c <;> simp [hs]
  have hblks : zI (updρ ρ s ((σ.H s).k + 1) (.pointer (some ⟨g, 0, none⟩))) s ⟨(σ.H s).k + 1, .box cs⟩ = some g := by
    simp [zI, updρ, vblk]
  refine ⟨h.live, h.sz, fun i => (h.tm i).mono' (fun _ _ e => e) hm, fun s' k cs' e => ?_, fun s' k e sz L he => ?_, fun s1 s2 g1 e1 e2 => ?_, fun s' k hk => ?_, h.glob, h.base, fun i g e => hm _ _ _ (h.root i g e), h.os, h.tape, h.output, h.size, h.frame, h.df, fun s' k L e => (h.mp s' k L (nP (by simp) e).2).mono hm (fun _ _ => rfl) (fun _ _ e => e)⟩
  · by_cases hs : s' = s
    · subst hs
      rw [hsame] at e
      injection e with e1 e2
      injection e2 with e2
      subst e1; subst e2
      exact ⟨g, t, us, by simp [updρ], hg, hM, hX, hl, hc⟩
    · rw [hother s' hs] at e
      exact (h.box s' k cs' e).mono (fun _ _ e => e) hm (fun _ _ => rfl) (fun _ _ e => e)
  · by_cases hs : s' = s
    · subst hs
      rw [hsame] at he
      injection he with _ he
      cases he
    · rw [hother s' hs] at he
      exact (h.buf s' k e sz L he).mono (fun _ _ e => e) hm (fun _ _ _ _ => rfl) (fun _ _ _ _ e => e)
  · by_cases h1 : s1 = s
    · by_cases h2 : s2 = s
      · rw [h1, h2]
      · exfalso
        subst h1
        rw [hsame, hblks] at e1
        rw [hother s2 h2, hblk s2 h2] at e2
        injection e1 with e1
        exact hne s2 (by rw [e1]; exact e2)
    · by_cases h2 : s2 = s
      · exfalso
        subst h2
        rw [hsame, hblks] at e2
        rw [hother s1 h1, hblk s1 h1] at e1
        injection e2 with e2
        exact hne s1 (by rw [e2]; exact e1)
      · rw [hother s1 h1, hblk s1 h1] at e1
        rw [hother s2 h2, hblk s2 h2] at e2
        exact h.sep s1 s2 g1 e1 e2
  · by_cases hs : s' = s
    · subst hs
      rw [hsame] at hk
      simp only at hk
      unfold updρ
      rw [if_neg (by omega)]
      exact h.fresh s' k (by omega)
    · rw [hother s' hs] at hk
      unfold updρ
      rw [if_neg (fun e => hs e.1)]
      exact h.fresh s' k hk
def gsOf (ρ : Nat → Nat → Option Value) (ss : List (Nat × Nat)) : List Nat := ss.map fun p => ((ρ p.1 p.2).bind vblk).getD 0
def πs (ss : List (Nat × Nat)) : Nat → Option (Nat × Nat) := fun i => ss[i]?
/-- What a call is given, as it wants it. -/
theorem cZ (h : Rel X n M ρ σ a w) {ss : List (Nat × Nat)} {refs : List (List AV)} (hss : (ss.map (·.1)).Nodup) (hin : dK σ (πs ss) ss refs) :
    (gsOf ρ ss).Nodup ∧ Refs M (refρ (gsOf ρ ss)) w (gsOf ρ ss) refs ∧ (∀ i s k, πs ss i = some (s, k) → refρ (gsOf ρ ss) (refB + i) 0 = ρ s k) ∧
      ∀ (i : Nat) (p : Nat × Nat) (g : Nat), ss[i]? = some p → (gsOf ρ ss)[i]? = some g → ρ p.1 p.2 = some (.pointer (some ⟨g, 0, none⟩)) ∧ ∃ c, σ.H p.1 = ⟨p.2, .box c⟩ := by
  obtain ⟨hl, hat⟩ := rX hin
  have hg : ∀ (i : Nat) (p : Nat × Nat) (g : Nat), ss[i]? = some p → (gsOf ρ ss)[i]? = some g → ρ p.1 p.2 = some (.pointer (some ⟨g, 0, none⟩)) ∧ ∃ c, σ.H p.1 = ⟨p.2, .box c⟩ := fun i p g hp hg => by
    obtain ⟨c, hc⟩ := zB (L := refs) (k := i) (by rw [← hl]; exact zM hp)
    obtain ⟨c', h1, h2⟩ := hat i p c hp hc
    obtain ⟨g', t, us, b1, _⟩ := h.box _ _ _ h1
    simp only [gsOf, List.getElem?_map, hp, Option.map_some, b1, Option.bind_some, vblk, Option.getD_some, Option.some.injEq] at hg
    subst hg
    exact ⟨b1, c', h1⟩
  have hπ : ∀ i s k, πs ss i = some (s, k) → refρ (gsOf ρ ss) (refB + i) 0 = ρ s k := fun i s k hi => by
    have hi' : ss[i]? = some (s, k) := hi
    obtain ⟨g, hgg⟩ := zB (L := gsOf ρ ss) (k := i) (by simp [gsOf]; exact zM hi')
    rw [bM hgg, (hg i (s, k) g hi' hgg).1]
  refine ⟨?_, ⟨by simp [gsOf, hl], fun i g c hgg hc => ?_⟩, hπ, hg⟩
  · unfold List.Nodup at hss
    rw [List.pairwise_map] at hss
    unfold List.Nodup gsOf
    rw [List.pairwise_map]
    refine hss.imp_of_mem fun {p q} hp hq hpq he => hpq ?_
    have hb : ∀ p ∈ ss, zI ρ p.1 (σ.H p.1) = some (((ρ p.1 p.2).bind vblk).getD 0) := fun p hp => by
      obtain ⟨i, hi⟩ := List.getElem?_of_mem hp
      obtain ⟨g, hgg⟩ := zB (L := gsOf ρ ss) (k := i) (by simp [gsOf]; exact zM hi)
      obtain ⟨e1, c, e2⟩ := hg i p g hi hgg
      rw [e2]
      simp [zI, e1, vblk]
    exact h.sep p.1 q.1 _ (hb p hp) (by rw [he]; exact hb q hq)
  · obtain ⟨p, hp⟩ := zB (L := ss) (k := i) (by have := zM hgg; simpa [gsOf] using this)
    obtain ⟨c', h1, h2⟩ := hat i p c hp hc
    obtain ⟨g', t, us, b1, b2, b3, b4, b5, b6⟩ := h.box _ _ _ h1
    have := (hg i p g hp hgg).1
    rw [b1] at this
    obtain rfl : g' = g := by injection this with this; injection this with this; injection this with this; injection this
    refine ⟨b3, t, us, b2, by rw [b5]; exact h2.spec.1.symm, fun j x u hx hu => ?_⟩
    obtain ⟨y, hy⟩ := zB (L := c') (k := j) (by rw [← h2.spec.1]; exact zM hx)
    exact Ren.out hπ (fun _ _ e => e) (fun _ _ _ _ _ hb _ => hb.elim) (h2.spec.2 j x y hx hy) (b6 j y u hy hu)
end
section
variable {P : Program} {X : Ctx} {n : Nat} {ops : Array Oper} {os : List Oper} {acc : List Rule} {σ : AS} {K : List Rule → AS → Prop} {gt : List (Nat × AV)} {d : Option Nat} {ty : TypeId} {ps : String} {af : Array Edge} {g : Option (Nat × Bool)}
theorem pL {σ τ : AS} {xs : List Operand} {ss : List (Nat × Nat)} {y : AV} {hw : List (Nat × HC)} (hf : (mkR σ xs (ss.map (·.1)) d y hw).fires τ) {π : Nat → Option (Nat × Nat)} : ∀ {ss' : List (Nat × Nat)} {cs : List (List AV)}, (∀ p ∈ ss', p ∈ ss) → dK σ π ss' cs → dK τ π ss' cs
  | [], [], _, h => h
  | (s, k) :: ss', c :: cs, hs, h => by
    obtain ⟨⟨c', h1, h2⟩, h3⟩ := h
    exact ⟨⟨c', (zo hf (s := s) (List.mem_map_of_mem (f := (·.1)) (hs (s, k) (by simp)))).trans h1, h2⟩, pL hf (fun p hp => hs p (by simp [hp])) h3⟩
  | [], c :: cs, _, h => h.elim
  | p :: ss', [], _, h => h.elim
theorem ju {M : Nat → Option (Array Value)} {ρ : Nat → Nat → Option Value} {τ : AS} {a : Act} {w : World} (hR : Rel X n M ρ τ a w) {xs : List Operand} (he : ∀ x ∈ xs, ev τ x = ev σ x) {π : Nat → Option (Nat × Nat)} {args : List AV} (hargs : RenL noB π args (xs.map (ev σ))) {ρb : Nat → Nat → Option Value} (hπ : ∀ i s k, π i = some (s, k) → ρb (refB + i) 0 = ρ s k) :
    (xs.map a.eval).length = args.length ∧ ∀ (j : Nat) (x : AV) (u : Value), args[j]? = some x → (xs.map a.eval)[j]? = some u → Rep M ρb x u := by
  obtain ⟨h1, h2⟩ := hargs.spec
  refine ⟨by simp at h1 ⊢; omega, fun j x u hx hu => ?_⟩
  rw [List.getElem?_map] at hu
  cases ho : xs[j]? with
  | none => rw [ho] at hu; cases hu
  | some o =>
    rw [ho] at hu
    injection hu with hu
    subst hu
    have h3 := hR.ev o
    rw [he o (List.mem_of_getElem? ho)] at h3
    exact Ren.out hπ (fun _ _ e => e) (fun _ _ _ _ _ hb _ => hb.elim) (h2 j x _ hx (by rw [List.getElem?_map, ho]; rfl)) h3
theorem qU {f : FuncId} {tys : Array TypeId} {xs : List Operand} {a : Act} {w : World} (he : qK P f) : (execOp a.eval ⟨d, .call ⟨.value (.func f), xs.toArray, tys⟩, ty, ps, af, g⟩).run P w = .ok (.enter f ⟨xs.map a.eval⟩) w := by
  unfold execOp
  simp [resolve, Act.eval, Deferred.ofValue, invoke, he _ w]
/-- A call. -/
theorem zy {f : FuncId} {tys : Array TypeId} {xs : List Operand} {args : List AV} {refs refs' cs' : List (List AV)} {r y : AV} {ss : List (Nat × Nat)} (hc : zJ P X.G f args refs r refs') (hargs : RenL noB (πs ss) args (xs.map (ev σ)))
    (hss : (ss.map (·.1)).Nodup) (hin : dK σ (πs ss) ss refs) (hlen : ss.length = refs'.length) (hback : bW (πs ss) refs' cs') (hr : RenB (πs ss) r y)
    (h : Exec P X n ops os (mkG gt σ xs (ss.map (·.1)) d y (hwOf ss cs') :: acc) ((hups (hwOf ss cs') σ).put d y) K) : Op1 P X n ops gt ⟨d, .call ⟨.value (.func f), xs.toArray, tys⟩, ty, ps, af, g⟩ os acc σ K := by
  refine ⟨⟨mkR σ xs (ss.map (fun p : Nat × Nat => p.1)) d y (hwOf ss cs'), fun hlt M ρ τ a w hf hR K Q hK => ?_, zR _ _ _ _ _ _, h⟩⟩
  obtain ⟨c1, c2, c3, c4⟩ := cZ hR hss (pL hf (fun p hp => hp) hin)
  obtain ⟨a1, a2⟩ := ju hR (fun x hx => zP hf hx) hargs c3
  unfold Oper.wp
  rw [qU hc.1, Oper.upon_enter]
  refine (hc.2 M w (gsOf ρ ss) _ hR.live hR.glob c1 c2 a1 a2).mono ?_
  rintro e w' ⟨u, M', gs', rfl, p1, p2, p3, p4, p5, p6, p7, p8, p9, p10, p11, p12⟩
  have hgl : (gsOf ρ ss).length = ss.length := by simp [gsOf]
  have hg0 : gs' = [] := by
    have := p11.len
    simp [hgl] at this
    exact List.eq_nil_of_length_eq_zero (by omega)
  subst hg0
  simp only [List.append_nil] at p11 p12
  obtain ⟨b1, b2⟩ := bE hback
  have hR' := hR.call (cs' := cs') (w' := w') hss (by omega) hgl c4 p1 p2 p3 p4 p5 p6 p7 p8 (fun i g' c hg' hc' => by
    obtain ⟨c0, hc0⟩ := zB (L := refs') (k := i) (by have := zM hc'; omega)
    obtain ⟨_, t, us, e1, e2, e3⟩ := p11.at_ i g' c0 hg' hc0
    have hb := (b2 i c0 c hc0 hc').spec
    refine ⟨t, us, e1, by omega, fun j x z hx hz => ?_⟩
    obtain ⟨x0, hx0⟩ := zB (L := c0) (k := j) (by have := zM hx; omega)
    exact RenB.back c3 (hb.2 j x0 x hx0 hx) (e3 j x0 z hx0 hz))
  exact hK M' ρ _ w' (hR'.put (RenB.back c3 hr p12) hlt)
/-- A call that hands back a new box. -/
theorem x_call_new {f : FuncId} {tys : Array TypeId} {xs : List Operand} {args : List AV} {i0 : Nat} {c0 : List AV} {k0 : Nat} {q0 : Cont} (hc : zJ P X.G f args [] (.ptr (refB + 0) 0 0) [c0]) (hargs : RenL noB (πs []) args (xs.map (ev σ))) (hc0 : bC (πs []) c0 c0) (hH0 : σ.H i0 = ⟨k0, q0⟩)
    (h : Exec P X n ops os (mkG gt σ xs [i0] (some i0) (.ptr i0 (k0 + 1) 0) [(i0, ⟨k0 + 1, .box c0⟩)] :: acc) ((σ.hup i0 ⟨k0 + 1, .box c0⟩).put (some i0) (.ptr i0 (k0 + 1) 0)) K) :
    Op1 P X n ops gt ⟨some i0, .call ⟨.value (.func f), xs.toArray, tys⟩, ty, ps, af, g⟩ os acc σ K := by
  obtain rfl : (σ.H i0).k = k0 := by rw [hH0]
  refine ⟨⟨mkR σ xs [i0] (some i0) (.ptr i0 ((σ.H i0).k + 1) 0) [(i0, ⟨(σ.H i0).k + 1, .box c0⟩)], fun hlt M ρ τ a w hf hR K Q hK => ?_, zR _ _ _ _ _ _, h⟩⟩
  have hH := zo hf (s := i0) (by simp)
  obtain ⟨c1, c2, c3, c4⟩ := cZ (ss := []) (refs := []) hR (by simp) trivial
  obtain ⟨a1, a2⟩ := ju hR (fun x hx => zP hf hx) hargs c3
  unfold Oper.wp
  rw [qU hc.1, Oper.upon_enter]
  refine (hc.2 M w (gsOf ρ []) _ hR.live hR.glob c1 c2 a1 a2).mono ?_
  rintro e w' ⟨u, M', gs', rfl, p1, p2, p3, p4, p5, p6, p7, p8, p9, p10, p11, p12⟩
  have hgl : gsOf ρ [] = [] := rfl
  rw [hgl] at p7 p9 p11 p12
  simp only [List.nil_append] at p9 p11 p12
  obtain ⟨g1, rfl⟩ : ∃ g1, gs' = [g1] := by
    have := p11.len
    simp at this
    exact List.length_eq_one_iff.1 this
  have hR' := hR.call (ss := []) (gs := []) (cs' := []) (w' := w') (by simp) rfl rfl (by simp) p1 p2 p3 p4 p5 p6 p7 p8 (by simp)
  have hR' : Rel X n M' ρ τ a w' := hR'
  obtain ⟨q1, t, us, q2, q3, q4⟩ := p11.at_ 0 g1 c0 rfl rfl
  have hge := p10 g1 (by simp)
  have hpt : u = .pointer (some ⟨g1, 0, none⟩) := by
    obtain ⟨g2, e1, e2⟩ := p12.ptr_inv
    rw [bM (gs := [g1]) (i := 0) (g := g1) rfl] at e1
    injection e1 with e1
    injection e1 with e1
    injection e1 with e1
    injection e1 with e1
    rw [e2, e1]
  subst hpt
  have hR2 := hR'.addBox i0 g1 t (cs := c0) q2 q1 (.inl (Nat.le_trans hR.size hge)) (fun s' hs' => by
    have hs2 : zI ρ s' (τ.H s') = some g1 := hs'
    have := (hR.blk_lt hs2).1
    omega) q3 (fun j x z hx hz => by
      have h1 := q4 j x z hx hz
      have h2 := hc0.spec.2 j x x hx hx
      exact (RenB.back (ρ := ρ) (fun i s k hi => by simp [πs] at hi) h2 h1).mono' (fun _ _ e => e) (aD (qV hR' i0)))
  rw [hH] at hR2
  refine hK M' _ _ w' (hR2.put (.ptr _ _ _ _ g1 ?_) hlt)
  simp [updρ]
/-- A call without boxes. -/
theorem zG {f : FuncId} {tys : Array TypeId} {xs : List Operand} {args : List AV} {r : AV} (hc : zJ P X.G f args [] r []) (hargs : RenL noB (πs []) args (xs.map (ev σ))) (hr : RenB (πs []) r r)
    (h : Exec P X n ops os (mkG gt σ xs [] d r [] :: acc) (σ.put d r) K) : Op1 P X n ops gt ⟨d, .call ⟨.value (.func f), xs.toArray, tys⟩, ty, ps, af, g⟩ os acc σ K :=
  zy (ss := []) (cs' := []) hc hargs (by simp) trivial rfl trivial hr h
/-- A call without boxes; what is renamed is found by itself. -/
theorem zC {f : FuncId} {tys : Array TypeId} {xs : List Operand} {args : List AV} {r : AV} (hc : zJ P X.G f args [] r [])
    (h : Exec P X n ops os (mkG gt σ xs [] d r [] :: acc) (σ.put d r) K) (hargs : RenL noB (πs []) args (xs.map (ev σ)) := by repeat' (first | exact trivial | exact Ren.v _ | exact Ren.sl _ _ | exact Ren.ep _ | exact Ren.ptr _ _ _ _ rfl | exact Ren.bs _ _ _ _ _ rfl | exact Ren.nil _ | exact Ren.own _ _ _ _ ⟨_, rfl⟩ | refine zO ?_ | refine zf ?_ | refine yJ ?_ | refine ⟨?_, ?_⟩)) (hr : RenB (πs []) r r := by repeat' (first | exact trivial | exact RenB.v _ | exact RenB.sl _ _ | exact RenB.ep _ | exact RenB.ptr _ _ _ _ rfl | refine gB ?_ | refine zZ ?_ | refine ⟨?_, ?_⟩)) : Op1 P X n ops gt ⟨d, .call ⟨.value (.func f), xs.toArray, tys⟩, ty, ps, af, g⟩ os acc σ K := zG hc hargs hr h
/-- A call; what is renamed is found by itself. -/
theorem zD {f : FuncId} {tys : Array TypeId} {xs : List Operand} {args : List AV} {refs refs' cs' : List (List AV)} {r y : AV} {ss : List (Nat × Nat)} (hc : zJ P X.G f args refs r refs')
    (hss : (ss.map (·.1)).Nodup) (hin : dK σ (πs ss) ss refs) (hlen : ss.length = refs'.length) (hback : bW (πs ss) refs' cs')
    (h : Exec P X n ops os (mkG gt σ xs (ss.map (·.1)) d y (hwOf ss cs') :: acc) ((hups (hwOf ss cs') σ).put d y) K) (hargs : RenL noB (πs ss) args (xs.map (ev σ)) := by repeat' (first | exact trivial | exact Ren.v _ | exact Ren.sl _ _ | exact Ren.ep _ | exact Ren.ptr _ _ _ _ rfl | exact Ren.bs _ _ _ _ _ rfl | exact Ren.nil _ | exact Ren.own _ _ _ _ ⟨_, rfl⟩ | refine zO ?_ | refine zf ?_ | refine yJ ?_ | refine ⟨?_, ?_⟩)) (hr : RenB (πs ss) r y := by repeat' (first | exact trivial | exact RenB.v _ | exact RenB.sl _ _ | exact RenB.ep _ | exact RenB.ptr _ _ _ _ rfl | refine gB ?_ | refine zZ ?_ | refine ⟨?_, ?_⟩)) : Op1 P X n ops gt ⟨d, .call ⟨.value (.func f), xs.toArray, tys⟩, ty, ps, af, g⟩ os acc σ K := zy hc hargs hss hin hlen hback hr h
end
end Go.Proofs.YtnafokinifbfhaaGreatDoor
