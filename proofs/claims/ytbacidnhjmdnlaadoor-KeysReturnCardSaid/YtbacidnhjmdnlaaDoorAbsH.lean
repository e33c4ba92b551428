/- Functions of the abstract machine: what a call comes to, by values without addresses; conditions: none. -/
import Derived.Test.YtbacidnhjmdnlaaDoorAbsG
set_option linter.unusedVariables false
set_option linter.unusedSimpArgs false
namespace Go.Proofs.YtbacidnhjmdnlaaDoor
open Go Go.RowKit
def refρ (gs : List Nat) : Nat → Nat → Option Value := fun s k => if k = 0 ∧ refB ≤ s then (gs[s - refB]?).map fun g => .pointer (some ⟨g, 0, none⟩) else none
theorem refρ_at {gs : List Nat} {i g : Nat} (h : gs[i]? = some g) : refρ gs (refB + i) 0 = some (.pointer (some ⟨g, 0, none⟩)) := by
  unfold refρ
  rw [if_pos ⟨rfl, by omega⟩, show refB + i - refB = i by omega, h]; rfl
/-- A value of a call's border and the same value in a frame: pointers to boxes have other names there. -/
inductive Ren (B : Nat → Nat → Nat → List AV → Prop) (π : Nat → Option (Nat × Nat)) : AV → AV → Prop where
  | v (x : Value) : Ren B π (.v x) (.v x)
  | sl (sz : Nat) (L : List AV) : Ren B π (.sl sz L) (.sl sz L)
  | ep (cs : List AV) : Ren B π (.ep cs) (.ep cs)
  | junk (y : AV) : Ren B π .junk y
  | ptr (i s k off : Nat) (h : π i = some (s, k)) : Ren B π (.ptr (refB + i) 0 off) (.ptr s k off)
  | own (s k sz : Nat) (L : List AV) (h : B s k sz L) : Ren B π (.sl sz L) (.own s k)
  | nil (sz : Nat) : Ren B π (.sl sz []) (.v (.slice none 0 0))
  | ag (cs cs' : List AV) (hl : cs.length = cs'.length) (h : ∀ (j : Nat) (x y : AV), cs[j]? = some x → cs'[j]? = some y → Ren B π x y) : Ren B π (.ag cs) (.ag cs')
  | tu (cs cs' : List AV) (hl : cs.length = cs'.length) (h : ∀ (j : Nat) (x y : AV), cs[j]? = some x → cs'[j]? = some y → Ren B π x y) : Ren B π (.tu cs) (.tu cs')
  | fn (f : FuncId) (cs cs' : List AV) (hl : cs.length = cs'.length) (h : ∀ (j : Nat) (x y : AV), cs[j]? = some x → cs'[j]? = some y → Ren B π x y) : Ren B π (.fn f cs) (.fn f cs')
def RenL (B : Nat → Nat → Nat → List AV → Prop) (π : Nat → Option (Nat × Nat)) : List AV → List AV → Prop
  | [], [] => True
  | x :: xs, y :: ys => Ren B π x y ∧ RenL B π xs ys
  | _, _ => False
theorem RenL.spec {B : Nat → Nat → Nat → List AV → Prop} {π : Nat → Option (Nat × Nat)} : ∀ {cs cs' : List AV}, RenL B π cs cs' → cs.length = cs'.length ∧ ∀ (j : Nat) (x y : AV), cs[j]? = some x → cs'[j]? = some y → Ren B π x y
  | [], [], _ => ⟨rfl, fun j x y h => by simp at h⟩
  | x :: xs, y :: ys, h => by
    obtain ⟨h1, h2⟩ := RenL.spec h.2
    refine ⟨by simp [h1], fun j a b ha hb => ?_⟩
    cases j with
    | zero => simp at ha hb; subst ha; subst hb; exact h.1
    | succ j => exact h2 j a b (by simpa using ha) (by simpa using hb)
  | [], y :: ys, h => h.elim
  | x :: xs, [], h => h.elim
theorem ren_ag {B : Nat → Nat → Nat → List AV → Prop} {π : Nat → Option (Nat × Nat)} {cs cs' : List AV} (h : RenL B π cs cs') : Ren B π (.ag cs) (.ag cs') := .ag _ _ h.spec.1 h.spec.2
theorem ren_tu {B : Nat → Nat → Nat → List AV → Prop} {π : Nat → Option (Nat × Nat)} {cs cs' : List AV} (h : RenL B π cs cs') : Ren B π (.tu cs) (.tu cs') := .tu _ _ h.spec.1 h.spec.2
theorem ren_fn {B : Nat → Nat → Nat → List AV → Prop} {π : Nat → Option (Nat × Nat)} {cs cs' : List AV} {f : FuncId} (h : RenL B π cs cs') : Ren B π (.fn f cs) (.fn f cs') := .fn f _ _ h.spec.1 h.spec.2
def noB : Nat → Nat → Nat → List AV → Prop := fun _ _ _ _ => False
section
variable {M : Nat → Option (Array Value)} {B : Nat → Nat → Nat → List AV → Prop} {π : Nat → Option (Nat × Nat)} {ρ ρb : Nat → Nat → Option Value}
/-- From the frame to the border. -/
theorem Ren.out {M' : Nat → Option (Array Value)} (hπ : ∀ i s k, π i = some (s, k) → ρb (refB + i) 0 = ρ s k) (hM : ∀ g a, M g = some a → M' g = some a) (hB : ∀ s k sz L u, B s k sz L → Rep M ρ (.own s k) u → Rep M' ρb (.sl sz L) u) {x y : AV} (h : Ren B π x y) : ∀ {u : Value}, Rep M ρ y u → Rep M' ρb x u := by
  induction h with
  | v x => intro u h; cases h; exact .v _ _
  | sl sz L => intro u h; cases h with | sl _ _ _ A c us h1 h2 h3 h4 => exact .sl _ _ _ A c us h1 h2 (fun k x j y a b => (h3 k x j y a b).mono' hM (fun _ _ _ e => e)) (fun k x a => by
      obtain ⟨e1, b, o, arr, e2, e3, e4⟩ := h4 k x a
      exact ⟨e1, b, o, arr, e2, hM _ _ e3, e4⟩)
  | ep cs => intro u h; cases h with | ep _ _ b o arr us h1 h2 h3 => exact .ep _ _ b o arr us (hM _ _ h1) h2 (fun j x a => (h3 j x a).mono' hM (fun _ _ _ e => e))
  | junk y => intro u h; exact .junk _ _
  | ptr i s k off hi =>
    intro u h
    obtain ⟨g, h1, rfl⟩ := h.ptr_inv
    exact .ptr _ _ _ _ g ((hπ i s k hi).trans h1)
  | own s k sz L hb => intro u h; exact hB s k sz L u hb h
  | nil sz => intro u h; cases h; exact .sl _ sz [] none 0 (fun _ _ => undef) (by simp) (by simp) (by simp) (by simp)
  | ag cs cs' hl _ ih =>
    intro u h
    obtain ⟨vs, rfl, h1, h2⟩ := h.ag_inv
    refine .ag _ _ vs (by omega) fun j x u a b => ?_
    obtain ⟨y, hy⟩ := some_at (L := cs') (k := j) (by have := lt_at b; omega)
    exact ih j x y a hy (h2 j y u hy b)
  | tu cs cs' hl _ ih =>
    intro u h
    obtain ⟨vs, rfl, h1, h2⟩ := h.tu_inv
    refine .tu _ _ vs (by omega) fun j x u a b => ?_
    obtain ⟨y, hy⟩ := some_at (L := cs') (k := j) (by have := lt_at b; omega)
    exact ih j x y a hy (h2 j y u hy b)
  | fn f cs cs' hl _ ih =>
    intro u h
    cases h with
    | fn _ _ _ vs h1 h2 =>
      refine .fn _ f _ vs (by omega) fun j x u a b => ?_
      obtain ⟨y, hy⟩ := some_at (L := cs') (k := j) (by have := lt_at b; omega)
      exact ih j x y a hy (h2 j y u hy b)
end
/-- From the border to the frame: nothing is forgotten on this way. -/
inductive RenB (π : Nat → Option (Nat × Nat)) : AV → AV → Prop where
  | v (x : Value) : RenB π (.v x) (.v x)
  | sl (sz : Nat) (L : List AV) : RenB π (.sl sz L) (.sl sz L)
  | ep (cs : List AV) : RenB π (.ep cs) (.ep cs)
  | junk (x : AV) : RenB π x .junk
  | ptr (i s k off : Nat) (h : π i = some (s, k)) : RenB π (.ptr (refB + i) 0 off) (.ptr s k off)
  | ag (cs cs' : List AV) (hl : cs.length = cs'.length) (h : ∀ (j : Nat) (x y : AV), cs[j]? = some x → cs'[j]? = some y → RenB π x y) : RenB π (.ag cs) (.ag cs')
  | tu (cs cs' : List AV) (hl : cs.length = cs'.length) (h : ∀ (j : Nat) (x y : AV), cs[j]? = some x → cs'[j]? = some y → RenB π x y) : RenB π (.tu cs) (.tu cs')
  | fn (f : FuncId) (cs cs' : List AV) (hl : cs.length = cs'.length) (h : ∀ (j : Nat) (x y : AV), cs[j]? = some x → cs'[j]? = some y → RenB π x y) : RenB π (.fn f cs) (.fn f cs')
def RenBL (π : Nat → Option (Nat × Nat)) : List AV → List AV → Prop
  | [], [] => True
  | x :: xs, y :: ys => RenB π x y ∧ RenBL π xs ys
  | _, _ => False
theorem RenBL.spec {π : Nat → Option (Nat × Nat)} : ∀ {cs cs' : List AV}, RenBL π cs cs' → cs.length = cs'.length ∧ ∀ (j : Nat) (x y : AV), cs[j]? = some x → cs'[j]? = some y → RenB π x y
  | [], [], _ => ⟨rfl, fun j x y h => by simp at h⟩
  | x :: xs, y :: ys, h => by
    obtain ⟨h1, h2⟩ := RenBL.spec h.2
    refine ⟨by simp [h1], fun j a b ha hb => ?_⟩
    cases j with
    | zero => simp at ha hb; subst ha; subst hb; exact h.1
    | succ j => exact h2 j a b (by simpa using ha) (by simpa using hb)
  | [], y :: ys, h => h.elim
  | x :: xs, [], h => h.elim
theorem renb_ag {π : Nat → Option (Nat × Nat)} {cs cs' : List AV} (h : RenBL π cs cs') : RenB π (.ag cs) (.ag cs') := .ag _ _ h.spec.1 h.spec.2
theorem renb_tu {π : Nat → Option (Nat × Nat)} {cs cs' : List AV} (h : RenBL π cs cs') : RenB π (.tu cs) (.tu cs') := .tu _ _ h.spec.1 h.spec.2
section
variable {M : Nat → Option (Array Value)} {π : Nat → Option (Nat × Nat)} {ρ ρb : Nat → Nat → Option Value}
theorem RenB.back (hπ : ∀ i s k, π i = some (s, k) → ρb (refB + i) 0 = ρ s k) {x y : AV} (h : RenB π x y) : ∀ {u : Value}, Rep M ρb x u → Rep M ρ y u := by
  induction h with
  | v x => intro u h; cases h; exact .v _ _
  | sl sz L => intro u h; cases h with | sl _ _ _ A c us h1 h2 h3 h4 => exact .sl _ _ _ A c us h1 h2 h3 h4
  | ep cs => intro u h; cases h with | ep _ _ b o arr us h1 h2 h3 => exact .ep _ _ b o arr us h1 h2 h3
  | junk y => intro u h; exact .junk _ _
  | ptr i s k off hi =>
    intro u h
    obtain ⟨g, h1, rfl⟩ := h.ptr_inv
    exact .ptr _ _ _ _ g ((hπ i s k hi).symm.trans h1)
  | ag cs cs' hl _ ih =>
    intro u h
    obtain ⟨vs, rfl, h1, h2⟩ := h.ag_inv
    refine .ag _ _ vs (by omega) fun j y u a b => ?_
    obtain ⟨x, hx⟩ := some_at (L := cs) (k := j) (by have := lt_at b; omega)
    exact ih j x y hx a (h2 j x u hx b)
  | tu cs cs' hl _ ih =>
    intro u h
    obtain ⟨vs, rfl, h1, h2⟩ := h.tu_inv
    refine .tu _ _ vs (by omega) fun j y u a b => ?_
    obtain ⟨x, hx⟩ := some_at (L := cs) (k := j) (by have := lt_at b; omega)
    exact ih j x y hx a (h2 j x u hx b)
  | fn f cs cs' hl _ ih =>
    intro u h
    cases h with
    | fn _ _ _ vs h1 h2 =>
      refine .fn _ f _ vs (by omega) fun j y u a b => ?_
      obtain ⟨x, hx⟩ := some_at (L := cs) (k := j) (by have := lt_at b; omega)
      exact ih j x y hx a (h2 j x u hx b)
end
def LiveM (M : Nat → Option (Array Value)) (w : World) : Prop := ∀ g arr, M g = some arr → ∃ t fr, w.heap[g]? = some (.cells arr t fr)
structure Refs (M : Nat → Option (Array Value)) (ρ : Nat → Nat → Option Value) (w : World) (gs : List Nat) (cs : List (List AV)) : Prop where
  len : gs.length = cs.length
  at_ : ∀ (i g : Nat) (c : List AV), gs[i]? = some g → cs[i]? = some c → M g = none ∧ ∃ t us, w.heap[g]? = some (.cells ⟨us⟩ t (0, 0)) ∧ us.length = c.length ∧ ∀ (j : Nat) (x : AV) (u : Value), c[j]? = some x → us[j]? = some u → Rep M ρ x u
def Enter (P : Program) (f : FuncId) : Prop := ∀ args w, (callFunc f args).run P w = .ok (.enter f args) w
def CallPost (M : Nat → Option (Array Value)) (w : World) (gs : List Nat) (r : AV) (refs' : List (List AV)) (e : Ending) (w' : World) : Prop :=
  ∃ u M' gs', e = .returned u ∧ (∀ g a, M g = some a → M' g = some a) ∧ LiveM M' w' ∧ w'.os = w.os ∧ w'.tape = w.tape ∧ w'.output = w.output ∧ w.heap.size ≤ w'.heap.size ∧ (∀ g, g < w.heap.size → g ∉ gs → w'.heap[g]? = w.heap[g]?) ∧
    (∀ g, g < w.heap.size → M g = none → M' g = none) ∧ (gs ++ gs').Nodup ∧ (∀ g, g ∈ gs' → w.heap.size ≤ g) ∧ Refs M' (refρ (gs ++ gs')) w' (gs ++ gs') refs' ∧ Rep M' (refρ (gs ++ gs')) r u
def ACalls (P : Program) (G : Nat → Option (List Value)) (f : FuncId) (args : List AV) (refs : List (List AV)) (r : AV) (refs' : List (List AV)) : Prop :=
  Enter P f ∧ ∀ M w gs (vs : List Value), LiveM M w → (∀ g us, G g = some us → M g = some ⟨us⟩) → gs.Nodup → Refs M (refρ gs) w gs refs → vs.length = args.length →
    (∀ (j : Nat) (x : AV) (u : Value), args[j]? = some x → vs[j]? = some u → Rep M (refρ gs) x u) → Calls P f ⟨vs⟩ w (CallPost M w gs r refs')
def nth : List AV → Nat → AV
  | [], _ => .junk
  | x :: _, 0 => x
  | _ :: l, n + 1 => nth l n
theorem nth_eq : ∀ (l : List AV) (n : Nat), nth l n = (l[n]?).getD .junk
  | [], n => rfl
  | x :: l, 0 => rfl
  | x :: l, n + 1 => by rw [nth, nth_eq l n]; simp
def nthC : List (List AV) → Nat → Cont
  | [], _ => .dead
  | c :: _, 0 => .box c
  | _ :: l, n + 1 => nthC l n
theorem nthC_eq : ∀ (l : List (List AV)) (n : Nat), nthC l n = match l[n]? with | some c => .box c | none => .dead
  | [], n => rfl
  | x :: l, 0 => rfl
  | x :: l, n + 1 => by rw [nthC, nthC_eq l n]; simp
def start0 (args : List AV) (refs : List (List AV)) : AS := ⟨nth args, fun s => ⟨0, bif Nat.ble refB s then nthC refs (s - refB) else .dead⟩⟩
theorem start_H {args : List AV} {refs : List (List AV)} {s k : Nat} {c : Cont} (h : (start0 args refs).H s = ⟨k, c⟩) (hc : c ≠ .dead) : k = 0 ∧ ∃ i cs, s = refB + i ∧ refs[i]? = some cs ∧ c = .box cs := by
  unfold start0 at h
  simp only [HC.mk.injEq] at h
  obtain ⟨rfl, h⟩ := h
  refine ⟨rfl, ?_⟩
  cases hb : Nat.ble refB s
  · rw [hb] at h; exact absurd h.symm hc
  · rw [hb, cond_true, nthC_eq] at h
    have hle := Nat.le_of_ble_eq_true hb
    cases hr : refs[s - refB]? with
    | none => rw [hr] at h; exact absurd h.symm hc
    | some cs => rw [hr] at h; exact ⟨s - refB, cs, by omega, hr, h.symm⟩
theorem nodup_at {l : List Nat} (hn : l.Nodup) {i j g : Nat} (hi : l[i]? = some g) (hj : l[j]? = some g) : i = j := by
  have h := List.pairwise_iff_getElem.1 hn
  obtain ⟨h1, h2⟩ := List.getElem?_eq_some_iff.1 hi
  obtain ⟨h3, h4⟩ := List.getElem?_eq_some_iff.1 hj
  rcases Nat.lt_trichotomy i j with h' | h' | h'
  · exact absurd (h2.trans h4.symm) (h i j h1 h3 h')
  · exact h'
  · exact absurd (h4.trans h2.symm) (h j i h3 h1 h')
theorem start_rel {M : Nat → Option (Array Value)} {w : World} {gs : List Nat} {G : Nat → Option (List Value)} {args : List AV} {refs : List (List AV)} {vs : List Value} {n : Nat} (hl : LiveM M w) (hG : ∀ g us, G g = some us → M g = some ⟨us⟩) (hn : gs.Nodup) (hr : Refs M (refρ gs) w gs refs)
    (hv : vs.length = args.length) (hrep : ∀ (j : Nat) (x : AV) (u : Value), args[j]? = some x → vs[j]? = some u → Rep M (refρ gs) x u) (hle : args.length ≤ n) :
    Rel ⟨w, gs, G, M⟩ n M (refρ gs) (start0 args refs) { tmps := (⟨vs⟩ : Array Value) ++ Array.replicate (n - (⟨vs⟩ : Array Value).size) undef, defers := [] } w := by
  have hblk : ∀ s g, blkOf (refρ gs) s ((start0 args refs).H s) = some g → ∃ i, s = refB + i ∧ gs[i]? = some g := by
    intro s g h
    unfold blkOf at h
    cases hc : (start0 args refs).H s with
    | mk k c =>
      rw [hc] at h
      cases c with
      | dead => simp at h
      | box cs =>
        obtain ⟨rfl, i, cs', rfl, hi, _⟩ := start_H hc (by simp)
        obtain ⟨g', hg'⟩ := some_at (L := gs) (k := i) (by rw [hr.len]; exact lt_at hi)
        simp [refρ_at hg', vblk] at h
        subst h
        exact ⟨i, rfl, hg'⟩
      | buf e sz L =>
        obtain ⟨_, _, _, _, _, hx⟩ := start_H hc (by simp)
        cases hx
  refine ⟨hl, by simp; omega, fun i => ?_, fun s k cs h => ?_, fun s k e sz L h => ?_, fun s s' g h1 h2 => ?_, fun s k hk => ?_, hG, fun _ _ => rfl, fun i g e => refρ_at e, rfl, rfl, rfl, Nat.le_refl _, fun _ _ _ => rfl, rfl⟩
  · show Rep M (refρ gs) (nth args i) _
    rw [nth_eq]
    cases ha : args[i]? with
    | none => exact .junk _ _
    | some x =>
      obtain ⟨u, hu⟩ := some_at (L := vs) (k := i) (by rw [hv]; exact lt_at ha)
      have hlt := lt_at hu
      have : (((⟨vs⟩ : Array Value) ++ Array.replicate (n - (⟨vs⟩ : Array Value).size) undef).getD i undef) = u := by
        rw [Array.getD_eq_getD_getElem?, Array.getElem?_append_left (by simpa using hlt)]
        simp [hu]
      rw [this]
      exact hrep i x u ha hu
  · obtain ⟨rfl, i, cs', rfl, hi, hx⟩ := start_H h (by simp)
    injection hx with hx
    subst hx
    obtain ⟨g', hg'⟩ := some_at (L := gs) (k := i) (by rw [hr.len]; exact lt_at hi)
    obtain ⟨h1, t, us, h2, h3, h4⟩ := hr.at_ i g' cs hg' hi
    exact ⟨g', t, us, refρ_at hg', h2, h1, .inr (List.mem_of_getElem? hg'), h3, h4⟩
  · obtain ⟨_, _, _, _, _, hx⟩ := start_H h (by simp)
    cases hx
  · obtain ⟨i, rfl, hi⟩ := hblk s g h1
    obtain ⟨j, rfl, hj⟩ := hblk s' g h2
    have : i = j := by
      exact nodup_at hn hi hj
    rw [this]
  · have : ((start0 args refs).H s).k = 0 := rfl
    rw [this] at hk
    unfold refρ
    rw [if_neg (by omega)]
end Go.Proofs.YtbacidnhjmdnlaaDoor
