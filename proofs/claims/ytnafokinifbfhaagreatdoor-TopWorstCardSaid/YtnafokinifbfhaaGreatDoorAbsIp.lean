/- Hazards, in plain words: which states agree with masks, what is lost, and that the worst case gets no worse where nothing is lost; nothing is walked here; conditions: none / Calls that change what they are handed in place: boxes and buffers stay where they are; conditions: tables of types that agree with the program's. -/
import Derived.Test.YtnafokinifbfhaaGreatDoorSuB
import Derived.Test.YtnafokinifbfhaaGreatDoorAbsJ
set_option linter.unusedVariables false
set_option linter.unusedSimpArgs false
namespace Go.Proofs.YtnafokinifbfhaaGreatDoor
open Go Go.RowKit
theorem rL {d : Dv} {n : Nat} (h : jZ d n = true) : 0 ≤ d.a ∧ d.a < n := by
  unfold jZ at h
  split at h
  · cases h
  · omega
theorem rX {d : Dv} {n : Nat} (h : jZ d n = true) (hj : qX d.k = true) : 0 ≤ d.b ∧ d.b < n := by
  unfold jZ at h
  rw [hj] at h
  split at h
  · cases h
  · simp at h; omega
def valU (t : List Int) : List Int → Nat
  | [] => 0
  | d :: D => (if t.getD d.toNat 0 = 2 then 1 else 0) * 2 ^ D.length + valU t D
theorem lC (t : List Int) : ∀ D : List Int, valU t D < 2 ^ D.length
  | [] => by simp [valU]
  | d :: D => by
    have := lC t D
    rw [valU, List.length_cons, Nat.pow_succ]
    split <;> omega
theorem uO (u j : Nat) (t : List Int) : ∀ (D : List Int) (i : Nat) (s : List Int), u = i + D.length → j % 2 ^ D.length = valU t D → (∀ d ∈ D, 0 ≤ d ∧ (t.getD d.toNat 0 = 1 ∨ t.getD d.toNat 0 = 2)) → ∀ k : Nat, k < s.length → (setU u j i D s)[k]? = if (k : Int) ∈ D then some (t.getD k 0) else s[k]?
  | [], i, s, _, _, _, k, hk => by simp [setU]
  | d :: D, i, s, hu, hj, hD, k, hk => by
    have hd := hD d (by simp)
    rw [List.length_cons] at hu hj
    have hr := lC t D
    obtain ⟨p, hp⟩ : ∃ p, p = 2 ^ D.length := ⟨_, rfl⟩
    have hp0 : 0 < p := by rw [hp]; exact Nat.pow_pos (by decide)
    rw [Nat.pow_succ, valU] at hj
    rw [← hp] at hj hr
    have e1 : j % p = valU t D := by
      have h1 : j % (p * 2) % p = j % p := Nat.mod_mod_of_dvd j (Nat.dvd_mul_right p 2)
      rw [hj] at h1
      rw [← h1]
      split
      · rw [Nat.one_mul, Nat.add_mod_left, Nat.mod_eq_of_lt hr]
      · rw [Nat.zero_mul, Nat.zero_add, Nat.mod_eq_of_lt hr]
    have e2 : (1 + ((j / p % 2 : Nat) : Int)) = t.getD d.toNat 0 := by
      have h1 : j % (p * 2) / p = j / p % 2 := Nat.mod_mul_right_div_self j p 2
      rw [hj] at h1
      rcases hd.2 with h2 | h2
      · rw [h2, if_neg (by decide), Nat.zero_mul, Nat.zero_add, Nat.div_eq_of_lt hr] at h1
        rw [← h1, h2]; rfl
      · rw [h2, if_pos rfl, Nat.one_mul, Nat.add_comm, Nat.add_div_right _ hp0, Nat.div_eq_of_lt hr] at h1
        rw [← h1, h2]; rfl
    rw [setU, show u - 1 - i = D.length by omega, ← hp, e2, uO u j t D (i + 1) _ (by omega) (by rw [← hp]; exact e1) (fun e he => hD e (by simp [he])) k (by simpa using hk)]
    by_cases h1 : (k : Int) ∈ D
    · rw [if_pos h1, if_pos (by simp [h1])]
    · rw [if_neg h1]
      by_cases h2 : (k : Int) = d
      · rw [if_pos (by simp [h2])]
        have e : d.toNat = k := by omega
        rw [e, List.getElem?_set_self hk]
      · rw [if_neg (by simp [h1, h2]), List.getElem?_set_ne (by omega)]
theorem tP (u j : Nat) : ∀ (D : List Int) (i : Nat) (s : List Int), (∀ d ∈ D, 0 ≤ d) → ∀ k : Nat, ¬ (k : Int) ∈ D → (setU u j i D s)[k]? = s[k]?
  | [], i, s, _, k, _ => rfl
  | d :: D, i, s, hD, k, hk => by
    rw [setU, tP u j D (i + 1) _ (fun e he => hD e (by simp [he])) k (fun h => hk (by simp [h])), List.getElem?_set_ne]
    intro e
    have := hD d (by simp)
    exact hk (by simp; left; omega)
theorem tR : ∀ (L : List Int) (i k : Nat), ((i + k : Nat) : Int) ∈ jb i L → L[k]? = some 3
  | [], i, k, h => by cases h
  | m :: L, i, k, h => by
    rw [jb] at h
    cases k with
    | zero =>
      by_cases e : m = 3
      · rw [e]; rfl
      · rw [if_neg e] at h
        have := mX L (i + 1) _ h
        omega
    | succ k =>
      have ih := tR L (i + 1) k
      rw [show i + 1 + k = i + (k + 1) by omega] at ih
      split at h
      · rcases List.mem_cons.1 h with h | h
        · omega
        · simpa using ih h
      · simpa using ih h
theorem mF {L : List Int} {k : Nat} : (k : Int) ∈ unkP L ↔ L[k]? = some 3 := by
  unfold unkP
  have h1 := tR L 0 k
  have h2 := iN L 0 k
  rw [Nat.zero_add] at h1 h2
  exact ⟨h1, h2⟩
structure Agr (m s : List Int) : Prop where
  l : s.length = m.length
  at_ : ∀ (k : Nat) (x y : Int), m[k]? = some x → s[k]? = some y → (x = 3 ∧ (y = 1 ∨ y = 2)) ∨ (x ≠ 3 ∧ y = x)
theorem lA {m s : List Int} (h : Agr m s) : s ∈ allP m := by
  unfold allP
  refine List.mem_map.2 ⟨valU s (unkP m), List.mem_range.2 (lC s _), ?_⟩
  have hl := mM m (valU s (unkP m))
  refine List.ext_getElem? fun k => ?_
  by_cases hk : k < m.length
  · obtain ⟨x, hx⟩ := zT hk
    obtain ⟨y, hy⟩ := zT (L := s) (k := k) (by rw [h.l]; exact hk)
    have ha := h.at_ k x y hx hy
    unfold qm
    rw [uO _ _ s (unkP m) 0 m (by omega) (Nat.mod_eq_of_lt (lC s _)) (fun d hd => ?_) k hk]
    · by_cases hu : (k : Int) ∈ unkP m
      · rw [if_pos hu, getD_some hy, hy]
      · rw [if_neg hu, hx, hy]
        rcases ha with ⟨ha, _⟩ | ⟨_, ha⟩
        · subst ha; exact absurd (mF.2 hx) hu
        · rw [ha]
    · obtain ⟨q0, q1⟩ := kX d hd
      refine ⟨q0, ?_⟩
      obtain ⟨z, hz⟩ := zT (L := s) (k := d.toNat) (by rw [h.l]; omega)
      have h3 : m[d.toNat]? = some 3 := mF.1 (by rw [Int.toNat_of_nonneg q0]; exact hd)
      rcases h.at_ d.toNat 3 z h3 hz with ⟨_, h4⟩ | ⟨h4, _⟩
      · rw [getD_some hz]; exact h4
      · exact absurd rfl h4
  · rw [List.getElem?_eq_none (by rw [hl]; omega), List.getElem?_eq_none (by rw [h.l]; omega)]
theorem all_agr {V : List Dv} {m s : List Int} (M : MkOk V m) (h : s ∈ allP m) : Agr m s := by
  have hok := mG M s h
  refine ⟨by rw [hok.l, M.l], fun k x y hx hy => ?_⟩
  have hy2 := hok.p y (List.mem_of_getElem? hy)
  by_cases e : x = 3
  · refine .inl ⟨e, ?_⟩
    unfold posB at hy2
    simp at hy2
    omega
  · refine .inr ⟨e, ?_⟩
    unfold allP at h
    obtain ⟨j, _, rfl⟩ := List.mem_map.1 h
    unfold qm at hy
    rw [tP _ _ _ _ _ (fun d hd => (kX d hd).1) k (fun hu => by rw [mF] at hu; rw [hu] at hx; injection hx with hx; exact e hx.symm), hx] at hy
    injection hy with hy
    exact hy.symm
def qT (N : List Nd) (V : List Dv) (a b : List Int) : List Int := (supP N V a).filter fun v => !hasI (supP N V b) v
theorem bP {L : List Int} {x : Int} : hasI L x = true ↔ x ∈ L := by
  unfold hasI
  rw [List.any_eq_true]
  constructor
  · rintro ⟨y, hy, h⟩; simp at h; subst h; exact hy
  · intro h; exact ⟨x, h, by simp⟩
theorem uI {N : List Nd} {V : List Dv} {a b : List Int} : qT N V a b = [] ↔ ∀ v ∈ supP N V a, v ∈ supP N V b := by
  unfold qT
  rw [List.filter_eq_nil_iff]
  constructor
  · intro h v hv
    have := h v hv
    rw [← bP]
    cases hq : hasI (supP N V b) v
    · rw [hq] at this; simp at this
    · rfl
  · intro h v hv
    rw [bP.2 (h v hv)]; decide
theorem cH (N : List Nd) : ∀ (l : List Int) (a : Int), l.foldl (fun s v => s + cuAt N v) a = a + qA N l
  | [], a => by simp [qA]
  | v :: l, a => by
    unfold qA
    rw [List.foldl_cons, List.foldl_cons, cH N l, cH N l]
    omega
theorem dL (N : List Nd) (v : Int) (l : List Int) : qA N (v :: l) = cuAt N v + qA N l := by
  have h : qA N (v :: l) = l.foldl (fun s v => s + cuAt N v) (0 + cuAt N v) := rfl
  rw [h, cH]
  omega
theorem sS (N : List Nd) (h0 : ∀ v, 0 ≤ cuAt N v) (c c' : List Int) : ∀ (l : List Nd) (i : Nat), (∀ v ∈ jK c i l, v ∈ jK c' i l) → qA N (jK c i l) ≤ qA N (jK c' i l)
  | [], i, _ => by simp [jK]
  | x :: l, i, h => by
    have ht : ∀ v ∈ jK c (i + 1) l, v ∈ jK c' (i + 1) l := fun v hv => by
      have hb := iI c l (i + 1) v hv
      have h1 : v ∈ jK c' i (x :: l) := h v (by rw [jK]; split <;> simp [hv])
      rw [jK] at h1
      split at h1
      · rcases List.mem_cons.1 h1 with h1 | h1
        · omega
        · exact h1
      · exact h1
    have ih := sS N h0 c c' l (i + 1) ht
    have hc := h0 (i : Int)
    by_cases p : 0 < x.cu ∧ c.getD i 0 = 1
    · have p' : 0 < x.cu ∧ c'.getD i 0 = 1 := by
        have h1 : (i : Int) ∈ jK c' i (x :: l) := h i (by rw [jK, if_pos p]; simp)
        rw [jK] at h1
        split at h1
        · assumption
        · have := iI c' l (i + 1) _ h1
          omega
      rw [jK, jK, if_pos p, if_pos p', dL, dL]
      omega
    · rw [jK, jK, if_neg p]
      split
      · rw [dL]; omega
      · exact ih
theorem cust_mono {N : List Nd} {V : List Dv} {G : Nat → Option (List Value)} (U : NwU G N V) {a b : List Int} (h : ∀ v ∈ supP N V a, v ∈ supP N V b) : bG N V a ≤ bG N V b := by
  refine sS N (fun v => ?_) _ _ N 0 h
  unfold cuAt
  cases hq : N[v.toNat]? with
  | none => exact Int.le_refl _
  | some x => exact (U.cu x (List.mem_of_getElem? hq)).1
theorem fU : ∀ (l : List Int) (a : Int), l.foldl min a ≤ a ∧ ∀ x ∈ l, l.foldl min a ≤ x
  | [], a => ⟨Int.le_refl _, fun x hx => by cases hx⟩
  | y :: l, a => by
    have := fU l (min a y)
    refine ⟨by rw [List.foldl_cons]; omega, fun x hx => ?_⟩
    rw [List.foldl_cons]
    rcases List.mem_cons.1 hx with h | h
    · subst h; omega
    · exact this.2 x h
theorem minP_le {l : List Int} {x : Int} (h : x ∈ l) : minP l ≤ x := by
  cases l with
  | nil => cases h
  | cons y l =>
    rcases List.mem_cons.1 h with h | h
    · subst h; exact (fU l x).1
    · exact (fU l y).2 x h
theorem nQ {b : Int} : ∀ (l : List Int) (a : Int), b ≤ a → (∀ x ∈ l, b ≤ x) → b ≤ l.foldl min a
  | [], a, h, _ => h
  | y :: l, a, h, hl => by
    rw [List.foldl_cons]
    refine nQ l _ ?_ (fun x hx => hl x (by simp [hx]))
    have := hl y (by simp)
    omega
theorem le_minP {b : Int} {l : List Int} (h0 : l ≠ []) (h : ∀ x ∈ l, b ≤ x) : b ≤ minP l := by
  cases l with
  | nil => exact absurd rfl h0
  | cons y l => exact nQ l y (h y (by simp)) (fun x hx => h x (by simp [hx]))
theorem uY {N : List Nd} {V : List Dv} {m s : List Int} (h : s ∈ allP m) : cA N V m ≤ bG N V s := minP_le (List.mem_map.2 ⟨s, h, rfl⟩)
theorem agr_back {V : List Dv} {m s : List Int} {d : Nat} {p : Int} (M : MkOk V m) (hd : d < V.length) (hp : p = 1 ∨ p = 2) (h : Agr (m.set d p) s) : ∃ t, Agr m t ∧ s = t.set d p ∧ s[d]? = some p := by
  have hdm : d < m.length := by rw [M.l]; exact hd
  have hsl : s.length = m.length := by rw [h.l]; simp
  obtain ⟨y, hy⟩ := zT (L := s) (k := d) (by omega)
  have hyp : y = p := by
    rcases h.at_ d p y (List.getElem?_set_self hdm) hy with ⟨e, _⟩ | ⟨_, e⟩
    · omega
    · exact e
  subst hyp
  obtain ⟨x, hx⟩ := zT hdm
  have hset : s = s.set d y := by
    refine List.ext_getElem? fun k => ?_
    by_cases e : k = d
    · subst e; rw [List.getElem?_set_self (by omega), hy]
    · rw [List.getElem?_set_ne (Ne.symm e)]
  by_cases hx3 : x = 3
  · refine ⟨s, ⟨hsl, fun k a b ha hb => ?_⟩, hset, hy⟩
    by_cases e : k = d
    · subst e
      rw [hx] at ha
      rw [hy] at hb
      injection ha with ha
      injection hb with hb
      subst ha; subst hb
      exact .inl ⟨hx3, hp⟩
    · exact h.at_ k a b (by rw [List.getElem?_set_ne (Ne.symm e)]; exact ha) hb
  · refine ⟨s.set d x, ⟨by simp [hsl], fun k a b ha hb => ?_⟩, ?_, hy⟩
    · by_cases e : k = d
      · subst e
        rw [hx] at ha
        rw [List.getElem?_set_self (by omega)] at hb
        injection ha with ha
        injection hb with hb
        subst ha; subst hb
        exact .inr ⟨hx3, rfl⟩
      · rw [List.getElem?_set_ne (Ne.symm e)] at hb
        exact h.at_ k a b (by rw [List.getElem?_set_ne (Ne.symm e)]; exact ha) hb
    · rw [List.set_set]; exact hset
theorem agr_next {m s : List Int} {d : Nat} {p : Int} (hp : p = 1 ∨ p = 2) (h : Agr m s) : Agr (m.set d p) (s.set d p) := by
  refine ⟨by simp [h.l], fun k a b ha hb => ?_⟩
  by_cases e : k = d
  · subst e
    have h1 := zi ha
    have h2 := zi hb
    rw [List.length_set] at h1 h2
    rw [List.getElem?_set_self h1] at ha
    rw [List.getElem?_set_self h2] at hb
    injection ha with ha
    injection hb with hb
    subst ha; subst hb
    exact .inr ⟨by omega, rfl⟩
  · rw [List.getElem?_set_ne (Ne.symm e)] at ha hb
    exact h.at_ k a b ha hb
theorem unk_set {m : List Int} {d : Nat} {p : Int} (hp : p = 1 ∨ p = 2) : (unkP (m.set d p)).length ≤ (unkP m).length := by
  unfold unkP
  have key : ∀ (L : List Int) (i d : Nat), (jb i (L.set d p)).length ≤ (jb i L).length := by
    intro L
    induction L with
    | nil => intro i d; simp
    | cons x L ih =>
      intro i d
      cases d with
      | zero =>
        rw [List.set_cons_zero, jb, jb, if_neg (by omega)]
        split <;> simp
      | succ d =>
        rw [List.set_cons_succ, jb, jb]
        have := ih (i + 1) d
        split <;> simp <;> omega
  exact key m 0 d
theorem vW {V : List Dv} {m : List Int} {d : Nat} {p : Int} (hp : p = 1 ∨ p = 2) (M : MkOk V m) : MkOk V (m.set d p) := by
  refine ⟨by simp [M.l], fun x hx => ?_, Nat.le_trans (unk_set hp) M.u⟩
  rcases List.mem_or_eq_of_mem_set hx with h | h
  · exact M.p x h
  · subst h; unfold isB; simp; omega
theorem st_set {V : List Dv} {s : List Int} {d : Nat} {p : Int} (hp : p = 1 ∨ p = 2) (S : StOk V s) : StOk V (s.set d p) := by
  refine ⟨by simp [S.l], fun x hx => ?_⟩
  rcases List.mem_or_eq_of_mem_set hx with h | h
  · exact S.p x h
  · subst h; unfold posB; simp; omega
theorem uK {s : List Int} {d : Nat} {p : Int} (h : s[d]? = some p) : s.set d p = s := by
  refine List.ext_getElem? fun k => ?_
  by_cases e : k = d
  · subst e; rw [List.getElem?_set_self (zi h), h]
  · rw [List.getElem?_set_ne (Ne.symm e)]
theorem wX {N : List Nd} {V : List Dv} {G : Nat → Option (List Value)} (U : NwU G N V) {m : List Int} {d : Nat} {p : Int} (M : MkOk V m) (hd : d < V.length) (hp : p = 1 ∨ p = 2) (h : ∀ s ∈ allP m, s[d]? = some p ∨ qT N V s (s.set d p) = []) : cA N V m ≤ cA N V (m.set d p) := by
  refine le_minP (by simp [all_ne]) fun x hx => ?_
  obtain ⟨s, hs, rfl⟩ := List.mem_map.1 hx
  obtain ⟨t, ht, e, _⟩ := agr_back M hd hp (all_agr (vW hp M) hs)
  have ht' := lA ht
  refine Int.le_trans (uY ht') ?_
  rcases h t ht' with h1 | h1
  · rw [uK h1] at e
    rw [e]; exact Int.le_refl _
  · rw [e]
    exact cust_mono U (uI.1 h1)
theorem lost_none {N : List Nd} {V : List Dv} {m s : List Int} {d : Nat} {p : Int} (h : ∀ s ∈ allP m, s[d]? = some p ∨ qT N V s (s.set d p) = []) (hs : s ∈ allP m) : qT N V s (s.set d p) = [] := by
  rcases h s hs with h1 | h1
  · rw [uK h1]; exact uI.2 fun _ h => h
  · exact h1
end Go.Proofs.YtnafokinifbfhaaGreatDoor
namespace Go.Proofs.YtnafokinifbfhaaGreatDoor
open Go Go.RowKit
def iU (G : Nat → Option (List Value)) (M : Nat → Option (Array Value)) (w : World) (vs : List Value) (r : AV) (refs' : List Cont) (e : Ending) (w' : World) : Prop :=
  ∃ u M', e = .returned u ∧ (∀ g a, M g = some a → M' g = some a) ∧ aE M' w' ∧ w'.os = w.os ∧ w'.tape = w.tape ∧ w'.output = w.output ∧ w.heap.size ≤ w'.heap.size ∧ (∀ g, g < w.heap.size → g ∉ blks vs → w'.heap[g]? = w.heap[g]?) ∧
    (∀ g, g < w.heap.size → g ∉ blks vs → M g = none → M' g = none) ∧ RefsJ (ctxJ w vs G M) M' w' vs refs' ∧ Rep M' (valρ vs) r u
def qq (P : Program) (G : Nat → Option (List Value)) (f : FuncId) (args : List AV) (refs : List Cont) (r : AV) (refs' : List Cont) : Prop :=
  qQ P f ∧ ∀ M w rvs (vs : List Value), aE M w → (∀ g us, G g = some us → M g = some ⟨us⟩) → RefsJ (ctxJ w rvs G M) M w rvs refs → vs.length = args.length →
    (∀ (j : Nat) (x : AV) (u : Value), args[j]? = some x → vs[j]? = some u → Rep M (valρ rvs) x u) → Calls P f ⟨vs⟩ w (iU G M w rvs r refs')
def fH (m : Nat) : List (Nat × Nat) := (List.range m).map fun i => (refB + i, 0)
theorem stdFs_at {m i : Nat} (h : i < m) : (fH m)[i]? = some (refB + i, 0) := by unfold fH; rw [List.getElem?_map, List.getElem?_range h]; rfl
theorem stdFs_len (m : Nat) : (fH m).length = m := by simp [fH]
theorem stdFs_nd (m : Nat) : ((fH m).map (·.1)).Nodup := by
  unfold fH
  rw [List.map_map]
  refine List.Pairwise.map _ (fun a b h e => h ?_) List.nodup_range
  have e : refB + a = refB + b := e
  omega
def RetP (TB : Tabs) (fn : Func) (m : Nat) (r : AV) (refs' : List Cont) (e : Exit) (σ : AS) : Prop :=
  (e = .normal ∨ e = .ret) ∧ ∃ xs, ResL TB σ fn.results.toList xs ∧ Ren noB (πs (fH m)) r (gG xs) ∧ bL σ (πs (fH m)) m 0 (fH m) refs'
theorem pJ {TB : Tabs} {fn : Func} {r : AV} {ex : Exit} {σ : AS} {xs L : List AV} {k e sz : Nat} (he : ex = .normal ∨ ex = .ret) (hx : ResL TB σ fn.results.toList xs) (hr : Ren noB (πs [(refB + 0, 0)]) r (gG xs)) (hH : σ.H (refB + 0) = ⟨k, .buf e sz L⟩) (hk : k = 0) : RetP TB fn 1 r [.buf e sz L] ex σ := by
  subst hk
  exact ⟨he, xs, hx, hr, hH, trivial⟩
theorem retP2 {TB : Tabs} {fn : Func} {r : AV} {ex : Exit} {σ : AS} {xs L c : List AV} {k e sz k1 : Nat} (he : ex = .normal ∨ ex = .ret) (hx : ResL TB σ fn.results.toList xs) (hr : Ren noB (πs [(refB + 0, 0), (refB + 1, 0)]) r (gG xs)) (hH : σ.H (refB + 0) = ⟨k, .buf e sz L⟩) (hk : k = 0) (hH1 : σ.H (refB + 1) = ⟨k1, .box c⟩) (hk1 : k1 = 0) (hc : qI c = true) : RetP TB fn 2 r [.buf e sz L, .box c] ex σ := by
  subst hk; subst hk1
  exact ⟨he, xs, hx, hr, hH, ⟨⟨c, hH1, qH hc⟩, fun _ => ⟨rfl, rfl⟩⟩, trivial⟩
section
variable {P : Program} {TB : Tabs} {X : Ctx} {n : Nat} {M : Nat → Option (Array Value)} {ρ : Nat → Nat → Option Value} {σ : AS} {a : Act} {w : World}
theorem retP_post {G : Nat → Option (List Value)} {w0 : World} {rvs : List Value} {M0 : Nat → Option (Array Value)} {refs : List Cont} {fn : Func} {r : AV} {refs' : List Cont} {e : Exit} (hTB : TabsOk P TB) (hlive : aE M0 w0) (hr0 : RefsJ (ctxJ w0 rvs G M0) M0 w0 rvs refs)
    (hR : Rel (ctxJ w0 rvs G M0) n M ρ σ a w) (hQ : RetP TB fn rvs.length r refs' e σ) : bodyPost P fn (iU G M0 w0 rvs r refs') e a w := by
  obtain ⟨he, xs, h1, h3, h4⟩ := hQ
  obtain ⟨u, hu, hru⟩ := rV hTB hR h1
  obtain ⟨hlen, hat⟩ := aV h4
  obtain ⟨q1, q2, q3⟩ := hR.refsJ (X' := ctxJ w0 rvs G M0) (stdFs_nd _) hlen (fun j p c hp hc => (hat j p c hp hc).imp (fun ⟨b, b', e1, e2, e3, _⟩ => ⟨b, b', e1, e2, e3⟩) id) (fun _ _ _ _ _ _ _ h => h)
  have hvs : ((fH rvs.length).map fun p => (ρ p.1 p.2).getD undef) = rvs := by
    refine List.ext_getElem? fun i => ?_
    rw [List.getElem?_map]
    by_cases hi : i < rvs.length
    · rw [stdFs_at hi]
      obtain ⟨v, hv⟩ := zT hi
      have := hR.root i v hv
      rw [hv]
      simp [this]
    · rw [List.getElem?_eq_none (by rw [stdFs_len]; omega), List.getElem?_eq_none (by omega)]; rfl
  rw [hvs] at q1 q2
  have hM0 : ∀ g a, M0 g = some a → M g = some a := fun g a h => by
    obtain ⟨t, fr, hh⟩ := hlive g a h
    rw [hR.base g (Array.getElem?_eq_some_iff.1 hh).1 (fun hin => ?_)]
    · exact h
    · obtain ⟨i, v, hi, hg⟩ := bM.1 hin
      rw [(hr0.own_ hi hg).1] at h; cases h
  have hpost : iU G M0 w0 rvs r refs' (.returned u) w :=
    ⟨u, M, rfl, hM0, hR.live, hR.os, hR.tape, hR.output, hR.size, hR.frame, fun g hg hn h0 => by rw [hR.base g hg hn]; exact h0, q1, Ren.out q2 (fun _ _ e => e) (fun _ _ _ _ _ hb _ => hb.elim) h3 hru⟩
  rcases he with rfl | rfl
  · exact ⟨hR.df, u, hu, hpost⟩
  · exact ⟨hR.df, u, hu, hpost⟩
end
section
variable {P : Program} {TB : Tabs} {G : Nat → Option (List Value)} {f : FuncId} {args : List AV} {refs : List Cont} {r : AV} {refs' : List Cont}
theorem qZ (hTB : TabsOk P TB) {fn : Func} {c : Code} (he : qQ P f) (hf : P.funcs[f]? = some fn) (hb : fn.body = some c) (n : Nat) (hn : fn.ntmps = n) (hle : args.length ≤ n)
    (h : ∀ X : Ctx, X.G = G → AWp P X n c (RetP TB fn refs.length r refs') (dZ args refs)) : qq P G f args refs r refs' := by
  refine ⟨he, fun M w rvs vs hl hG hr hv hrep => ?_⟩
  refine calls_of_wp hf hb ?_
  rw [hn]
  have hR := mH (n := n) hl hG hr hv hrep hle
  refine wp_mono ((h (ctxJ w rvs G M) rfl).run M (valρ rvs) _ w hR) ?_
  rintro e a' w' ⟨M', ρ', σ', hR', hQ⟩
  rw [← hr.len] at hQ
  exact retP_post hTB hl hr hR' hQ
end
def bS (π : Nat → Option (Nat × Nat)) : List (Nat × Nat) → List Cont → List Cont → Prop
  | [], [], [] => True
  | _ :: ss, .box c :: cs, c0 :: cs' => (∃ c'', c0 = .box c'' ∧ aP π c c'') ∧ bS π ss cs cs'
  | _ :: ss, .buf e sz L :: cs, c0 :: cs' => c0 = .buf e sz L ∧ bS π ss cs cs'
  | _, _, _ => False
theorem cD {π : Nat → Option (Nat × Nat)} : ∀ {ss : List (Nat × Nat)} {cs cs' : List Cont}, bS π ss cs cs' → cs.length = ss.length ∧ cs'.length = ss.length ∧
    ∀ (j : Nat) (c c' : Cont), cs[j]? = some c → cs'[j]? = some c' → (∃ b b', c = .box b ∧ c' = .box b' ∧ aP π b b') ∨ (∃ e sz L, c = .buf e sz L ∧ c' = .buf e sz L)
  | [], [], [], _ => ⟨rfl, rfl, by simp⟩
  | _ :: ss, .box c :: cs, c0 :: cs', h => by
    obtain ⟨h1, h2, h5⟩ := cD h.2
    obtain ⟨c'', rfl, hb⟩ := h.1
    refine ⟨by simp [h1], by simp [h2], fun j d d' hd hd' => ?_⟩
    cases j with
    | zero => simp at hd hd'; subst hd; subst hd'; exact .inl ⟨c, c'', rfl, rfl, hb⟩
    | succ j => exact h5 j d d' (by simpa using hd) (by simpa using hd')
  | _ :: ss, .buf e sz L :: cs, c0 :: cs', h => by
    obtain ⟨h1, h2, h5⟩ := cD h.2
    obtain rfl := h.1
    refine ⟨by simp [h1], by simp [h2], fun j d d' hd hd' => ?_⟩
    cases j with
    | zero => simp at hd hd'; subst hd; subst hd'; exact .inr ⟨e, sz, L, rfl, rfl⟩
    | succ j => exact h5 j d d' (by simpa using hd) (by simpa using hd')
  | [], [], c :: cs, h => h.elim
  | [], c :: cs, _, h => by cases c <;> exact h.elim
  | p :: ss, [], _, h => h.elim
  | p :: ss, .box c :: cs, [], h => h.elim
  | p :: ss, .buf e sz L :: cs, [], h => h.elim
  | p :: ss, .dead :: cs, _, h => h.elim
  | p :: ss, .ob o :: cs, _, h => h.elim
section
variable {P : Program} {X : Ctx} {n : Nat} {M : Nat → Option (Array Value)} {ρ : Nat → Nat → Option Value} {σ : AS} {a : Act} {w : World}
theorem callP_go (hR : Rel X n M ρ σ a w) {f : FuncId} {args : List AV} {refs refs' cs' : List Cont} {r y : AV} {ss : List (Nat × Nat)} {vs : List Value} (hc : qq P X.G f args refs r refs')
    (hss : (ss.map (·.1)).Nodup) (hin : qd σ (πs ss) ss refs) (hback : bS (πs ss) ss refs' cs') (hr : RenB (πs ss) r y) (hvl : vs.length = args.length)
    (hargs : ∀ ρb : Nat → Nat → Option Value, (∀ i s k, πs ss i = some (s, k) → ρb (refB + i) 0 = ρ s k) → ∀ (j : Nat) (x : AV) (u : Value), args[j]? = some x → vs[j]? = some u → Rep M ρb x u) :
    Calls P f ⟨vs⟩ w fun e w' => ∃ u M' ρ', e = .returned u ∧ Rel X n M' ρ' (hups (hwJ ss cs') σ) a w' ∧ Rep M' ρ' y u := by
  obtain ⟨hlen, hat⟩ := cF hin
  obtain ⟨hl2, hl3, hbk⟩ := cD hback
  obtain ⟨q1, q2, q3⟩ := hR.refsJ (X' := ctxJ w (ss.map fun p => (ρ p.1 p.2).getD undef) X.G M) hss hlen hat (fun j p v g hp hv hg _ => .inr (bM.2 ⟨j, v, by rw [List.getElem?_map, hp]; simp [hv], hg⟩))
  generalize hrv : (ss.map fun p => (ρ p.1 p.2).getD undef) = rvs at q1 q2
  have hrl : rvs.length = ss.length := by rw [← hrv]; simp
  have hrat : ∀ (j : Nat) (p : Nat × Nat) (v : Value), ss[j]? = some p → rvs[j]? = some v → ρ p.1 p.2 = some v := fun j p v hp hv => by
    obtain ⟨v', e1, _⟩ := q3 j p hp
    rw [← hrv, List.getElem?_map, hp] at hv
    simp [e1] at hv
    rw [e1, hv]
  have hown : ∀ g, g ∈ blks rvs → ∃ (j : Nat) (p : Nat × Nat), ss[j]? = some p ∧ za ρ p.1 (σ.H p.1) = some g ∧ (X.w0.heap.size ≤ g ∨ g ∈ X.gs) := fun g hg => by
    obtain ⟨j, v, hv, hg⟩ := bM.1 hg
    obtain ⟨p, hp⟩ := zT (L := ss) (k := j) (by rw [← hrl]; exact zi hv)
    obtain ⟨v', e1, e2⟩ := q3 j p hp
    rw [hrat j p v hp hv] at e1
    injection e1 with e1
    subst e1
    exact ⟨j, p, hp, (e2 g hg).1, (e2 g hg).2⟩
  refine (hc.2 M w rvs vs hR.live hR.glob q1 hvl (hargs _ q2)).mono ?_
  rintro e w' ⟨u, M', rfl, p1, p2, p3, p4, p5, p6, p7, p8, p9, p11⟩
  have hsite : ∀ s, s ∈ ss.map (·.1) → ∃ (j : Nat) (p : Nat × Nat) (c c' : Cont) (v : Value), ss[j]? = some p ∧ refs'[j]? = some c ∧ cs'[j]? = some c' ∧ rvs[j]? = some v ∧ p.1 = s := fun s hs => by
    obtain ⟨p, hp, rfl⟩ := List.mem_map.1 hs
    obtain ⟨j, hj⟩ := List.getElem?_of_mem hp
    have hlt := zi hj
    obtain ⟨c, hc⟩ := zT (L := refs') (k := j) (by omega)
    obtain ⟨c', hc'⟩ := zT (L := cs') (k := j) (by omega)
    obtain ⟨v, hv⟩ := zT (L := rvs) (k := j) (by omega)
    exact ⟨j, p, c, c', v, hj, hc, hc', hv, rfl⟩
  have hT : (hups (hwJ ss cs') σ).T = σ.T := ql _ _
  have hk : ∀ (j : Nat) (p : Nat × Nat), ss[j]? = some p → (σ.H p.1).k = p.2 := fun j p hp => by
    obtain ⟨c0, hc0⟩ := zT (L := refs) (k := j) (by have := zi hp; omega)
    rcases hat j p c0 hp hc0 with ⟨b, b', _, h1, _⟩ | ⟨e, sz, L, _, h1⟩ <;> rw [h1]
  have hfar : ∀ s, s ∉ ss.map (·.1) → (hups (hwJ ss cs') σ).H s = σ.H s := fun s hs => kY ss cs' σ s hs
  have hnot : ∀ s g, s ∉ ss.map (·.1) → za ρ s (σ.H s) = some g → g ∉ blks rvs := fun s g hs hg hin' => by
    obtain ⟨j, p, hp, hb, _⟩ := hown g hin'
    exact hs (hR.sep s p.1 g hg hb ▸ List.mem_map_of_mem (f := (·.1)) (List.mem_of_getElem? hp))
  have hkeep : ∀ s g, s ∉ ss.map (·.1) → za ρ s (σ.H s) = some g → w'.heap[g]? = w.heap[g]? := fun s g hs hg => p7 g (hR.blk_lt hg).1 (hnot s g hs hg)
  have hM'n : ∀ s g, s ∉ ss.map (·.1) → za ρ s (σ.H s) = some g → M g = none → M' g = none := fun s g hs hg h0 => p8 g (hR.blk_lt hg).1 (hnot s g hs hg) h0
  have hmine : ∀ g, (w.heap.size ≤ g ∨ g ∈ blks rvs) → X.w0.heap.size ≤ g ∨ g ∈ X.gs := fun g hg => by
    rcases hg with hg | hg
    · exact .inl (Nat.le_trans hR.size hg)
    · obtain ⟨_, _, _, _, h⟩ := hown g hg
      exact h
  have hsH : ∀ s (j : Nat) (p : Nat × Nat) (c' : Cont), ss[j]? = some p → cs'[j]? = some c' → p.1 = s → (hups (hwJ ss cs') σ).H s = ⟨p.2, c'⟩ := fun s j p c' h1 h2 h3 => by
    rw [← h3]; exact vH hss j p c' h1 h2
  have hvat : ∀ (j : Nat) (s k : Nat) (p : Nat × Nat) (v : Value), ss[j]? = some p → rvs[j]? = some v → p.1 = s → p.2 = k → ρ s k = some v := fun j s k p v h1 h2 h3 h4 => by
    rw [← h3, ← h4]; exact hrat j p v h1 h2
  have hblks : ∀ s g, za ρ s ((hups (hwJ ss cs') σ).H s) = some g → za ρ s (σ.H s) = some g := fun s g hg => by
    by_cases hs : s ∈ ss.map (·.1)
    · obtain ⟨j, p, c, c', v, h1, h2, h3, h4, h5⟩ := hsite s hs
      rw [hsH s j p c' h1 h3 h5] at hg
      have hv := hvat j s p.2 p v h1 h4 h5 rfl
      have hgv : vblk v = some g := by
        unfold za at hg
        cases c' <;> simp [hv] at hg <;> exact hg
      obtain ⟨v', e1, e2⟩ := q3 j p h1
      rw [hrat j p v h1 h4] at e1
      injection e1 with e1
      subst e1
      have := (e2 g hgv).1
      rw [h5] at this
      exact this
    · rw [hfar s hs] at hg; exact hg
  refine ⟨u, M', ρ, rfl, ⟨p2, hR.sz, fun i => by rw [hT]; exact (hR.tm i).mono' p1 (fun _ _ _ h => h), fun s k cs e => ?_, fun s k e' sz L e => ?_, fun s s' g e e' => hR.sep s s' g (hblks s g e) (hblks s' g e'), fun s k hk' => ?_, fun g us e => p1 _ _ (hR.glob g us e), fun g hg hgn => ?_, fun i v e => hR.root i v e, p3.trans hR.os, p4.trans hR.tape, p5.trans hR.output, Nat.le_trans hR.size p6, fun g hg hgn => ?_, hR.df, fun s k o e => ?_⟩, RenB.back (fun i s k hi => ?_) hr p11⟩
  · by_cases hs : s ∈ ss.map (·.1)
    · obtain ⟨j, p, c, c', v, h1, h2, h3, h4, h5⟩ := hsite s hs
      rw [hsH s j p c' h1 h3 h5] at e
      injection e with e1 e2
      subst e1; subst e2
      rcases hbk j c _ h2 h3 with ⟨b, b', rfl, e2, e3⟩ | ⟨_, _, _, _, e2⟩
      · injection e2 with e2
        subst e2
        obtain ⟨g, t, us, b1, b2, b3, b4, b5, b6⟩ := p9.box j b h2
        refine ⟨g, t, us, ?_, b2, b3, hmine g b4, by rw [b5]; exact e3.spec.1, fun i x z hx hz => ?_⟩
        · rw [hvat j s p.2 p v h1 h4 h5 rfl, ← h4, ← jn]; exact b1
        · obtain ⟨x0, hx0⟩ := zT (L := b) (k := i) (by rw [e3.spec.1]; exact zi hx)
          exact RenB.back q2 (e3.spec.2 i x0 x hx0 hx) (b6 i x0 z hx0 hz)
      · cases e2
    · rw [hfar s hs] at e
      have hlt := fun g (hg : ρ s k = some (.pointer (some ⟨g, 0, none⟩))) => (show za ρ s (σ.H s) = some g by rw [e]; simp [za, hg, vblk])
      exact (hR.box s k cs e).mono p1 (fun _ _ _ h => h) (fun g hg => hkeep s g hs (hlt g hg)) (fun g hg hn => hM'n s g hs (hlt g hg) hn)
  · by_cases hs : s ∈ ss.map (·.1)
    · obtain ⟨j, p, c, c', v, h1, h2, h3, h4, h5⟩ := hsite s hs
      rw [hsH s j p c' h1 h3 h5] at e
      injection e with e1 e2
      subst e1; subst e2
      rcases hbk j c _ h2 h3 with ⟨_, _, _, e2, _⟩ | ⟨e1, sz1, L1, rfl, e2⟩
      · cases e2
      · injection e2 with f1 f2 f3
        subst f1; subst f2; subst f3
        obtain ⟨z, us, b1, b2, b3, b4, b5, b6⟩ := p9.buf j _ _ _ h2
        rw [jn, h4] at b1
        injection b1 with b1
        subst b1
        exact ⟨v, us, hvat j s p.2 p v h1 h4 h5 rfl, ⟨b2.1, fun g hg => hmine g (b2.2 g hg)⟩, b3, b4, b5, b6⟩
    · rw [hfar s hs] at e
      have hlt := fun u g (hu : ρ s k = some u) (hg : vblk u = some g) => (show za ρ s (σ.H s) = some g by rw [e]; simp [za, hu, hg])
      exact (hR.buf s k e' sz L e).mono p1 (fun _ _ _ h => h) (fun u g hu hg => hkeep s g hs (hlt u g hu hg)) (fun u g hu hg hn => hM'n s g hs (hlt u g hu hg) hn)
  · by_cases hs : s ∈ ss.map (·.1)
    · obtain ⟨j, p, c, c', v, h1, h2, h3, h4, h5⟩ := hsite s hs
      rw [hsH s j p c' h1 h3 h5] at hk'
      have := hk j p h1
      rw [h5] at this
      exact hR.fresh s k (by rw [this]; exact hk')
    · rw [hfar s hs] at hk'
      exact hR.fresh s k hk'
  · rw [← hR.base g hg hgn]
    cases hm : M g with
    | some b => exact p1 g b hm
    | none => exact p8 g (Nat.lt_of_lt_of_le hg hR.size) (fun hin' => (hmine g (.inr hin')).elim (fun h1 => absurd hg (Nat.not_lt.2 h1)) hgn) hm
  · rw [p7 g (Nat.lt_of_lt_of_le hg hR.size) (fun hin' => (hmine g (.inr hin')).elim (fun h1 => absurd hg (Nat.not_lt.2 h1)) hgn)]
    exact hR.frame g hg hgn
  · by_cases hs : s ∈ ss.map (·.1)
    · obtain ⟨j, p, c, c', v, h1, h2, h3, h4, h5⟩ := hsite s hs
      rw [hsH s j p c' h1 h3 h5] at e
      injection e with e1 e2
      subst e2
      rcases hbk j c _ h2 h3 with ⟨_, _, _, e2, _⟩ | ⟨_, _, _, _, e2⟩ <;> cases e2
    · rw [hfar s hs] at e
      exact (hR.mp s k o e).mono (fun _ _ _ h => h) (fun g hg => hkeep s g hs (hR.mp_blk e hg)) (fun g hg hn => hM'n s g hs (hR.mp_blk e hg) hn) p1
  · exact q2 i s k hi
end
section
variable {P : Program} {X : Ctx} {n : Nat} {ops : Array Oper} {os : List Oper} {acc : List Rule} {σ : AS} {K : List Rule → AS → Prop} {gt : List (Nat × AV)} {d : Option Nat} {ty : TypeId} {ps : String} {af : Array Edge} {g : Option (Nat × Bool)}
theorem cR {f : FuncId} {tys : Array TypeId} {xs : List Operand} {args : List AV} {refs refs' cs' : List Cont} {r y : AV} {ss : List (Nat × Nat)} (hc : qq P X.G f args refs r refs') (hargs : RenL noB (πs ss) args (xs.map (ev σ)))
    (hss : (ss.map (·.1)).Nodup) (hin : qd σ (πs ss) ss refs) (hback : bS (πs ss) ss refs' cs') (hr : RenB (πs ss) r y)
    (h : Exec P X n ops os (mkG gt σ xs (ss.map (·.1)) d y (hwJ ss cs') :: acc) ((hups (hwJ ss cs') σ).put d y) K) : Op1 P X n ops gt ⟨d, .call ⟨.value (.func f), xs.toArray, tys⟩, ty, ps, af, g⟩ os acc σ K := by
  refine ⟨⟨mkR σ xs (ss.map (fun p : Nat × Nat => p.1)) d y (hwJ ss cs'), fun hlt M ρ τ a w hf hR K Q hK => ?_, zu _ _ _ _ _ _, h⟩⟩
  unfold Oper.wp
  rw [qU hc.1, Oper.upon_enter]
  refine (callP_go hR hc hss (bT hf (fun p hp => hp) hin) hback hr (by have := hargs.spec.1; simp at this ⊢; omega) (fun ρb hπ => (qB hR (fun x hx => zn hf hx) hargs hπ).2)).mono ?_
  rintro e w' ⟨u, M', ρ', rfl, hR', hu⟩
  exact hK M' ρ' _ w' (hR'.put hu hlt)
end
end Go.Proofs.YtnafokinifbfhaaGreatDoor
