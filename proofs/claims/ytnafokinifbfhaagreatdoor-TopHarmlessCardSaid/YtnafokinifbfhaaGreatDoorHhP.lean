/- What a device that is opened or closed changes, in plain words: live earths, and who loses the supply; nothing is walked here; conditions: none. -/
import Derived.Test.YtnafokinifbfhaaGreatDoorHzF
import Derived.Test.YtnafokinifbfhaaGreatDoorRcB
set_option linter.unusedVariables false
set_option linter.unusedSimpArgs false
namespace Go.Proofs.YtnafokinifbfhaaGreatDoor
open Go Go.RowKit
section
variable {U U' : Nat → Bool} {V : List Dv} {n : Nat}
theorem Rch.mono (h : ∀ j, U j = true → U' j = true) {L : List Int} {v : Int} (r : Rch U V L v) : Rch U' V L v := by
  induction r with
  | base h => exact .base h
  | step r hd hu hw h0 ih => exact .step ih hd (h _ hu) hw h0
theorem Rch.split {d : Dv} {i : Nat} (hd : V[i]? = some d) (hU : ∀ j, j ≠ i → U' j = true → U j = true) {v w : Int} (r : Rch U' V [v] w) : Rch U V [v] w ∨ (yH d.k = true ∧ (Rch U V [v] d.a ∨ Rch U V [v] d.b)) := by
  induction r with
  | base h => exact .inl (.base h)
  | @step u w j e r he hu hw h0 ih =>
    rcases ih with ih | ih
    · by_cases hj : j = i
      · subst hj
        rw [hd] at he
        injection he with he
        subst he
        right
        unfold acr at hw
        split at hw
        · rename_i hjn
          refine ⟨hjn, ?_⟩
          split at hw
          · rename_i e; rw [e]; exact .inl ih
          · split at hw
            · rename_i e; rw [e]; exact .inr ih
            · omega
        · omega
      · exact .inl (.step ih he (hU j hj hu) hw h0)
    · exact .inr ih
end
def aQ (K : Int → Prop) (V : List Dv) (st : List Int) (x : Int) : Prop := ∃ (i : Nat) (d : Dv), V[i]? = some d ∧ st.getD i 0 = 2 ∧ K d.k ∧ Rch (clU st) V [d.a] x
theorem eD {st : List Int} {i j : Nat} {p : Int} (h : j ≠ i) : (st.set i p).getD j 0 = st.getD j 0 := by
  rw [List.getD_eq_getElem?_getD, List.getD_eq_getElem?_getD, List.getElem?_set_ne (Ne.symm h)]
theorem bO {st : List Int} {i : Nat} {p : Int} (h : i < st.length) : (st.set i p).getD i 0 = p := by
  rw [List.getD_eq_getElem?_getD, List.getElem?_set_self h]; rfl
theorem uH {st : List Int} {i j : Nat} {p q : Int} (h : j ≠ i) (hc : clU (st.set i p) j = true) : clU (st.set i q) j = true := by
  unfold clU at hc ⊢
  rw [eD h] at hc ⊢
  exact hc
theorem cl_up {st : List Int} {i : Nat} (j : Nat) (hc : clU (st.set i 1) j = true) : clU (st.set i 2) j = true := by
  by_cases h : j = i
  · subst h
    unfold clU at hc
    by_cases hl : j < st.length
    · rw [bO hl] at hc; exact absurd hc (by decide)
    · rw [List.getD_eq_getElem?_getD, List.getElem?_eq_none (by simp; omega)] at hc; exact absurd hc (by decide)
  · exact uH h hc
section
variable {K : Int → Prop} {V : List Dv} {n : Nat} {st : List Int} {i : Nat} {d : Dv}
/-- What is fed with a device open is fed with it closed. -/
theorem aQ.up {x : Int} (h : aQ K V (st.set i 1) x) : aQ K V (st.set i 2) x := by
  obtain ⟨j, e, h1, h2, h3, h4⟩ := h
  have h5 : clU (st.set i 1) j = true := by unfold clU; rw [h2]; rfl
  have h6 := cl_up j h5
  unfold clU at h6
  exact ⟨j, e, h1, by simpa using h6, h3, h4.mono (fun j => cl_up j)⟩
theorem aQ.along {x y : Int} (h : aQ K V st x) (r : Rch (clU st) V [x] y) : aQ K V st y := by
  obtain ⟨j, e, h1, h2, h3, h4⟩ := h
  exact ⟨j, e, h1, h2, h3, h4.trans r⟩
/-- What is fed with a device closed, away from the device, is fed with it open. -/
theorem aQ.down (hV : ∀ d ∈ V, zj d n = true) (hd : V[i]? = some d) {x : Int} (h : aQ K V (st.set i 2) x) (x0 : 0 ≤ x) (ha : ¬ Rch (clU (st.set i 2)) V [x] d.a) (hb : yH d.k = true → ¬ Rch (clU (st.set i 2)) V [x] d.b) : aQ K V (st.set i 1) x := by
  obtain ⟨j, e, h1, h2, h3, h4⟩ := h
  have ea := (qP (hV e (List.mem_of_getElem? h1))).1
  have hs := (Rch.symm hV h4 ea).1
  by_cases hj : j = i
  · subst hj
    rw [hd] at h1
    injection h1 with h1
    subst h1
    exact absurd hs ha
  · rcases Rch.split (U := clU (st.set i 1)) hd (fun j hj h => uH hj h) hs with h5 | ⟨h5, h6 | h6⟩
    · refine ⟨j, e, h1, ?_, h3, (Rch.symm hV h5 x0).1⟩
      rw [eD hj] at h2 ⊢
      exact h2
    · exact absurd (h6.mono (fun j => cl_up j)) ha
    · exact absurd (h6.mono (fun j => cl_up j)) (hb h5)
end
theorem ye.up {V : List Dv} {st : List Int} {i : Nat} {x : Int} (h : ye V (st.set i 1) x) : ye V (st.set i 2) x := aQ.up (K := fun k => k = 5 ∨ k = 6) h
theorem jW.up {V : List Dv} {st : List Int} {i : Nat} {x : Int} (h : jW V (st.set i 1) x) : jW V (st.set i 2) x := aQ.up (K := fun k => k = 4) h
theorem ye.along {V : List Dv} {st : List Int} {x y : Int} (h : ye V st x) (r : Rch (clU st) V [x] y) : ye V st y := aQ.along (K := fun k => k = 5 ∨ k = 6) h r
theorem jW.along {V : List Dv} {st : List Int} {x y : Int} (h : jW V st x) (r : Rch (clU st) V [x] y) : jW V st y := aQ.along (K := fun k => k = 4) h r
theorem pV {c : Int} {L E : Prop} (h : yu c L E) : c = 3 ↔ L ∧ E := by
  unfold yu at h
  by_cases hL : L <;> by_cases hE : E <;> simp [hL, hE] at h ⊢ <;> omega
theorem nD {c : Int} {L E : Prop} (h : yu c L E) : c = 1 ↔ L ∧ ¬ E := by
  unfold yu at h
  by_cases hL : L <;> by_cases hE : E <;> simp [hL, hE] at h ⊢ <;> omega
theorem liveB_iff {cl : List Int} {v : Int} {L E : Prop} (h : yu (cl.getD v.toNat 0) L E) : bY cl v = true ↔ L := by
  have e0 : (bits .and .i64 0 1 != 0) = false := by decide
  have e1 : (bits .and .i64 1 1 != 0) = true := by decide
  have e2 : (bits .and .i64 2 1 != 0) = false := by decide
  have e3 : (bits .and .i64 3 1 != 0) = true := by decide
  unfold bY
  unfold yu at h
  rcases h with ⟨h, l, _⟩ | ⟨h, l, _⟩ | ⟨h, l, _⟩ | ⟨h, l, _⟩ <;> rw [h]
  · rw [e0]; simp [l]
  · rw [e1]; simp [l]
  · rw [e2]; simp [l]
  · rw [e3]; simp [l]
section
variable {N : List Nd} {V : List Dv} {st : List Int} {i : Nat} {d : Dv}
theorem at_nd (hV : ∀ d ∈ V, zj d N.length = true) {x : Int} (h0 : 0 ≤ x) (h1 : x < N.length) (s : List Int) : yu ((zd N V s).getD x.toNat 0) (ye V s x) (jW V s x) := by
  have h := cV (N := N) (V := V) (st := s) hV (x := x.toNat) (by omega)
  rw [Int.toNat_of_nonneg h0] at h
  exact h
theorem fault_a (hV : ∀ d ∈ V, zj d N.length = true) (hd : V[i]? = some d) (h : qS (zd N V st) d = false) : ¬ (ye V st d.a ∧ jW V st d.a) ∧ (yH d.k = true → ¬ (ye V st d.b ∧ jW V st d.b)) := by
  have he := hV d (List.mem_of_getElem? hd)
  obtain ⟨a0, a1⟩ := qP he
  unfold qS at h
  simp only [Bool.or_eq_false_iff, Bool.and_eq_false_iff] at h
  refine ⟨fun h2 => ?_, fun hj h2 => ?_⟩
  · have := (pV (at_nd hV a0 a1 st)).2 h2
    rw [this] at h
    exact absurd h.1 (by decide)
  · obtain ⟨b0, b1⟩ := eY he hj
    have := (pV (at_nd hV b0 b1 st)).2 h2
    rw [this, hj] at h
    rcases h.2 with h3 | h3 <;> exact absurd h3 (by decide)
/-- Closing a device that is in no live earth then makes none. -/
theorem mM (hV : ∀ d ∈ V, zj d N.length = true) (hd : V[i]? = some d) (h : qS (zd N V (st.set i 2)) d = false) {x : Int} (x0 : 0 ≤ x) (hl : ye V (st.set i 2) x) (he : jW V (st.set i 2) x) : ye V (st.set i 1) x ∧ jW V (st.set i 1) x := by
  obtain ⟨f1, f2⟩ := fault_a hV hd h
  have ha : ¬ Rch (clU (st.set i 2)) V [x] d.a := fun r => f1 ⟨hl.along r, he.along r⟩
  have hb : yH d.k = true → ¬ Rch (clU (st.set i 2)) V [x] d.b := fun hj r => f2 hj ⟨hl.along r, he.along r⟩
  exact ⟨aQ.down (K := fun k => k = 5 ∨ k = 6) hV hd hl x0 ha hb, aQ.down (K := fun k => k = 4) hV hd he x0 ha hb⟩
theorem sX {c : List Int} : ∀ {l : List Nd} {i : Nat} {v : Int}, v ∈ jJ c i l ↔ ∃ (k : Nat) (x : Nd), l[k]? = some x ∧ v = ((i + k : Nat) : Int) ∧ 0 < x.cu ∧ c.getD (i + k) 0 = 1
  | [], i, v => by simp [jJ]
  | y :: l, i, v => by
    have ih := sX (c := c) (l := l) (i := i + 1) (v := v)
    have e : (∃ (k : Nat) (x : Nd), (y :: l)[k]? = some x ∧ v = ((i + k : Nat) : Int) ∧ 0 < x.cu ∧ c.getD (i + k) 0 = 1) ↔ (v = (i : Int) ∧ 0 < y.cu ∧ c.getD i 0 = 1) ∨ v ∈ jJ c (i + 1) l := by
      rw [ih]
      constructor
      · rintro ⟨k, x, h1, h2⟩
        cases k with
        | zero => simp at h1; subst h1; exact .inl h2
        | succ k => exact .inr ⟨k, x, by simpa using h1, by rw [show i + 1 + k = i + (k + 1) by omega]; exact h2⟩
      · rintro (h | ⟨k, x, h1, h2⟩)
        · exact ⟨0, y, rfl, h⟩
        · exact ⟨k + 1, x, by simpa using h1, by rw [show i + (k + 1) = i + 1 + k by omega]; exact h2⟩
    rw [e, jJ]
    by_cases h : 0 < y.cu ∧ c.getD i 0 = 1
    · rw [if_pos h, List.mem_cons]
      constructor
      · rintro (h2 | h2)
        · exact .inl ⟨h2, h⟩
        · exact .inr h2
      · rintro (h2 | h2)
        · exact .inl h2.1
        · exact .inr h2
    · rw [if_neg h]
      constructor
      · exact .inr
      · rintro (h2 | h2)
        · exact absurd h2.2 h
        · exact h2
theorem supP_mem {v : Int} {s : List Int} : v ∈ supP N V s ↔ ∃ (k : Nat) (x : Nd), N[k]? = some x ∧ v = (k : Int) ∧ 0 < x.cu ∧ (zd N V s).getD k 0 = 1 := by
  unfold supP
  rw [sX]
  simp only [Nat.zero_add]
theorem gZ {pt : List Int} {c : Int} : ∀ {l : List Nd} {i k : Nat} {x : Nd}, l[k]? = some x → 0 < x.cu → pt.getD (i + k) 0 = c → iC pt c i l = true
  | [], i, k, x, h, _, _ => by simp at h
  | y :: l, i, k, x, h, h1, h2 => by
    rw [iC]
    split
    · rfl
    · rename_i hn
      cases k with
      | zero => simp at h; subst h; exact absurd ⟨h1, h2⟩ hn
      | succ k => exact gZ (k := k) (by simpa using h) h1 (by rw [show i + 1 + k = i + (k + 1) by omega]; exact h2)
/-- A disconnector that customers hang on breaks load. -/
theorem open_load (hV : ∀ d ∈ V, zj d N.length = true) (hd : V[i]? = some d) (hk : d.k = 3) {k : Nat} {x : Nd} (hx : N[k]? = some x) (hc : 0 < x.cu) (h1 : (zd N V (st.set i 2)).getD k 0 = 1) (h2 : ¬ (zd N V (st.set i 1)).getD k 0 = 1) : bJ N (ptsP N V (st.set i 1)) (yL (ptsP N V (st.set i 1)) (zd N V (st.set i 1)) d) = true := by
  have hkn := zM hx
  have he := hV d (List.mem_of_getElem? hd)
  have hj : yH d.k = true := by rw [hk]; rfl
  obtain ⟨a0, a1⟩ := qP he
  obtain ⟨b0, b1⟩ := eY he hj
  have c1 := (nD (cV hV hkn)).1 h1
  have hne : ¬ jW V (st.set i 1) (k : Int) := fun h => c1.2 (jW.up h)
  have hnl : ¬ ye V (st.set i 1) (k : Int) := fun h => h2 ((nD (cV hV hkn)).2 ⟨h, hne⟩)
  obtain ⟨j, e, e1, e2, e3, e4⟩ := c1.1
  have ea := (qP (hV e (List.mem_of_getElem? e1))).1
  have hji : j ≠ i := fun h => by
    subst h
    rw [hd] at e1
    injection e1 with e1
    subst e1
    omega
  have hsrc : (st.set i 1).getD j 0 = 2 := by rw [eD hji] at e2 ⊢; exact e2
  have hP : IsPt (clU (st.set i 1)) V N.length (ptsP N V (st.set i 1)) := iY hV
  have lv : ∀ y : Int, 0 ≤ y → y < N.length → (bY (zd N V (st.set i 1)) y = true ↔ ye V (st.set i 1) y) := fun y y0 y1 => liveB_iff (at_nd hV y0 y1 _)
  have hs : ∀ y : Int, Rch (clU (st.set i 1)) V [e.a] y → ye V (st.set i 1) y := fun y r => ⟨j, e, e1, hsrc, e3, r⟩
  have hold : ¬ Rch (clU (st.set i 1)) V [(k : Int)] e.a := fun r => hnl (hs _ (Rch.symm hV r (by omega)).1)
  have hsame : ∀ y : Int, 0 ≤ y → y < N.length → Rch (clU (st.set i 1)) V [(k : Int)] y → (ptsP N V (st.set i 1)).getD k 0 = (ptsP N V (st.set i 1)).getD y.toNat 0 := fun y y0 y1 r => by
    refine hP.cl k y.toNat hkn (by omega) ?_
    rw [Int.toNat_of_nonneg y0]; exact r
  have hdiff : ∀ y z : Int, 0 ≤ y → y < N.length → 0 ≤ z → z < N.length → ¬ ye V (st.set i 1) y → ye V (st.set i 1) z → ¬ (ptsP N V (st.set i 1)).getD y.toNat 0 = (ptsP N V (st.set i 1)).getD z.toNat 0 := fun y z y0 y1 z0 z1 hy hz h => by
    have r := (hP.same hV (x := y.toNat) (w := z.toNat) (by omega) (by omega)).1 h
    rw [Int.toNat_of_nonneg y0, Int.toNat_of_nonneg z0] at r
    exact hy (ye.along hz (Rch.symm hV r y0).1)
  have e5 := (Rch.symm hV e4 ea).1
  have far : ∀ y : Int, Rch (clU (st.set i 1)) V [(k : Int)] y → ¬ ye V (st.set i 1) y := fun y r h => hnl (ye.along h (Rch.symm hV r (by omega)).1)
  have main : ∀ y z : Int, (y = d.a ∧ z = d.b ∨ y = d.b ∧ z = d.a) → Rch (clU (st.set i 1)) V [(k : Int)] y → ¬ ye V (st.set i 1) y ∧ ye V (st.set i 1) z := fun y z hyz r => by
    refine ⟨far y r, ?_⟩
    rcases Rch.split (U := clU (st.set i 1)) hd (fun j hj h => uH hj h) e4 with h5 | ⟨_, h6 | h6⟩
    · exact absurd (hs _ h5) hnl
    · rcases hyz with ⟨rfl, rfl⟩ | ⟨rfl, rfl⟩
      · exact absurd (hs _ h6) (far _ r)
      · exact hs _ h6
    · rcases hyz with ⟨rfl, rfl⟩ | ⟨rfl, rfl⟩
      · exact hs _ h6
      · exact absurd (hs _ h6) (far _ r)
  have e6 : yL (ptsP N V (st.set i 1)) (zd N V (st.set i 1)) d = ⟨bY (zd N V (st.set i 1)) d.a, bY (zd N V (st.set i 1)) d.b, d.a, d.b, (ptsP N V (st.set i 1)).getD d.a.toNat 0 != (ptsP N V (st.set i 1)).getD d.b.toNat 0⟩ := by
    unfold yL
    rw [if_neg (by omega), if_neg (by rw [hj]; decide)]
  rw [e6]
  rcases Rch.split (U := clU (st.set i 1)) hd (fun j hj h => uH hj h) e5 with h5 | ⟨_, h6 | h6⟩
  · exact absurd h5 hold
  · obtain ⟨m1, m2⟩ := main d.a d.b (.inl ⟨rfl, rfl⟩) h6
    have l0 : bY (zd N V (st.set i 1)) d.a = false := by
      cases hq : bY (zd N V (st.set i 1)) d.a with
      | false => rfl
      | true => exact absurd ((lv _ a0 a1).1 hq) m1
    have l1 := (lv _ b0 b1).2 m2
    have ok : ((ptsP N V (st.set i 1)).getD d.a.toNat 0 != (ptsP N V (st.set i 1)).getD d.b.toNat 0) = true := by
      simpa using hdiff _ _ a0 a1 b0 b1 m1 m2
    unfold bJ qJ
    simp only [l0, l1, ok]
    exact gZ (k := k) hx hc (by rw [Nat.zero_add]; exact hsame _ a0 a1 h6)
  · obtain ⟨m1, m2⟩ := main d.b d.a (.inr ⟨rfl, rfl⟩) h6
    have l0 : bY (zd N V (st.set i 1)) d.b = false := by
      cases hq : bY (zd N V (st.set i 1)) d.b with
      | false => rfl
      | true => exact absurd ((lv _ b0 b1).1 hq) m1
    have l1 := (lv _ a0 a1).2 m2
    have ok : ((ptsP N V (st.set i 1)).getD d.a.toNat 0 != (ptsP N V (st.set i 1)).getD d.b.toNat 0) = true := by
      simpa using Ne.symm (hdiff _ _ b0 b1 a0 a1 m1 m2)
    unfold bJ qJ
    simp only [l0, l1, ok]
    exact gZ (k := k) hx hc (by rw [Nat.zero_add]; exact hsame _ b0 b1 h6)
/-- A disconnector that puts an earth to what is supplied is in a live earth. -/
theorem close_load (hV : ∀ d ∈ V, zj d N.length = true) (hd : V[i]? = some d) (hk : d.k = 3) {k : Nat} (hkn : k < N.length) (h1 : (zd N V (st.set i 1)).getD k 0 = 1) (h2 : ¬ (zd N V (st.set i 2)).getD k 0 = 1) : qS (zd N V (st.set i 2)) d = true := by
  cases hf : qS (zd N V (st.set i 2)) d with
  | true => rfl
  | false =>
    exfalso
    have c1 := (nD (cV hV hkn)).1 h1
    have hl : ye V (st.set i 2) (k : Int) := ye.up c1.1
    have he : jW V (st.set i 2) (k : Int) := Classical.not_not.1 fun h => h2 ((nD (cV hV hkn)).2 ⟨hl, h⟩)
    exact c1.2 (mM hV hd hf (by omega) hl he).2
theorem nB {pos q : Int} (hi : i < st.length) (hs : ∀ x ∈ st, posB x = true) (hp : ¬ st.getD i 0 = pos) (hpos : pos = 1 ∧ q = 2 ∨ pos = 2 ∧ q = 1) : st.set i q = st := by
  obtain ⟨y, hy⟩ := zB hi
  have := hs y (List.mem_of_getElem? hy)
  unfold posB at this
  simp at this
  rw [getD_some hy] at hp
  have e : y = q := by omega
  subst e
  exact pX hy
/-- A disconnector that may do its operation loses nobody. -/
theorem disc_loss (hV : ∀ d ∈ V, zj d N.length = true) (hd : V[i]? = some d) (hk : d.k = 3) (hi : i < st.length) (hs : ∀ x ∈ st, posB x = true) {pos : Int} (hpos : pos = 1 ∨ pos = 2) (hb : badP N V st d pos (ofP N V st i d) = false) (hp : ¬ st.getD i 0 = pos) : jZ N V st (st.set i pos) = [] := by
  unfold badP at hb
  rw [if_pos hk] at hb
  simp only [Bool.or_eq_false_iff, beq_eq_false_iff_ne] at hb
  obtain ⟨⟨b2, b3⟩, b4⟩ := hb
  have hf : qS (zd N V (st.set i 2)) d = false := by
    cases hq : qS (zd N V (st.set i 2)) d with
    | false => rfl
    | true => exact absurd (by unfold ofP ofV; rw [if_pos hq]) b4
  have hpar : parP (yL (ptsP N V (st.set i 1)) (zd N V (st.set i 1)) d) = false := by
    cases hq : parP (yL (ptsP N V (st.set i 1)) (zd N V (st.set i 1)) d) with
    | false => rfl
    | true => exact absurd (by unfold ofP ofV; rw [if_neg (by rw [hf]; decide), if_pos hq]) b3
  have hl : bJ N (ptsP N V (st.set i 1)) (yL (ptsP N V (st.set i 1)) (zd N V (st.set i 1)) d) = false := by
    cases hq : bJ N (ptsP N V (st.set i 1)) (yL (ptsP N V (st.set i 1)) (zd N V (st.set i 1)) d) with
    | false => rfl
    | true => exact absurd (by unfold ofP ofV; rw [if_neg (by rw [hf]; decide), if_neg (by rw [hpar]; decide), if_pos hq]) b2
  rw [vT]
  intro v hv
  rw [supP_mem] at hv ⊢
  obtain ⟨k, x, h1, h2, h3, h4⟩ := hv
  refine ⟨k, x, h1, h2, h3, Classical.not_not.1 fun h5 => ?_⟩
  rcases hpos with rfl | rfl
  · have e := nB hi hs hp (q := 2) (.inl ⟨rfl, rfl⟩)
    rw [← e] at h4
    rw [open_load hV hd hk h1 h3 h4 h5] at hl
    cases hl
  · have e := nB hi hs hp (q := 1) (.inr ⟨rfl, rfl⟩)
    rw [← e] at h4
    rw [close_load hV hd hk (zM h1) h4 h5] at hf
    cases hf
/-- An operation without the hazard of a live earth makes none. -/
theorem safe_fault (hV : ∀ d ∈ V, zj d N.length = true) (hd : V[i]? = some d) (hi : i < st.length) (hs : ∀ x ∈ st, posB x = true) {pos : Int} (hpos : pos = 1 ∨ pos = 2) (hf : st.getD i 0 = pos ∨ ((pos == 2) && (ofP N V st i d == 4)) = false) {k : Nat} (hk : k < N.length) (h : (zd N V (st.set i pos)).getD k 0 = 3) : (zd N V st).getD k 0 = 3 := by
  by_cases hp : st.getD i 0 = pos
  · obtain ⟨y, hy⟩ := zB hi
    rw [getD_some hy] at hp
    subst hp
    rw [pX hy] at h
    exact h
  rcases hf with hf | hf
  · exact absurd hf hp
  rw [pV (cV hV hk)] at h ⊢
  rcases hpos with rfl | rfl
  · have e := nB hi hs hp (q := 2) (.inl ⟨rfl, rfl⟩)
    rw [← e]
    exact ⟨ye.up h.1, jW.up h.2⟩
  · have e := nB hi hs hp (q := 1) (.inr ⟨rfl, rfl⟩)
    have hf2 : qS (zd N V (st.set i 2)) d = false := by
      cases hq : qS (zd N V (st.set i 2)) d with
      | false => rfl
      | true =>
        have : ofP N V st i d = 4 := by unfold ofP ofV; rw [if_pos hq]
        rw [this] at hf
        exact absurd hf (by decide)
    have := mM hV hd hf2 (by omega) h.1 h.2
    rw [e] at this
    exact this
end
end Go.Proofs.YtnafokinifbfhaaGreatDoor
