/- More operations of the abstract machine: struct and slice literals, slice expressions, calls of closures; conditions: tables of types that agree with the program's. -/
import Derived.Test.YtbacidnhjmdnlaaDoorAbsM
set_option linter.unusedVariables false
set_option linter.unusedSimpArgs false
namespace Go.Proofs.YtbacidnhjmdnlaaDoor
open Go Go.RowKit
inductive EvL (σ : AS) : List (Nat × Operand) → List (Nat × AV) → Prop where
  | nil : EvL σ [] []
  | cons {i : Nat} {o : Operand} {r : List (Nat × Operand)} {s : List (Nat × AV)} (y : AV) (h : ev σ o = y) (t : EvL σ r s) : EvL σ ((i, o) :: r) ((i, y) :: s)
theorem EvL.eq {σ : AS} {ps : List (Nat × Operand)} {vals : List (Nat × AV)} (h : EvL σ ps vals) : vals = ps.map fun p => (p.1, ev σ p.2) := by
  induction h with
  | nil => rfl
  | cons y h _ ih => rw [ih, ← h]; rfl
def afill (pl : List (Nat × Nat)) : List AV → List (Nat × AV) → Option (List AV)
  | cs, [] => some cs
  | cs, (i, x) :: r => match pl[i]? with
    | some (off, sz) => bif Nat.beq x.cells.length sz && Nat.ble (off + sz) cs.length && allOne x.cells then afill pl (putL cs off x.cells) r else none
    | none => none
def mplaces (TB : Tabs) : List (Nat × Nat) → Option (List (Nat × Nat))
  | [] => some []
  | (off, ft) :: r => match lk TB.ty ft, mplaces TB r with
    | some (_, m), some l => some ((off, m) :: l)
    | _, _ => none
theorem foldl_put : ∀ (vs : List Value) (j o : Nat) (us : Array Value), (vs.zipIdx j).foldl (fun cs (x : Value × Nat) => cs.setIfInBounds (o + x.2) x.1) us = ⟨putL us.toList (o + j) vs⟩
  | [], j, o, us => rfl
  | v :: vs, j, o, us => by
    rw [List.zipIdx_cons, List.foldl_cons, foldl_put vs (j + 1) o, putL]
    simp [Nat.add_assoc]
theorem fill_step {f : Nat → Option (Nat × Nat)} {i off sz : Nat} {us : List Value} {v : Value} {r : List (Nat × Value)} (hp : f i = some (off, sz)) (h1 : v.cells.toList.length = sz) (h2 : off + sz ≤ us.length) :
    Instr.fill f ⟨us⟩ ((i, v) :: r) = Instr.fill f ⟨putL us off v.cells.toList⟩ r := by
  have h1' : v.cells.size = sz := by simpa using h1
  rw [Instr.fill, hp]
  simp only
  rw [if_neg (by rw [h1']; simp; omega)]
  congr 1
  have := foldl_put v.cells.toList 0 off ⟨us⟩
  rw [← Array.foldl_toList, Array.toList_zipIdx]
  simpa using this
theorem afill_rep {M : Nat → Option (Array Value)} {ρ : Nat → Nat → Option Value} {pl : List (Nat × Nat)} {f : Nat → Option (Nat × Nat)} (hf : ∀ i, f i = pl[i]?) : ∀ (vals : List (Nat × AV)) (cs cs' : List AV) (us : List Value) (vs : List (Nat × Value)), afill pl cs vals = some cs' → us.length = cs.length →
    (∀ (j : Nat) (x : AV) (u : Value), cs[j]? = some x → us[j]? = some u → Rep M ρ x u) → vs.length = vals.length → (∀ (j : Nat) (p : Nat × AV) (q : Nat × Value), vals[j]? = some p → vs[j]? = some q → q.1 = p.1 ∧ Rep M ρ p.2 q.2) →
    ∃ us', Instr.fill f ⟨us⟩ vs = some ⟨us'⟩ ∧ us'.length = cs'.length ∧ ∀ (j : Nat) (x : AV) (u : Value), cs'[j]? = some x → us'[j]? = some u → Rep M ρ x u
  | [], cs, cs', us, vs, h, hl, hr, hv, hp => by
    injection h with h
    subst h
    obtain rfl : vs = [] := List.eq_nil_of_length_eq_zero (by simpa using hv)
    exact ⟨us, rfl, hl, hr⟩
  | (i, x) :: vals, cs, cs', us, [], h, hl, hr, hv, hp => by simp at hv
  | (i, x) :: vals, cs, cs', us, (i', u) :: vs, h, hl, hr, hv, hp => by
    obtain ⟨e1, e2⟩ := hp 0 _ _ rfl rfl
    simp only at e1 e2
    subst e1
    unfold afill at h
    cases hpl : pl[i']? with
    | none => rw [hpl] at h; cases h
    | some q =>
      obtain ⟨off, sz⟩ := q
      rw [hpl] at h
      simp only at h
      cases hb : (Nat.beq x.cells.length sz && Nat.ble (off + sz) cs.length && allOne x.cells) with
      | false => rw [hb] at h; cases h
      | true =>
        rw [hb] at h
        simp only [Bool.and_eq_true] at hb
        have b1 := Nat.eq_of_beq_eq_true hb.1.1
        have b2 := Nat.le_of_ble_eq_true hb.1.2
        obtain ⟨c1, c2, c3⟩ := rep_cells e2 hb.2
        rw [fill_step (off := off) (sz := sz) (by rw [hf]; exact hpl) (by omega) (by omega)]
        exact afill_rep hf vals _ cs' _ vs h (by rw [putL_length, putL_length, hl]) (putL_rel _ _ _ _ _ hl c1 hr c2) (by simpa using hv) (fun j p q a b => hp (j + 1) p q (by simpa using a) (by simpa using b))
def pure1 : AV → Bool
  | .v _ => true
  | .sl _ _ => true
  | .ep _ => true
  | _ => false
def pureL : List AV → Bool
  | [] => true
  | x :: l => bif pure1 x then pureL l else false
theorem pureL_at : ∀ {l : List AV}, pureL l = true → ∀ x ∈ l, pure1 x = true
  | [], _, x, h => by cases h
  | y :: l, ho, x, h => by
    unfold pureL at ho
    cases hy : pure1 y
    · rw [hy] at ho; cases ho
    · rw [hy] at ho
      rcases List.mem_cons.1 h with rfl | h
      · exact hy
      · exact pureL_at ho x h
theorem rep_pure1 {M : Nat → Option (Array Value)} {ρ ρ' : Nat → Nat → Option Value} {x : AV} {u : Value} (h : Rep M ρ x u) (hp : pure1 x = true) : Rep M ρ' x u := by
  cases h with
  | v x => exact .v _ _
  | sl _ sz L A c us h1 h2 h3 h4 => exact .sl _ sz L A c us h1 h2 h3 h4
  | ep _ cs b o arr us h1 h2 h3 => exact .ep _ cs b o arr us h1 h2 h3
  | _ => cases hp
def elemOk (sz : Nat) (x : AV) : Bool := Nat.beq x.cells.length sz && allOne x.cells && pureL x.cells
def elemsOk (sz : Nat) : Nat → List (Nat × AV) → Bool
  | _, [] => true
  | i, p :: r => bif Nat.beq p.1 i && elemOk sz p.2 then elemsOk sz (i + 1) r else false
theorem elemsOk_at {sz : Nat} : ∀ {vals : List (Nat × AV)} {i : Nat}, elemsOk sz i vals = true → ∀ (j : Nat) (p : Nat × AV), vals[j]? = some p → p.1 = i + j ∧ elemOk sz p.2 = true
  | [], i, _, j, p, h => by simp at h
  | q :: r, i, ho, j, p, h => by
    unfold elemsOk at ho
    cases hb : (Nat.beq q.1 i && elemOk sz q.2) with
    | false => rw [hb] at ho; cases ho
    | true =>
      rw [hb] at ho
      rw [Bool.and_eq_true] at hb
      cases j with
      | zero => simp at h; subst h; exact ⟨Nat.eq_of_beq_eq_true hb.1, hb.2⟩
      | succ j =>
        have := elemsOk_at ho j p (by simpa using h)
        exact ⟨by omega, this.2⟩
/-- A slice literal's cells, one part after the other. -/
theorem fill_elems {sz : Nat} : ∀ (vs : List (Nat × Value)) (i : Nat) (us : List Value), (∀ (j : Nat) (q : Nat × Value), vs[j]? = some q → q.1 = i + j ∧ q.2.cells.toList.length = sz) → us.length = (i + vs.length) * sz →
    ∃ us', Instr.fill (fun i => some (i * sz, sz)) ⟨us⟩ vs = some ⟨us'⟩ ∧ us'.length = us.length ∧ (∀ m, m < i * sz → us'[m]? = us[m]?) ∧
      ∀ (j : Nat) (q : Nat × Value) (r : Nat) (u : Value), vs[j]? = some q → q.2.cells.toList[r]? = some u → us'[(i + j) * sz + r]? = some u
  | [], i, us, h, hl => ⟨us, rfl, rfl, fun _ _ => rfl, fun j q r u a => by simp at a⟩
  | (k, v) :: vs, i, us, h, hl => by
    obtain ⟨e1, e2⟩ := h 0 _ rfl
    simp only [Nat.add_zero] at e1 e2
    subst e1
    have hb : k * sz + sz ≤ us.length := by rw [hl, List.length_cons, show k + (vs.length + 1) = (k + 1) + vs.length by omega, Nat.add_mul, Nat.succ_mul]; omega
    rw [fill_step (off := k * sz) (sz := sz) rfl e2 hb]
    obtain ⟨us', h1, h2, h3, h4⟩ := fill_elems vs (k + 1) (putL us (k * sz) v.cells.toList) (fun j q hq => by have := h (j + 1) q (by simpa using hq); exact ⟨by omega, this.2⟩) (by rw [putL_length, hl, List.length_cons]; congr 1; omega)
    have hput : ∀ (vs us : List Value) (o : Nat), o + vs.length ≤ us.length → (∀ m, m < o → (putL us o vs)[m]? = us[m]?) ∧ ∀ r u, vs[r]? = some u → (putL us o vs)[o + r]? = some u := by
      intro vs
      induction vs with
      | nil => intro us o _; exact ⟨fun _ _ => rfl, fun r u h => by simp at h⟩
      | cons v vs ih =>
        intro us o hlen
        simp only [List.length_cons] at hlen
        obtain ⟨i1, i2⟩ := ih (us.set o v) (o + 1) (by simp; omega)
        rw [putL]
        refine ⟨fun m hm => by rw [i1 m (by omega), List.getElem?_set_ne (by omega)], fun r u hr => ?_⟩
        cases r with
        | zero => simp at hr; subst hr; rw [show o + 0 = o from rfl, i1 o (by omega), List.getElem?_set_self (by omega)]
        | succ r => rw [show o + (r + 1) = o + 1 + r by omega]; exact i2 r u (by simpa using hr)
    obtain ⟨p1, p2⟩ := hput v.cells.toList us (k * sz) (by omega)
    refine ⟨us', h1, by rw [h2, putL_length], fun m hm => by rw [h3 m (by rw [Nat.succ_mul]; omega)]; exact p1 m hm, fun j q r u hq hr => ?_⟩
    cases j with
    | zero =>
      simp at hq
      subst hq
      rw [Nat.add_zero, h3 _ (by rw [Nat.succ_mul]; have := lt_at hr; simp only at hr this; omega)]
      exact p2 r u hr
    | succ j => rw [show k + (j + 1) = k + 1 + j by omega]; exact h4 j q r u (by simpa using hq) hr
section
variable {P : Program} {X : Ctx} {n : Nat} {ops : Array Oper} {os : List Oper} {acc : List Rule} {σ : AS} {K : List Rule → AS → Prop} {gt : List (Nat × AV)} {d : Option Nat} {ty : TypeId} {ps : String} {af : Array Edge} {g : Option (Nat × Bool)}
theorem parts_rep {M : Nat → Option (Array Value)} {ρ : Nat → Nat → Option Value} {τ : AS} {a : Act} {w : World} (hR : Rel X n M ρ τ a w) {parts : List (Nat × Operand)} (he : ∀ x ∈ parts.map (·.2), ev τ x = ev σ x) {vals : List (Nat × AV)} (hv : EvL σ parts vals) :
    (parts.map fun p => (p.1, a.eval p.2)).length = vals.length ∧ ∀ (j : Nat) (p : Nat × AV) (q : Nat × Value), vals[j]? = some p → (parts.map fun p => (p.1, a.eval p.2))[j]? = some q → q.1 = p.1 ∧ Rep M ρ p.2 q.2 := by
  rw [hv.eq]
  refine ⟨by simp, fun j p q hp hq => ?_⟩
  rw [List.getElem?_map] at hp hq
  cases ho : parts[j]? with
  | none => rw [ho] at hp; cases hp
  | some o =>
    rw [ho] at hp hq
    injection hp with hp; injection hq with hq
    subst hp; subst hq
    refine ⟨rfl, ?_⟩
    have := hR.ev o.2
    rwa [he o.2 (List.mem_map_of_mem (List.mem_of_getElem? ho))] at this
section
variable {TB : Tabs} (hTB : TabsOk P TB)
include hTB
theorem mplaces_run : ∀ {fs : List Field} {pl : List (Nat × Nat)}, mplaces TB (fs.map fun f => (f.offset, f.type)) = some pl → fs.mapM (fun f => (P.info? f.type).map fun i => (f.offset, i.size)) = some pl
  | [], pl, h => by injection h with h; subst h; rfl
  | f :: fs, pl, h => by
    rw [List.map_cons, mplaces] at h
    cases h1 : lk TB.ty f.type with
    | none => rw [h1] at h; cases h
    | some q =>
      obtain ⟨b, m⟩ := q
      cases h2 : mplaces TB (fs.map fun f => (f.offset, f.type)) with
      | none => rw [h1, h2] at h; cases h
      | some l =>
        rw [h1, h2] at h
        injection h with h
        subst h
        obtain ⟨dd, u1, u2, u3⟩ := tab_ty hTB h1
        rw [List.mapM_cons, mplaces_run h2]
        cases hi : P.info? f.type with
        | none => rw [hi] at u3; cases u3
        | some i => rw [hi] at u3; injection u3 with u3; simp [u3]
theorem x_build {t : TypeId} {parts : List (Nat × Operand)} {fs pl : List (Nat × Nat)} {zs : List Value} {vals : List (Nat × AV)} (hf : lk TB.fld t = some fs) (hz : lk TB.zer t = some zs) (hp : mplaces TB fs = some pl) (hv : EvL σ parts vals)
    (h : ∃ cs, afill pl (zs.map .v) vals = some cs ∧ Exec P X n ops os (mkG gt σ (parts.map (·.2)) [] d (.ag cs) [] :: acc) (σ.put d (.ag cs)) K) : Op1 P X n ops gt ⟨d, .build t parts.toArray, ty, ps, af, g⟩ os acc σ K := by
  obtain ⟨cs, hc, h⟩ := h
  refine x_pure (xs := parts.map (·.2)) (fun M ρ τ a w he hR => ?_) h
  obtain ⟨i, z, i1, i2, rfl⟩ := tab_zer hTB hz
  obtain ⟨gs, u1, u2⟩ := tab_fld hTB hf
  rw [← u2] at hp
  have hmp := mplaces_run hTB hp
  obtain ⟨p1, p2⟩ := parts_rep hR he hv
  obtain ⟨us', h1, h2, h3⟩ := afill_rep (M := M) (ρ := ρ) (pl := pl) (f := fun i => pl.toArray[i]?) (fun i => by simp) vals (z.cells.toList.map .v) cs z.cells.toList (parts.map fun p => (p.1, a.eval p.2)) hc (by simp) (fun j x u a b => by
    rw [List.getElem?_map, b] at a
    injection a with a
    subst a
    exact .v _ _) p1 p2
  refine ⟨.agg ⟨us'⟩, ?_, .ag _ _ _ h2 h3⟩
  have hb : P.built t (parts.toArray.map fun (x : Nat × Operand) => (x.1, a.eval x.2)).toList = some ⟨us'⟩ := by
    unfold Program.built
    rw [i1, u1]
    simp only [i2, hmp]
    rw [Array.toList_map]
    exact h1
  have := run_build (P := P) w t _ _ hb
  unfold execOp
  simp only [Sem.run_bind]
  rw [this]; rfl
theorem x_buildSlice {t : TypeId} {e sz len : Nat} {b : Bool} {parts : List (Nat × Operand)} {vals : List (Nat × AV)} {zs : List Value} (hs : lk TB.sle t = some e) (hz : lk TB.ty e = some (b, sz + 1)) (hzr : lk TB.zer e = some zs) (hzl : zs.length = sz + 1) (hlen : parts.length = len) (hpos : 0 < len) (hsm : Nat.ble (len * (sz + 1)) 16777216 = true) (hv : EvL σ parts vals)
    (h : elemsOk (sz + 1) 0 vals = true ∧ Exec P X n ops os (mkG gt σ (parts.map (·.2)) [] d (.sl (sz + 1) (vals.map (·.2))) [] :: acc) (σ.put d (.sl (sz + 1) (vals.map (·.2)))) K) : Op1 P X n ops gt ⟨d, .buildSlice t len parts.toArray, ty, ps, af, g⟩ os acc σ K := by
  obtain ⟨hok, h⟩ := h
  refine ⟨⟨mkR σ (parts.map (fun p : Nat × Operand => p.2)) [] d (.sl (sz + 1) (vals.map (fun p : Nat × AV => p.2))) [], rule_val rfl fun M ρ τ a w hf hR => ?_, mkR_fires _ _ _ _ _ _, h⟩⟩
  obtain ⟨i, z, i1, i2, i3⟩ := tab_zer hTB hzr
  obtain ⟨dd, u1, u2, u3⟩ := tab_ty hTB hz
  rw [i1] at u3
  injection u3 with u3
  have u3 : i.size = sz + 1 := u3
  obtain ⟨p1, p2⟩ := parts_rep hR (fun x hx => mkR_ev hf hx) hv
  have hvl : vals.length = len := by rw [← hlen, ← p1]; simp
  have hsm' := Nat.le_of_ble_eq_true hsm
  have hq : ∀ (j : Nat) (q : Nat × Value), (parts.map fun p => (p.1, a.eval p.2))[j]? = some q → ∃ p, vals[j]? = some p ∧ q.1 = p.1 ∧ Rep M ρ p.2 q.2 ∧ q.1 = 0 + j ∧ elemOk (sz + 1) p.2 = true := fun j q hq => by
    obtain ⟨p, hp⟩ := some_at (L := vals) (k := j) (by rw [← p1]; exact lt_at hq)
    obtain ⟨e1, e2⟩ := p2 j p q hp hq
    obtain ⟨e3, e4⟩ := elemsOk_at hok j p hp
    exact ⟨p, hp, e1, e2, by omega, e4⟩
  have helem : ∀ x, elemOk (sz + 1) x = true → x.cells.length = sz + 1 ∧ allOne x.cells = true ∧ pureL x.cells = true := fun x hx => by
    unfold elemOk at hx
    simp only [Bool.and_eq_true] at hx
    exact ⟨Nat.eq_of_beq_eq_true hx.1.1, hx.1.2, hx.2⟩
  obtain ⟨us', f1, f2, f3, f4⟩ := fill_elems (sz := sz + 1) (parts.map fun p => (p.1, a.eval p.2)) 0 ((Array.range (len * i.size)).map (z.cells[· % z.cells.size]!)).toList (fun j q hq' => by
    obtain ⟨p, _, _, e2, e3, e4⟩ := hq j q hq'
    obtain ⟨c1, c2, c3⟩ := helem _ e4
    exact ⟨e3, by rw [(rep_cells e2 c2).1]; exact c1⟩) (by simp [hlen, u3])
  have hrun := run_buildSlice (P := P) w t e len (parts.toArray.map fun (x : Nat × Operand) => (x.1, a.eval x.2)) ⟨us'⟩ i z (tab_sle hTB hs) i1 i2 (by rw [u3]; omega) (by rw [u3]; intro h0; rcases Nat.mul_eq_zero.1 h0 with h0 | h0 <;> omega) (by rw [Array.toList_map, u3]; rw [u3] at f1; exact f1)
  obtain ⟨m1, m2⟩ := hR.newM e ⟨us'⟩
  refine ⟨.slice (some ⟨w.heap.size, 0, none⟩) len len, w.alloc (.cells ⟨us'⟩ e), updM M w.heap.size ⟨us'⟩, ρ, ?_, m2, ?_⟩
  · unfold execOp
    simp only [Sem.run_bind]
    rw [hrun]; rfl
  · have hL : (vals.map (·.2)).length = len := by simp [hvl]
    have : Rep (updM M w.heap.size ⟨us'⟩) ρ (.sl (sz + 1) (vals.map (·.2))) (.slice (some ⟨w.heap.size, 0, none⟩) (vals.map (·.2)).length len) := by
      refine .sl _ _ _ _ _ (fun k j => (us'[k * (sz + 1) + j]?).getD undef) (by omega) (by simp only [maxLen]; have : len ≤ len * (sz + 1) := Nat.le_mul_of_pos_right _ (by omega); omega) (fun k x j y hx hy => ?_) (fun k x hx => ?_)
      · rw [List.getElem?_map] at hx
        cases hk : vals[k]? with
        | none => rw [hk] at hx; cases hx
        | some p =>
          rw [hk] at hx
          injection hx with hx
          subst hx
          obtain ⟨q, hqq⟩ := some_at (L := parts.map fun p => (p.1, a.eval p.2)) (k := k) (by rw [p1]; exact lt_at hk)
          obtain ⟨p', hp', _, e2, _, e4⟩ := hq k q hqq
          rw [hk] at hp'
          injection hp' with hp'
          subst hp'
          obtain ⟨c1, c2, c3⟩ := helem _ e4
          obtain ⟨r1, r2, _⟩ := rep_cells e2 c2
          obtain ⟨u, hu⟩ := some_at (L := q.2.cells.toList) (k := j) (by rw [r1]; exact lt_at hy)
          rw [show k * (sz + 1) + j = (0 + k) * (sz + 1) + j by rw [Nat.zero_add], f4 k q j u hqq hu]
          exact (rep_pure1 (r2 j y u hy hu) (pureL_at c3 y (List.mem_of_getElem? hy))).mono' (updM_mono m1) (fun _ _ _ e => e)
      · rw [List.getElem?_map] at hx
        cases hk : vals[k]? with
        | none => rw [hk] at hx; cases hx
        | some p =>
          rw [hk] at hx
          injection hx with hx
          subst hx
          refine ⟨(helem _ (elemsOk_at hok k p hk).2).1, w.heap.size, 0, ⟨us'⟩, rfl, by simp [updM], fun j hj => ?_⟩
          have hlt := lt_at hk
          have : k * (sz + 1) + j < us'.length := by
            rw [f2]
            simp [u3]
            have : (k + 1) * (sz + 1) ≤ len * (sz + 1) := Nat.mul_le_mul_right _ (by omega)
            rw [Nat.succ_mul] at this
            omega
          rw [Nat.zero_add]
          simp [List.getElem?_eq_getElem this]
    rwa [hL] at this
end
end
end Go.Proofs.YtbacidnhjmdnlaaDoor
