/- Maps of the frame's own in the abstract machine: made, looked up, given a new entry; keys are numbers, strings or truth values; conditions: none. | Own buffers that lie in slots and boxes: nil as an empty buffer, and buffers that are no longer written, wherever they stand; conditions: none. | Maps in the abstract machine: entries overwritten, looked up with a truth value, counted, walked through; conditions: none. -/
import Derived.Test.YtgpglcccjkpmdaaDoorAbsS
import Derived.MapKept
import Derived.Maps.RangeRun
set_option linter.unusedVariables false
set_option linter.unusedSimpArgs false
namespace Go.Proofs.YtgpglcccjkpmdaaDoor
open Go Go.RowKit
/-- What a key leads to among a map's entries; none: keys of another kind. -/
def findL (d : TypeDesc) (k : Value) : List (Value × Value) → Option (Option Value)
  | [] => some none
  | p :: l => match Instr.sameNow d k p.1 with
    | some true => some (some p.2)
    | some false => findL d k l
    | none => none
theorem findL_now {d : TypeDesc} {k : Value} : ∀ {es : List MapEntry} {i : Nat} {r : Option Value}, findL d k (es.map fun e => (e.key, e.val)) = some r → ∃ a, Instr.findNow d k es i = some a ∧ a.map (·.2) = r
  | [], i, r, h => by injection h with h; subst h; exact ⟨none, rfl, rfl⟩
  | e :: es, i, r, h => by
    rw [List.map_cons, findL] at h
    unfold Instr.findNow
    simp only at h
    cases hs : Instr.sameNow d k e.key with
    | none => rw [hs] at h; cases h
    | some b =>
      rw [hs] at h
      cases b with
      | true => injection h with h; subst h; exact ⟨_, rfl, rfl⟩
      | false => exact findL_now h
section
variable {X : Ctx} {n : Nat} {M : Nat → Option (Array Value)} {ρ : Nat → Nat → Option Value} {σ : AS} {a : Act} {w : World}
/-- A new block that is no row of cells. -/
theorem Rel.newOb (h : Rel X n M ρ σ a w) (s : Nat) {v : Value} {x : Obj} {ob : AO} (hv : vblk v = some w.heap.size) (hx : ∀ ρ', (∀ s k y, ρ s k = some y → ρ' s k = some y) → ObIn ρ' (w.alloc x) v w.heap.size ob) :
    Rel X n M (updρ ρ s ((σ.H s).k + 1) v) (σ.hup s ⟨(σ.H s).k + 1, .ob ob⟩) a (w.alloc x) := by
  have hm := updρ_mono (u := v) (fresh_next h s)
  have hold : ∀ g, g < w.heap.size → (w.alloc x).heap[g]? = w.heap[g]? := fun g hg => Below.heap_alloc w _ g hg
  have hother : ∀ s', s' ≠ s → (σ.hup s ⟨(σ.H s).k + 1, .ob ob⟩).H s' = σ.H s' := fun s' hs => by simp [AS.hup, beq_ne hs]
  have hsame : (σ.hup s ⟨(σ.H s).k + 1, .ob ob⟩).H s = ⟨(σ.H s).k + 1, .ob ob⟩ := by simp [AS.hup, Nat.beq_refl]
  have hblk : ∀ s', s' ≠ s → blkOf (updρ ρ s ((σ.H s).k + 1) v) s' (σ.H s') = blkOf ρ s' (σ.H s') := fun s' hs => by
    unfold blkOf updρ
    cases (σ.H s').c <;> simp [hs]
  have hblks : blkOf (updρ ρ s ((σ.H s).k + 1) v) s ⟨(σ.H s).k + 1, .ob ob⟩ = some w.heap.size := by
    simp [blkOf, updρ, hv]
  refine ⟨fun g arr hg => ?_, h.sz, fun i => (h.tm i).mono' (fun _ _ e => e) hm, fun s' k cs' e => ?_, fun s' k e sz L he => ?_, fun s1 s2 g e1 e2 => ?_, fun s' k hk => ?_, h.glob, h.base, fun i g e => hm _ _ _ (h.root i g e), h.os, h.tape, h.output, ?_, fun g hg hn => ?_, h.df, fun s' k L e => ?_⟩
  · obtain ⟨t', fr, h1⟩ := h.live g arr hg
    exact ⟨t', fr, (hold g (h.lt hg)).trans h1⟩
  · by_cases hs : s' = s
    · subst hs
      rw [hsame] at e
      injection e with _ e
      cases e
    · rw [hother s' hs] at e
      refine (h.box s' k cs' e).mono (fun _ _ e => e) hm (fun g hg => hold g ?_) (fun _ _ e => e)
      exact (h.blk_lt (s := s') (by rw [e]; simp [blkOf, hg, vblk])).1
  · by_cases hs : s' = s
    · subst hs
      rw [hsame] at he
      injection he with _ he
      cases he
    · rw [hother s' hs] at he
      refine (h.buf s' k e sz L he).mono (fun _ _ e => e) hm (fun u g hu hg => hold g ?_) (fun _ _ _ _ e => e)
      exact (h.blk_lt (s := s') (by rw [he]; simp [blkOf, hu, hg])).1
  · by_cases h1 : s1 = s
    · by_cases h2 : s2 = s
      · rw [h1, h2]
      · exfalso
        subst h1
        rw [hsame, hblks] at e1
        rw [hother s2 h2, hblk s2 h2] at e2
        injection e1 with e1
        have := (h.blk_lt e2).1
        omega
    · by_cases h2 : s2 = s
      · exfalso
        subst h2
        rw [hsame, hblks] at e2
        rw [hother s1 h1, hblk s1 h1] at e1
        injection e2 with e2
        have := (h.blk_lt e1).1
        omega
      · rw [hother s1 h1, hblk s1 h1] at e1
        rw [hother s2 h2, hblk s2 h2] at e2
        exact h.sep s1 s2 g e1 e2
  · by_cases hs : s' = s
    · subst hs
      rw [hsame] at hk
      simp only at hk
      unfold updρ
      rw [if_neg (by omega)]
      exact h.fresh s' k (by omega)
    · rw [hother s' hs] at hk
      unfold updρ
      rw [if_neg (fun e => hs e.1)]
      exact h.fresh s' k hk
  · have := h.size
    simp
    omega
  · rw [hold g (Nat.lt_of_lt_of_le hg h.size)]
    exact h.frame g hg hn
  · by_cases hs : s' = s
    · subst hs
      rw [hsame] at e
      injection e with e1 e2
      injection e2 with e2
      subst e1; subst e2
      exact ⟨v, w.heap.size, by
        cases hq : M w.heap.size with
        | none => rfl
        | some arr => exact absurd (h.lt hq) (Nat.lt_irrefl _), by simp [updρ], hv, h.size, hx _ hm⟩
    · rw [hother s' hs] at e
      exact (h.mp s' k L e).mono hm (fun g hg => hold g (h.blk_lt (h.mp_blk e hg)).1) (fun _ _ e => e)
/-- Such a block is written. -/
theorem Rel.storeOb (h : Rel X n M ρ σ a w) {s k g : Nat} {v : Value} {o o' : AO} {x x' : Obj} (hH : σ.H s = ⟨k, .ob o⟩) (hg : ρ s k = some v) (hvb : vblk v = some g) (hh : w.heap[g]? = some x) (hb : X.w0.heap.size ≤ g) (hx : ObIn ρ { w with heap := w.heap.setIfInBounds g x' } v g o') :
    Rel X n M ρ (σ.hup s ⟨k, .ob o'⟩) a { w with heap := w.heap.setIfInBounds g x' } := by
  have hb0 := h.mp_blk hH (g := g) (by rw [hg]; exact hvb)
  have hfar0 : ∀ g', g' ≠ g → (w.heap.setIfInBounds g x')[g']? = w.heap[g']? := (MapKept.heap_set hh).2
  have hMg : M g = none := (h.blk_lt hb0).2
  have hother : ∀ s', s' ≠ s → (σ.hup s ⟨k, .ob o'⟩).H s' = σ.H s' := fun s' hs => by simp [AS.hup, beq_ne hs]
  have hsame : (σ.hup s ⟨k, .ob o'⟩).H s = ⟨k, .ob o'⟩ := by simp [AS.hup, Nat.beq_refl]
  have hblk : ∀ s', blkOf ρ s' ((σ.hup s ⟨k, .ob o'⟩).H s') = blkOf ρ s' (σ.H s') := fun s' => by
    by_cases hs : s' = s
    · subst hs; rw [hsame, hH]; simp [blkOf]
    · rw [hother s' hs]
  have hfar : ∀ s' g', s' ≠ s → blkOf ρ s' (σ.H s') = some g' → g' ≠ g := fun s' g' hs hg' e => hs (h.sep s' s g' hg' (by rw [hb0, e]))
  refine ⟨fun g' arr hg' => ?_, h.sz, h.tm, fun s' k' cs' e => ?_, fun s' k' e' sz' L1 he => ?_, fun s1 s2 g' a1 a2 => h.sep s1 s2 g' (by rw [← hblk]; exact a1) (by rw [← hblk]; exact a2), fun s' k' hk => ?_, h.glob, h.base, h.root, h.os, h.tape, h.output, by simpa using h.size, fun g' hgl hn => ?_, h.df, fun s' k' L1 e => ?_⟩
  · obtain ⟨t', fr, h1⟩ := h.live g' arr hg'
    exact ⟨t', fr, (hfar0 g' (by rintro rfl; rw [hMg] at hg'; cases hg')).trans h1⟩
  · by_cases hs : s' = s
    · subst hs
      rw [hsame] at e
      injection e with _ e
      cases e
    · rw [hother s' hs] at e
      exact (h.box s' k' cs' e).mono (fun _ _ e => e) (fun _ _ _ e => e) (fun g' hg' => hfar0 g' (hfar s' g' hs (by rw [e]; simp [blkOf, hg', vblk]))) (fun _ _ e => e)
  · by_cases hs : s' = s
    · subst hs
      rw [hsame] at he
      injection he with _ he
      cases he
    · rw [hother s' hs] at he
      exact (h.buf s' k' e' sz' L1 he).mono (fun _ _ e => e) (fun _ _ _ e => e) (fun u g' hu hg' => hfar0 g' (hfar s' g' hs (by rw [he]; simp [blkOf, hu, hg']))) (fun _ _ _ _ e => e)
  · by_cases hs : s' = s
    · subst hs
      rw [hsame] at hk
      exact h.fresh s' k' (by rw [hH]; exact hk)
    · rw [hother s' hs] at hk
      exact h.fresh s' k' hk
  · exact (hfar0 g' (by rintro rfl; omega)).trans (h.frame g' hgl hn)
  · by_cases hs : s' = s
    · subst hs
      rw [hsame] at e
      injection e with e1 e2
      injection e2 with e2
      subst e1; subst e2
      exact ⟨v, g, hMg, hg, hvb, hb, hx⟩
    · rw [hother s' hs] at e
      exact (h.mp s' k' L1 e).mono (fun _ _ _ e => e) (fun g' hg' => hfar0 g' (hfar s' g' hs (h.mp_blk e hg'))) (fun _ _ e => e)
theorem vblk_map {v : Value} {g : Nat} {L : List (Value × Value)} (h : ObIn ρ w v g (.mp L)) : v = .map (some g) := h.1
/-- What a map's handle means. -/
theorem Rel.map_at (h : Rel X n M ρ σ a w) {s k : Nat} {L : List (Value × Value)} (hH : σ.H s = ⟨k, .mp L⟩) {u : Value} (hu : Rep M ρ (.own s k) u) : ∃ (g : Nat) (es : Array MapEntry), ρ s k = some (.map (some g)) ∧ u = .map (some g) ∧ w.heap[g]? = some (.map es es.size) ∧ es.toList.map (fun e => (e.key, e.val)) = L ∧ (∀ (i : Nat) (e : MapEntry), es[i]? = some e → e.born = i) ∧ X.w0.heap.size ≤ g := by
  obtain ⟨v, g, -, h1, h2, h3, rfl, es, h4, h5, h6⟩ := h.mp s k (.mp L) hH
  have e1 := hu.own_inv
  rw [h1] at e1
  injection e1 with e1
  exact ⟨g, es, h1, e1.symm, h4, h5, h6, h3⟩
theorem findNow_at {d : TypeDesc} {k : Value} : ∀ {es : List MapEntry} {i j : Nat} {v : Value}, Instr.findNow d k es i = some (some (j, v)) → i ≤ j ∧ ∃ e, es[j - i]? = some e ∧ e.val = v ∧ Instr.sameNow d k e.key = some true
  | [], i, j, v, h => by simp [Instr.findNow] at h
  | e :: es, i, j, v, h => by
    unfold Instr.findNow at h
    cases hs : Instr.sameNow d k e.key with
    | none => rw [hs] at h; simp at h
    | some b =>
      rw [hs] at h
      cases b with
      | true =>
        simp at h
        obtain ⟨rfl, rfl⟩ := h
        exact ⟨Nat.le_refl _, e, by simp, rfl, hs⟩
      | false =>
        simp at h
        obtain ⟨h1, e', h2, h3⟩ := findNow_at h
        refine ⟨by omega, e', ?_, h3⟩
        rw [show j - i = (j - (i + 1)) + 1 by omega]
        simpa using h2
end
section
variable {P : Program} {X : Ctx} {n : Nat} {ops : Array Oper} {os : List Oper} {acc : List Rule} {σ : AS} {K : List Rule → AS → Prop} {gt : List (Nat × AV)} {ty : TypeId} {ps : String} {af : Array Edge} {g : Option (Nat × Bool)}
theorem x_makeMap {d k0 : Nat} {t : TypeId} {c0 : Cont} (hH : σ.H d = ⟨k0, c0⟩) (h : Exec P X n ops os (mkG gt σ [] [d] (some d) (.own d (k0 + 1)) [(d, ⟨k0 + 1, .mp []⟩)] :: acc) ((σ.hup d ⟨k0 + 1, .mp []⟩).put (some d) (.own d (k0 + 1))) K) : Op1 P X n ops gt ⟨some d, .makeMap t none, ty, ps, af, g⟩ os acc σ K := by
  obtain rfl : (σ.H d).k = k0 := by rw [hH]
  refine ⟨⟨mkR σ [] [d] (some d) (.own d ((σ.H d).k + 1)) [(d, ⟨(σ.H d).k + 1, .mp []⟩)], rule_val rfl fun M ρ τ a w hf hR => ?_, mkR_fires _ _ _ _ _ _, h⟩⟩
  have hH' := mkR_H hf (s := d) (by simp)
  have hN := hR.newOb d (v := .map (some w.heap.size)) (x := .map #[] 0) (ob := .mp []) rfl fun ρ' _ => ⟨rfl, #[], heap_alloc_new w _, rfl, fun i e he => by simp at he⟩
  refine ⟨.map (some w.heap.size), _, M, _, ?_, by rw [← hH']; exact hN, .own _ _ _ _ (by rw [← hH']; simp [updρ]) rfl⟩
  simp [execOp, Instr.makeMap, newObj]
  rfl
theorem x_lookup {d : Option Nat} {t kt et : TypeId} {kd : TypeDesc} {m x : Operand} {s k k' : Nat} {L : List (Value × Value)} {key z : Value} {r : Option Value} (ht : P.underlying t = some (.map kt et)) (hk : P.underlying kt = some kd) (hkey : MapKept.IsKey kd key) (hz : ∀ w, (zeroValue et).run P w = .ok z w) (hm : ev σ m = .own s k) (hH : σ.H s = ⟨k', .mp L⟩) (hkk : k = k') (hx : ev σ x = .v key) (hr : findL kd key L = some r)
    (h : Exec P X n ops os (mkG gt σ [m, x] [s] d (.v (r.getD z)) [] :: acc) (σ.put d (.v (r.getD z))) K) : Op1 P X n ops gt ⟨d, .lookup t m x false, ty, ps, af, g⟩ os acc σ K := by
  refine ⟨⟨mkR σ [m, x] [s] d (.v (r.getD z)) [], rule_val rfl fun M ρ τ a w hf hR => ?_, mkR_fires _ _ _ _ _ _, h⟩⟩
  subst hkk
  have hHs := (mkR_H hf (s := s) (by simp)).trans hH
  have h1 := hR.ev m
  rw [mkR_ev hf (by simp), hm] at h1
  have h2 := eval_v hR (mkR_ev hf (by simp)) hx
  obtain ⟨g', es, b1, e1, b2, b4, b5, b3⟩ := hR.map_at hHs h1
  rw [← b4] at hr
  obtain ⟨q, q1, q2⟩ := findL_now (i := 0) hr
  refine ⟨r.getD z, w, M, ρ, ?_, hR, .v _ _⟩
  unfold execOp
  simp only [e1, h2, Instr.lookup, Sem.run_bind, run_underlying ht, Result.andThen_ok, MapKept.run_getObj_map b2, MapKept.run_checkKey hk hkey, MapKept.run_findKey hk q1, Sem.run_pure]
  cases q with
  | none => simp only [Option.map_none] at q2; subst q2; simp [hz]
  | some p => simp only [Option.map_some] at q2; subst q2; simp
theorem x_mapPush {t kt et : TypeId} {kd : TypeDesc} {m x y : Operand} {s k k' : Nat} {L : List (Value × Value)} {key v : Value} (ht : P.underlying t = some (.map kt et)) (hk : P.underlying kt = some kd) (hkey : MapKept.IsKey kd key) (hm : ev σ m = .own s k) (hH : σ.H s = ⟨k', .mp L⟩) (hkk : k = k') (hx : ev σ x = .v key) (hy : ev σ y = .v v) (hr : findL kd key L = some none)
    (h : Exec P X n ops os (mkG gt σ [m, x, y] [s] none (.v undef) [(s, ⟨k', .mp (L ++ [(key, v)])⟩)] :: acc) (σ.hup s ⟨k', .mp (L ++ [(key, v)])⟩) K) : Op1 P X n ops gt ⟨none, .mapUpdate t m x y, ty, ps, af, g⟩ os acc σ K := by
  refine ⟨⟨mkR σ [m, x, y] [s] none (.v undef) [(s, ⟨k', .mp (L ++ [(key, v)])⟩)], rule_unit rfl rfl fun M ρ τ a w hf hR => ?_, mkR_fires _ _ _ _ _ _, h⟩⟩
  subst hkk
  have hHs := (mkR_H hf (s := s) (by simp)).trans hH
  have h1 := hR.ev m
  rw [mkR_ev hf (by simp), hm] at h1
  have h2 := eval_v hR (mkR_ev hf (by simp)) hx
  have h3 := eval_v hR (mkR_ev hf (by simp)) hy
  obtain ⟨g', es, b1, e1, b2, b4, b5, b3⟩ := hR.map_at hHs h1
  have hr' := hr
  rw [← b4] at hr'
  obtain ⟨q, q1, q2⟩ := findL_now (i := 0) hr'
  have hq : q = none := by cases q with
    | none => rfl
    | some p => cases q2
  subst hq
  have hS := hR.storeOb (o' := .mp (L ++ [(key, v)])) (x' := .map (es.push { key, val := v, born := es.size }) (es.size + 1)) hHs b1 rfl b2 b3 ⟨rfl, es.push { key, val := v, born := es.size }, by rw [(MapKept.heap_set b2).1]; simp, by rw [Array.toList_push, List.map_append, b4]; rfl, fun i e he => by
    rw [Array.getElem?_push] at he
    split at he
    · rename_i hi; injection he with he; subst he; exact hi.symm
    · exact b5 i e he⟩
  refine ⟨_, M, ρ, ?_, hS⟩
  unfold execOp
  simp only [e1, h2, h3, Instr.mapUpdate, Sem.run_bind, run_underlying ht, Result.andThen_ok, MapKept.run_getObj_map b2, MapKept.run_checkKey hk hkey, MapKept.run_findKey hk q1, MapKept.run_setObj_map _ b2]
  rfl
variable {TB : Tabs} (hTB : TabsOk P TB)
include hTB
/-- A slice literal as an own buffer. -/
theorem x_buildSlice_own {t : TypeId} {d k0 e sz len : Nat} {c0 : Cont} {b : Bool} {parts : List (Nat × Operand)} {vals : List (Nat × AV)} {zs : List Value} (hs : lk TB.sle t = some e) (hz : lk TB.ty e = some (b, sz + 1)) (hzr : lk TB.zer e = some zs) (hzl : zs.length = sz + 1) (hlen : parts.length = len) (hpos : 0 < len) (hsm : Nat.ble (len * (sz + 1)) 16777216 = true) (hv : vfsL σ parts = some vals) (hok : elemsOk (sz + 1) 0 vals = true) (hH : σ.H d = ⟨k0, c0⟩)
    (h : Exec P X n ops os (mkG gt σ (parts.map (·.2)) [d] (some d) (.own d (k0 + 1)) [(d, ⟨k0 + 1, .buf e (sz + 1) (vals.map (·.2))⟩)] :: acc) ((σ.hup d ⟨k0 + 1, .buf e (sz + 1) (vals.map (·.2))⟩).put (some d) (.own d (k0 + 1))) K) : Op1 P X n ops gt ⟨some d, .buildSlice t len parts.toArray, ty, ps, af, g⟩ os acc σ K := by
  have hv := vfsL_eq hv
  obtain rfl : (σ.H d).k = k0 := by rw [hH]
  refine ⟨⟨mkR σ (parts.map (fun p : Nat × Operand => p.2)) [d] (some d) (.own d ((σ.H d).k + 1)) [(d, ⟨(σ.H d).k + 1, .buf e (sz + 1) (vals.map (fun p : Nat × AV => p.2))⟩)], rule_val rfl fun M ρ τ a w hf hR => ?_, mkR_fires _ _ _ _ _ _, h⟩⟩
  have hHd := mkR_H hf (s := d) (by simp)
  obtain ⟨i, z, i1, i2, i3⟩ := tab_zer hTB hzr
  obtain ⟨dd, u1, u2, u3⟩ := tab_ty hTB hz
  rw [i1] at u3
  injection u3 with u3
  have u3 : i.size = sz + 1 := u3
  obtain ⟨p1, p2⟩ := parts_rep hR (fun x hx => mkR_ev hf hx) hv
  have hvl : vals.length = len := by rw [← hlen, ← p1]; simp
  have hsm' := Nat.le_of_ble_eq_true hsm
  have hq : ∀ (j : Nat) (q : Nat × Value), (parts.map fun p => (p.1, a.eval p.2))[j]? = some q → ∃ p, vals[j]? = some p ∧ q.1 = p.1 ∧ Rep M ρ p.2 q.2 ∧ q.1 = 0 + j ∧ elemOk (sz + 1) p.2 = true := fun j q hq => by
    obtain ⟨p, hp⟩ := some_at (L := vals) (k := j) (by rw [← p1]; exact lt_at hq)
    obtain ⟨e1, e2⟩ := p2 j p q hp hq
    obtain ⟨e3, e4⟩ := elemsOk_at hok j p hp
    exact ⟨p, hp, e1, e2, by omega, e4⟩
  have helem : ∀ x, elemOk (sz + 1) x = true → x.cells.length = sz + 1 ∧ allOne x.cells = true ∧ pureL x.cells = true := fun x hx => by
    unfold elemOk at hx
    simp only [Bool.and_eq_true] at hx
    exact ⟨Nat.eq_of_beq_eq_true hx.1.1, hx.1.2, hx.2⟩
  obtain ⟨us', f1, f2, f3, f4⟩ := fill_elems (sz := sz + 1) (parts.map fun p => (p.1, a.eval p.2)) 0 ((Array.range (len * i.size)).map (z.cells[· % z.cells.size]!)).toList (fun j q hq' => by
    obtain ⟨p, _, _, e2, e3, e4⟩ := hq j q hq'
    obtain ⟨c1, c2, c3⟩ := helem _ e4
    exact ⟨e3, by rw [(rep_cells e2 c2).1]; exact c1⟩) (by simp [hlen, u3])
  have hrun := run_buildSlice (P := P) w t e len (parts.toArray.map fun (x : Nat × Operand) => (x.1, a.eval x.2)) ⟨us'⟩ i z (tab_sle hTB hs) i1 i2 (by rw [u3]; omega) (by rw [u3]; intro h0; rcases Nat.mul_eq_zero.1 h0 with h0 | h0 <;> omega) (by rw [Array.toList_map, u3]; rw [u3] at f1; exact f1)
  have hul : us'.length = len * (sz + 1) := by rw [f2]; simp [u3]
  have hcl : ∀ x ∈ vals.map (·.2), x.cells.length = sz + 1 := fun x hx => by
    obtain ⟨p, hp, rfl⟩ := List.mem_map.1 hx
    obtain ⟨k, hk⟩ := List.getElem?_of_mem hp
    exact (helem _ (elemsOk_at hok k p hk).2).1
  have hLl : (vals.map (·.2)).length = len := by simp [hvl]
  have hA := hR.appendTo d (L := vals.map (·.2)) (w' := w.alloc (.cells ⟨us'⟩ e)) (news := us') (v' := .slice (some ⟨w.heap.size, 0, none⟩) len len) (nil_ownsX X w e (sz + 1))
    (by
      rw [List.nil_append, hLl]
      exact ⟨hul, .inr ⟨w.heap.size, len, ⟨us'⟩, rfl, Nat.zero_le _, heap_alloc_new w _, Nat.le_refl _, by simp only [maxLen]; have : len ≤ len * (sz + 1) := Nat.le_mul_of_pos_right _ (by omega); omega, hul, by show us'.take _ = us'; rw [List.take_of_length_le (by omega)]⟩⟩)
    (World.grownBy_alloc w _ _) (.inr ⟨w.heap.size, Nat.le_refl _, rfl⟩) (by simp [vblk]) (by simp [vblk]) (by rw [List.nil_append, hul, flat_len' hcl, hLl]) hcl
    (fun j x y hx hy => by
      rw [List.nil_append] at hy
      obtain ⟨k, r, v, e1, e2, rfl, e4⟩ := flat_inv' hcl j x hx
      rw [List.getElem?_map] at e1
      cases hk : vals[k]? with
      | none => rw [hk] at e1; cases e1
      | some p =>
        rw [hk] at e1
        injection e1 with e1
        subst e1
        obtain ⟨q, hqq⟩ := some_at (L := parts.map fun p => (p.1, a.eval p.2)) (k := k) (by rw [p1]; exact lt_at hk)
        obtain ⟨p', hp', _, g2, _, g4⟩ := hq k q hqq
        rw [hk] at hp'
        injection hp' with hp'
        subst hp'
        obtain ⟨c1, c2, c3⟩ := helem _ g4
        obtain ⟨r1, r2, r3⟩ := rep_cells g2 c2
        obtain ⟨u, hu⟩ := some_at (L := q.2.cells.toList) (k := r) (by rw [r1]; exact lt_at e2)
        have h5 := f4 k q r u hqq hu
        rw [Nat.zero_add, hy] at h5
        injection h5 with h5
        subst h5
        exact ⟨rep_pure1 (r2 r x y e2 hu) (pureL_at c3 x (List.mem_of_getElem? e2)), r3 y (List.mem_of_getElem? hu)⟩)
  rw [hHd] at hA
  refine ⟨.slice (some ⟨w.heap.size, 0, none⟩) len len, w.alloc (.cells ⟨us'⟩ e), M, _, ?_, hA, .own _ _ _ _ (by simp [updρ]) rfl⟩
  unfold execOp
  simp only [Sem.run_bind]
  rw [hrun]; rfl
end
end Go.Proofs.YtgpglcccjkpmdaaDoor
namespace Go.Proofs.YtgpglcccjkpmdaaDoor
open Go Go.RowKit
def RwA (x0 y0 x y : AV) : Prop := x = y ∨ (x = x0 ∧ y = y0)
inductive RwL (x0 y0 : AV) : List AV → List AV → Prop where
  | nil : RwL x0 y0 [] []
  | same {x : AV} {xs ys : List AV} (h : RwL x0 y0 xs ys) : RwL x0 y0 (x :: xs) (x :: ys)
  | hit {xs ys : List AV} (h : RwL x0 y0 xs ys) : RwL x0 y0 (x0 :: xs) (y0 :: ys)
def RwV (x0 y0 x y : AV) : Prop := RwA x0 y0 x y ∨ (∃ cs cs', x = .ag cs ∧ y = .ag cs' ∧ RwL x0 y0 cs cs') ∨ ∃ cs cs', x = .tu cs ∧ y = .tu cs' ∧ RwL x0 y0 cs cs'
theorem RwL.refl {x0 y0 : AV} : ∀ l, RwL x0 y0 l l
  | [] => .nil
  | _ :: l => .same (RwL.refl l)
theorem RwL.at {x0 y0 : AV} {xs ys : List AV} (h : RwL x0 y0 xs ys) : xs.length = ys.length ∧ ∀ (j : Nat) (x y : AV), xs[j]? = some x → ys[j]? = some y → RwA x0 y0 x y := by
  induction h with
  | nil => exact ⟨rfl, fun j x y h => by simp at h⟩
  | same h ih =>
    refine ⟨by simp [ih.1], fun j x y a b => ?_⟩
    cases j with
    | zero => simp at a b; subst a; subst b; exact .inl rfl
    | succ j => exact ih.2 j x y (by simpa using a) (by simpa using b)
  | hit h ih =>
    refine ⟨by simp [ih.1], fun j x y a b => ?_⟩
    cases j with
    | zero => simp at a b; subst a; subst b; exact .inr ⟨rfl, rfl⟩
    | succ j => exact ih.2 j x y (by simpa using a) (by simpa using b)
section
variable {M : Nat → Option (Array Value)} {ρ : Nat → Nat → Option Value} {x0 y0 : AV}
theorem RwA.rep (h0 : ∀ u, Rep M ρ x0 u → Rep M ρ y0 u) {x y : AV} {u : Value} (h : RwA x0 y0 x y) (hx : Rep M ρ x u) : Rep M ρ y u := by
  rcases h with rfl | ⟨rfl, rfl⟩
  · exact hx
  · exact h0 u hx
theorem RwL.rep (h0 : ∀ u, Rep M ρ x0 u → Rep M ρ y0 u) {xs ys : List AV} {us : List Value} (h : RwL x0 y0 xs ys) (hx : ∀ (j : Nat) (x : AV) (u : Value), xs[j]? = some x → us[j]? = some u → Rep M ρ x u) : ∀ (j : Nat) (y : AV) (u : Value), ys[j]? = some y → us[j]? = some u → Rep M ρ y u := fun j y u a b => by
  obtain ⟨hl, hat⟩ := h.at
  obtain ⟨x, hx'⟩ := some_at (L := xs) (k := j) (by rw [hl]; exact lt_at a)
  exact (hat j x y hx' a).rep h0 (hx j x u hx' b)
theorem RwV.rep (h0 : ∀ u, Rep M ρ x0 u → Rep M ρ y0 u) {x y : AV} {u : Value} (h : RwV x0 y0 x y) (hx : Rep M ρ x u) : Rep M ρ y u := by
  rcases h with h | ⟨cs, cs', rfl, rfl, h⟩ | ⟨cs, cs', rfl, rfl, h⟩
  · exact h.rep h0 hx
  · obtain ⟨vs, rfl, hl, hc⟩ := hx.ag_inv
    exact .ag _ _ _ (by rw [hl, h.at.1]) (h.rep h0 hc)
  · obtain ⟨vs, rfl, hl, hc⟩ := hx.tu_inv
    exact .tu _ _ _ (by rw [hl, h.at.1]) (h.rep h0 hc)
end
/-- Some slots' values, told anew. -/
def tput : List (Nat × AV) → AS → AS
  | [], σ => σ
  | p :: l, σ => tput l (σ.put (some p.1) p.2)
def RwTs (x0 y0 : AV) : List (Nat × AV) → AS → Prop
  | [], _ => True
  | p :: l, σ => RwV x0 y0 (σ.T p.1) p.2 ∧ RwTs x0 y0 l (σ.put (some p.1) p.2)
/-- Some boxes' contents, told anew. -/
def bput : List (Nat × List AV) → AS → AS
  | [], σ => σ
  | p :: l, σ => bput l (σ.hup p.1 ⟨(σ.H p.1).k, .box p.2⟩)
def RwHs (x0 y0 : AV) : List (Nat × List AV) → AS → Prop
  | [], _ => True
  | p :: l, σ => (∃ k cs, σ.H p.1 = ⟨k, .box cs⟩ ∧ RwL x0 y0 cs p.2) ∧ RwHs x0 y0 l (σ.hup p.1 ⟨(σ.H p.1).k, .box p.2⟩)
section
variable {X : Ctx} {n : Nat} {M : Nat → Option (Array Value)} {ρ : Nat → Nat → Option Value} {σ : AS} {a : Act} {w : World} {x0 y0 : AV}
theorem Rel.rwT (h0 : ∀ u, Rep M ρ x0 u → Rep M ρ y0 u) : ∀ {l : List (Nat × AV)} {σ : AS}, Rel X n M ρ σ a w → RwTs x0 y0 l σ → Rel X n M ρ (tput l σ) a w
  | [], σ, h, _ => h
  | p :: l, σ, h, hl => Rel.rwT h0 (l := l) ⟨h.live, h.sz, fun j => by
      show Rep M ρ (bif Nat.beq j p.1 then p.2 else σ.T j) _
      by_cases he : j = p.1
      · subst he; rw [Nat.beq_refl]; exact hl.1.rep h0 (h.tm _)
      · rw [beq_ne he]; exact h.tm j, h.box, h.buf, h.sep, h.fresh, h.glob, h.base, h.root, h.os, h.tape, h.output, h.size, h.frame, h.df, h.mp⟩ hl.2
theorem Rel.rwB (h : Rel X n M ρ σ a w) (h0 : ∀ u, Rep M ρ x0 u → Rep M ρ y0 u) {s k : Nat} {cs cs' : List AV} (hH : σ.H s = ⟨k, .box cs⟩) (hl : RwL x0 y0 cs cs') : Rel X n M ρ (σ.hup s ⟨k, .box cs'⟩) a w := by
  have hother : ∀ s', s' ≠ s → (σ.hup s ⟨k, .box cs'⟩).H s' = σ.H s' := fun s' hs => by simp [AS.hup, beq_ne hs]
  have hsame : (σ.hup s ⟨k, .box cs'⟩).H s = ⟨k, .box cs'⟩ := by simp [AS.hup, Nat.beq_refl]
  have hblk : ∀ s', blkOf ρ s' ((σ.hup s ⟨k, .box cs'⟩).H s') = blkOf ρ s' (σ.H s') := fun s' => by
    by_cases hs : s' = s
    · subst hs; rw [hsame, hH]; simp [blkOf]
    · rw [hother s' hs]
  refine ⟨h.live, h.sz, h.tm, fun s' k' cs1 e => ?_, fun s' k' e' sz L he => ?_, fun s1 s2 g a1 a2 => h.sep s1 s2 g (by rw [← hblk]; exact a1) (by rw [← hblk]; exact a2), fun s' k' hk => ?_, h.glob, h.base, h.root, h.os, h.tape, h.output, h.size, h.frame, h.df, fun s' k' L1 e => ?_⟩
  · by_cases hs : s' = s
    · subst hs
      rw [hsame] at e
      injection e with e1 e2
      injection e2 with e2
      subst e1; subst e2
      obtain ⟨g, t, us, b1, b2, b3, b4, b5, b6⟩ := h.box s' k cs hH
      exact ⟨g, t, us, b1, b2, b3, b4, by rw [b5, hl.at.1], hl.rep h0 b6⟩
    · rw [hother s' hs] at e; exact h.box s' k' cs1 e
  · by_cases hs : s' = s
    · subst hs
      rw [hsame] at he
      injection he with _ he
      cases he
    · rw [hother s' hs] at he; exact h.buf s' k' e' sz L he
  · by_cases hs : s' = s
    · subst hs
      rw [hsame] at hk
      exact h.fresh s' k' (by rw [hH]; exact hk)
    · rw [hother s' hs] at hk; exact h.fresh s' k' hk
  · by_cases hs : s' = s
    · subst hs
      rw [hsame] at e
      injection e with _ e
      cases e
    · rw [hother s' hs] at e; exact h.mp s' k' L1 e
theorem Rel.rwH (h0 : ∀ u, Rep M ρ x0 u → Rep M ρ y0 u) : ∀ {l : List (Nat × List AV)} {σ : AS}, Rel X n M ρ σ a w → RwHs x0 y0 l σ → Rel X n M ρ (bput l σ) a w
  | [], σ, h, _ => h
  | p :: l, σ, h, ⟨⟨k, cs, hH, hl⟩, hr⟩ => Rel.rwH h0 (l := l) (by have := h.rwB h0 hH hl; rw [hH]; exact this) hr
end
section
variable {P : Program} {X : Ctx} {n : Nat} {σ : AS} {Q : Exit → AS → Prop} {c : Code}
/-- nil as an empty buffer at site s, in some slots and boxes. -/
theorem awp_own_at {s k : Nat} {c0 : Cont} (e sz : Nat) (ts : List (Nat × AV)) (hs : List (Nat × List AV)) (hH : σ.H s = ⟨k, c0⟩) (hT : RwTs (.v (.slice none 0 0)) (.own s (k + 1)) ts (σ.hup s ⟨k + 1, .buf e sz []⟩)) (hB : RwHs (.v (.slice none 0 0)) (.own s (k + 1)) hs (tput ts (σ.hup s ⟨k + 1, .buf e sz []⟩)))
    (h : AWp P X n c Q (bput hs (tput ts (σ.hup s ⟨k + 1, .buf e sz []⟩)))) : AWp P X n c Q σ := by
  refine ⟨fun M ρ a w hR => ?_⟩
  obtain rfl : (σ.H s).k = k := by rw [hH]
  have hA := hR.appendTo s (L := []) (w' := w) (news := []) (v' := .slice none 0 0) (nil_ownsX X w e sz) (nil_owns w 0 e sz) ⟨rfl, rfl, rfl, Nat.le_refl _, fun _ _ _ => rfl⟩ (.inl rfl) (by simp [vblk]) (by simp [vblk]) (by simp) (by simp) (by simp)
  have h0 : ∀ u, Rep M (updρ ρ s ((σ.H s).k + 1) (.slice none 0 0)) (.v (.slice none 0 0)) u → Rep M (updρ ρ s ((σ.H s).k + 1) (.slice none 0 0)) (.own s ((σ.H s).k + 1)) u := fun u hu => by
    rw [hu.v_inv]
    exact .own _ _ _ _ (by simp [updρ]) rfl
  exact h.run M _ a w (Rel.rwH h0 (Rel.rwT h0 hA hT) hB)
/-- A buffer that is no longer written, in some slots and boxes. -/
theorem awp_freeze_at {s k e sz : Nat} {L : List AV} (ts : List (Nat × AV)) (hs : List (Nat × List AV)) (hH : σ.H s = ⟨k, .buf e sz L⟩) (hT : RwTs (.own s k) (.sl sz L) ts (σ.hup s ⟨k, .dead⟩)) (hB : RwHs (.own s k) (.sl sz L) hs (tput ts (σ.hup s ⟨k, .dead⟩)))
    (h : AWp P X n c Q (bput hs (tput ts (σ.hup s ⟨k, .dead⟩)))) : AWp P X n c Q σ := by
  refine ⟨fun M ρ a w hR => ?_⟩
  have hdead : Rel X n M ρ (σ.hup s ⟨k, .dead⟩) a w := hR.weak ⟨fun _ => .inl rfl, fun s' => by
    simp only [AS.hup]
    by_cases hs' : s' = s
    · subst hs'; rw [Nat.beq_refl]; exact ⟨by rw [hH]; rfl, .inr rfl⟩
    · rw [beq_ne hs']; exact ⟨rfl, .inl rfl⟩⟩
  have hbuf := hR.buf s k e sz L hH
  have fin : ∀ M', Rel X n M' ρ (σ.hup s ⟨k, .dead⟩) a w → (∀ u, Rep M' ρ (.own s k) u → Rep M' ρ (.sl sz L) u) → c.wp P (fun e a' w' => ∃ M' ρ' σ', Rel X n M' ρ' σ' a' w' ∧ Q e σ') a w := fun M' hA h0 =>
    h.run M' ρ a w (Rel.rwH h0 (Rel.rwT h0 hA hT) hB)
  have hbuf' := hbuf
  obtain ⟨u, us, b1, b2, b3, b4, b5, b6⟩ := hbuf
  obtain ⟨b2, b2m⟩ := b2
  rcases b2.2 with ⟨rfl, hn⟩ | ⟨g, cap, cur, rfl, e2, e3, -⟩
  · refine fin M hdead fun u hu => ?_
    have hu := hu.own_inv
    rw [b1] at hu
    injection hu with hu
    rw [← hu]
    obtain rfl : L = [] := List.eq_nil_of_length_eq_zero hn
    exact .sl _ sz [] none 0 (fun _ _ => undef) (by simp) (by simp) (by simp) (by simp)
  · have hMg := b3 g rfl
    have hbs : blkOf ρ s (σ.H s) = some g := by rw [hH]; simp [blkOf, b1, vblk]
    have hA := hdead.addM (g := g) e3 hMg (b2m g rfl) (fun s' hs' => by
      simp only [AS.hup] at hs'
      by_cases he : s' = s
      · subst he; rw [Nat.beq_refl] at hs'; simp [blkOf] at hs'
      · rw [beq_ne he] at hs'; exact he (hR.sep s' s g hs' hbs))
    have hmono : ∀ g' x, M g' = some x → updM M g cur g' = some x := fun g' x e => by
      unfold updM
      rw [if_neg (by rintro rfl; rw [hMg] at e; cases e)]
      exact e
    refine fin _ hA fun u hu => ?_
    have hu' := hu.own_inv
    refine own_sl hbuf' hmono (M' := updM M g cur) (ρ' := ρ) (fun v g' t fr arr h1 h2 h3 => by
      rw [b1] at h1
      injection h1 with h1
      subst h1
      injection h2 with h2
      subst h2
      rw [e3] at h3
      injection h3 with h3
      injection h3 with h3
      subst h3
      simp [updM]) (.own _ _ _ _ hu' ?_)
    cases hu with
    | own _ _ _ _ o1 o2 => exact o2
end
end Go.Proofs.YtgpglcccjkpmdaaDoor
namespace Go.Proofs.YtgpglcccjkpmdaaDoor
open Go Go.RowKit
def avOf : Value → AV
  | .agg ⟨vs⟩ => .ag (vs.map .v)
  | x => .v x
theorem avOf_rep {M : Nat → Option (Array Value)} {ρ : Nat → Nat → Option Value} (v : Value) : Rep M ρ (avOf v) v := by
  cases v with
  | agg a =>
    obtain ⟨vs⟩ := a
    refine .ag _ _ _ (by simp) fun j x u a b => ?_
    rw [List.getElem?_map, b] at a
    injection a with a
    subst a
    exact .v _ _
  | _ => exact .v _ _
def valOf : AV → Option Value
  | .v x => some x
  | .ag cs => (concL cs).map fun us => .agg ⟨us⟩
  | _ => none
theorem valOf_rep {M : Nat → Option (Array Value)} {ρ : Nat → Nat → Option Value} {x : AV} {u v : Value} (h : Rep M ρ x u) (hv : valOf x = some v) : u = v := by
  cases x with
  | v x => injection hv with hv; subst hv; exact h.v_inv
  | ag cs =>
    simp only [valOf, Option.map_eq_some_iff] at hv
    obtain ⟨us, h1, rfl⟩ := hv
    exact conc_rep h1 h
  | _ => cases hv
theorem sameNow_eq {d : TypeDesc} {a b : Value} (h : Instr.sameNow d a b = some true) : b = a := by
  unfold Instr.sameNow at h
  split at h
  · split at h
    · rename_i he; subst he; injection h with h; rw [eq_of_beq h]
    · cases h
  · injection h with h; rw [(MapKept.bytes_beq _ _).1 h]
  · injection h with h; rw [eq_of_beq h]
  · cases h
/-- A key's entry, written. -/
def putM (kd : TypeDesc) (key v : Value) : List (Value × Value) → List (Value × Value)
  | [] => [(key, v)]
  | p :: l => if Instr.sameNow kd key p.1 = some true then (key, v) :: l else p :: putM kd key v l
theorem putM_none {kd : TypeDesc} {key v : Value} : ∀ {es : List MapEntry} {i : Nat}, Instr.findNow kd key es i = some none → putM kd key v (es.map fun e => (e.key, e.val)) = (es.map fun e => (e.key, e.val)) ++ [(key, v)]
  | [], _, _ => rfl
  | e :: es, i, h => by
    unfold Instr.findNow at h
    cases hs : Instr.sameNow kd key e.key with
    | none => rw [hs] at h; cases h
    | some b =>
      rw [hs] at h
      cases b with
      | true => simp at h
      | false =>
        simp only [List.map_cons, putM, hs]
        rw [putM_none (i := i + 1) (by simpa using h)]
        simp
theorem putM_some {kd : TypeDesc} {key v old : Value} : ∀ {es : List MapEntry} {i j : Nat}, Instr.findNow kd key es i = some (some (j, old)) →
    i ≤ j ∧ (∃ e, es[j - i]? = some e ∧ e.key = key) ∧ putM kd key v (es.map fun e => (e.key, e.val)) = (es.modify (j - i) fun e => { e with key := key, val := v }).map fun e => (e.key, e.val)
  | [], _, _, h => by simp [Instr.findNow] at h
  | e :: es, i, j, h => by
    unfold Instr.findNow at h
    cases hs : Instr.sameNow kd key e.key with
    | none => rw [hs] at h; cases h
    | some b =>
      rw [hs] at h
      cases b with
      | true =>
        simp at h
        obtain ⟨rfl, rfl⟩ := h
        refine ⟨Nat.le_refl _, ⟨e, by simp, sameNow_eq hs⟩, ?_⟩
        simp [putM, hs]
      | false =>
        simp at h
        obtain ⟨h1, ⟨e', h2, h3⟩, h4⟩ := putM_some (v := v) (es := es) (i := i + 1) (j := j) h
        have hj : j - i = (j - (i + 1)) + 1 := by omega
        refine ⟨by omega, ⟨e', by rw [hj]; simpa using h2, h3⟩, ?_⟩
        rw [hj]
        simp only [List.map_cons, putM, hs, List.modify_succ_cons, h4]
        simp
section
variable {P : Program} {X : Ctx} {n : Nat} {ops : Array Oper} {os : List Oper} {acc : List Rule} {σ : AS} {K : List Rule → AS → Prop} {gt : List (Nat × AV)} {ty : TypeId} {ps : String} {af : Array Edge} {g : Option (Nat × Bool)}
theorem x_mapPut {t kt et : TypeId} {kd : TypeDesc} {m x y : Operand} {s k k' : Nat} {L : List (Value × Value)} {key v : Value} {z : AV} {r : Option Value} (ht : P.underlying t = some (.map kt et)) (hk : P.underlying kt = some kd) (hkey : MapKept.IsKey kd key) (hm : ev σ m = .own s k) (hH : σ.H s = ⟨k', .mp L⟩) (hkk : k = k') (hx : ev σ x = .v key) (hz : vf (ev σ y) = some z) (hy : valOf z = some v) (hr : findL kd key L = some r)
    (h : Exec P X n ops os (mkG gt σ [m, x, y] [s] none (.v undef) [(s, ⟨k', .mp (putM kd key v L)⟩)] :: acc) (σ.hup s ⟨k', .mp (putM kd key v L)⟩) K) : Op1 P X n ops gt ⟨none, .mapUpdate t m x y, ty, ps, af, g⟩ os acc σ K := by
  refine ⟨⟨mkR σ [m, x, y] [s] none (.v undef) [(s, ⟨k', .mp (putM kd key v L)⟩)], rule_unit rfl rfl fun M ρ τ a w hf hR => ?_, mkR_fires _ _ _ _ _ _, h⟩⟩
  subst hkk
  have hHs := (mkR_H hf (s := s) (by simp)).trans hH
  have h1 := hR.ev m
  rw [mkR_ev hf (by simp), hm] at h1
  have h2 := eval_v hR (mkR_ev hf (by simp)) hx
  have h3 := hR.ev y
  rw [mkR_ev hf (by simp), vf_eq hz] at h3
  have h3 := valOf_rep h3 hy
  obtain ⟨g', es, b1, e1, b2, b4, b5, b3⟩ := hR.map_at hHs h1
  have hr' := hr
  rw [← b4] at hr'
  obtain ⟨q, q1, q2⟩ := findL_now (i := 0) hr'
  cases q with
  | none =>
    have hp := putM_none (v := v) q1
    rw [b4] at hp
    have hS := hR.storeOb (o' := .mp (putM kd key v L)) (x' := .map (es.push { key, val := v, born := es.size }) (es.size + 1)) hHs b1 rfl b2 b3 ⟨rfl, es.push { key, val := v, born := es.size }, by rw [(MapKept.heap_set b2).1]; simp, by rw [hp, Array.toList_push, List.map_append, b4]; rfl, fun i e he => by
      rw [Array.getElem?_push] at he
      split at he
      · rename_i hi; injection he with he; subst he; exact hi.symm
      · exact b5 i e he⟩
    refine ⟨_, M, ρ, ?_, hS⟩
    unfold execOp
    simp only [e1, h2, h3, Instr.mapUpdate, Sem.run_bind, run_underlying ht, Result.andThen_ok, MapKept.run_getObj_map b2, MapKept.run_checkKey hk hkey, MapKept.run_findKey hk q1, MapKept.run_setObj_map _ b2]
    rfl
  | some p =>
    obtain ⟨i, old⟩ := p
    obtain ⟨-, ⟨e0, p1, p2⟩, p3⟩ := putM_some (v := v) q1
    rw [b4] at p3
    simp only [Nat.sub_zero] at p1 p3
    have hei : es[i]? = some e0 := by rw [← Array.getElem?_toList]; exact p1
    have hS := hR.storeOb (o' := .mp (putM kd key v L)) (x' := .map (es.modify i fun e => { e with key := key, val := v }) es.size) hHs b1 rfl b2 b3 ⟨rfl, es.modify i fun e => { e with key := key, val := v }, by rw [(MapKept.heap_set b2).1]; simp, by rw [p3, Array.toList_modify], fun j e he => by
      rw [Array.getElem?_modify] at he
      split at he
      · cases hj : es[j]? with
        | none => rw [hj] at he; simp at he
        | some e1 => rw [hj] at he; simp at he; subst he; exact b5 j e1 hj
      · exact b5 j e he⟩
    refine ⟨_, M, ρ, ?_, hS⟩
    unfold execOp
    simp only [e1, h2, h3, Instr.mapUpdate, Sem.run_bind, run_underlying ht, Result.andThen_ok, MapKept.run_getObj_map b2, MapKept.run_checkKey hk hkey, MapKept.run_findKey hk q1, hei, Option.map_some, Option.getD_some, p2, MapKept.run_keyThatStays hkey, MapKept.run_setObj_map _ b2]
    rfl
theorem x_lookup2 {d : Option Nat} {t kt et : TypeId} {kd : TypeDesc} {m x : Operand} {s k k' : Nat} {L : List (Value × Value)} {key z : Value} {r : Option Value} (ht : P.underlying t = some (.map kt et)) (hk : P.underlying kt = some kd) (hkey : MapKept.IsKey kd key) (hz : ∀ w, (zeroValue et).run P w = .ok z w) (hm : ev σ m = .own s k) (hH : σ.H s = ⟨k', .mp L⟩) (hkk : k = k') (hx : ev σ x = .v key) (hr : findL kd key L = some r) (y : AV) (hy : y = avOf (r.getD z))
    (h : Exec P X n ops os (mkG gt σ [m, x] [s] d y [] :: acc) (σ.put d y) K) : Op1 P X n ops gt ⟨d, .lookup t m x false, ty, ps, af, g⟩ os acc σ K := by
  subst hy
  refine ⟨⟨mkR σ [m, x] [s] d (avOf (r.getD z)) [], rule_val rfl fun M ρ τ a w hf hR => ?_, mkR_fires _ _ _ _ _ _, h⟩⟩
  subst hkk
  have hHs := (mkR_H hf (s := s) (by simp)).trans hH
  have h1 := hR.ev m
  rw [mkR_ev hf (by simp), hm] at h1
  have h2 := eval_v hR (mkR_ev hf (by simp)) hx
  obtain ⟨g', es, b1, e1, b2, b4, b5, b3⟩ := hR.map_at hHs h1
  rw [← b4] at hr
  obtain ⟨q, q1, q2⟩ := findL_now (i := 0) hr
  refine ⟨r.getD z, w, M, ρ, ?_, hR, avOf_rep _⟩
  unfold execOp
  simp only [e1, h2, Instr.lookup, Sem.run_bind, run_underlying ht, Result.andThen_ok, MapKept.run_getObj_map b2, MapKept.run_checkKey hk hkey, MapKept.run_findKey hk q1, Sem.run_pure]
  cases q with
  | none => simp only [Option.map_none] at q2; subst q2; simp [hz]
  | some p => simp only [Option.map_some] at q2; subst q2; simp
theorem x_lookup_ok {d : Option Nat} {t kt et : TypeId} {kd : TypeDesc} {m x : Operand} {s k k' : Nat} {L : List (Value × Value)} {key z : Value} {r : Option Value} (ht : P.underlying t = some (.map kt et)) (hk : P.underlying kt = some kd) (hkey : MapKept.IsKey kd key) (hz : ∀ w, (zeroValue et).run P w = .ok z w) (hm : ev σ m = .own s k) (hH : σ.H s = ⟨k', .mp L⟩) (hkk : k = k') (hx : ev σ x = .v key) (hr : findL kd key L = some r) (y : AV) (hy : y = avOf (r.getD z))
    (h : Exec P X n ops os (mkG gt σ [m, x] [s] d (.tu [y, .v (.bool r.isSome)]) [] :: acc) (σ.put d (.tu [y, .v (.bool r.isSome)])) K) : Op1 P X n ops gt ⟨d, .lookup t m x true, ty, ps, af, g⟩ os acc σ K := by
  subst hy
  refine ⟨⟨mkR σ [m, x] [s] d (.tu [avOf (r.getD z), .v (.bool r.isSome)]) [], rule_val rfl fun M ρ τ a w hf hR => ?_, mkR_fires _ _ _ _ _ _, h⟩⟩
  subst hkk
  have hHs := (mkR_H hf (s := s) (by simp)).trans hH
  have h1 := hR.ev m
  rw [mkR_ev hf (by simp), hm] at h1
  have h2 := eval_v hR (mkR_ev hf (by simp)) hx
  obtain ⟨g', es, b1, e1, b2, b4, b5, b3⟩ := hR.map_at hHs h1
  rw [← b4] at hr
  obtain ⟨q, q1, q2⟩ := findL_now (i := 0) hr
  refine ⟨.tuple #[r.getD z, .bool r.isSome], w, M, ρ, ?_, hR, .tu _ _ [r.getD z, .bool r.isSome] rfl fun j x u a b => ?_⟩
  · unfold execOp
    simp only [e1, h2, Instr.lookup, Sem.run_bind, run_underlying ht, Result.andThen_ok, MapKept.run_getObj_map b2, MapKept.run_checkKey hk hkey, MapKept.run_findKey hk q1, Sem.run_pure]
    cases q with
    | none => simp only [Option.map_none] at q2; subst q2; simp [hz]
    | some p => simp only [Option.map_some] at q2; subst q2; simp
  · rcases j with _ | _ | j
    · simp at a b; subst a; subst b; exact avOf_rep _
    · simp at a b; subst a; subst b; exact .v _ _
    · simp at a
theorem x_len_map {d : Option Nat} {t kt et : TypeId} {x : Operand} {s k k' : Nat} {L : List (Value × Value)} (ht : P.underlying t = some (.map kt et)) (hx : ev σ x = .own s k) (hH : σ.H s = ⟨k', .mp L⟩) (hk : k = k')
    (h : Exec P X n ops os (mkG gt σ [x] [s] d (.v (.int .i64 L.length)) [] :: acc) (σ.put d (.v (.int .i64 L.length))) K) : Op1 P X n ops gt ⟨d, .call ⟨.builtin .len, #[x], #[t]⟩, ty, ps, af, g⟩ os acc σ K := by
  refine ⟨⟨mkR σ [x] [s] d (.v (.int .i64 L.length)) [], rule_val rfl fun M ρ τ a w hf hR => ?_, mkR_fires _ _ _ _ _ _, h⟩⟩
  subst hk
  have hHs := (mkR_H hf (s := s) (by simp)).trans hH
  have h1 := hR.ev x
  rw [mkR_ev hf (by simp), hx] at h1
  obtain ⟨g', es, b1, e1, b2, b4, b5, b3⟩ := hR.map_at hHs h1
  refine ⟨goInt es.size, w, M, ρ, ?_, hR, ?_⟩
  · unfold execOp
    simp [resolve, invoke, builtin, e1, Builtin.len_, run_underlying ht, MapKept.run_getObj_map b2]
  · rw [show L.length = es.size by rw [← b4]; simp]
    exact .v _ _
/-- The start of a walk through a map. -/
theorem x_range {d k0 : Nat} {t kt et : TypeId} {x : Operand} {s k k' : Nat} {c0 : Cont} {L : List (Value × Value)} (ht : P.underlying t = some (.map kt et)) (hx : ev σ x = .own s k) (hH : σ.H s = ⟨k', .mp L⟩) (hk : k = k') (hd : σ.H d = ⟨k0, c0⟩)
    (h : Exec P X n ops os (mkG gt σ [x] [s, d] (some d) (.own d (k0 + 1)) [(d, ⟨k0 + 1, .ob (.it s k' L.length [] L.length)⟩)] :: acc) ((σ.hup d ⟨k0 + 1, .ob (.it s k' L.length [] L.length)⟩).put (some d) (.own d (k0 + 1))) K) : Op1 P X n ops gt ⟨some d, .range t x, ty, ps, af, g⟩ os acc σ K := by
  obtain rfl : (σ.H d).k = k0 := by rw [hd]
  refine ⟨⟨mkR σ [x] [s, d] (some d) (.own d ((σ.H d).k + 1)) [(d, ⟨(σ.H d).k + 1, .ob (.it s k' L.length [] L.length)⟩)], rule_val rfl fun M ρ τ a w hf hR => ?_, mkR_fires _ _ _ _ _ _, h⟩⟩
  subst hk
  have hHs := (mkR_H hf (s := s) (by simp)).trans hH
  have hHd := mkR_H hf (s := d) (by simp)
  have h1 := hR.ev x
  rw [mkR_ev hf (by simp), hx] at h1
  obtain ⟨g', es, b1, e1, b2, b4, b5, b3⟩ := hR.map_at hHs h1
  have hl : L.length = es.size := by rw [← b4]; simp
  have hN := hR.newOb d (v := .pointer (some ⟨w.heap.size, 0, none⟩)) (x := .mapIter (some g') es.size #[] es.size) (ob := .it s k L.length [] L.length) rfl fun ρ' hρ => ⟨rfl, g', hρ _ _ _ b1, by rw [heap_alloc_new w _, hl]⟩
  refine ⟨.pointer (some ⟨w.heap.size, 0, none⟩), _, M, _, ?_, by rw [← hHd]; exact hN, .own _ _ _ _ (by rw [← hHd]; simp [updρ]) rfl⟩
  unfold execOp
  simp only [e1, Instr.range, Sem.run_bind, run_underlying ht, Result.andThen_ok, MapKept.run_getObj_map b2, Sem.run_pure]
  simp [newObj]
  rfl
theorem it_at {M : Nat → Option (Array Value)} {ρ : Nat → Nat → Option Value} {a : Act} {w : World} (hR : Rel X n M ρ σ a w) {s k s' k' since last : Nat} {seen : List Nat} {L : List (Value × Value)} (hH : σ.H s = ⟨k, .ob (.it s' k' since seen last)⟩) (hM : σ.H s' = ⟨k', .mp L⟩) {u : Value} (hu : Rep M ρ (.own s k) u) :
    ∃ (r gm : Nat) (es : Array MapEntry), u = .pointer (some ⟨r, 0, none⟩) ∧ ρ s k = some (.pointer (some ⟨r, 0, none⟩)) ∧ ρ s' k' = some (.map (some gm)) ∧ w.heap[r]? = some (.mapIter (some gm) since ⟨seen⟩ last) ∧ w.heap[gm]? = some (.map es es.size) ∧ es.toList.map (fun e => (e.key, e.val)) = L ∧ (∀ (i : Nat) (e : MapEntry), es[i]? = some e → e.born = i) ∧ X.w0.heap.size ≤ r := by
  obtain ⟨v, r, -, h1, h2, h3, rfl, gm, h4, h5⟩ := hR.mp s k _ hH
  obtain ⟨v', g', -, f1, f2, f3, rfl, es, f4, f5, f6⟩ := hR.mp s' k' (.mp L) hM
  rw [f1] at h4
  injection h4 with h4
  injection h4 with h4
  injection h4 with h4
  subst h4
  have e1 := hu.own_inv
  rw [h1] at e1
  injection e1 with e1
  exact ⟨r, g', es, e1.symm, h1, f1, h5, f4, f5, f6, h3⟩
theorem born_nodup {es : Array MapEntry} (h : ∀ (i : Nat) (e : MapEntry), es[i]? = some e → e.born = i) : (es.toList.map (·.born)).Nodup := by
  have : es.toList.map (·.born) = List.range es.size := by
    apply List.ext_getElem?
    intro i
    rw [List.getElem?_map, Array.getElem?_toList]
    cases he : es[i]? with
    | none =>
      have : es.size ≤ i := by simpa using he
      simp [this]
    | some e =>
      have hlt := (Array.getElem?_eq_some_iff.1 he).1
      simp [List.getElem?_range hlt, h i e he]
  rw [this]
  exact List.nodup_range
/-- What the step has handed out. -/
theorem x_entry {d : Option Nat} {x : Operand} {s k s' k' since last i : Nat} {seen : List Nat} {L : List (Value × Value)} {p : Value × Value} (hx : ev σ x = .own s k) (hH : σ.H s = ⟨k, .ob (.it s' k' since (seen ++ [i]) last)⟩) (hM : σ.H s' = ⟨k', .mp L⟩) (hlast : last = L.length) (hp : L[i]? = some p) (y z : AV) (hy : y = avOf p.1) (hz : z = avOf p.2)
    (h : Exec P X n ops os (mkG gt σ [x] [s, s'] d (.tu [y, z]) [] :: acc) (σ.put d (.tu [y, z])) K) : Op1 P X n ops gt ⟨d, .entry x, ty, ps, af, g⟩ os acc σ K := by
  subst hy; subst hz
  refine ⟨⟨mkR σ [x] [s, s'] d (.tu [avOf p.1, avOf p.2]) [], rule_val rfl fun M ρ τ a w hf hR => ?_, mkR_fires _ _ _ _ _ _, h⟩⟩
  have hHs := (mkR_H hf (s := s) (by simp)).trans hH
  have hHm := (mkR_H hf (s := s') (by simp)).trans hM
  have h1 := hR.ev x
  rw [mkR_ev hf (by simp), hx] at h1
  obtain ⟨r, gm, es, e1, e2, e3, e4, e5, e6, e7, e8⟩ := it_at hR hHs hHm h1
  rw [← e6, List.getElem?_map, Array.getElem?_toList] at hp
  cases he : es[i]? with
  | none => rw [he] at hp; cases hp
  | some e =>
    rw [he] at hp
    injection hp with hp
    subst hp
    have hb := e7 i e he
    have hsz : last = es.size := by rw [hlast, ← e6]; simp
    have hrun := run_entry_at (P := P) w r gm since ⟨seen⟩ es es.size e (by rw [e4, hsz, hb]; simp) e5 (by rw [← Array.getElem?_toList] at he; exact List.mem_of_getElem? he) (born_nodup e7)
    refine ⟨.tuple #[e.key, e.val], w, M, ρ, ?_, hR, .tu _ _ [e.key, e.val] rfl fun j x u a b => ?_⟩
    · unfold execOp
      simp only [e1, Sem.run_bind, hrun, Result.andThen_ok]
      rfl
    · rcases j with _ | _ | j
      · simp at a b; subst a; subst b; exact avOf_rep _
      · simp at a b; subst a; subst b; exact avOf_rep _
      · simp at a
end
section
variable {P : Program} {X : Ctx} {n : Nat} {σ : AS} {Q : Exit → AS → Prop}
/-- The step of a walk through a map, with what stands behind it in its region. -/
theorem awp_next {id d t s k s' k' since last : Nat} {ops : Array Oper} {os : List Oper} {ty : TypeId} {ps : String} {af : Array Edge} {seen : List Nat} {L : List (Value × Value)} (hops : ops.toList = ⟨some d, .next (.tmp t) false, ty, ps, af, none⟩ :: os) (hd : dstsB n ops.toList = true)
    (hT : σ.T t = .own s k) (hH : σ.H s = ⟨k, .ob (.it s' k' since seen last)⟩) (hM : σ.H s' = ⟨k', .mp L⟩) (hsince : since = L.length) (hlast : last = L.length)
    (h0 : (∀ i, i < L.length → i ∈ seen) → Exec P X n ops os [] (σ.put (some d) (.tu [.v (.bool false)])) (nrm Q))
    (h1 : ∀ i p, L[i]? = some p → i ∉ seen → Exec P X n ops os [] ((σ.hup s ⟨k, .ob (.it s' k' since (seen ++ [i]) last)⟩).put (some d) (.tu [.v (.bool true), avOf p.1, avOf p.2])) (nrm Q)) : AWp P X n (.region id ops false) Q σ := by
  refine ⟨fun M ρ a w hR => ?_⟩
  refine wp_region ?_
  have hsize : ops.size = os.length + 1 := by rw [← Array.length_toList, hops]; simp
  have hat : ∀ i o, os[i]? = some o → ops[i + 1]? = some o := fun i o ho => by rw [← Array.getElem?_toList, hops]; simpa using ho
  have ho0 : ops[0]? = some ⟨some d, .next (.tmp t) false, ty, ps, af, none⟩ := by rw [← Array.getElem?_toList, hops]; rfl
  have hdn : d < n := dstsB_at hd ho0 d rfl
  rw [List.range_eq_range', hsize, List.range'_succ]
  unfold wpOps
  rw [ho0]
  simp only
  refine .inl ?_
  have htm := hR.tm t
  rw [hT] at htm
  obtain ⟨r, gm, es, e1, e2, e3, e4, e5, e6, e7, e8⟩ := it_at hR hH hM htm
  have hsz : L.length = es.size := by rw [← e6]; simp
  have hev : a.eval (.tmp t) = .pointer (some ⟨r, 0, none⟩) := e1
  have tail : ∀ (σ1 : AS), Exec P X n ops os [] σ1 (nrm Q) → ∀ M ρ a w, Rel X n M ρ σ1 a w → wpOps P ops (fun e a' w' => ∃ M' ρ' σ', Rel X n M' ρ' σ' a' w' ∧ Q e σ') (List.range' 1 os.length) a w := fun σ1 hE M ρ a w hR1 => by
    obtain ⟨rs, hl, _, hr, hK⟩ := Exec0.rules os [] σ1 hE.run
    simp at hl hr
    have go : ∀ (m i : Nat), i + m = os.length → ∀ M ρ a w, Rel X n M ρ (runR (rs.take i) σ1) a w → wpOps P ops (fun e a' w' => ∃ M' ρ' σ', Rel X n M' ρ' σ' a' w' ∧ Q e σ') (List.range' (i + 1) m) a w := by
      intro m
      induction m with
      | zero =>
        intro i hi M ρ a w h
        rw [List.take_of_length_le (by omega)] at h
        exact ⟨M, ρ, _, h, hK⟩
      | succ m ih =>
        intro i hi M ρ a w h
        have hlt : i < os.length := by omega
        obtain ⟨r, q1, q2, q3⟩ := hr i os[i] (List.getElem?_eq_getElem hlt)
        have hoi := hat i _ (List.getElem?_eq_getElem hlt)
        rw [List.range'_succ]
        unfold wpOps
        rw [hoi]
        simp only
        have e : runR (rs.take (i + 1)) σ1 = r.apply (runR (rs.take i) σ1) := by rw [take_at q1, runR_snoc]
        have := q2 (dstsB_at hd hoi) M ρ _ a w q3 h (wpOps P ops _ (List.range' (i + 1 + 1) m)) (fun e a' w' => ∃ M' ρ' σ', Rel X n M' ρ' σ' a' w' ∧ Q e σ') (fun M' ρ' a' w' hh => ih (i + 1) (by omega) M' ρ' a' w' (by rw [e]; exact hh))
        split
        · rename_i hw; rw [if_pos hw] at this; exact .inl this
        · rename_i hw; rw [if_neg hw] at this; exact this
    exact go os.length 0 (by omega) M ρ a w (by simpa [runR] using hR1)
  show Oper.wp _ _ _ _ _ _
  unfold Oper.wp
  rcases run_next_at (P := P) w ty r gm since last ⟨seen⟩ es es.size e4 e5 (fun x hx => by
    obtain ⟨i, hi⟩ := List.getElem?_of_mem hx
    rw [Array.getElem?_toList] at hi
    rw [e7 i x hi, hsince, hsz]
    exact (Array.getElem?_eq_some_iff.1 hi).1) (by omega) with ⟨h2, h3⟩ | ⟨e, h2, w1, h3, h4⟩
  · simp only [execOp, hev, Sem.run_bind, h3, Result.andThen_ok, Sem.run_pure]
    refine tail _ (h0 fun i hi => ?_) M ρ _ w (hR.put (.tu _ _ [.bool false] rfl fun j x u a b => by
      rcases j with _ | j
      · simp at a b; subst a; subst b; exact .v _ _
      · simp at a) (fun i e => by injection e with e; omega))
    rw [hsz] at hi
    have hmem : es[i] ∉ leftOf es ⟨seen⟩ := by
      rw [Array.eq_empty_of_size_eq_zero h2]; simp
    have hb := e7 i es[i] (Array.getElem?_eq_getElem hi)
    refine Classical.byContradiction fun hc => hmem ?_
    unfold leftOf
    rw [Array.mem_filter]
    refine ⟨Array.getElem_mem hi, ?_⟩
    rw [hb]
    simp [hc]
  · simp only [execOp, hev, Sem.run_bind, h4, Result.andThen_ok, Sem.run_pure]
    unfold leftOf at h2
    rw [Array.mem_toList_iff, Array.mem_filter] at h2
    obtain ⟨i, hi⟩ := List.getElem?_of_mem (Array.mem_toList_iff.2 h2.1)
    rw [Array.getElem?_toList] at hi
    have hb := e7 i e hi
    have hR1 : Rel X n M ρ σ a w1 := by
      rcases h3 with rfl | rfl
      · exact hR
      · exact hR.drawn _
    have hh : w1.heap = w.heap := by rcases h3 with rfl | rfl <;> rfl
    have hS := hR1.storeOb (o' := .it s' k' since (seen ++ [i]) last) (x' := .mapIter (some gm) since ⟨seen ++ [i]⟩ last) hH e2 rfl (by rw [hh]; exact e4) e8 ⟨rfl, gm, e3, by rw [(MapKept.heap_set (by rw [hh]; exact e4)).1]⟩
    have hw : ChangeMaps.setBlock w1 r (.mapIter (some gm) since ((⟨seen⟩ : Array Nat).push e.born) es.size) = { w1 with heap := w1.heap.setIfInBounds r (.mapIter (some gm) since ⟨seen ++ [i]⟩ last) } := by
      rw [hb, hlast, hsz]
      simp [ChangeMaps.setBlock]
    rw [hw]
    refine tail _ (h1 i (e.key, e.val) (by rw [← e6, List.getElem?_map, Array.getElem?_toList, hi]; rfl) (fun hc => ?_)) M ρ _ _ (hS.put (.tu _ _ [.bool true, e.key, e.val] rfl fun j x u a b => by
      rcases j with _ | _ | _ | j
      · simp at a b; subst a; subst b; exact .v _ _
      · simp at a b; subst a; subst b; exact avOf_rep _
      · simp at a b; subst a; subst b; exact avOf_rep _
      · simp at a) (fun i e => by injection e with e; omega))
    have h6 := h2.2
    rw [hb] at h6
    simp [hc] at h6
end
end Go.Proofs.YtgpglcccjkpmdaaDoor
