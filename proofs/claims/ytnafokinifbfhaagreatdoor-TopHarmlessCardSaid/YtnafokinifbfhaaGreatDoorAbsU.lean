/- Maps of the frame's own in the abstract machine: made, looked up, given a new entry; keys are numbers, strings or truth values; conditions: none. | Own buffers that lie in slots and boxes: nil as an empty buffer, and buffers that are no longer written, wherever they stand; conditions: none. | Maps in the abstract machine: entries overwritten, looked up with a truth value, counted, walked through; conditions: none. -/
import Derived.Test.YtnafokinifbfhaaGreatDoorAbsS
import Derived.MapKept
import Derived.Maps.RangeRun
set_option linter.unusedVariables false
set_option linter.unusedSimpArgs false
namespace Go.Proofs.YtnafokinifbfhaaGreatDoor
open Go Go.RowKit
/-- What a key leads to among a map's entries; none: keys of another kind. -/
def gS (d : TypeDesc) (k : Value) : List (Value × Value) → Option (Option Value)
  | [] => some none
  | p :: l => match Instr.sameNow d k p.1 with
    | some true => some (some p.2)
    | some false => gS d k l
    | none => none
theorem fV {d : TypeDesc} {k : Value} : ∀ {es : List MapEntry} {i : Nat} {r : Option Value}, gS d k (es.map fun e => (e.key, e.val)) = some r → ∃ a, Instr.findNow d k es i = some a ∧ a.map (·.2) = r
  | [], i, r, h => by injection h with h; subst h; exact ⟨none, rfl, rfl⟩
  | e :: es, i, r, h => by
    rw [List.map_cons, gS] at h
    unfold Instr.findNow
    simp only at h
    cases hs : Instr.sameNow d k e.key with
    | none => rw [hs] at h; cases h
    | some b =>
      rw [hs] at h
      cases b with
      | true => injection h with h; subst h; exact ⟨_, rfl, rfl⟩
      | false => exact fV h
section
variable {X : Ctx} {n : Nat} {M : Nat → Option (Array Value)} {ρ : Nat → Nat → Option Value} {σ : AS} {a : Act} {w : World}
/-- A new block that is no row of cells. -/
theorem Rel.newOb (h : Rel X n M ρ σ a w) (s : Nat) {v : Value} {x : Obj} {ob : AO} (hv : vblk v = some w.heap.size) (hx : ∀ ρ', (∀ s k y, ρ s k = some y → ρ' s k = some y) → ObIn M ρ' (w.alloc x) v w.heap.size ob) :
    Rel X n M (updρ ρ s ((σ.H s).k + 1) v) (σ.hup s ⟨(σ.H s).k + 1, .ob ob⟩) a (w.alloc x) := by
  have hm := aD (u := v) (qV h s)
  have hold : ∀ g, g < w.heap.size → (w.alloc x).heap[g]? = w.heap[g]? := fun g hg => Below.heap_alloc w _ g hg
  have hother : ∀ s', s' ≠ s → (σ.hup s ⟨(σ.H s).k + 1, .ob ob⟩).H s' = σ.H s' := fun s' hs => by simp [AS.hup, zV hs]
  have hsame : (σ.hup s ⟨(σ.H s).k + 1, .ob ob⟩).H s = ⟨(σ.H s).k + 1, .ob ob⟩ := by simp [AS.hup, Nat.beq_refl]
  have hblk : ∀ s', s' ≠ s → zI (updρ ρ s ((σ.H s).k + 1) v) s' (σ.H s') = zI ρ s' (σ.H s') := fun s' hs => by
    unfold zI updρ
    cases (σ.H s').c <;> simp [hs]
  have hblks : zI (updρ ρ s ((σ.H s).k + 1) v) s ⟨(σ.H s).k + 1, .ob ob⟩ = some w.heap.size := by
    simp [zI, updρ, hv]
  refine ⟨fun g arr hg => ?_, h.sz, fun i => (h.tm i).mono' (fun _ _ e => e) hm, fun s' k cs' e => ?_, fun s' k e sz L he => ?_, fun s1 s2 g e1 e2 => ?_, fun s' k hk => ?_, h.glob, h.base, fun i g e => hm _ _ _ (h.root i g e), h.os, h.tape, h.output, ?_, fun g hg hn => ?_, h.df, fun s' k L e => ?_⟩
  · obtain ⟨t', fr, h1⟩ := h.live g arr hg
    exact ⟨t', fr, (hold g (h.lt hg)).trans h1⟩
  · by_cases hs : s' = s
    · subst hs
      rw [hsame] at e
      injection e with _ e
      cases e
    · rw [hother s' hs] at e
      refine (h.box s' k cs' e).mono (fun _ _ e => e) hm (fun g hg => hold g ?_) (fun _ _ e => e)
      exact (h.blk_lt (s := s') (by rw [e]; simp [zI, hg, vblk])).1
  · by_cases hs : s' = s
    · subst hs
      rw [hsame] at he
      injection he with _ he
      cases he
    · rw [hother s' hs] at he
      refine (h.buf s' k e sz L he).mono (fun _ _ e => e) hm (fun u g hu hg => hold g ?_) (fun _ _ _ _ e => e)
      exact (h.blk_lt (s := s') (by rw [he]; simp [zI, hu, hg])).1
  · by_cases h1 : s1 = s
    · by_cases h2 : s2 = s
      · rw [h1, h2]
      · exfalso
        subst h1
        rw [hsame, hblks] at e1
        rw [hother s2 h2, hblk s2 h2] at e2
        injection e1 with e1
        have := (h.blk_lt e2).1
        omega
    · by_cases h2 : s2 = s
      · exfalso
        subst h2
        rw [hsame, hblks] at e2
        rw [hother s1 h1, hblk s1 h1] at e1
        injection e2 with e2
        have := (h.blk_lt e1).1
        omega
      · rw [hother s1 h1, hblk s1 h1] at e1
        rw [hother s2 h2, hblk s2 h2] at e2
        exact h.sep s1 s2 g e1 e2
  · by_cases hs : s' = s
    · subst hs
      rw [hsame] at hk
      simp only at hk
      unfold updρ
      rw [if_neg (by omega)]
      exact h.fresh s' k (by omega)
    · rw [hother s' hs] at hk
      unfold updρ
      rw [if_neg (fun e => hs e.1)]
      exact h.fresh s' k hk
  · have := h.size
    simp
    omega
  · rw [hold g (Nat.lt_of_lt_of_le hg h.size)]
    exact h.frame g hg hn
  · by_cases hs : s' = s
    · subst hs
      rw [hsame] at e
      injection e with e1 e2
      injection e2 with e2
      subst e1; subst e2
      exact ⟨v, w.heap.size, by
        cases hq : M w.heap.size with
        | none => rfl
        | some arr => exact absurd (h.lt hq) (Nat.lt_irrefl _), by simp [updρ], hv, h.size, hx _ hm⟩
    · rw [hother s' hs] at e
      exact (h.mp s' k L e).mono hm (fun g hg => hold g (h.blk_lt (h.mp_blk e hg)).1) (fun _ _ e => e)
/-- Such a block is written. -/
theorem Rel.storeOb (h : Rel X n M ρ σ a w) {s k g : Nat} {v : Value} {o o' : AO} {x x' : Obj} (hH : σ.H s = ⟨k, .ob o⟩) (hg : ρ s k = some v) (hvb : vblk v = some g) (hh : w.heap[g]? = some x) (hb : X.w0.heap.size ≤ g) (hx : ObIn M ρ { w with heap := w.heap.setIfInBounds g x' } v g o') :
    Rel X n M ρ (σ.hup s ⟨k, .ob o'⟩) a { w with heap := w.heap.setIfInBounds g x' } := by
  have hb0 := h.mp_blk hH (g := g) (by rw [hg]; exact hvb)
  have hfar0 : ∀ g', g' ≠ g → (w.heap.setIfInBounds g x')[g']? = w.heap[g']? := (MapKept.heap_set hh).2
  have hMg : M g = none := (h.blk_lt hb0).2
  have hother : ∀ s', s' ≠ s → (σ.hup s ⟨k, .ob o'⟩).H s' = σ.H s' := fun s' hs => by simp [AS.hup, zV hs]
  have hsame : (σ.hup s ⟨k, .ob o'⟩).H s = ⟨k, .ob o'⟩ := by simp [AS.hup, Nat.beq_refl]
  have hblk : ∀ s', zI ρ s' ((σ.hup s ⟨k, .ob o'⟩).H s') = zI ρ s' (σ.H s') := fun s' => by
    by_cases hs : s' = s
    · subst hs; rw [hsame, hH]; simp [zI]
    · rw [hother s' hs]
  have hfar : ∀ s' g', s' ≠ s → zI ρ s' (σ.H s') = some g' → g' ≠ g := fun s' g' hs hg' e => hs (h.sep s' s g' hg' (by rw [hb0, e]))
  refine ⟨fun g' arr hg' => ?_, h.sz, h.tm, fun s' k' cs' e => ?_, fun s' k' e' sz' L1 he => ?_, fun s1 s2 g' a1 a2 => h.sep s1 s2 g' (by rw [← hblk]; exact a1) (by rw [← hblk]; exact a2), fun s' k' hk => ?_, h.glob, h.base, h.root, h.os, h.tape, h.output, by simpa using h.size, fun g' hgl hn => ?_, h.df, fun s' k' L1 e => ?_⟩
  · obtain ⟨t', fr, h1⟩ := h.live g' arr hg'
    exact ⟨t', fr, (hfar0 g' (by rintro rfl; rw [hMg] at hg'; cases hg')).trans h1⟩
  · by_cases hs : s' = s
    · subst hs
      rw [hsame] at e
      injection e with _ e
      cases e
    · rw [hother s' hs] at e
      exact (h.box s' k' cs' e).mono (fun _ _ e => e) (fun _ _ _ e => e) (fun g' hg' => hfar0 g' (hfar s' g' hs (by rw [e]; simp [zI, hg', vblk]))) (fun _ _ e => e)
  · by_cases hs : s' = s
    · subst hs
      rw [hsame] at he
      injection he with _ he
      cases he
    · rw [hother s' hs] at he
      exact (h.buf s' k' e' sz' L1 he).mono (fun _ _ e => e) (fun _ _ _ e => e) (fun u g' hu hg' => hfar0 g' (hfar s' g' hs (by rw [he]; simp [zI, hu, hg']))) (fun _ _ _ _ e => e)
  · by_cases hs : s' = s
    · subst hs
      rw [hsame] at hk
      exact h.fresh s' k' (by rw [hH]; exact hk)
    · rw [hother s' hs] at hk
      exact h.fresh s' k' hk
  · exact (hfar0 g' (by rintro rfl; omega)).trans (h.frame g' hgl hn)
  · by_cases hs : s' = s
    · subst hs
      rw [hsame] at e
      injection e with e1 e2
      injection e2 with e2
      subst e1; subst e2
      exact ⟨v, g, hMg, hg, hvb, hb, hx⟩
    · rw [hother s' hs] at e
      exact (h.mp s' k' L1 e).mono (fun _ _ _ e => e) (fun g' hg' => hfar0 g' (hfar s' g' hs (h.mp_blk e hg'))) (fun _ _ e => e)
/-- What a map's handle means. -/
theorem Rel.map_at (h : Rel X n M ρ σ a w) {s k : Nat} {L : List (Value × Value)} (hH : σ.H s = ⟨k, .mp L⟩) {u : Value} (hu : Rep M ρ (.own s k) u) : ∃ (g : Nat) (es : Array MapEntry), ρ s k = some (.map (some g)) ∧ u = .map (some g) ∧ w.heap[g]? = some (.map es es.size) ∧ es.toList.map (fun e => (e.key, e.val)) = L ∧ (∀ (i : Nat) (e : MapEntry), es[i]? = some e → e.born = i) ∧ X.w0.heap.size ≤ g := by
  obtain ⟨v, g, -, h1, h2, h3, rfl, es, h4, h5, h6⟩ := h.mp s k (.mp L) hH
  have e1 := hu.own_inv
  rw [h1] at e1
  injection e1 with e1
  exact ⟨g, es, h1, e1.symm, h4, h5, h6, h3⟩
end
section
variable {P : Program} {X : Ctx} {n : Nat} {ops : Array Oper} {os : List Oper} {acc : List Rule} {σ : AS} {K : List Rule → AS → Prop} {gt : List (Nat × AV)} {ty : TypeId} {ps : String} {af : Array Edge} {g : Option (Nat × Bool)}
theorem rV {d k0 : Nat} {t : TypeId} {c0 : Cont} (hH : σ.H d = ⟨k0, c0⟩) (h : Exec P X n ops os (mkG gt σ [] [d] (some d) (.own d (k0 + 1)) [(d, ⟨k0 + 1, .mp []⟩)] :: acc) ((σ.hup d ⟨k0 + 1, .mp []⟩).put (some d) (.own d (k0 + 1))) K) : Op1 P X n ops gt ⟨some d, .makeMap t none, ty, ps, af, g⟩ os acc σ K := by
  obtain rfl : (σ.H d).k = k0 := by rw [hH]
  refine ⟨⟨mkR σ [] [d] (some d) (.own d ((σ.H d).k + 1)) [(d, ⟨(σ.H d).k + 1, .mp []⟩)], zW rfl fun M ρ τ a w hf hR => ?_, zR _ _ _ _ _ _, h⟩⟩
  have hH' := zo hf (s := d) (by simp)
  have hN := hR.newOb d (v := .map (some w.heap.size)) (x := .map #[] 0) (ob := .mp []) rfl fun ρ' _ => ⟨rfl, #[], heap_alloc_new w _, rfl, fun i e he => by simp at he⟩
  refine ⟨.map (some w.heap.size), _, M, _, ?_, by rw [← hH']; exact hN, .own _ _ _ _ (by rw [← hH']; simp [updρ]) rfl⟩
  simp [execOp, Instr.makeMap, newObj]
  rfl
theorem qh {d : Option Nat} {t kt et : TypeId} {kd : TypeDesc} {m x : Operand} {s k k' : Nat} {L : List (Value × Value)} {key z : Value} {r : Option Value} (ht : P.underlying t = some (.map kt et)) (hk : P.underlying kt = some kd) (hkey : MapKept.IsKey kd key) (hz : ∀ w, (zeroValue et).run P w = .ok z w) (hm : ev σ m = .own s k) (hH : σ.H s = ⟨k', .mp L⟩) (hkk : k = k') (hx : ev σ x = .v key) (hr : gS kd key L = some r)
    (h : Exec P X n ops os (mkG gt σ [m, x] [s] d (.v (r.getD z)) [] :: acc) (σ.put d (.v (r.getD z))) K) : Op1 P X n ops gt ⟨d, .lookup t m x false, ty, ps, af, g⟩ os acc σ K := by
  refine ⟨⟨mkR σ [m, x] [s] d (.v (r.getD z)) [], zW rfl fun M ρ τ a w hf hR => ?_, zR _ _ _ _ _ _, h⟩⟩
  subst hkk
  have hHs := (zo hf (s := s) (by simp)).trans hH
  have h1 := hR.ev m
  rw [zP hf (by simp), hm] at h1
  have h2 := zT hR (zP hf (by simp)) hx
  obtain ⟨g', es, b1, e1, b2, b4, b5, b3⟩ := hR.map_at hHs h1
  rw [← b4] at hr
  obtain ⟨q, q1, q2⟩ := fV (i := 0) hr
  refine ⟨r.getD z, w, M, ρ, ?_, hR, .v _ _⟩
  unfold execOp
  simp only [e1, h2, Instr.lookup, Sem.run_bind, run_underlying ht, Result.andThen_ok, MapKept.run_getObj_map b2, MapKept.run_checkKey hk hkey, MapKept.run_findKey hk q1, Sem.run_pure]
  cases q with
  | none => simp only [Option.map_none] at q2; subst q2; simp [hz]
  | some p => simp only [Option.map_some] at q2; subst q2; simp
theorem rT {t kt et : TypeId} {kd : TypeDesc} {m x y : Operand} {s k k' : Nat} {L : List (Value × Value)} {key v : Value} (ht : P.underlying t = some (.map kt et)) (hk : P.underlying kt = some kd) (hkey : MapKept.IsKey kd key) (hm : ev σ m = .own s k) (hH : σ.H s = ⟨k', .mp L⟩) (hkk : k = k') (hx : ev σ x = .v key) (hy : ev σ y = .v v) (hr : gS kd key L = some none)
    (h : Exec P X n ops os (mkG gt σ [m, x, y] [s] none (.v undef) [(s, ⟨k', .mp (L ++ [(key, v)])⟩)] :: acc) (σ.hup s ⟨k', .mp (L ++ [(key, v)])⟩) K) : Op1 P X n ops gt ⟨none, .mapUpdate t m x y, ty, ps, af, g⟩ os acc σ K := by
  refine ⟨⟨mkR σ [m, x, y] [s] none (.v undef) [(s, ⟨k', .mp (L ++ [(key, v)])⟩)], qO rfl rfl fun M ρ τ a w hf hR => ?_, zR _ _ _ _ _ _, h⟩⟩
  subst hkk
  have hHs := (zo hf (s := s) (by simp)).trans hH
  have h1 := hR.ev m
  rw [zP hf (by simp), hm] at h1
  have h2 := zT hR (zP hf (by simp)) hx
  have h3 := zT hR (zP hf (by simp)) hy
  obtain ⟨g', es, b1, e1, b2, b4, b5, b3⟩ := hR.map_at hHs h1
  have hr' := hr
  rw [← b4] at hr'
  obtain ⟨q, q1, q2⟩ := fV (i := 0) hr'
  have hq : q = none := by cases q with
    | none => rfl
    | some p => cases q2
  subst hq
  have hS := hR.storeOb (o' := .mp (L ++ [(key, v)])) (x' := .map (es.push { key, val := v, born := es.size }) (es.size + 1)) hHs b1 rfl b2 b3 ⟨rfl, es.push { key, val := v, born := es.size }, by rw [(MapKept.heap_set b2).1]; simp, by rw [Array.toList_push, List.map_append, b4]; rfl, fun i e he => by
    rw [Array.getElem?_push] at he
    split at he
    · rename_i hi; injection he with he; subst he; exact hi.symm
    · exact b5 i e he⟩
  refine ⟨_, M, ρ, ?_, hS⟩
  unfold execOp
  simp only [e1, h2, h3, Instr.mapUpdate, Sem.run_bind, run_underlying ht, Result.andThen_ok, MapKept.run_getObj_map b2, MapKept.run_checkKey hk hkey, MapKept.run_findKey hk q1, MapKept.run_setObj_map _ b2]
  rfl
variable {TB : Tabs} (hTB : TabsOk P TB)
include hTB
end
end Go.Proofs.YtnafokinifbfhaaGreatDoor
namespace Go.Proofs.YtnafokinifbfhaaGreatDoor
open Go Go.RowKit
def RwA (x0 y0 x y : AV) : Prop := x = y ∨ (x = x0 ∧ y = y0)
inductive RwL (x0 y0 : AV) : List AV → List AV → Prop where
  | nil : RwL x0 y0 [] []
  | same {x : AV} {xs ys : List AV} (h : RwL x0 y0 xs ys) : RwL x0 y0 (x :: xs) (x :: ys)
  | hit {xs ys : List AV} (h : RwL x0 y0 xs ys) : RwL x0 y0 (x0 :: xs) (y0 :: ys)
def RwV (x0 y0 x y : AV) : Prop := RwA x0 y0 x y ∨ (∃ cs cs', x = .ag cs ∧ y = .ag cs' ∧ RwL x0 y0 cs cs') ∨ ∃ cs cs', x = .tu cs ∧ y = .tu cs' ∧ RwL x0 y0 cs cs'
theorem RwL.refl {x0 y0 : AV} : ∀ l, RwL x0 y0 l l
  | [] => .nil
  | _ :: l => .same (RwL.refl l)
theorem RwL.at {x0 y0 : AV} {xs ys : List AV} (h : RwL x0 y0 xs ys) : xs.length = ys.length ∧ ∀ (j : Nat) (x y : AV), xs[j]? = some x → ys[j]? = some y → RwA x0 y0 x y := by
  induction h with
  | nil => exact ⟨rfl, fun j x y h => by simp at h⟩
  | same h ih =>
    refine ⟨by simp [ih.1], fun j x y a b => ?_⟩
    cases j with
    | zero => simp at a b; subst a; subst b; exact .inl rfl
    | succ j => exact ih.2 j x y (by simpa using a) (by simpa using b)
  | hit h ih =>
    refine ⟨by simp [ih.1], fun j x y a b => ?_⟩
    cases j with
    | zero => simp at a b; subst a; subst b; exact .inr ⟨rfl, rfl⟩
    | succ j => exact ih.2 j x y (by simpa using a) (by simpa using b)
section
variable {M : Nat → Option (Array Value)} {ρ : Nat → Nat → Option Value} {x0 y0 : AV}
theorem RwA.rep (h0 : ∀ u, Rep M ρ x0 u → Rep M ρ y0 u) {x y : AV} {u : Value} (h : RwA x0 y0 x y) (hx : Rep M ρ x u) : Rep M ρ y u := by
  rcases h with rfl | ⟨rfl, rfl⟩
  · exact hx
  · exact h0 u hx
theorem RwL.rep (h0 : ∀ u, Rep M ρ x0 u → Rep M ρ y0 u) {xs ys : List AV} {us : List Value} (h : RwL x0 y0 xs ys) (hx : ∀ (j : Nat) (x : AV) (u : Value), xs[j]? = some x → us[j]? = some u → Rep M ρ x u) : ∀ (j : Nat) (y : AV) (u : Value), ys[j]? = some y → us[j]? = some u → Rep M ρ y u := fun j y u a b => by
  obtain ⟨hl, hat⟩ := h.at
  obtain ⟨x, hx'⟩ := zB (L := xs) (k := j) (by rw [hl]; exact zM a)
  exact (hat j x y hx' a).rep h0 (hx j x u hx' b)
theorem RwV.rep (h0 : ∀ u, Rep M ρ x0 u → Rep M ρ y0 u) {x y : AV} {u : Value} (h : RwV x0 y0 x y) (hx : Rep M ρ x u) : Rep M ρ y u := by
  rcases h with h | ⟨cs, cs', rfl, rfl, h⟩ | ⟨cs, cs', rfl, rfl, h⟩
  · exact h.rep h0 hx
  · obtain ⟨vs, rfl, hl, hc⟩ := hx.ag_inv
    exact .ag _ _ _ (by rw [hl, h.at.1]) (h.rep h0 hc)
  · obtain ⟨vs, rfl, hl, hc⟩ := hx.tu_inv
    exact .tu _ _ _ (by rw [hl, h.at.1]) (h.rep h0 hc)
end
/-- Some slots' values, told anew. -/
def tput : List (Nat × AV) → AS → AS
  | [], σ => σ
  | p :: l, σ => tput l (σ.put (some p.1) p.2)
def RwTs (x0 y0 : AV) : List (Nat × AV) → AS → Prop
  | [], _ => True
  | p :: l, σ => RwV x0 y0 (σ.T p.1) p.2 ∧ RwTs x0 y0 l (σ.put (some p.1) p.2)
/-- Some boxes' contents, told anew. -/
def bput : List (Nat × List AV) → AS → AS
  | [], σ => σ
  | p :: l, σ => bput l (σ.hup p.1 ⟨(σ.H p.1).k, .box p.2⟩)
def RwHs (x0 y0 : AV) : List (Nat × List AV) → AS → Prop
  | [], _ => True
  | p :: l, σ => (∃ k cs, σ.H p.1 = ⟨k, .box cs⟩ ∧ RwL x0 y0 cs p.2) ∧ RwHs x0 y0 l (σ.hup p.1 ⟨(σ.H p.1).k, .box p.2⟩)
section
variable {X : Ctx} {n : Nat} {M : Nat → Option (Array Value)} {ρ : Nat → Nat → Option Value} {σ : AS} {a : Act} {w : World} {x0 y0 : AV}
theorem Rel.rwT (h0 : ∀ u, Rep M ρ x0 u → Rep M ρ y0 u) : ∀ {l : List (Nat × AV)} {σ : AS}, Rel X n M ρ σ a w → RwTs x0 y0 l σ → Rel X n M ρ (tput l σ) a w
  | [], σ, h, _ => h
  | p :: l, σ, h, hl => Rel.rwT h0 (l := l) ⟨h.live, h.sz, fun j => by
      show Rep M ρ (bif Nat.beq j p.1 then p.2 else σ.T j) _
      by_cases he : j = p.1
      · subst he; rw [Nat.beq_refl]; exact hl.1.rep h0 (h.tm _)
      · rw [zV he]; exact h.tm j, h.box, h.buf, h.sep, h.fresh, h.glob, h.base, h.root, h.os, h.tape, h.output, h.size, h.frame, h.df, h.mp⟩ hl.2
theorem Rel.rwB (h : Rel X n M ρ σ a w) (h0 : ∀ u, Rep M ρ x0 u → Rep M ρ y0 u) {s k : Nat} {cs cs' : List AV} (hH : σ.H s = ⟨k, .box cs⟩) (hl : RwL x0 y0 cs cs') : Rel X n M ρ (σ.hup s ⟨k, .box cs'⟩) a w := by
  have hother : ∀ s', s' ≠ s → (σ.hup s ⟨k, .box cs'⟩).H s' = σ.H s' := fun s' hs => by simp [AS.hup, zV hs]
  have hsame : (σ.hup s ⟨k, .box cs'⟩).H s = ⟨k, .box cs'⟩ := by simp [AS.hup, Nat.beq_refl]
  have hblk : ∀ s', zI ρ s' ((σ.hup s ⟨k, .box cs'⟩).H s') = zI ρ s' (σ.H s') := fun s' => by
    by_cases hs : s' = s
    · subst hs; rw [hsame, hH]; simp [zI]
    · rw [hother s' hs]
  refine ⟨h.live, h.sz, h.tm, fun s' k' cs1 e => ?_, fun s' k' e' sz L he => ?_, fun s1 s2 g a1 a2 => h.sep s1 s2 g (by rw [← hblk]; exact a1) (by rw [← hblk]; exact a2), fun s' k' hk => ?_, h.glob, h.base, h.root, h.os, h.tape, h.output, h.size, h.frame, h.df, fun s' k' L1 e => ?_⟩
  · by_cases hs : s' = s
    · subst hs
      rw [hsame] at e
      injection e with e1 e2
      injection e2 with e2
      subst e1; subst e2
      obtain ⟨g, t, us, b1, b2, b3, b4, b5, b6⟩ := h.box s' k cs hH
      exact ⟨g, t, us, b1, b2, b3, b4, by rw [b5, hl.at.1], hl.rep h0 b6⟩
    · rw [hother s' hs] at e; exact h.box s' k' cs1 e
  · by_cases hs : s' = s
    · subst hs
      rw [hsame] at he
      injection he with _ he
      cases he
    · rw [hother s' hs] at he; exact h.buf s' k' e' sz L he
  · by_cases hs : s' = s
    · subst hs
      rw [hsame] at hk
      exact h.fresh s' k' (by rw [hH]; exact hk)
    · rw [hother s' hs] at hk; exact h.fresh s' k' hk
  · by_cases hs : s' = s
    · subst hs
      rw [hsame] at e
      injection e with _ e
      cases e
    · rw [hother s' hs] at e; exact h.mp s' k' L1 e
theorem Rel.rwH (h0 : ∀ u, Rep M ρ x0 u → Rep M ρ y0 u) : ∀ {l : List (Nat × List AV)} {σ : AS}, Rel X n M ρ σ a w → RwHs x0 y0 l σ → Rel X n M ρ (bput l σ) a w
  | [], σ, h, _ => h
  | p :: l, σ, h, ⟨⟨k, cs, hH, hl⟩, hr⟩ => Rel.rwH h0 (l := l) (by have := h.rwB h0 hH hl; rw [hH]; exact this) hr
end
section
variable {P : Program} {X : Ctx} {n : Nat} {σ : AS} {Q : Exit → AS → Prop} {c : Code}
/-- nil as an empty buffer at site s, in some slots and boxes. -/
theorem oB {s k : Nat} {c0 : Cont} (e sz : Nat) (ts : List (Nat × AV)) (hs : List (Nat × List AV)) (hH : σ.H s = ⟨k, c0⟩) (hT : RwTs (.v (.slice none 0 0)) (.own s (k + 1)) ts (σ.hup s ⟨k + 1, .buf e sz []⟩)) (hB : RwHs (.v (.slice none 0 0)) (.own s (k + 1)) hs (tput ts (σ.hup s ⟨k + 1, .buf e sz []⟩)))
    (h : AWp P X n c Q (bput hs (tput ts (σ.hup s ⟨k + 1, .buf e sz []⟩)))) : AWp P X n c Q σ := by
  refine ⟨fun M ρ a w hR => ?_⟩
  obtain rfl : (σ.H s).k = k := by rw [hH]
  have hA := hR.appendTo s (L := []) (w' := w) (news := []) (v' := .slice none 0 0) (cG X w e sz) (pG w 0 e sz) ⟨rfl, rfl, rfl, Nat.le_refl _, fun _ _ _ => rfl⟩ (.inl rfl) (by simp [vblk]) (by simp [vblk]) (by simp) (by simp) (by simp)
  have h0 : ∀ u, Rep M (updρ ρ s ((σ.H s).k + 1) (.slice none 0 0)) (.v (.slice none 0 0)) u → Rep M (updρ ρ s ((σ.H s).k + 1) (.slice none 0 0)) (.own s ((σ.H s).k + 1)) u := fun u hu => by
    rw [hu.v_inv]
    exact .own _ _ _ _ (by simp [updρ]) rfl
  exact h.run M _ a w (Rel.rwH h0 (Rel.rwT h0 hA hT) hB)
/-- A buffer that is no longer written, in some slots and boxes. -/
theorem bQ {s k e sz : Nat} {L : List AV} (ts : List (Nat × AV)) (hs : List (Nat × List AV)) (hH : σ.H s = ⟨k, .buf e sz L⟩) (hT : RwTs (.own s k) (.sl sz L) ts (σ.hup s ⟨k, .dead⟩)) (hB : RwHs (.own s k) (.sl sz L) hs (tput ts (σ.hup s ⟨k, .dead⟩)))
    (h : AWp P X n c Q (bput hs (tput ts (σ.hup s ⟨k, .dead⟩)))) : AWp P X n c Q σ := by
  refine ⟨fun M ρ a w hR => ?_⟩
  have hdead : Rel X n M ρ (σ.hup s ⟨k, .dead⟩) a w := hR.weak ⟨fun _ => .inl rfl, fun s' => by
    simp only [AS.hup]
    by_cases hs' : s' = s
    · subst hs'; rw [Nat.beq_refl]; exact ⟨by rw [hH]; rfl, .inr rfl⟩
    · rw [zV hs']; exact ⟨rfl, .inl rfl⟩⟩
  have hbuf := hR.buf s k e sz L hH
  have fin : ∀ M', Rel X n M' ρ (σ.hup s ⟨k, .dead⟩) a w → (∀ u, Rep M' ρ (.own s k) u → Rep M' ρ (.sl sz L) u) → c.wp P (fun e a' w' => ∃ M' ρ' σ', Rel X n M' ρ' σ' a' w' ∧ Q e σ') a w := fun M' hA h0 =>
    h.run M' ρ a w (Rel.rwH h0 (Rel.rwT h0 hA hT) hB)
  have hbuf' := hbuf
  obtain ⟨u, us, b1, b2, b3, b4, b5, b6⟩ := hbuf
  obtain ⟨b2, b2m⟩ := b2
  rcases b2.2 with ⟨rfl, hn⟩ | ⟨g, cap, cur, rfl, e2, e3, -⟩
  · refine fin M hdead fun u hu => ?_
    have hu := hu.own_inv
    rw [b1] at hu
    injection hu with hu
    rw [← hu]
    obtain rfl : L = [] := List.eq_nil_of_length_eq_zero hn
    exact .sl _ sz [] none 0 (fun _ _ => undef) (by simp) (by simp) (by simp) (by simp)
  · have hMg := b3 g rfl
    have hbs : zI ρ s (σ.H s) = some g := by rw [hH]; simp [zI, b1, vblk]
    have hA := hdead.addM (g := g) e3 hMg (b2m g rfl) (fun s' hs' => by
      simp only [AS.hup] at hs'
      by_cases he : s' = s
      · subst he; rw [Nat.beq_refl] at hs'; simp [zI] at hs'
      · rw [zV he] at hs'; exact he (hR.sep s' s g hs' hbs))
    have hmono : ∀ g' x, M g' = some x → updM M g cur g' = some x := fun g' x e => by
      unfold updM
      rw [if_neg (by rintro rfl; rw [hMg] at e; cases e)]
      exact e
    refine fin _ hA fun u hu => ?_
    have hu' := hu.own_inv
    refine own_sl hbuf' hmono (M' := updM M g cur) (ρ' := ρ) (fun v g' t fr arr h1 h2 h3 => by
      rw [b1] at h1
      injection h1 with h1
      subst h1
      injection h2 with h2
      subst h2
      rw [e3] at h3
      injection h3 with h3
      injection h3 with h3
      subst h3
      simp [updM]) (.own _ _ _ _ hu' ?_)
    cases hu with
    | own _ _ _ _ o1 o2 => exact o2
end
end Go.Proofs.YtnafokinifbfhaaGreatDoor
namespace Go.Proofs.YtnafokinifbfhaaGreatDoor
open Go Go.RowKit
def valOf : AV → Option Value
  | .v x => some x
  | .ag cs => (tC cs).map fun us => .agg ⟨us⟩
  | _ => none
theorem valOf_rep {M : Nat → Option (Array Value)} {ρ : Nat → Nat → Option Value} {x : AV} {u v : Value} (h : Rep M ρ x u) (hv : valOf x = some v) : u = v := by
  cases x with
  | v x => injection hv with hv; subst hv; exact h.v_inv
  | ag cs =>
    simp only [valOf, Option.map_eq_some_iff] at hv
    obtain ⟨us, h1, rfl⟩ := hv
    exact conc_rep h1 h
  | _ => cases hv
theorem pO {d : TypeDesc} {a b : Value} (h : Instr.sameNow d a b = some true) : b = a := by
  unfold Instr.sameNow at h
  split at h
  · split at h
    · rename_i he; subst he; injection h with h; rw [eq_of_beq h]
    · cases h
  · injection h with h; rw [(MapKept.bytes_beq _ _).1 h]
  · injection h with h; rw [eq_of_beq h]
  · cases h
/-- A key's entry, written. -/
def putM (kd : TypeDesc) (key v : Value) : List (Value × Value) → List (Value × Value)
  | [] => [(key, v)]
  | p :: l => if Instr.sameNow kd key p.1 = some true then (key, v) :: l else p :: putM kd key v l
theorem rJ {kd : TypeDesc} {key v : Value} : ∀ {es : List MapEntry} {i : Nat}, Instr.findNow kd key es i = some none → putM kd key v (es.map fun e => (e.key, e.val)) = (es.map fun e => (e.key, e.val)) ++ [(key, v)]
  | [], _, _ => rfl
  | e :: es, i, h => by
    unfold Instr.findNow at h
    cases hs : Instr.sameNow kd key e.key with
    | none => rw [hs] at h; cases h
    | some b =>
      rw [hs] at h
      cases b with
      | true => simp at h
      | false =>
        simp only [List.map_cons, putM, hs]
        rw [rJ (i := i + 1) (by simpa using h)]
        simp
theorem sL {kd : TypeDesc} {key v old : Value} : ∀ {es : List MapEntry} {i j : Nat}, Instr.findNow kd key es i = some (some (j, old)) →
    i ≤ j ∧ (∃ e, es[j - i]? = some e ∧ e.key = key) ∧ putM kd key v (es.map fun e => (e.key, e.val)) = (es.modify (j - i) fun e => { e with key := key, val := v }).map fun e => (e.key, e.val)
  | [], _, _, h => by simp [Instr.findNow] at h
  | e :: es, i, j, h => by
    unfold Instr.findNow at h
    cases hs : Instr.sameNow kd key e.key with
    | none => rw [hs] at h; cases h
    | some b =>
      rw [hs] at h
      cases b with
      | true =>
        simp at h
        obtain ⟨rfl, rfl⟩ := h
        refine ⟨Nat.le_refl _, ⟨e, by simp, pO hs⟩, ?_⟩
        simp [putM, hs]
      | false =>
        simp at h
        obtain ⟨h1, ⟨e', h2, h3⟩, h4⟩ := sL (v := v) (es := es) (i := i + 1) (j := j) h
        have hj : j - i = (j - (i + 1)) + 1 := by omega
        refine ⟨by omega, ⟨e', by rw [hj]; simpa using h2, h3⟩, ?_⟩
        rw [hj]
        simp only [List.map_cons, putM, hs, List.modify_succ_cons, h4]
        simp
section
variable {P : Program} {X : Ctx} {n : Nat} {ops : Array Oper} {os : List Oper} {acc : List Rule} {σ : AS} {K : List Rule → AS → Prop} {gt : List (Nat × AV)} {ty : TypeId} {ps : String} {af : Array Edge} {g : Option (Nat × Bool)}
theorem oP {t kt et : TypeId} {kd : TypeDesc} {m x y : Operand} {s k k' : Nat} {L : List (Value × Value)} {key v : Value} {z : AV} {r : Option Value} (ht : P.underlying t = some (.map kt et)) (hk : P.underlying kt = some kd) (hkey : MapKept.IsKey kd key) (hm : ev σ m = .own s k) (hH : σ.H s = ⟨k', .mp L⟩) (hkk : k = k') (hx : ev σ x = .v key) (hz : vf (ev σ y) = some z) (hy : valOf z = some v) (hr : gS kd key L = some r)
    (h : Exec P X n ops os (mkG gt σ [m, x, y] [s] none (.v undef) [(s, ⟨k', .mp (putM kd key v L)⟩)] :: acc) (σ.hup s ⟨k', .mp (putM kd key v L)⟩) K) : Op1 P X n ops gt ⟨none, .mapUpdate t m x y, ty, ps, af, g⟩ os acc σ K := by
  refine ⟨⟨mkR σ [m, x, y] [s] none (.v undef) [(s, ⟨k', .mp (putM kd key v L)⟩)], qO rfl rfl fun M ρ τ a w hf hR => ?_, zR _ _ _ _ _ _, h⟩⟩
  subst hkk
  have hHs := (zo hf (s := s) (by simp)).trans hH
  have h1 := hR.ev m
  rw [zP hf (by simp), hm] at h1
  have h2 := zT hR (zP hf (by simp)) hx
  have h3 := hR.ev y
  rw [zP hf (by simp), qN hz] at h3
  have h3 := valOf_rep h3 hy
  obtain ⟨g', es, b1, e1, b2, b4, b5, b3⟩ := hR.map_at hHs h1
  have hr' := hr
  rw [← b4] at hr'
  obtain ⟨q, q1, q2⟩ := fV (i := 0) hr'
  cases q with
  | none =>
    have hp := rJ (v := v) q1
    rw [b4] at hp
    have hS := hR.storeOb (o' := .mp (putM kd key v L)) (x' := .map (es.push { key, val := v, born := es.size }) (es.size + 1)) hHs b1 rfl b2 b3 ⟨rfl, es.push { key, val := v, born := es.size }, by rw [(MapKept.heap_set b2).1]; simp, by rw [hp, Array.toList_push, List.map_append, b4]; rfl, fun i e he => by
      rw [Array.getElem?_push] at he
      split at he
      · rename_i hi; injection he with he; subst he; exact hi.symm
      · exact b5 i e he⟩
    refine ⟨_, M, ρ, ?_, hS⟩
    unfold execOp
    simp only [e1, h2, h3, Instr.mapUpdate, Sem.run_bind, run_underlying ht, Result.andThen_ok, MapKept.run_getObj_map b2, MapKept.run_checkKey hk hkey, MapKept.run_findKey hk q1, MapKept.run_setObj_map _ b2]
    rfl
  | some p =>
    obtain ⟨i, old⟩ := p
    obtain ⟨-, ⟨e0, p1, p2⟩, p3⟩ := sL (v := v) q1
    rw [b4] at p3
    simp only [Nat.sub_zero] at p1 p3
    have hei : es[i]? = some e0 := by rw [← Array.getElem?_toList]; exact p1
    have hS := hR.storeOb (o' := .mp (putM kd key v L)) (x' := .map (es.modify i fun e => { e with key := key, val := v }) es.size) hHs b1 rfl b2 b3 ⟨rfl, es.modify i fun e => { e with key := key, val := v }, by rw [(MapKept.heap_set b2).1]; simp, by rw [p3, Array.toList_modify], fun j e he => by
      rw [Array.getElem?_modify] at he
      split at he
      · cases hj : es[j]? with
        | none => rw [hj] at he; simp at he
        | some e1 => rw [hj] at he; simp at he; subst he; exact b5 j e1 hj
      · exact b5 j e he⟩
    refine ⟨_, M, ρ, ?_, hS⟩
    unfold execOp
    simp only [e1, h2, h3, Instr.mapUpdate, Sem.run_bind, run_underlying ht, Result.andThen_ok, MapKept.run_getObj_map b2, MapKept.run_checkKey hk hkey, MapKept.run_findKey hk q1, hei, Option.map_some, Option.getD_some, p2, MapKept.run_keyThatStays hkey, MapKept.run_setObj_map _ b2]
    rfl
end
section
variable {P : Program} {X : Ctx} {n : Nat} {σ : AS} {Q : Exit → AS → Prop}
end
end Go.Proofs.YtnafokinifbfhaaGreatDoor
