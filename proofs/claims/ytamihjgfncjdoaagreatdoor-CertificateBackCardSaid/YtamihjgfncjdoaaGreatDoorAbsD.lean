/- Maps of the frame's own whose values are pointers into its boxes: made, given new entries, walked through; conditions: none. -/
import Derived.Test.YtamihjgfncjdoaaGreatDoorAbsU
set_option linter.unusedVariables false
set_option linter.unusedSimpArgs false
namespace Go.Proofs.YtamihjgfncjdoaaGreatDoor
open Go Go.RowKit
theorem findNow_none {d : TypeDesc} {k : Value} : ∀ {es : List MapEntry} {i : Nat}, (∀ e ∈ es, Instr.sameNow d k e.key = some false) → Instr.findNow d k es i = some none
  | [], i, _ => rfl
  | e :: es, i, h => by
    unfold Instr.findNow
    rw [h e (by simp)]
    exact findNow_none fun x hx => h x (by simp [hx])
section
variable {X : Ctx} {n : Nat} {M : Nat → Option (Array Value)} {ρ : Nat → Nat → Option Value} {σ : AS} {a : Act} {w : World}
/-- What the handle of a map of pointers means. -/
theorem Rel.mapq_at (h : Rel X n M ρ σ a w) {s k : Nat} {L : List (Value × Nat × Nat × Nat)} (hH : σ.H s = ⟨k, .ob (.mq L)⟩) {u : Value} (hu : Rep M ρ (.own s k) u) : ∃ (g : Nat) (es : Array MapEntry), ρ s k = some (.map (some g)) ∧ u = .map (some g) ∧ w.heap[g]? = some (.map es es.size) ∧ es.size = L.length ∧ (∀ (i : Nat) (e : MapEntry), es[i]? = some e → e.born = i) ∧ X.w0.heap.size ≤ g ∧
      ∀ (i : Nat) (e : MapEntry) (p : Value × Nat × Nat × Nat), es[i]? = some e → L[i]? = some p → e.key = p.1 ∧ ∃ gp, ρ p.2.1 p.2.2.1 = some (.pointer (some ⟨gp, 0, none⟩)) ∧ e.val = .pointer (some ⟨gp, p.2.2.2, none⟩) := by
  obtain ⟨v, g, -, h1, h2, h3, rfl, es, h4, h5, h6, h7⟩ := h.mp s k (.mq L) hH
  have e1 := hu.own_inv
  rw [h1] at e1
  injection e1 with e1
  exact ⟨g, es, h1, e1.symm, h4, h5, h6, h3, h7⟩
end
section
variable {P : Program} {X : Ctx} {n : Nat} {ops : Array Oper} {os : List Oper} {acc : List Rule} {σ : AS} {K : List Rule → AS → Prop} {gt : List (Nat × AV)} {ty : TypeId} {ps : String} {af : Array Edge} {g : Option (Nat × Bool)}
theorem x_makeMapQ {d k0 : Nat} {t : TypeId} {c0 : Cont} (hH : σ.H d = ⟨k0, c0⟩) (h : Exec P X n ops os (mkG gt σ [] [d] (some d) (.own d (k0 + 1)) [(d, ⟨k0 + 1, .ob (.mq [])⟩)] :: acc) ((σ.hup d ⟨k0 + 1, .ob (.mq [])⟩).put (some d) (.own d (k0 + 1))) K) : Op1 P X n ops gt ⟨some d, .makeMap t none, ty, ps, af, g⟩ os acc σ K := by
  obtain rfl : (σ.H d).k = k0 := by rw [hH]
  refine ⟨⟨mkR σ [] [d] (some d) (.own d ((σ.H d).k + 1)) [(d, ⟨(σ.H d).k + 1, .ob (.mq [])⟩)], rule_val rfl fun M ρ τ a w hf hR => ?_, mkR_fires _ _ _ _ _ _, h⟩⟩
  have hH' := mkR_H hf (s := d) (by simp)
  have hN := hR.newOb d (v := .map (some w.heap.size)) (x := .map #[] 0) (ob := .mq []) rfl fun ρ' _ => ⟨rfl, #[], heap_alloc_new w _, rfl, fun i e he => by simp at he, fun i e p he => by simp at he⟩
  refine ⟨.map (some w.heap.size), _, M, _, ?_, by rw [← hH']; exact hN, .own _ _ _ _ (by rw [← hH']; simp [updρ]) rfl⟩
  simp [execOp, Instr.makeMap, newObj]
  rfl
theorem x_mapPushQ {t kt et : TypeId} {kd : TypeDesc} {m x y : Operand} {s k k' s1 k1 off : Nat} {L : List (Value × Nat × Nat × Nat)} {key : Value} (ht : P.underlying t = some (.map kt et)) (hk : P.underlying kt = some kd) (hkey : MapKept.IsKey kd key) (hm : ev σ m = .own s k) (hH : σ.H s = ⟨k', .ob (.mq L)⟩) (hkk : k = k') (hx : ev σ x = .v key) (hy : ev σ y = .ptr s1 k1 off) (hr : ∀ p ∈ L, Instr.sameNow kd key p.1 = some false)
    (h : Exec P X n ops os (mkG gt σ [m, x, y] [s] none (.v undef) [(s, ⟨k', .ob (.mq (L ++ [(key, s1, k1, off)]))⟩)] :: acc) (σ.hup s ⟨k', .ob (.mq (L ++ [(key, s1, k1, off)]))⟩) K) : Op1 P X n ops gt ⟨none, .insert t m x y, ty, ps, af, g⟩ os acc σ K := by
  refine ⟨⟨mkR σ [m, x, y] [s] none (.v undef) [(s, ⟨k', .ob (.mq (L ++ [(key, s1, k1, off)]))⟩)], rule_unit rfl rfl fun M ρ τ a w hf hR => ?_, mkR_fires _ _ _ _ _ _, h⟩⟩
  subst hkk
  have hHs := (mkR_H hf (s := s) (by simp)).trans hH
  have h1 := hR.ev m
  rw [mkR_ev hf (by simp), hm] at h1
  have h2 := eval_v hR (mkR_ev hf (by simp)) hx
  have h3 := hR.ev y
  rw [mkR_ev hf (by simp), hy] at h3
  obtain ⟨gp, c1, c2⟩ := h3.ptr_inv
  obtain ⟨g', es, b1, e1, b2, b4, b5, b3, b6⟩ := hR.mapq_at hHs h1
  have q1 : Instr.findNow kd key es.toList 0 = some none := findNow_none fun e he => by
    obtain ⟨i, hi⟩ := List.getElem?_of_mem he
    rw [Array.getElem?_toList] at hi
    obtain ⟨p, hp⟩ := some_at (L := L) (k := i) (by rw [← b4]; exact (Array.getElem?_eq_some_iff.1 hi).1)
    rw [(b6 i e p hi hp).1]
    exact hr p (List.mem_of_getElem? hp)
  have hS := hR.storeOb (o' := .mq (L ++ [(key, s1, k1, off)])) (x' := .map (es.push { key, val := a.eval y, born := es.size }) (es.size + 1)) hHs b1 rfl b2 b3 ⟨rfl, es.push { key, val := a.eval y, born := es.size }, by rw [(MapKept.heap_set b2).1]; simp, by simp [b4], fun i e he => by
    rw [Array.getElem?_push] at he
    split at he
    · rename_i hi; injection he with he; subst he; exact hi.symm
    · exact b5 i e he, fun i e p he hp => by
    rw [Array.getElem?_push] at he
    split at he
    · rename_i hi
      injection he with he
      subst he
      rw [List.getElem?_append_right (by omega)] at hp
      rw [show i - L.length = 0 by omega] at hp
      simp at hp
      subst hp
      exact ⟨rfl, gp, c1, c2⟩
    · have hlt := (Array.getElem?_eq_some_iff.1 he).1
      rw [List.getElem?_append_left (by omega)] at hp
      exact b6 i e p he hp⟩
  refine ⟨_, M, ρ, ?_, hS⟩
  unfold execOp
  simp only [e1, h2, Instr.mapUpdate, Sem.run_bind, run_underlying ht, Result.andThen_ok, MapKept.run_getObj_map b2, MapKept.run_checkKey hk hkey, MapKept.run_findKey hk q1, MapKept.run_setObj_map _ b2]
  rfl
/-- The start of a walk through a map of pointers. -/
theorem x_rangeQ {d k0 : Nat} {t kt et : TypeId} {x : Operand} {s k k' : Nat} {c0 : Cont} {L : List (Value × Nat × Nat × Nat)} (ht : P.underlying t = some (.map kt et)) (hx : ev σ x = .own s k) (hH : σ.H s = ⟨k', .ob (.mq L)⟩) (hk : k = k') (hd : σ.H d = ⟨k0, c0⟩)
    (h : Exec P X n ops os (mkG gt σ [x] [s, d] (some d) (.own d (k0 + 1)) [(d, ⟨k0 + 1, .ob (.it s k' L.length [] L.length)⟩)] :: acc) ((σ.hup d ⟨k0 + 1, .ob (.it s k' L.length [] L.length)⟩).put (some d) (.own d (k0 + 1))) K) : Op1 P X n ops gt ⟨some d, .range t x, ty, ps, af, g⟩ os acc σ K := by
  obtain rfl : (σ.H d).k = k0 := by rw [hd]
  refine ⟨⟨mkR σ [x] [s, d] (some d) (.own d ((σ.H d).k + 1)) [(d, ⟨(σ.H d).k + 1, .ob (.it s k' L.length [] L.length)⟩)], rule_val rfl fun M ρ τ a w hf hR => ?_, mkR_fires _ _ _ _ _ _, h⟩⟩
  subst hk
  have hHs := (mkR_H hf (s := s) (by simp)).trans hH
  have hHd := mkR_H hf (s := d) (by simp)
  have h1 := hR.ev x
  rw [mkR_ev hf (by simp), hx] at h1
  obtain ⟨g', es, b1, e1, b2, b4, b5, b3, b6⟩ := hR.mapq_at hHs h1
  have hN := hR.newOb d (v := .pointer (some ⟨w.heap.size, 0, none⟩)) (x := .mapIter (some g') es.size #[] es.size) (ob := .it s k L.length [] L.length) rfl fun ρ' hρ => ⟨rfl, g', hρ _ _ _ b1, by rw [heap_alloc_new w _, b4]⟩
  refine ⟨.pointer (some ⟨w.heap.size, 0, none⟩), _, M, _, ?_, by rw [← hHd]; exact hN, .own _ _ _ _ (by rw [← hHd]; simp [updρ]) rfl⟩
  unfold execOp
  simp only [e1, Instr.range, Sem.run_bind, run_underlying ht, Result.andThen_ok, MapKept.run_getObj_map b2, Sem.run_pure]
  simp [newObj]
  rfl
theorem itq_at {M : Nat → Option (Array Value)} {ρ : Nat → Nat → Option Value} {a : Act} {w : World} (hR : Rel X n M ρ σ a w) {s k s' k' since last : Nat} {seen : List Nat} {L : List (Value × Nat × Nat × Nat)} (hH : σ.H s = ⟨k, .ob (.it s' k' since seen last)⟩) (hM : σ.H s' = ⟨k', .ob (.mq L)⟩) {u : Value} (hu : Rep M ρ (.own s k) u) :
    ∃ (r gm : Nat) (es : Array MapEntry), u = .pointer (some ⟨r, 0, none⟩) ∧ ρ s k = some (.pointer (some ⟨r, 0, none⟩)) ∧ ρ s' k' = some (.map (some gm)) ∧ w.heap[r]? = some (.mapIter (some gm) since ⟨seen⟩ last) ∧ w.heap[gm]? = some (.map es es.size) ∧ es.size = L.length ∧ (∀ (i : Nat) (e : MapEntry), es[i]? = some e → e.born = i) ∧ X.w0.heap.size ≤ r ∧
      ∀ (i : Nat) (e : MapEntry) (p : Value × Nat × Nat × Nat), es[i]? = some e → L[i]? = some p → e.key = p.1 ∧ ∃ gp, ρ p.2.1 p.2.2.1 = some (.pointer (some ⟨gp, 0, none⟩)) ∧ e.val = .pointer (some ⟨gp, p.2.2.2, none⟩) := by
  obtain ⟨v, r, -, h1, h2, h3, rfl, gm, h4, h5⟩ := hR.mp s k _ hH
  obtain ⟨v', g', -, f1, f2, f3, rfl, es, f4, f5, f6, f7⟩ := hR.mp s' k' (.mq L) hM
  rw [f1] at h4
  injection h4 with h4
  injection h4 with h4
  injection h4 with h4
  subst h4
  have e1 := hu.own_inv
  rw [h1] at e1
  injection e1 with e1
  exact ⟨r, g', es, e1.symm, h1, f1, h5, f4, f5, f6, h3, f7⟩
/-- What the step has handed out. -/
theorem x_entryQ {d : Option Nat} {x : Operand} {s k s' k' since last i : Nat} {seen : List Nat} {L : List (Value × Nat × Nat × Nat)} {p : Value × Nat × Nat × Nat} (hx : ev σ x = .own s k) (hH : σ.H s = ⟨k, .ob (.it s' k' since (seen ++ [i]) last)⟩) (hM : σ.H s' = ⟨k', .ob (.mq L)⟩) (hlast : last = L.length) (hp : L[i]? = some p) (y : AV) (hy : y = avOf p.1)
    (h : Exec P X n ops os (mkG gt σ [x] [s, s'] d (.tu [y, .ptr p.2.1 p.2.2.1 p.2.2.2]) [] :: acc) (σ.put d (.tu [y, .ptr p.2.1 p.2.2.1 p.2.2.2])) K) : Op1 P X n ops gt ⟨d, .entry x, ty, ps, af, g⟩ os acc σ K := by
  subst hy
  refine ⟨⟨mkR σ [x] [s, s'] d (.tu [avOf p.1, .ptr p.2.1 p.2.2.1 p.2.2.2]) [], rule_val rfl fun M ρ τ a w hf hR => ?_, mkR_fires _ _ _ _ _ _, h⟩⟩
  have hHs := (mkR_H hf (s := s) (by simp)).trans hH
  have hHm := (mkR_H hf (s := s') (by simp)).trans hM
  have h1 := hR.ev x
  rw [mkR_ev hf (by simp), hx] at h1
  obtain ⟨r, gm, es, e1, e2, e3, e4, e5, e6, e7, e8, e9⟩ := itq_at hR hHs hHm h1
  have hi : i < es.size := by rw [e6]; exact lt_at hp
  obtain ⟨e, he⟩ : ∃ e, es[i]? = some e := ⟨es[i], Array.getElem?_eq_getElem hi⟩
  have hb := e7 i e he
  obtain ⟨f1, gp, f2, f3⟩ := e9 i e p he hp
  have hsz : last = es.size := by rw [hlast, e6]
  have hrun := run_entry_at (P := P) w r gm since ⟨seen⟩ es es.size e (by rw [e4, hsz, hb]; simp) e5 (by rw [← Array.getElem?_toList] at he; exact List.mem_of_getElem? he) (born_nodup e7)
  refine ⟨.tuple #[e.key, e.val], w, M, ρ, ?_, hR, .tu _ _ [e.key, e.val] rfl fun j x u a b => ?_⟩
  · unfold execOp
    simp only [e1, Sem.run_bind, hrun, Result.andThen_ok]
    rfl
  · rcases j with _ | _ | j
    · simp at a b; subst a; subst b; rw [f1]; exact avOf_rep _
    · simp at a b; subst a; subst b; rw [f3]; exact .ptr _ _ _ _ _ f2
    · simp at a
end
section
variable {P : Program} {X : Ctx} {n : Nat} {σ : AS} {Q : Exit → AS → Prop}
/-- The step of a walk through a map, with what stands behind it in its region. -/
theorem awp_nextQ {id d t s k s' k' since last : Nat} {ops : Array Oper} {os : List Oper} {ty : TypeId} {ps : String} {af : Array Edge} {seen : List Nat} {L : List (Value × Nat × Nat × Nat)} (hops : ops.toList = ⟨some d, .next (.tmp t) false, ty, ps, af, none⟩ :: os) (hd : dstsB n ops.toList = true)
    (hT : σ.T t = .own s k) (hH : σ.H s = ⟨k, .ob (.it s' k' since seen last)⟩) (hM : σ.H s' = ⟨k', .ob (.mq L)⟩) (hsince : since = L.length) (hlast : last = L.length)
    (h0 : (∀ i, i < L.length → i ∈ seen) → Exec P X n ops os [] (σ.put (some d) (.tu [.v (.bool false)])) (nrm Q))
    (h1 : ∀ i p, L[i]? = some p → i ∉ seen → Exec P X n ops os [] ((σ.hup s ⟨k, .ob (.it s' k' since (seen ++ [i]) last)⟩).put (some d) (.tu [.v (.bool true), avOf p.1, .ptr p.2.1 p.2.2.1 p.2.2.2])) (nrm Q)) : AWp P X n (.region id ops false) Q σ := by
  refine ⟨fun M ρ a w hR => ?_⟩
  refine wp_region ?_
  have hsize : ops.size = os.length + 1 := by rw [← Array.length_toList, hops]; simp
  have hat : ∀ i o, os[i]? = some o → ops[i + 1]? = some o := fun i o ho => by rw [← Array.getElem?_toList, hops]; simpa using ho
  have ho0 : ops[0]? = some ⟨some d, .next (.tmp t) false, ty, ps, af, none⟩ := by rw [← Array.getElem?_toList, hops]; rfl
  have hdn : d < n := dstsB_at hd ho0 d rfl
  rw [List.range_eq_range', hsize, List.range'_succ]
  unfold wpOps
  rw [ho0]
  simp only
  refine .inl ?_
  have htm := hR.tm t
  rw [hT] at htm
  obtain ⟨r, gm, es, e1, e2, e3, e4, e5, e6, e7, e8, e9⟩ := itq_at hR hH hM htm
  have hsz : L.length = es.size := e6.symm
  have hev : a.eval (.tmp t) = .pointer (some ⟨r, 0, none⟩) := e1
  have tail : ∀ (σ1 : AS), Exec P X n ops os [] σ1 (nrm Q) → ∀ M ρ a w, Rel X n M ρ σ1 a w → wpOps P ops (fun e a' w' => ∃ M' ρ' σ', Rel X n M' ρ' σ' a' w' ∧ Q e σ') (List.range' 1 os.length) a w := fun σ1 hE M ρ a w hR1 => by
    obtain ⟨rs, hl, _, hr, hK⟩ := Exec0.rules os [] σ1 hE.run
    simp at hl hr
    have go : ∀ (m i : Nat), i + m = os.length → ∀ M ρ a w, Rel X n M ρ (runR (rs.take i) σ1) a w → wpOps P ops (fun e a' w' => ∃ M' ρ' σ', Rel X n M' ρ' σ' a' w' ∧ Q e σ') (List.range' (i + 1) m) a w := by
      intro m
      induction m with
      | zero =>
        intro i hi M ρ a w h
        rw [List.take_of_length_le (by omega)] at h
        exact ⟨M, ρ, _, h, hK⟩
      | succ m ih =>
        intro i hi M ρ a w h
        have hlt : i < os.length := by omega
        obtain ⟨r, q1, q2, q3⟩ := hr i os[i] (List.getElem?_eq_getElem hlt)
        have hoi := hat i _ (List.getElem?_eq_getElem hlt)
        rw [List.range'_succ]
        unfold wpOps
        rw [hoi]
        simp only
        have e : runR (rs.take (i + 1)) σ1 = r.apply (runR (rs.take i) σ1) := by rw [take_at q1, runR_snoc]
        have := q2 (dstsB_at hd hoi) M ρ _ a w q3 h (wpOps P ops _ (List.range' (i + 1 + 1) m)) (fun e a' w' => ∃ M' ρ' σ', Rel X n M' ρ' σ' a' w' ∧ Q e σ') (fun M' ρ' a' w' hh => ih (i + 1) (by omega) M' ρ' a' w' (by rw [e]; exact hh))
        split
        · rename_i hw; rw [if_pos hw] at this; exact .inl this
        · rename_i hw; rw [if_neg hw] at this; exact this
    exact go os.length 0 (by omega) M ρ a w (by simpa [runR] using hR1)
  show Oper.wp _ _ _ _ _ _
  unfold Oper.wp
  rcases run_next_at (P := P) w ty r gm since last ⟨seen⟩ es es.size e4 e5 (fun x hx => by
    obtain ⟨i, hi⟩ := List.getElem?_of_mem hx
    rw [Array.getElem?_toList] at hi
    rw [e7 i x hi, hsince, hsz]
    exact (Array.getElem?_eq_some_iff.1 hi).1) (by omega) with ⟨h2, h3⟩ | ⟨e, h2, w1, h3, h4⟩
  · simp only [execOp, hev, Sem.run_bind, h3, Result.andThen_ok, Sem.run_pure]
    refine tail _ (h0 fun i hi => ?_) M ρ _ w (hR.put (.tu _ _ [.bool false] rfl fun j x u a b => by
      rcases j with _ | j
      · simp at a b; subst a; subst b; exact .v _ _
      · simp at a) (fun i e => by injection e with e; omega))
    rw [hsz] at hi
    have hmem : es[i] ∉ leftOf es ⟨seen⟩ := by
      rw [Array.eq_empty_of_size_eq_zero h2]; simp
    have hb := e7 i es[i] (Array.getElem?_eq_getElem hi)
    refine Classical.byContradiction fun hc => hmem ?_
    unfold leftOf
    rw [Array.mem_filter]
    refine ⟨Array.getElem_mem hi, ?_⟩
    rw [hb]
    simp [hc]
  · simp only [execOp, hev, Sem.run_bind, h4, Result.andThen_ok, Sem.run_pure]
    unfold leftOf at h2
    rw [Array.mem_toList_iff, Array.mem_filter] at h2
    obtain ⟨i, hi⟩ := List.getElem?_of_mem (Array.mem_toList_iff.2 h2.1)
    rw [Array.getElem?_toList] at hi
    have hb := e7 i e hi
    have hR1 : Rel X n M ρ σ a w1 := by
      rcases h3 with rfl | rfl
      · exact hR
      · exact hR.drawn _
    have hh : w1.heap = w.heap := by rcases h3 with rfl | rfl <;> rfl
    have hS := hR1.storeOb (o' := .it s' k' since (seen ++ [i]) last) (x' := .mapIter (some gm) since ⟨seen ++ [i]⟩ last) hH e2 rfl (by rw [hh]; exact e4) e8 ⟨rfl, gm, e3, by rw [(MapKept.heap_set (by rw [hh]; exact e4)).1]⟩
    have hw : ChangeMaps.setBlock w1 r (.mapIter (some gm) since ((⟨seen⟩ : Array Nat).push e.born) es.size) = { w1 with heap := w1.heap.setIfInBounds r (.mapIter (some gm) since ⟨seen ++ [i]⟩ last) } := by
      rw [hb, hlast, hsz]
      simp [ChangeMaps.setBlock]
    rw [hw]
    obtain ⟨p, hp⟩ := some_at (L := L) (k := i) (by rw [hsz]; exact (Array.getElem?_eq_some_iff.1 hi).1)
    obtain ⟨f1, gp, f2, f3⟩ := e9 i e p hi hp
    refine tail _ (h1 i p hp (fun hc => ?_)) M ρ _ _ (hS.put (.tu _ _ [.bool true, e.key, e.val] rfl fun j x u a b => by
      rcases j with _ | _ | _ | j
      · simp at a b; subst a; subst b; exact .v _ _
      · simp at a b; subst a; subst b; rw [f1]; exact avOf_rep _
      · simp at a b; subst a; subst b; rw [f3]; exact .ptr _ _ _ _ _ f2
      · simp at a) (fun i e => by injection e with e; omega))
    have h6 := h2.2
    rw [hb] at h6
    simp [hc] at h6
end
end Go.Proofs.YtamihjgfncjdoaaGreatDoor
