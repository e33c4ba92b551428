/- The executor's laws for maps and channels; nothing of the program stands here; conditions: tables of types that agree with the program's. -/
import Derived.Test.YtnafokinifbfhaaGreatDoorCxJ
set_option linter.unusedVariables false
set_option linter.unusedSimpArgs false
namespace Go.Proofs.YtnafokinifbfhaaGreatDoor.Cx
open Go Go.RowKit
theorem strE_beq (a b : ByteArray) : strE a b = (a == b) := by
  rw [pN]
  cases h : (a == b) with
  | true => exact qR.2 ((MapKept.bytes_beq _ _).1 h)
  | false =>
    cases h2 : jQ a b with
    | false => rfl
    | true => rw [qR.1 h2, (MapKept.bytes_beq b b).2 rfl] at h; cases h
theorem wO {kd : TypeDesc} {k u : Value} {y : CV} {b : Bool} {ρ : Rho} (hk : MapKept.IsKey kd k) (h : vH k y = some b) (hr : Rep ρ y u) : Instr.sameNow kd k u = some b := by
  unfold vH at h
  split at h
  · rename_i k1 a k2 c
    obtain rfl := hr.v_inv
    split at h
    · rename_i he
      subst he
      injection h with h
      cases kd <;> simp [MapKept.IsKey] at hk
      unfold Instr.sameNow
      simp only [if_true]
      rw [← h]
      congr 1
    · cases h
  · rename_i a c
    obtain rfl := hr.v_inv
    injection h with h
    cases kd <;> simp [MapKept.IsKey] at hk
    unfold Instr.sameNow
    rw [← h, strE_beq]
  · cases h
theorem iC {kd : TypeDesc} {k : Value} {ρ : Rho} (hk : MapKept.IsKey kd k) : ∀ (es : List (CV × CV)) (en : List MapEntry) (i : Nat) (r : Option (Nat × CV)), en.length = es.length → (∀ (j : Nat) (e : MapEntry) (p : CV × CV), en[j]? = some e → es[j]? = some p → Rep ρ p.1 e.key ∧ Rep ρ p.2 e.val) → fM k es i = some r →
    ∃ a, Instr.findNow kd k en i = some a ∧ ((r = none ∧ a = none) ∨ ∃ (j : Nat) (y : CV) (v : Value), r = some (i + j, y) ∧ a = some (i + j, v) ∧ Rep ρ y v ∧ ∃ e, en[j]? = some e ∧ e.key = k)
  | [], [], i, r, hl, hr, h => by
    injection h with h
    exact ⟨none, rfl, .inl ⟨h.symm, rfl⟩⟩
  | [], e :: en, i, r, hl, hr, h => by simp at hl
  | p :: es, [], i, r, hl, hr, h => by simp at hl
  | p :: es, e :: en, i, r, hl, hr, h => by
    obtain ⟨h1, h2⟩ := hr 0 e p rfl rfl
    unfold fM at h
    unfold Instr.findNow
    cases hq : vH k p.1 with
    | none => rw [hq] at h; cases h
    | some b =>
      rw [hq] at h
      have hs := wO hk hq h1
      rw [hs]
      cases b with
      | true =>
        simp only at h ⊢
        injection h with h
        exact ⟨_, rfl, .inr ⟨0, p.2, e.val, by rw [← h]; rfl, rfl, h2, e, rfl, sZ hs⟩⟩
      | false =>
        simp only at h ⊢
        obtain ⟨a, a1, a2⟩ := iC hk es en (i + 1) r (by simpa using hl) (fun j e p h1 h2 => hr (j + 1) e p (by simpa using h1) (by simpa using h2)) h
        refine ⟨a, a1, a2.imp id ?_⟩
        rintro ⟨j, y, v, e1, e2, e3, e', e4, e5⟩
        exact ⟨j + 1, y, v, by rw [e1]; congr 2; omega, by rw [e2]; congr 2; omega, e3, e', by simpa using e4, e5⟩
theorem cH {k v : CV} : ∀ (es : List (CV × CV)) (i j : Nat), (setE k v es i).length = es.length ∧ (i < es.length → (setE k v es i)[j]? = if j = i then some (k, v) else es[j]?)
  | [], i, j => ⟨rfl, fun h => by simp at h⟩
  | p :: es, 0, j => ⟨rfl, fun _ => by cases j <;> rfl⟩
  | p :: es, i + 1, 0 => ⟨by simp [setE, (cH es i 0).1], fun _ => rfl⟩
  | p :: es, i + 1, j + 1 => ⟨by simp [setE, (cH es i j).1], fun h => by
    have := (cH (k := k) (v := v) es i j).2 (by simpa using h)
    simp only [setE, List.getElem?_cons_succ, this, Nat.add_right_cancel_iff]⟩
section
variable {P : Program} {X : Ctx} {n : Nat} {σ : AS} {d : Option Nat} {ty : TypeId} {ps : String} {af : Array Edge} {g : Option (Nat × Bool)}
theorem xU {t : TypeId} {s : Nat} (hH : σ.H s = .none) : yI P X n ⟨d, .makeMap t none, ty, ps, af, g⟩ (mkR σ [] [s] d (.mp s) [(s, .map [])]) := by
  refine yB rfl fun M ρ τ a w hf hR => ?_
  have hH := (ya hf (s := s) (by simp)).trans hH
  have hN := hR.newOb hH (.map #[] 0) (.map []) 0 (by simp) ⟨w.heap.size, #[], yd _ _ _, cA _ _, hR.size, rfl, fun i e he => by simp at he, fun i e p he => by simp at he⟩
  refine ⟨.map (some w.heap.size), _, M, _, ?_, hN, .mp s _ (yd _ _ _)⟩
  simp [execOp, Instr.makeMap, newObj]
  rfl
theorem map_at {M : Unit} {ρ : Rho} {τ : AS} {a : Act} {w : World} {s : Nat} {es : List (CV × CV)} {u : Value} (hR : Rel X n M ρ τ a w) (hH : τ.H s = .map es) (h : Rep ρ (.mp s) u) : ∃ g', ∃ en : Array MapEntry, u = .map (some g') ∧ ρ s = some (g', 0, 0) ∧ w.heap[g']? = some (.map en en.size) ∧ X.w0.heap.size ≤ g' ∧ en.size = es.length ∧
      (∀ (i : Nat) (e : MapEntry), en[i]? = some e → e.born = i) ∧ ∀ (i : Nat) (e : MapEntry) (p : CV × CV), en[i]? = some e → es[i]? = some p → Rep ρ p.1 e.key ∧ Rep ρ p.2 e.val := by
  have h0 := hR.ob s
  rw [hH] at h0
  obtain ⟨g', en, h1, h2, h3, h4, h5, h6⟩ := h0
  cases h with
  | mp _ g1 hr =>
    rw [h1] at hr
    injection hr with hr; injection hr with hr _
    subst hr
    exact ⟨_, en, rfl, h1, h2, h3, h4, h5, h6⟩
theorem s_lookup {t kt et : TypeId} {kd : TypeDesc} {m x : Operand} {s : Nat} {es : List (CV × CV)} {key z : Value} {r : Option (Nat × CV)} (ht : P.underlying t = some (.map kt et)) (hk : P.underlying kt = some kd) (hkey : MapKept.IsKey kd key) (hz : ∀ w, (zeroValue et).run P w = .ok z w) (hm : ev σ m = .mp s) (hH : σ.H s = .map es) (hx : ev σ x = .v key) (hr : fM key es 0 = some r) :
    yI P X n ⟨d, .lookup t m x false, ty, ps, af, g⟩ (mkR σ [m, x] [s] d (match r with | some (_, y) => y | none => .v z) []) := by
  refine yB rfl fun M ρ τ a w hf hR => ?_
  have hHs := (ya hf (s := s) (by simp)).trans hH
  have h1 := hR.ev m
  rw [zw hf (by simp), hm] at h1
  have h2 := yA hR (zw hf (by simp)) hx
  obtain ⟨g', en, e1, e2, e3, e4, e5, e6, e7⟩ := map_at hR hHs h1
  obtain ⟨q, q1, q2⟩ := iC hkey es en.toList 0 r (by simpa using e5) (fun j e p h1 h2 => e7 j e p (by simpa using h1) h2) hr
  have hrun : ∀ v, ((q = none ∧ v = z) ∨ ∃ j, q = some (j, v)) → (execOp a.eval ⟨d, .lookup t m x false, ty, ps, af, g⟩).run P w = .ok (.value v) w := fun v hv => by
    unfold execOp
    simp only [e1, h2, Instr.lookup, Sem.run_bind, run_underlying ht, Result.andThen_ok, MapKept.run_getObj_map e3, MapKept.run_checkKey hk hkey, MapKept.run_findKey hk q1, Sem.run_pure]
    rcases hv with ⟨rfl, rfl⟩ | ⟨j, rfl⟩
    · simp [hz]
    · simp
  rcases q2 with ⟨rfl, rfl⟩ | ⟨j, y, v, rfl, rfl, q3, -⟩
  · exact ⟨z, w, M, ρ, hrun z (.inl ⟨rfl, rfl⟩), hR, .v _⟩
  · exact ⟨v, w, M, ρ, hrun v (.inr ⟨_, rfl⟩), hR, q3⟩
/-- A map's entries after one was written. -/
def putE (k : Value) (v : CV) (es : List (CV × CV)) : Option (Nat × CV) → List (CV × CV)
  | some (i, _) => setE (.v k) v es i
  | none => es ++ [(.v k, v)]
theorem rN {t kt et : TypeId} {kd : TypeDesc} {m x y : Operand} {s : Nat} {es : List (CV × CV)} {key : Value} {r : Option (Nat × CV)} (ht : P.underlying t = some (.map kt et)) (hk : P.underlying kt = some kd) (hkey : MapKept.IsKey kd key) (hm : ev σ m = .mp s) (hH : σ.H s = .map es) (hx : ev σ x = .v key) (hr : fM key es 0 = some r) :
    yI P X n ⟨d, .mapUpdate t m x y, ty, ps, af, g⟩ (mkR σ [m, x, y] [s] d (.v undef) [(s, .map (putE key (ev σ y) es r))]) := by
  refine ql rfl rfl fun M ρ τ a w hf hR => ?_
  have hHs := (ya hf (s := s) (by simp)).trans hH
  have h1 := hR.ev m
  rw [zw hf (by simp), hm] at h1
  have h2 := yA hR (zw hf (by simp)) hx
  have h3 := hR.ev y
  rw [zw hf (by simp)] at h3
  obtain ⟨g', en, e1, e2, e3, e4, e5, e6, e7⟩ := map_at hR hHs h1
  obtain ⟨q, q1, q2⟩ := iC hkey es en.toList 0 r (by simpa using e5) (fun j e p h1 h2 => e7 j e p (by simpa using h1) h2) hr
  have hset : ∀ o, (∀ g1, g1 ≠ g' → ({ w with heap := w.heap.setIfInBounds g' o } : World).heap[g1]? = w.heap[g1]?) ∧ ({ w with heap := w.heap.setIfInBounds g' o } : World).heap[g']? = some o := fun o => ⟨fun g1 hg => (MapKept.heap_set (o' := o) e3).2 g1 hg, (MapKept.heap_set e3).1⟩
  rcases q2 with ⟨rfl, rfl⟩ | ⟨j, y0, v, rfl, rfl, q3, e0, q4, q5⟩
  · have hS := hR.chg (s := s) (w' := { w with heap := w.heap.setIfInBounds g' (.map (en.push { key, val := a.eval y, born := en.size }) (en.size + 1)) }) (by rw [hHs]; rfl) e2 (.map (es ++ [(.v key, ev σ y)])) (by simp) (hset _).1 rfl rfl rfl (by simp) ⟨g', en.push { key, val := a.eval y, born := en.size }, e2, by rw [(hset _).2]; simp, e4, by simp [e5], fun i e he => by
      rw [Array.getElem?_push] at he
      split at he
      · rename_i hi; injection he with he; subst he; exact hi.symm
      · exact e6 i e he, fun i e p he hp => by
      rw [Array.getElem?_push] at he
      split at he
      · rename_i hi
        injection he with he
        subst he
        subst hi
        rw [e5, List.getElem?_append_right (Nat.le_refl _), Nat.sub_self] at hp
        injection hp with hp
        subst hp
        exact ⟨.v _, h3⟩
      · rw [List.getElem?_append_left (by rw [← e5]; exact (Array.getElem?_eq_some_iff.1 he).1)] at hp
        exact e7 i e p he hp⟩
    refine ⟨_, M, ρ, ?_, hS⟩
    unfold execOp
    simp only [e1, h2, Instr.mapUpdate, Sem.run_bind, run_underlying ht, Result.andThen_ok, MapKept.run_getObj_map e3, MapKept.run_checkKey hk hkey, MapKept.run_findKey hk q1, MapKept.run_setObj_map _ e3]
    rfl
  · simp only [Nat.zero_add] at q1 q4
    have hei : en[j]? = some e0 := by simpa using q4
    have hjl : j < es.length := by rw [← e5]; exact (Array.getElem?_eq_some_iff.1 hei).1
    have hS := hR.chg (s := s) (w' := { w with heap := w.heap.setIfInBounds g' (.map (en.modify j fun e => { e with key := key, val := a.eval y }) en.size) }) (by rw [hHs]; rfl) e2 (.map (setE (.v key) (ev σ y) es j)) (by simp) (hset _).1 rfl rfl rfl (by simp) ⟨g', en.modify j fun e => { e with key := key, val := a.eval y }, e2, by rw [(hset _).2]; simp, e4, by simp [e5, (cH es j 0).1], fun i e he => by
      rw [Array.getElem?_modify] at he
      split at he
      · cases hj : en[i]? with
        | none => rw [hj] at he; simp at he
        | some e1 => rw [hj] at he; simp at he; subst he; exact e6 i e1 hj
      · exact e6 i e he, fun i e p he hp => by
      rw [Array.getElem?_modify] at he
      rw [(cH es j i).2 hjl] at hp
      by_cases hij : j = i
      · subst hij
        rw [if_pos rfl, hei] at he
        rw [if_pos rfl] at hp
        simp at he
        injection hp with hp
        subst he; subst hp
        exact ⟨.v _, h3⟩
      · rw [if_neg hij] at he
        rw [if_neg (fun h => hij h.symm)] at hp
        exact e7 i e p he hp⟩
    refine ⟨_, M, ρ, ?_, by simp only [putE, Nat.zero_add]; exact hS⟩
    unfold execOp
    simp only [e1, h2, Instr.mapUpdate, Sem.run_bind, run_underlying ht, Result.andThen_ok, MapKept.run_getObj_map e3, MapKept.run_checkKey hk hkey, MapKept.run_findKey hk q1, hei, Option.map_some, Option.getD_some, q5, MapKept.run_keyThatStays hkey, MapKept.run_setObj_map _ e3]
    rfl
theorem tO {t e : TypeId} {dir : ChanDir} {x : Operand} {i : TypeInfo} {k : IntKind} {m s : Nat} (ht : P.underlying t = some (.chan dir e)) (hi : P.info? e = some i) (hx : ev σ x = .v (.int k (m : Nat))) (hm : m ≤ 1000) (hb : i.bytes ≤ 1000) (hH : σ.H s = .none) :
    yI P X n ⟨d, .makeChan t x, ty, ps, af, g⟩ (mkR σ [x] [s] d (.ch s) [(s, .chan m [] 0 0)]) := by
  refine yB rfl fun M ρ τ a w hf hR => ?_
  have hH := (ya hf (s := s) (by simp)).trans hH
  have h1 := yA hR (zw hf (by simp)) hx
  have hmul : (i.bytes : Int) * (m : Int) ≤ 281474976710544 := by
    have h : i.bytes * m ≤ 1000 * 1000 := Nat.mul_le_mul hb hm
    have h2 : ((i.bytes * m : Nat) : Int) ≤ 281474976710544 := by omega
    rwa [Int.natCast_mul] at h2
  have hr := Conc.run_makeChan (P := P) (w := w) ht hi k m (by omega) hmul
  have hN := hR.newOb hH (.chan m #[] false 0 0 false) (.chan m [] 0 0) 0 (by simp) ⟨w.heap.size, [], yd _ _ _, cA _ _, hR.size, rfl, fun j x u h => by simp at h⟩
  refine ⟨.chan (some w.heap.size), _, M, _, ?_, hN, .ch s _ (yd _ _ _)⟩
  unfold execOp
  simp only [h1, Sem.run_bind, hr]
  rfl
end
end Go.Proofs.YtnafokinifbfhaaGreatDoor.Cx
