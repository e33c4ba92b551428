/- The executor's laws for maps and channels; nothing of the program stands here; conditions: tables of types that agree with the program's / The executor's single operation is sound: what it reckons is what the machine does; nothing of the program stands here; conditions: tables that agree with the program's / The executor's single operation is sound, further: stores, places, operators, interface values, functions, literals; nothing of the program stands here; conditions: tables that agree with the program's. -/
import Derived.Test.YtnafokinifbfhaaGreatDoorCxJ
set_option linter.unusedVariables false
set_option linter.unusedSimpArgs false
namespace Go.Proofs.YtnafokinifbfhaaGreatDoor.Cx
open Go Go.RowKit
theorem strE_beq (a b : ByteArray) : strE a b = (a == b) := by
  rw [tM]
  cases h : (a == b) with
  | true => exact qT.2 ((MapKept.bytes_beq _ _).1 h)
  | false =>
    cases h2 : jD a b with
    | false => rfl
    | true => rw [qT.1 h2, (MapKept.bytes_beq b b).2 rfl] at h; cases h
theorem keyEq_now {kd : TypeDesc} {k u : Value} {y : CV} {b : Bool} {ρ : Rho} (hk : MapKept.IsKey kd k) (h : keyEq k y = some b) (hr : Rep ρ y u) : Instr.sameNow kd k u = some b := by
  unfold keyEq at h
  split at h
  · rename_i k1 a k2 c
    obtain rfl := hr.v_inv
    split at h
    · rename_i he
      subst he
      injection h with h
      cases kd <;> simp [MapKept.IsKey] at hk
      unfold Instr.sameNow
      simp only [if_true]
      rw [← h]
      congr 1
    · cases h
  · rename_i a c
    obtain rfl := hr.v_inv
    injection h with h
    cases kd <;> simp [MapKept.IsKey] at hk
    unfold Instr.sameNow
    rw [← h, strE_beq]
  · cases h
theorem lW {kd : TypeDesc} {k : Value} {ρ : Rho} (hk : MapKept.IsKey kd k) : ∀ (es : List (CV × CV)) (en : List MapEntry) (i : Nat) (r : Option (Nat × CV)), en.length = es.length → (∀ (j : Nat) (e : MapEntry) (p : CV × CV), en[j]? = some e → es[j]? = some p → Rep ρ p.1 e.key ∧ Rep ρ p.2 e.val) → kO k es i = some r →
    ∃ a, Instr.findNow kd k en i = some a ∧ ((r = none ∧ a = none) ∨ ∃ (j : Nat) (y : CV) (v : Value), r = some (i + j, y) ∧ a = some (i + j, v) ∧ Rep ρ y v ∧ ∃ e, en[j]? = some e ∧ e.key = k)
  | [], [], i, r, hl, hr, h => by
    injection h with h
    exact ⟨none, rfl, .inl ⟨h.symm, rfl⟩⟩
  | [], e :: en, i, r, hl, hr, h => by simp at hl
  | p :: es, [], i, r, hl, hr, h => by simp at hl
  | p :: es, e :: en, i, r, hl, hr, h => by
    obtain ⟨h1, h2⟩ := hr 0 e p rfl rfl
    unfold kO at h
    unfold Instr.findNow
    cases hq : keyEq k p.1 with
    | none => rw [hq] at h; cases h
    | some b =>
      rw [hq] at h
      have hs := keyEq_now hk hq h1
      rw [hs]
      cases b with
      | true =>
        simp only at h ⊢
        injection h with h
        exact ⟨_, rfl, .inr ⟨0, p.2, e.val, by rw [← h]; rfl, rfl, h2, e, rfl, pO hs⟩⟩
      | false =>
        simp only at h ⊢
        obtain ⟨a, a1, a2⟩ := lW hk es en (i + 1) r (by simpa using hl) (fun j e p h1 h2 => hr (j + 1) e p (by simpa using h1) (by simpa using h2)) h
        refine ⟨a, a1, a2.imp id ?_⟩
        rintro ⟨j, y, v, e1, e2, e3, e', e4, e5⟩
        exact ⟨j + 1, y, v, by rw [e1]; congr 2; omega, by rw [e2]; congr 2; omega, e3, e', by simpa using e4, e5⟩
theorem fE {k v : CV} : ∀ (es : List (CV × CV)) (i j : Nat), (setE k v es i).length = es.length ∧ (i < es.length → (setE k v es i)[j]? = if j = i then some (k, v) else es[j]?)
  | [], i, j => ⟨rfl, fun h => by simp at h⟩
  | p :: es, 0, j => ⟨rfl, fun _ => by cases j <;> rfl⟩
  | p :: es, i + 1, 0 => ⟨by simp [setE, (fE es i 0).1], fun _ => rfl⟩
  | p :: es, i + 1, j + 1 => ⟨by simp [setE, (fE es i j).1], fun h => by
    have := (fE (k := k) (v := v) es i j).2 (by simpa using h)
    simp only [setE, List.getElem?_cons_succ, this, Nat.add_right_cancel_iff]⟩
section
variable {P : Program} {X : Ctx} {n : Nat} {σ : AS} {d : Option Nat} {ty : TypeId} {ps : String} {af : Array Edge} {g : Option (Nat × Bool)}
theorem s_makeMap {t : TypeId} {s : Nat} (hH : σ.H s = .none) : zb P X n ⟨d, .makeMap t none, ty, ps, af, g⟩ (mkR σ [] [s] d (.mp s) [(s, .map [])]) := by
  refine zW rfl fun M ρ τ a w hf hR => ?_
  have hH := (zo hf (s := s) (by simp)).trans hH
  have hN := hR.newOb hH (.map #[] 0) (.map []) 0 (by simp) ⟨w.heap.size, #[], yG _ _ _, fG _ _, hR.size, rfl, fun i e he => by simp at he, fun i e p he => by simp at he⟩
  refine ⟨.map (some w.heap.size), _, M, _, ?_, hN, .mp s _ (yG _ _ _)⟩
  simp [execOp, Instr.makeMap, newObj]
  rfl
theorem map_at {M : Unit} {ρ : Rho} {τ : AS} {a : Act} {w : World} {s : Nat} {es : List (CV × CV)} {u : Value} (hR : Rel X n M ρ τ a w) (hH : τ.H s = .map es) (h : Rep ρ (.mp s) u) : ∃ g', ∃ en : Array MapEntry, u = .map (some g') ∧ ρ s = some (g', 0, 0) ∧ w.heap[g']? = some (.map en en.size) ∧ X.w0.heap.size ≤ g' ∧ en.size = es.length ∧
      (∀ (i : Nat) (e : MapEntry), en[i]? = some e → e.born = i) ∧ ∀ (i : Nat) (e : MapEntry) (p : CV × CV), en[i]? = some e → es[i]? = some p → Rep ρ p.1 e.key ∧ Rep ρ p.2 e.val := by
  have h0 := hR.ob s
  rw [hH] at h0
  obtain ⟨g', en, h1, h2, h3, h4, h5, h6⟩ := h0
  cases h with
  | mp _ g1 hr =>
    rw [h1] at hr
    injection hr with hr; injection hr with hr _
    subst hr
    exact ⟨_, en, rfl, h1, h2, h3, h4, h5, h6⟩
theorem s_lookup {t kt et : TypeId} {kd : TypeDesc} {m x : Operand} {s : Nat} {es : List (CV × CV)} {key z : Value} {r : Option (Nat × CV)} (ht : P.underlying t = some (.map kt et)) (hk : P.underlying kt = some kd) (hkey : MapKept.IsKey kd key) (hz : ∀ w, (zeroValue et).run P w = .ok z w) (hm : ev σ m = .mp s) (hH : σ.H s = .map es) (hx : ev σ x = .v key) (hr : kO key es 0 = some r) :
    zb P X n ⟨d, .lookup t m x false, ty, ps, af, g⟩ (mkR σ [m, x] [s] d (match r with | some (_, y) => y | none => .v z) []) := by
  refine zW rfl fun M ρ τ a w hf hR => ?_
  have hHs := (zo hf (s := s) (by simp)).trans hH
  have h1 := hR.ev m
  rw [zP hf (by simp), hm] at h1
  have h2 := zT hR (zP hf (by simp)) hx
  obtain ⟨g', en, e1, e2, e3, e4, e5, e6, e7⟩ := map_at hR hHs h1
  obtain ⟨q, q1, q2⟩ := lW hkey es en.toList 0 r (by simpa using e5) (fun j e p h1 h2 => e7 j e p (by simpa using h1) h2) hr
  have hrun : ∀ v, ((q = none ∧ v = z) ∨ ∃ j, q = some (j, v)) → (execOp a.eval ⟨d, .lookup t m x false, ty, ps, af, g⟩).run P w = .ok (.value v) w := fun v hv => by
    unfold execOp
    simp only [e1, h2, Instr.lookup, Sem.run_bind, run_underlying ht, Result.andThen_ok, MapKept.run_getObj_map e3, MapKept.run_checkKey hk hkey, MapKept.run_findKey hk q1, Sem.run_pure]
    rcases hv with ⟨rfl, rfl⟩ | ⟨j, rfl⟩
    · simp [hz]
    · simp
  rcases q2 with ⟨rfl, rfl⟩ | ⟨j, y, v, rfl, rfl, q3, -⟩
  · exact ⟨z, w, M, ρ, hrun z (.inl ⟨rfl, rfl⟩), hR, .v _⟩
  · exact ⟨v, w, M, ρ, hrun v (.inr ⟨_, rfl⟩), hR, q3⟩
/-- A map's entries after one was written. -/
def putE (k : Value) (v : CV) (es : List (CV × CV)) : Option (Nat × CV) → List (CV × CV)
  | some (i, _) => setE (.v k) v es i
  | none => es ++ [(.v k, v)]
theorem xE {t kt et : TypeId} {kd : TypeDesc} {m x y : Operand} {s : Nat} {es : List (CV × CV)} {key : Value} {r : Option (Nat × CV)} (ht : P.underlying t = some (.map kt et)) (hk : P.underlying kt = some kd) (hkey : MapKept.IsKey kd key) (hm : ev σ m = .mp s) (hH : σ.H s = .map es) (hx : ev σ x = .v key) (hr : kO key es 0 = some r) :
    zb P X n ⟨d, .mapUpdate t m x y, ty, ps, af, g⟩ (mkR σ [m, x, y] [s] d (.v undef) [(s, .map (putE key (ev σ y) es r))]) := by
  refine qO rfl rfl fun M ρ τ a w hf hR => ?_
  have hHs := (zo hf (s := s) (by simp)).trans hH
  have h1 := hR.ev m
  rw [zP hf (by simp), hm] at h1
  have h2 := zT hR (zP hf (by simp)) hx
  have h3 := hR.ev y
  rw [zP hf (by simp)] at h3
  obtain ⟨g', en, e1, e2, e3, e4, e5, e6, e7⟩ := map_at hR hHs h1
  obtain ⟨q, q1, q2⟩ := lW hkey es en.toList 0 r (by simpa using e5) (fun j e p h1 h2 => e7 j e p (by simpa using h1) h2) hr
  have hset : ∀ o, (∀ g1, g1 ≠ g' → ({ w with heap := w.heap.setIfInBounds g' o } : World).heap[g1]? = w.heap[g1]?) ∧ ({ w with heap := w.heap.setIfInBounds g' o } : World).heap[g']? = some o := fun o => ⟨fun g1 hg => (MapKept.heap_set (o' := o) e3).2 g1 hg, (MapKept.heap_set e3).1⟩
  rcases q2 with ⟨rfl, rfl⟩ | ⟨j, y0, v, rfl, rfl, q3, e0, q4, q5⟩
  · have hS := hR.chg (s := s) (w' := { w with heap := w.heap.setIfInBounds g' (.map (en.push { key, val := a.eval y, born := en.size }) (en.size + 1)) }) (by rw [hHs]; rfl) e2 (.map (es ++ [(.v key, ev σ y)])) (by simp) (hset _).1 rfl rfl rfl (by simp) ⟨g', en.push { key, val := a.eval y, born := en.size }, e2, by rw [(hset _).2]; simp, e4, by simp [e5], fun i e he => by
      rw [Array.getElem?_push] at he
      split at he
      · rename_i hi; injection he with he; subst he; exact hi.symm
      · exact e6 i e he, fun i e p he hp => by
      rw [Array.getElem?_push] at he
      split at he
      · rename_i hi
        injection he with he
        subst he
        subst hi
        rw [e5, List.getElem?_append_right (Nat.le_refl _), Nat.sub_self] at hp
        injection hp with hp
        subst hp
        exact ⟨.v _, h3⟩
      · rw [List.getElem?_append_left (by rw [← e5]; exact (Array.getElem?_eq_some_iff.1 he).1)] at hp
        exact e7 i e p he hp⟩
    refine ⟨_, M, ρ, ?_, hS⟩
    unfold execOp
    simp only [e1, h2, Instr.mapUpdate, Sem.run_bind, run_underlying ht, Result.andThen_ok, MapKept.run_getObj_map e3, MapKept.run_checkKey hk hkey, MapKept.run_findKey hk q1, MapKept.run_setObj_map _ e3]
    rfl
  · simp only [Nat.zero_add] at q1 q4
    have hei : en[j]? = some e0 := by simpa using q4
    have hjl : j < es.length := by rw [← e5]; exact (Array.getElem?_eq_some_iff.1 hei).1
    have hS := hR.chg (s := s) (w' := { w with heap := w.heap.setIfInBounds g' (.map (en.modify j fun e => { e with key := key, val := a.eval y }) en.size) }) (by rw [hHs]; rfl) e2 (.map (setE (.v key) (ev σ y) es j)) (by simp) (hset _).1 rfl rfl rfl (by simp) ⟨g', en.modify j fun e => { e with key := key, val := a.eval y }, e2, by rw [(hset _).2]; simp, e4, by simp [e5, (fE es j 0).1], fun i e he => by
      rw [Array.getElem?_modify] at he
      split at he
      · cases hj : en[i]? with
        | none => rw [hj] at he; simp at he
        | some e1 => rw [hj] at he; simp at he; subst he; exact e6 i e1 hj
      · exact e6 i e he, fun i e p he hp => by
      rw [Array.getElem?_modify] at he
      rw [(fE es j i).2 hjl] at hp
      by_cases hij : j = i
      · subst hij
        rw [if_pos rfl, hei] at he
        rw [if_pos rfl] at hp
        simp at he
        injection hp with hp
        subst he; subst hp
        exact ⟨.v _, h3⟩
      · rw [if_neg hij] at he
        rw [if_neg (fun h => hij h.symm)] at hp
        exact e7 i e p he hp⟩
    refine ⟨_, M, ρ, ?_, by simp only [putE, Nat.zero_add]; exact hS⟩
    unfold execOp
    simp only [e1, h2, Instr.mapUpdate, Sem.run_bind, run_underlying ht, Result.andThen_ok, MapKept.run_getObj_map e3, MapKept.run_checkKey hk hkey, MapKept.run_findKey hk q1, hei, Option.map_some, Option.getD_some, q5, MapKept.run_keyThatStays hkey, MapKept.run_setObj_map _ e3]
    rfl
theorem s_makeChan {t e : TypeId} {dir : ChanDir} {x : Operand} {i : TypeInfo} {k : IntKind} {m s : Nat} (ht : P.underlying t = some (.chan dir e)) (hi : P.info? e = some i) (hx : ev σ x = .v (.int k (m : Nat))) (hm : m ≤ 1000) (hb : i.bytes ≤ 1000) (hH : σ.H s = .none) :
    zb P X n ⟨d, .makeChan t x, ty, ps, af, g⟩ (mkR σ [x] [s] d (.ch s) [(s, .chan m [] 0 0)]) := by
  refine zW rfl fun M ρ τ a w hf hR => ?_
  have hH := (zo hf (s := s) (by simp)).trans hH
  have h1 := zT hR (zP hf (by simp)) hx
  have hmul : (i.bytes : Int) * (m : Int) ≤ 281474976710544 := by
    have h : i.bytes * m ≤ 1000 * 1000 := Nat.mul_le_mul hb hm
    have h2 : ((i.bytes * m : Nat) : Int) ≤ 281474976710544 := by omega
    rwa [Int.natCast_mul] at h2
  have hr := Conc.run_makeChan (P := P) (w := w) ht hi k m (by omega) hmul
  have hN := hR.newOb hH (.chan m #[] false 0 0 false) (.chan m [] 0 0) 0 (by simp) ⟨w.heap.size, [], yG _ _ _, fG _ _, hR.size, rfl, fun j x u h => by simp at h⟩
  refine ⟨.chan (some w.heap.size), _, M, _, ?_, hN, .ch s _ (yG _ _ _)⟩
  unfold execOp
  simp only [h1, Sem.run_bind, hr]
  rfl
end
end Go.Proofs.YtnafokinifbfhaaGreatDoor.Cx
namespace Go.Proofs.YtnafokinifbfhaaGreatDoor.Cx
open Go Go.RowKit
/-- Targets lie among the frame's slots. -/
def dstC (n : Nat) : Code → Bool
  | .region _ ops _ => qI n ops.toList
  | .seq a b => dstC n a && dstC n b
  | .cond _ a b => dstC n a && dstC n b
  | .block _ c => dstC n c
  | .loop c => dstC n c
  | .scope c => dstC n c
  | _ => true
structure TbOk (P : Program) (TB : Tabs) (tb : Tb) : Prop where
  tabs : TabsOk P TB
  ty : ∀ t x, tb.ty t = some x → lk TB.ty t = some x
  sle : ∀ t x, tb.sle t = some x → lk TB.sle t = some x
  fld : ∀ t x, tb.fld t = some x → lk TB.fld t = some x
  zer : ∀ t x, tb.zer t = some x → lk TB.zer t = some x
  byt : ∀ t x, tb.byt t = some x → lk TB.byt t = some x
  ik : ∀ t x, tb.ik t = some x → lk TB.ik t = some x
  arr : ∀ t n e, tb.arr t = some (n, e) → P.underlying t = some (.array n e)
  mp : ∀ t k e, tb.mp t = some (k, e) → P.underlying t = some (.map k e)
  mz : ∀ t z, tb.mz t = some z → ∀ w, (zeroValue t).run P w = .ok z w
  ch : ∀ t b, tb.ch t = some b → ∃ dir e i z, P.underlying t = some (.chan dir e) ∧ P.info? e = some i ∧ i.bytes = b ∧ i.zero = some z
  isS : ∀ t u, tb.isS t = some u → P.underlying t = some .string
  isB : ∀ t u, tb.isB t = some u → P.underlying t = some .bool
  ask : ∀ t u, tb.ask t = some u → AskT P t
  flat : ∀ t n, tb.flat t = some n → tU P t n
  fn : ∀ f fi, tb.fn f = some fi → P.funcs[f]? = some fi ∧ qK P f ∧ ∀ c, fi.body = some c → dstC fi.ntmps c = true
  mix : P.follows .mixedOrders = true
noncomputable def stOf (T : Tr CV) (H : Tr CO) : AS := ⟨tg T, hg H⟩
theorem yQ (T : Tr CV) (H : Tr CO) (o : Operand) : eT o T = ev (stOf T H) o := by cases o <;> rfl
/-- What a reckoned operation says of the machine. -/
def Snd (P : Program) (X : Ctx) (n : Nat) (o : Oper) (σ : AS) (nx : Nat) : Res → Prop
  | .val y ss hw nx' => (nx' ≠ nx → σ.H nx = .none) → ∃ xs : List Operand, (∀ x ∈ xs, x ∈ o.op.operands.toList) ∧ zb P X n o (mkR σ xs ss o.dst y hw)
  | .go f args => ∃ xs : List Operand, (∀ x ∈ xs, x ∈ o.op.operands.toList) ∧ ∀ M ρ τ a w, (∀ x ∈ xs, ev τ x = ev σ x) → Rel X n M ρ τ a w → ∃ vs : List Value, (qK P f → (execOp a.eval o).run P w = .ok (.enter f ⟨vs⟩) w) ∧ vs.length = args.length ∧ ∀ (j : Nat) (x : CV) (u : Value), args[j]? = some x → vs[j]? = some u → Rep ρ x u
  | .no => True
section
variable {P : Program} {X : Ctx} {n : Nat} {σ : AS} {d : Option Nat} {ty : TypeId} {ps : String} {af : Array Edge} {g : Option (Nat × Bool)} {T : Tr CV} {H : Tr CO} {nx : Nat}
theorem zU {o : Oper} {xs : List Operand} {ss : List Nat} {y : CV} {hw : List (Nat × CO)} {nx' : Nat} (hx : ∀ x ∈ xs, x ∈ o.op.operands.toList) (h : zb P X n o (mkR σ xs ss o.dst y hw)) : Snd P X n o σ nx (.val y ss hw nx') := fun _ => ⟨xs, hx, h⟩
theorem qB {o : Oper} {xs : List Operand} {ss : List Nat} {y : CV} {hw : List (Nat × CO)} (hx : ∀ x ∈ xs, x ∈ o.op.operands.toList) (h : σ.H nx = .none → zb P X n o (mkR σ xs ss o.dst y hw)) : Snd P X n o σ nx (.val y ss hw (nx + 1)) := fun h0 => ⟨xs, hx, h (h0 (by omega))⟩
theorem yN {o : Oper} {b : Bool} {r : Res} (h : b = true → Snd P X n o σ nx r) : Snd P X n o σ nx (bif b then r else .no) := by
  cases b with
  | true => exact h rfl
  | false => trivial
theorem wF {o : Oper} {b : Bool} {r : Res} (h : b = false → Snd P X n o σ nx r) : Snd P X n o σ nx (bif b then .no else r) := by
  cases b with
  | false => exact h rfl
  | true => trivial
theorem aB {x : CV} {m : Nat} (h : natV x = some m) : ∃ k, x = .v (.int k (m : Nat)) := by
  unfold natV at h
  split at h
  · injection h with h; subst h; exact ⟨_, rfl⟩
  · cases h
theorem snd_move {x : Operand} {tb : Tb} : Snd P X n ⟨d, .move x, ty, ps, af, g⟩ (stOf T H) nx (oMove x tb T H nx) := zU (xs := [x]) (by simp [Op.operands]) (by rw [yQ T H]; exact s_move)
theorem xZ {x : Operand} {tb : Tb} : Snd P X n ⟨d, .assign x, ty, ps, af, g⟩ (stOf T H) nx (oMove x tb T H nx) := zU (xs := [x]) (by simp [Op.operands]) (by rw [yQ T H]; exact s_assign)
theorem snd_pick {a b c : Operand} {tb : Tb} : Snd P X n ⟨d, .pick c a b, ty, ps, af, g⟩ (stOf T H) nx (oPick c a b tb T H nx) := by
  unfold oPick
  rw [yQ T H, yQ T H, yQ T H]
  unfold pickB
  split
  · rename_i t ht
    exact zU (xs := [c, a, b]) (by simp [Op.operands]) (s_pick ht)
  · trivial
theorem snd_alloc {TB : Tabs} {tb : Tb} (hT : TbOk P TB tb) {e : Nat} : Snd P X n ⟨d, .alloc e, ty, ps, af, g⟩ (stOf T H) nx (oAlloc e tb T H nx) := by
  unfold oAlloc
  cases hz : tb.zer e with
  | none => trivial
  | some zs =>
    exact yN fun ho => qB (xs := []) (by simp) (fun h => s_alloc hT.tabs (hT.zer _ _ hz) ho h)
theorem snd_box {tb : Tb} {e : Nat} {x : Operand} : Snd P X n ⟨d, .box e x, ty, ps, af, g⟩ (stOf T H) nx (oBox e x tb T H nx) := by
  unfold oBox boxC
  rw [yQ T H]
  exact yN fun ho => qB (xs := [x]) (by simp [Op.operands]) (fun h => s_box ho h)
theorem dQ {cs : List CV} {o m : Nat} {K : List CV → Res} (hm : 0 < m) : (subK cs o m .no K = .no) ∨ (o + m ≤ cs.length ∧ subK cs o m .no K = K ((cs.drop o).take m)) := by
  rw [lA _ _ _ _ _ hm]
  by_cases h : o + m ≤ cs.length
  · rw [if_pos h]; exact .inr ⟨h, rfl⟩
  · rw [if_neg h]; exact .inl rfl
variable {TB : Tabs} {tb : Tb} (hT : TbOk P TB tb)
include hT
theorem snd_load {t : Nat} {x : Operand} : Snd P X n ⟨d, .load t x, ty, ps, af, g⟩ (stOf T H) nx (oLoad t x tb T H nx) := by
  unfold oLoad
  rw [yQ T H]
  cases ht : tb.ty t with
  | none => trivial
  | some q =>
    obtain ⟨b, m⟩ := q
    have ht := hT.ty _ _ ht
    unfold loadT
    simp only
    unfold bJ
    split
    · rename_i s off hx
      cases b with
      | true =>
        simp only [cond_true]
        unfold loadAgg
        split
        · rename_i cs hH
          refine wF fun hm => ?_
          · have hm : 0 < m := by cases m with | zero => cases hm | succ m => omega
            rcases dQ (cs := cs) (o := off) (m := m) (K := fun l => .val (.ag l) [s] [] nx) hm with h | ⟨h1, h2⟩
            · rw [h]; trivial
            · rw [h2]; exact zU (xs := [x]) (by simp [Op.operands]) (s_load_agg hT.tabs ht hx hH h1)
        · trivial
      | false =>
        simp only [cond_false]
        unfold loadOne
        split
        · rename_i cs hH
          rw [fM]
          split
          · rename_i y hy
            exact zU (xs := [x]) (by simp [Op.operands]) (s_load_one hT.tabs ht hx hH hy)
          · trivial
        · trivial
    · rename_i gl o hx
      cases b with
      | true =>
        simp only [cond_true]
        unfold loadGA
        split
        · rename_i vs hH
          refine yN fun hb => ?_
          · simp only [Bool.and_eq_true] at hb
            obtain rfl := Nat.eq_of_beq_eq_true hb.1
            exact zU (xs := [x]) (by simp [Op.operands]) (rC hT.tabs ht hx hH (Nat.eq_of_beq_eq_true hb.2))
        · trivial
      | false =>
        simp only [cond_false]
        unfold loadG
        split
        · rename_i vs hH
          split
          · rename_i u hu
            exact zU (xs := [x]) (by simp [Op.operands]) (s_load_gl hT.tabs ht hx hH hu)
          · trivial
        · trivial
    · trivial
end
end Go.Proofs.YtnafokinifbfhaaGreatDoor.Cx
namespace Go.Proofs.YtnafokinifbfhaaGreatDoor.Cx
open Go Go.RowKit
theorem dec_ble (a b : Nat) : decide (Int.ofNat a ≤ Int.ofNat b) = Nat.ble a b := by
  cases h : Nat.ble a b with
  | true => exact decide_eq_true (Int.ofNat_le.2 (Nat.le_of_ble_eq_true h))
  | false => exact decide_eq_false fun h2 => by rw [Nat.ble_eq_true_of_le (Int.ofNat_le.1 h2)] at h; cases h
theorem dec_blt (a b : Nat) : decide (Int.ofNat a < Int.ofNat b) = Nat.blt a b := by
  cases h : Nat.blt a b with
  | true => exact decide_eq_true (Int.ofNat_lt.2 (Nat.le_of_ble_eq_true h))
  | false =>
    refine decide_eq_false fun h2 => ?_
    have : Nat.blt a b = true := Nat.ble_eq_true_of_le (Int.ofNat_lt.1 h2)
    rw [this] at h; cases h
section
variable {P : Program} {X : Ctx} {n : Nat} {σ : AS} {d : Option Nat} {ty : TypeId} {ps : String} {af : Array Edge} {g : Option (Nat × Bool)} {T : Tr CV} {H : Tr CO} {nx : Nat}
variable {TB : Tabs} {tb : Tb} (hT : TbOk P TB tb)
include hT
theorem snd_store {t : Nat} {x y : Operand} : Snd P X n ⟨d, .store t x y, ty, ps, af, g⟩ (stOf T H) nx (oStore t x y tb T H nx) := by
  unfold oStore
  rw [yQ T H, yQ T H]
  cases ht : tb.ty t with
  | none => trivial
  | some q =>
    obtain ⟨b, m⟩ := q
    have ht := hT.ty _ _ ht
    unfold storeT
    simp only
    unfold storeP
    split
    · rename_i s off hx
      unfold storeR
      split
      · rename_i cs hH
        refine yN fun hb => ?_
        simp only [Bool.and_eq_true] at hb
        have h0 : 0 < m := Nat.le_of_ble_eq_true hb.1
        have h1 := Nat.eq_of_beq_eq_true hb.2.1
        rw [bX _ _ _ _ _ (by omega)]
        by_cases hle : off + (ev (stOf T H) y).cells.length ≤ cs.length
        · rw [if_pos hle]
          exact zU (xs := [x, y]) (by simp [Op.operands]) (s_store hT.tabs ht hx hH h1 (by omega) hb.2.2)
        · rw [if_neg hle]; trivial
      · trivial
    · trivial
omit hT in
theorem snd_nil {x : Operand} : Snd P X n ⟨d, .nilCheck x, ty, ps, af, g⟩ (stOf T H) nx (oNil x tb T H nx) := by
  unfold oNil
  rw [yQ T H]
  unfold nilC
  split
  · rename_i s o hx; exact zU (xs := [x]) (by simp [Op.operands]) (s_nilCheck hx)
  · rename_i a hx; exact zU (xs := [x]) (by simp [Op.operands]) (tK hx)
  · rename_i f a b hx; exact zU (xs := [x]) (by simp [Op.operands]) (rA hx)
  · trivial
theorem snd_field {t f : Nat} {x : Operand} : Snd P X n ⟨d, .fieldAddr t x f, ty, ps, af, g⟩ (stOf T H) nx (oField t x f tb T H nx) := by
  unfold oField
  rw [yQ T H]
  cases hf : tb.fld t with
  | none => trivial
  | some fs =>
    unfold fieldT
    simp only
    cases hq : fs[f]? with
    | none => trivial
    | some q =>
      obtain ⟨o, ft⟩ := q
      unfold fieldF
      simp only
      split
      · rename_i b m hm
        refine yN fun hb => ?_
        obtain ⟨m, rfl⟩ : ∃ k, m = k + 1 := ⟨m - 1, by have : 0 < m := Nat.le_of_ble_eq_true hb; omega⟩
        unfold fieldP
        split
        · rename_i s off hx
          rw [qF]
          exact zU (xs := [x]) (by simp [Op.operands]) (xF hT.tabs hx (hT.fld _ _ hf) hq (hT.ty _ _ hm))
        · rename_i gl off hx
          rw [qF]
          exact zU (xs := [x]) (by simp [Op.operands]) (oK hT.tabs hx (hT.fld _ _ hf) hq (hT.ty _ _ hm))
        · trivial
      · trivial
theorem dX {t : Nat} {q : Nat × Nat} (h : mE tb (tb.sle t) = some q) : ∃ e b, lk TB.sle t = some e ∧ lk TB.ty e = some (b, q.2) := by
  cases hs : tb.sle t with
  | none => rw [hs] at h; cases h
  | some e =>
    rw [hs] at h
    unfold mE at h
    simp only at h
    split at h
    · rename_i b sz hz
      injection h with h
      subst h
      exact ⟨e, b, hT.sle _ _ hs, hT.ty _ _ hz⟩
    · cases h
theorem pM {t : Nat} {q : Nat × Nat} (h : sR tb (tb.arr t) = some q) : ∃ e b, P.underlying t = some (.array q.1 e) ∧ lk TB.ty e = some (b, q.2) := by
  cases hs : tb.arr t with
  | none => rw [hs] at h; cases h
  | some p =>
    obtain ⟨m, e⟩ := p
    rw [hs] at h
    unfold sR at h
    simp only at h
    split at h
    · rename_i b sz hz
      injection h with h
      subst h
      exact ⟨e, b, hT.arr _ _ _ hs, hT.ty _ _ hz⟩
    · cases h
theorem rB {t : Nat} {x i : Operand} : Snd P X n ⟨d, .indexAddr t x i, ty, ps, af, g⟩ (stOf T H) nx (oIndexAddr t x i tb T H nx) := by
  unfold oIndexAddr
  rw [yQ T H, yQ T H]
  cases hi : natV (ev (stOf T H) i) with
  | none => trivial
  | some m =>
    obtain ⟨k, hi⟩ := aB hi
    unfold ixI
    simp only
    unfold ixX
    split
    · rename_i s sz' off len mc ex hx
      cases hq : mE tb (tb.sle t) with
      | none => trivial
      | some q =>
        obtain ⟨q0, sz⟩ := q
        obtain ⟨e, b, h1, h2⟩ := dX hT hq
        refine yN fun hb => ?_
        rw [qF]
        exact zU (xs := [x, i]) (by simp [Op.operands]) (uU hT.tabs h1 h2 hx hi (by omega) (by rw [Int.toNat_natCast]; exact Nat.le_of_ble_eq_true hb))
    · rename_i s off hx
      cases hq : sR tb (tb.arr t) with
      | none => trivial
      | some q =>
        obtain ⟨len, sz⟩ := q
        obtain ⟨e, b, h1, h2⟩ := pM hT hq
        refine yN fun hb => ?_
        rw [qF]
        have hlt : m < len := Nat.le_of_ble_eq_true hb
        exact zU (xs := [x, i]) (by simp [Op.operands]) (mX hT.tabs h1 h2 hx hi (by omega))
    · rename_i gl off hx
      cases hq : sR tb (tb.arr t) with
      | none => trivial
      | some q =>
        obtain ⟨len, sz⟩ := q
        obtain ⟨e, b, h1, h2⟩ := pM hT hq
        refine yN fun hb => ?_
        rw [qF]
        have hlt : m < len := Nat.le_of_ble_eq_true hb
        exact zU (xs := [x, i]) (by simp [Op.operands]) (oC hT.tabs h1 h2 hx hi (by omega))
    · trivial
theorem snd_index {t : Nat} {x i : Operand} : Snd P X n ⟨d, .index t x i, ty, ps, af, g⟩ (stOf T H) nx (oIndex t x i tb T H nx) := by
  unfold oIndex
  rw [yQ T H, yQ T H]
  cases hi : natV (ev (stOf T H) i) with
  | none => trivial
  | some m =>
    obtain ⟨k, hi⟩ := aB hi
    unfold idI
    simp only
    unfold idX
    split
    · rename_i cs hx
      cases hq : tb.arr t with
      | none => trivial
      | some q =>
        obtain ⟨len, e⟩ := q
        have h1 := hT.arr _ _ _ hq
        unfold idA
        simp only
        split
        · rename_i sz hz
          refine yN fun hb => ?_
          simp only [Bool.and_eq_true] at hb
          obtain rfl := Nat.eq_of_beq_eq_true hb.2
          have hlt : m < len := Nat.le_of_ble_eq_true hb.1
          rw [fM]
          split
          · rename_i y hy
            exact zU (xs := [x, i]) (by simp [Op.operands]) (uV (m := 1) hT.tabs h1 (hT.ty _ _ hz) hx hi (by omega) (by simpa using hy))
          · trivial
        · rename_i sz hz
          refine yN fun hb => ?_
          have hlt : m < len := Nat.le_of_ble_eq_true hb
          by_cases h0 : sz = 0
          · subst h0
            rw [lP]
            have := dZ (X := X) (n := n) (d := d) (ty := ty) (ps := ps) (af := af) (g := g) hT.tabs h1 (hT.ty _ _ hz) hx hi (by omega)
            simp only [List.take_zero] at this
            exact zU (xs := [x, i]) (by simp [Op.operands]) this
          · rcases dQ (cs := cs) (o := Nat.mul m sz) (m := sz) (K := fun l => rv (.ag l) nx) (by omega) with h | ⟨h3, h4⟩
            · rw [h]; trivial
            · rw [h4]
              exact zU (xs := [x, i]) (by simp [Op.operands]) (dZ hT.tabs h1 (hT.ty _ _ hz) hx hi (by omega))
        · trivial
    · rename_i s hx
      cases hq : tb.isS t with
      | none => trivial
      | some u =>
        unfold idS
        simp only
        split
        · rename_i b hb
          rw [qF]
          exact zU (xs := [x, i]) (by simp [Op.operands]) (s_index_s (hT.isS _ _ hq) hx hi hb)
        · trivial
    · trivial
omit hT in
theorem mN {op : BinOp} {tx yt : Nat} {x y : Operand} {k yk : IntKind} {a b : Int} (hx : ev (stOf T H) x = .v (.int k a)) (hy : ev (stOf T H) y = .v (.int yk b)) : Snd P X n ⟨d, .binOp op tx x y yt, ty, ps, af, g⟩ (stOf T H) nx (binSlow k a yk b op nx) := by
  unfold binSlow
  split
  · rename_i k' z hr
    rw [fZ_eq]
    exact zU (xs := [x, y]) (by simp [Op.operands]) (kP hx hy (iX hr))
  · rename_i c hr
    rw [gL]
    exact zU (xs := [x, y]) (by simp [Op.operands]) (kP hx hy (iX hr))
  · trivial
omit hT in
theorem binNat_snd {op : BinOp} {tx yt : Nat} {x y : Operand} {a b : Nat} (hx : ev (stOf T H) x = .v (.int .i64 (.ofNat a))) (hy : ev (stOf T H) y = .v (.int .i64 (.ofNat b))) : Snd P X n ⟨d, .binOp op tx x y yt, ty, ps, af, g⟩ (stOf T H) nx (binNat a b nx op) := by
  have key : ∀ (c : Bool), intR .i64 (.ofNat a) .i64 (.ofNat b) op = some (.bool c) → Snd P X n ⟨d, .binOp op tx x y yt, ty, ps, af, g⟩ (stOf T H) nx (rv (.v (.bool c)) nx) := fun c hr => zU (xs := [x, y]) (by simp [Op.operands]) (kP hx hy (iX hr))
  unfold binNat
  split
  · rw [gL]
    refine key _ ?_
    simp only [intR, if_true]
    congr 2
    exact dec_blt a b
  · rw [gL]
    refine key _ ?_
    simp only [intR, if_true]
    congr 2
    exact dec_ble a b
  · rw [gL]
    refine key _ ?_
    simp only [intR, if_true]
    congr 2
    exact dec_blt b a
  · rw [gL]
    refine key _ ?_
    simp only [intR, if_true]
    congr 2
    exact dec_ble b a
  · rw [gL]
    refine key _ ?_
    simp only [intR, if_true]
    congr 2
    by_cases h : a = b
    · subst h; rw [Nat.beq_refl]; simp
    · rw [zV h]
      exact beq_false_of_ne (fun e => h (Int.ofNat.inj e))
  · rw [qF]
    refine yN fun hb => ?_
    have hlt : a + b < 4294967296 := Nat.le_of_ble_eq_true hb
    refine zU (xs := [x, y]) (by simp [Op.operands]) (kP hx hy (iX ?_))
    simp only [intR, if_true]
    congr 2
    rw [IntKind.wrap_i64]
    show ((Int.ofNat a + Int.ofNat b) + 9223372036854775808) % 18446744073709551616 - 9223372036854775808 = Int.ofNat (a + b)
    simp only [Int.ofNat_eq_natCast]
    omega
  · exact mN hx hy
theorem snd_bin {op : BinOp} {tx yt : Nat} {x y : Operand} : Snd P X n ⟨d, .binOp op tx x y yt, ty, ps, af, g⟩ (stOf T H) nx (oBin op tx x y yt tb T H nx) := by
  unfold oBin
  rw [yQ T H, yQ T H]
  unfold binX
  split
  · rename_i k a yk b hx hy
    unfold binI
    split
    · exact binNat_snd hx hy
    · exact mN hx hy
  · rename_i a b hx hy
    cases hq : tb.isB tx with
    | none => trivial
    | some u =>
      unfold binB
      simp only
      split
      · exact zU (xs := [x, y]) (by simp [Op.operands]) (s_eql_b (hT.isB _ _ hq) hx hy)
      · exact zU (xs := [x, y]) (by simp [Op.operands]) (s_neq_b (hT.isB _ _ hq) hx hy)
      · trivial
  · rename_i a b hx hy
    unfold binS
    split
    · rw [gL]; exact zU (xs := [x, y]) (by simp [Op.operands]) (s_eql_s hx hy)
    · rw [gL]; exact zU (xs := [x, y]) (by simp [Op.operands]) (s_neq_s hx hy)
    · trivial
  · rename_i cs ds hx hy
    cases hq : tb.flat tx with
    | none => trivial
    | some m =>
      unfold binA
      simp only
      split
      · rename_i as1 bs ha hb
        refine yN fun hb2 => ?_
        simp only [Bool.and_eq_true] at hb2
        rw [gL]
        exact zU (xs := [x, y]) (by simp [Op.operands]) (s_neq_ag (hT.flat _ _ hq) hx hy ha hb (Nat.eq_of_beq_eq_true hb2.1) (Nat.eq_of_beq_eq_true hb2.2))
      · trivial
  · rename_i s sz off len mc ex hx hy
    cases hq : tb.sle tx with
    | none => trivial
    | some e =>
      unfold binN
      simp only
      split
      · exact zU (xs := [x, y]) (by simp [Op.operands]) (tV hT.tabs (hT.sle _ _ hq) hx hy)
      · trivial
  · rename_i hx hy
    cases hq : tb.sle tx with
    | none => trivial
    | some e =>
      unfold binN
      simp only
      split
      · exact zU (xs := [x, y]) (by simp [Op.operands]) (s_eql_nil hT.tabs (hT.sle _ _ hq) hx hy)
      · trivial
  · trivial
end
end Go.Proofs.YtnafokinifbfhaaGreatDoor.Cx
