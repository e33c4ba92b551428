/- The operations of the abstract machine on memory: boxes, loads, stores, slices; conditions: tables of types that agree with the program's. -/
import Derived.Test.YtbacidnhjmdnlaaDoorAbsF
set_option linter.unusedVariables false
set_option linter.unusedSimpArgs false
namespace Go.Proofs.YtbacidnhjmdnlaaDoor
open Go Go.RowKit
theorem runVar_store {P : Program} {w : World} {b o : Nat} {ty : TypeId} {v : Value} (ht : w.there b o v.cells.toList.length) (hi : (P.info? ty).map (·.size) = some v.cells.toList.length) (h1 : ∀ z ∈ v.cells.toList, z.oneCell' = true) :
    (Instr.storeAt ty (.pointer (some ⟨b, o, none⟩)) v).run P w = .ok () (w.setCells b o v.cells.toList) := by
  have := run_storeCells_cells (P := P) b o v.cells.toList 0 w (fun j hj => by simpa using (ht j hj).1) (fun j hj => by simpa using (ht j hj).2) h1
  cases hq : P.info? ty with
  | none => simp [hq] at hi
  | some i =>
    have hs : v.cells.size = i.size := by simp [hq] at hi; omega
    simp only [Nat.add_zero] at this
    simp [Instr.storeAt, Instr.sureAddr, storeVar, sizeOf, typeInfo, hq, hs, this]
theorem there_box {w : World} {g : Nat} {t : TypeId} {us : List Value} (h : w.heap[g]? = some (.cells ⟨us⟩ t (0, 0))) {o m : Nat} (hm : o + m ≤ us.length) : w.there g o m := fun j hj => by
  refine ⟨?_, Blk.frozen (t := t) h _⟩
  rw [cell_of_row w g (o + j) ⟨us⟩ t (0, 0) h]
  simp
  omega
theorem range_cells {w : World} {g : Nat} {t : TypeId} {fr : Nat × Nat} {arr : Array Value} (h : w.heap[g]? = some (.cells arr t fr)) {o : Nat} {vs : List Value} (hv : ∀ j u, vs[j]? = some u → arr[o + j]? = some u) : w.rangeAt g o vs := fun j u hu => by
  rw [cell_of_row w g (o + j) arr t fr h]
  exact hv j u hu
section
variable {P : Program} {X : Ctx} {n : Nat} {ops : Array Oper} {os : List Oper} {acc : List Rule} {σ : AS} {K : List Rule → AS → Prop} {gt : List (Nat × AV)} {ty : TypeId} {ps : String} {af : Array Edge} {g : Option (Nat × Bool)}
variable {TB : Tabs} (hTB : TabsOk P TB)
include hTB
theorem x_alloc {d : Nat} {e : TypeId} {zs : List Value} {k0 : Nat} {c0 : Cont} (hz : lk TB.zer e = some zs) (hH : σ.H d = ⟨k0, c0⟩) (h : Exec P X n ops os (mkG gt σ [] [d] (some d) (.ptr d (k0 + 1) 0) [(d, ⟨k0 + 1, .box (zs.map .v)⟩)] :: acc) ((σ.hup d ⟨k0 + 1, .box (zs.map .v)⟩).put (some d) (.ptr d (k0 + 1) 0)) K) :
    Op1 P X n ops gt ⟨some d, .alloc e, ty, ps, af, g⟩ os acc σ K := by
  obtain rfl : (σ.H d).k = k0 := by rw [hH]
  refine ⟨⟨mkR σ [] [d] (some d) (.ptr d ((σ.H d).k + 1) 0) [(d, ⟨(σ.H d).k + 1, .box (zs.map .v)⟩)], rule_val rfl fun M ρ τ a w hf hR => ?_, mkR_fires _ _ _ _ _ _, h⟩⟩
  obtain ⟨i, z, h1, h2, rfl⟩ := tab_zer hTB hz
  have hH := mkR_H hf (s := d) (by simp)
  have hN := hR.newBox d e (cs := z.cells.toList.map .v) (us := z.cells.toList) (by simp) (fun j x u a b => by
    rw [List.getElem?_map, b] at a
    injection a with a
    subst a
    exact .v _ _)
  refine ⟨.pointer (some ⟨w.heap.size, 0, none⟩), _, M, _, ?_, by rw [← hH]; exact hN, .ptr _ _ _ _ _ (by rw [← hH]; simp [updρ])⟩
  simp [execOp, Instr.alloc, zeroValue, typeInfo, h1, h2, newVar, newRow]
omit hTB in
theorem x_box {d : Nat} {e : TypeId} {x : Operand} {k0 : Nat} {c0 : Cont} (y : AV) (hy : ev σ x = y) (ho : allOne y.cells = true) (hH : σ.H d = ⟨k0, c0⟩) (h : Exec P X n ops os (mkG gt σ [x] [d] (some d) (.ptr d (k0 + 1) 0) [(d, ⟨k0 + 1, .box y.cells⟩)] :: acc) ((σ.hup d ⟨k0 + 1, .box y.cells⟩).put (some d) (.ptr d (k0 + 1) 0)) K) :
    Op1 P X n ops gt ⟨some d, .box e x, ty, ps, af, g⟩ os acc σ K := by
  obtain rfl : (σ.H d).k = k0 := by rw [hH]
  subst hy
  refine ⟨⟨mkR σ [x] [d] (some d) (.ptr d ((σ.H d).k + 1) 0) [(d, ⟨(σ.H d).k + 1, .box (ev σ x).cells⟩)], rule_val rfl fun M ρ τ a w hf hR => ?_, mkR_fires _ _ _ _ _ _, h⟩⟩
  have hH := mkR_H hf (s := d) (by simp)
  have he := mkR_ev hf (x := x) (by simp)
  have hx := hR.ev x
  rw [he] at hx
  obtain ⟨h1, h2, h3⟩ := rep_cells hx ho
  have hN := hR.newBox d e h1 h2
  refine ⟨.pointer (some ⟨w.heap.size, 0, none⟩), _, M, _, ?_, by rw [← hH]; exact hN, .ptr _ _ _ _ _ (by rw [← hH]; simp [updρ])⟩
  simp [execOp, Instr.box, newVar, newRow]
theorem x_load_agg {d : Option Nat} {t : TypeId} {x : Operand} {s k k' off m : Nat} {cs : List AV} (ht : lk TB.ty t = some (true, m)) (hx : ev σ x = .ptr s k off) (hH : σ.H s = ⟨k', .box cs⟩) (hk : k = k') (hm : off + m ≤ cs.length)
    (h : Exec P X n ops os (mkG gt σ [x] [s] d (.ag ((cs.drop off).take m)) [] :: acc) (σ.put d (.ag ((cs.drop off).take m))) K) : Op1 P X n ops gt ⟨d, .load t x, ty, ps, af, g⟩ os acc σ K := by
  refine ⟨⟨mkR σ [x] [s] d (.ag ((cs.drop off).take m)) [], rule_val rfl fun M ρ τ a w hf hR => ?_, mkR_fires _ _ _ _ _ _, h⟩⟩
  subst hk
  have hHs := (mkR_H hf (s := s) (by simp)).trans hH
  have h1 := hR.ev x
  rw [mkR_ev hf (by simp), hx] at h1
  obtain ⟨g', e1, e2⟩ := h1.ptr_inv
  obtain ⟨g'', t', us, b1, b2, _, _, b5, b6⟩ := hR.box s k cs hHs
  rw [e1] at b1
  obtain rfl : g' = g'' := by injection b1 with b1; injection b1 with b1; injection b1 with b1; injection b1
  obtain ⟨dd, u1, u2, u3⟩ := tab_ty hTB ht
  have hlen : ((us.drop off).take m).length = m := by simp; omega
  refine ⟨.agg ⟨(us.drop off).take m⟩, w, M, ρ, ?_, hR, .ag _ _ _ (by simp; omega) (fun j y u a b => ?_)⟩
  · have hr : w.rangeAt g' off ((us.drop off).take m) := range_cells b2 fun j u hu => by
      rw [List.getElem?_take] at hu
      split at hu
      · rw [List.getElem?_drop] at hu; simpa using hu
      · cases hu
    have := run_loadAt_mid (P := P) w g' off t ((us.drop off).take m) dd hr u1 u2 (by rw [hlen]; exact u3)
    unfold execOp
    simp only [e2, Sem.run_bind, this, Result.andThen_ok]
    rfl
  · rw [List.getElem?_take] at a b
    split at a
    · rename_i hj
      rw [if_pos hj] at b
      rw [List.getElem?_drop] at a b
      exact b6 _ y u a b
    · cases a
theorem x_load_one {d : Option Nat} {t : TypeId} {x : Operand} {s k k' off m : Nat} {cs : List AV} {y : AV} (ht : lk TB.ty t = some (false, m)) (hx : ev σ x = .ptr s k off) (hH : σ.H s = ⟨k', .box cs⟩) (hk : k = k') (hy : cs[off]? = some y)
    (h : Exec P X n ops os (mkG gt σ [x] [s] d y [] :: acc) (σ.put d y) K) : Op1 P X n ops gt ⟨d, .load t x, ty, ps, af, g⟩ os acc σ K := by
  refine ⟨⟨mkR σ [x] [s] d y [], rule_val rfl fun M ρ τ a w hf hR => ?_, mkR_fires _ _ _ _ _ _, h⟩⟩
  subst hk
  have hHs := (mkR_H hf (s := s) (by simp)).trans hH
  have h1 := hR.ev x
  rw [mkR_ev hf (by simp), hx] at h1
  obtain ⟨g', e1, e2⟩ := h1.ptr_inv
  obtain ⟨g'', t', us, b1, b2, _, _, b5, b6⟩ := hR.box s k cs hHs
  rw [e1] at b1
  obtain rfl : g' = g'' := by injection b1 with b1; injection b1 with b1; injection b1 with b1; injection b1
  obtain ⟨u, hu⟩ := some_at (L := us) (k := off) (by have := lt_at hy; omega)
  refine ⟨u, w, M, ρ, ?_, hR, b6 off y u hy hu⟩
  have hc : w.cell? ⟨g', off, none⟩ = some u := by rw [cell_of_row w g' off ⟨us⟩ t' (0, 0) b2]; simpa using hu
  unfold execOp
  simp only [e2, Instr.loadAt, Instr.sureAddr, loadVar, Sem.run_bind, Sem.run_pure, Result.andThen_ok, run_agg hTB ht, Bool.false_eq_true, if_false, run_load, hc]
theorem x_load_ep_agg {d : Option Nat} {t : TypeId} {x : Operand} {m : Nat} {cs : List AV} (ht : lk TB.ty t = some (true, m)) (hx : ev σ x = .ep cs) (hm : m ≤ cs.length)
    (h : Exec P X n ops os (mkG gt σ [x] [] d (.ag (cs.take m)) [] :: acc) (σ.put d (.ag (cs.take m))) K) : Op1 P X n ops gt ⟨d, .load t x, ty, ps, af, g⟩ os acc σ K :=
  x_pure (fun M ρ τ a w he hR => by
    have h1 := hR.ev x
    rw [he x (by simp), hx] at h1
    obtain ⟨b, o, arr, us, e1, e2, e3, e4⟩ := h1.ep_inv
    obtain ⟨t', fr, hh⟩ := hR.live b arr e2
    obtain ⟨dd, u1, u2, u3⟩ := tab_ty hTB ht
    refine ⟨.agg ⟨(List.range m).map us⟩, ?_, .ag _ _ _ (by simp; omega) (fun j y u a b => ?_)⟩
    · have hr : w.rangeAt b o ((List.range m).map us) := range_cells hh fun j u hu => by
        rw [List.getElem?_map] at hu
        cases hj : (List.range m)[j]? with
        | none => rw [hj] at hu; cases hu
        | some i =>
          rw [hj] at hu
          have hlt := lt_at hj
          simp at hlt
          rw [List.getElem?_range hlt] at hj
          injection hj with hj
          subst hj
          injection hu with hu
          subst hu
          exact e3 j (by omega)
      have := run_loadAt_mid (P := P) w b o t ((List.range m).map us) dd hr u1 u2 (by simpa using u3)
      unfold execOp
      simp only [e1, Sem.run_bind, this, Result.andThen_ok]
      rfl
    · rw [List.getElem?_take] at a
      split at a
      · rename_i hj
        rw [List.getElem?_map, List.getElem?_range hj] at b
        injection b with b
        subst b
        exact (e4 j y a).mono' (fun _ _ e => e) (fun _ _ _ e => by cases e)
      · cases a) h
theorem x_load_ep_one {d : Option Nat} {t : TypeId} {x : Operand} {m : Nat} {cs : List AV} {y : AV} (ht : lk TB.ty t = some (false, m)) (hx : ev σ x = .ep cs) (hy : cs[0]? = some y)
    (h : Exec P X n ops os (mkG gt σ [x] [] d y [] :: acc) (σ.put d y) K) : Op1 P X n ops gt ⟨d, .load t x, ty, ps, af, g⟩ os acc σ K :=
  x_pure (fun M ρ τ a w he hR => by
    have h1 := hR.ev x
    rw [he x (by simp), hx] at h1
    obtain ⟨b, o, arr, us, e1, e2, e3, e4⟩ := h1.ep_inv
    obtain ⟨t', fr, hh⟩ := hR.live b arr e2
    refine ⟨us 0, ?_, (e4 0 y hy).mono' (fun _ _ e => e) (fun _ _ _ e => by cases e)⟩
    have hc : w.cell? ⟨b, o, none⟩ = some (us 0) := by rw [cell_of_row w b o arr t' fr hh]; exact e3 0 (lt_at hy)
    unfold execOp
    simp only [e1, Instr.loadAt, Instr.sureAddr, loadVar, Sem.run_bind, Sem.run_pure, Result.andThen_ok, run_agg hTB ht, Bool.false_eq_true, if_false, run_load, hc]) h
theorem x_load_glob {d : Option Nat} {t : TypeId} {x : Operand} {m gl : Nat} {vs : List Value} (ht : lk TB.ty t = some (true, m)) (hx : ev σ x = .v (.pointer (some ⟨gl, 0, none⟩))) (hG : X.G gl = some vs) (hm : vs.length = m)
    (h : Exec P X n ops os (mkG gt σ [x] [] d (.v (.agg ⟨vs⟩)) [] :: acc) (σ.put d (.v (.agg ⟨vs⟩))) K) : Op1 P X n ops gt ⟨d, .load t x, ty, ps, af, g⟩ os acc σ K :=
  x_pure (fun M ρ τ a w he hR => by
    have h1 := eval_v hR (he x (by simp)) hx
    obtain ⟨t', fr, hh⟩ := hR.live gl ⟨vs⟩ (hR.glob gl vs hG)
    obtain ⟨dd, u1, u2, u3⟩ := tab_ty hTB ht
    refine ⟨.agg ⟨vs⟩, ?_, .v _ _⟩
    have hr : w.rangeAt gl 0 vs := range_cells hh fun j u hu => by simpa using hu
    have := run_loadAt_mid (P := P) w gl 0 t vs dd hr u1 u2 (by rw [hm]; exact u3)
    unfold execOp
    simp only [h1, Sem.run_bind, this, Result.andThen_ok]
    rfl) h
theorem x_store {t : TypeId} {x y : Operand} {s k k' off m : Nat} {b : Bool} {cs xs : List AV} (ht : lk TB.ty t = some (b, m)) (hx : ev σ x = .ptr s k off) (hH : σ.H s = ⟨k', .box cs⟩) (hk : k = k') (z : AV) (hz : ev σ y = z) (hxs : z.cells = xs) (hl : xs.length = m) (hm : off + m ≤ cs.length) (ho : allOne xs = true)
    (h : Exec P X n ops os (mkG gt σ [x, y] [s] none (.v undef) [(s, ⟨k', .box (putL cs off xs)⟩)] :: acc) (σ.hup s ⟨k', .box (putL cs off xs)⟩) K) : Op1 P X n ops gt ⟨none, .store t x y, ty, ps, af, g⟩ os acc σ K := by
  subst hz
  refine ⟨⟨mkR σ [x, y] [s] none (.v undef) [(s, ⟨k', .box (putL cs off xs)⟩)], rule_unit rfl rfl fun M ρ τ a w hf hR => ?_, mkR_fires _ _ _ _ _ _, h⟩⟩
  subst hk
  have hHs := (mkR_H hf (s := s) (by simp)).trans hH
  have h1 := hR.ev x
  rw [mkR_ev hf (by simp), hx] at h1
  obtain ⟨g', e1, e2⟩ := h1.ptr_inv
  have h2 := hR.ev y
  rw [mkR_ev hf (by simp)] at h2
  obtain ⟨c1, c2, c3⟩ := rep_cells h2 (by rw [hxs]; exact ho)
  rw [hxs] at c1 c2
  obtain ⟨g'', t', us, b1, b2, _, _, b5, b6⟩ := hR.box s k cs hHs
  rw [e1] at b1
  obtain rfl : g' = g'' := by injection b1 with b1; injection b1 with b1; injection b1 with b1; injection b1
  obtain ⟨dd, u1, u2, u3⟩ := tab_ty hTB ht
  refine ⟨_, M, ρ, ?_, hR.store hHs e1 off c1 c2⟩
  have := runVar_store (P := P) (w := w) (b := g') (o := off) (ty := t) (v := a.eval y) (there_box b2 (by omega)) (by rw [c1, hl]; exact u3) c3
  unfold execOp
  simp only [e2, Sem.run_bind, this, Result.andThen_ok]
  rfl
theorem x_indexAddr {d : Option Nat} {t : TypeId} {x i : Operand} {sz e : Nat} {b : Bool} {L : List AV} {kk : IntKind} {z : Int} {y : AV} (hs : lk TB.sle t = some e) (hz : lk TB.ty e = some (b, sz)) (hx : ev σ x = .sl sz L) (hi : ev σ i = .v (.int kk z)) (h0 : 0 ≤ z) (hy : L[z.toNat]? = some y)
    (h : Exec P X n ops os (mkG gt σ [x, i] [] d (.ep y.cells) [] :: acc) (σ.put d (.ep y.cells)) K) : Op1 P X n ops gt ⟨d, .indexAddr t x i, ty, ps, af, g⟩ os acc σ K :=
  x_pure (fun M ρ τ a w he hR => by
    have h1 := hR.ev x
    rw [he x (by simp), hx] at h1
    obtain ⟨A, c, us, e1, e2, e2', e3, e4⟩ := h1.sl_inv
    have h2 := eval_v hR (he i (by simp)) hi
    obtain ⟨f1, b', o, arr, rfl, f3, f4⟩ := e4 z.toNat y hy
    have hlt := lt_at hy
    refine ⟨.pointer (some ⟨b', o + z.toNat * sz, none⟩), ?_, .ep _ _ b' (o + z.toNat * sz) arr (us z.toNat) f3 (fun j hj => f4 j (by omega)) (fun j q hq => e3 _ y j q hy hq)⟩
    have hc : 0 ≤ z ∧ z < (L.length : Int) := ⟨h0, by omega⟩
    unfold execOp
    simp only [e1, h2, Instr.indexAt, asIntOf, Sem.run_bind, Sem.run_pure, run_underlying (tab_sle hTB hs), Result.andThen_ok, Sem.run_ite, if_pos hc, run_size hTB hz, Addr.add_mid]) h
theorem x_indexAddr_n {d : Option Nat} {t : TypeId} {x i : Operand} {sz e k : Nat} {b : Bool} {L : List AV} {kk : IntKind} {y : AV} (hs : lk TB.sle t = some e) (hz : lk TB.ty e = some (b, sz)) (hx : ev σ x = .sl sz L) (hi : ev σ i = .v (.int kk (k : Int))) (hy : L[k]? = some y)
    (h : Exec P X n ops os (mkG gt σ [x, i] [] d (.ep y.cells) [] :: acc) (σ.put d (.ep y.cells)) K) : Op1 P X n ops gt ⟨d, .indexAddr t x i, ty, ps, af, g⟩ os acc σ K :=
  x_indexAddr hTB hs hz hx hi (by omega) (by simpa using hy) h
theorem x_len {d : Option Nat} {t : TypeId} {x : Operand} {sz e : Nat} {L : List AV} (hs : lk TB.sle t = some e) (hx : ev σ x = .sl sz L)
    (h : Exec P X n ops os (mkG gt σ [x] [] d (.v (.int .i64 L.length)) [] :: acc) (σ.put d (.v (.int .i64 L.length))) K) : Op1 P X n ops gt ⟨d, .call ⟨.builtin .len, #[x], #[t]⟩, ty, ps, af, g⟩ os acc σ K :=
  x_pure (fun M ρ τ a w he hR => by
    have h1 := hR.ev x
    rw [he x (by simp), hx] at h1
    obtain ⟨A, c, us, e1, e2, e2', e3, e4⟩ := h1.sl_inv
    refine ⟨goInt L.length, ?_, .v _ _⟩
    unfold execOp
    simp [resolve, invoke, builtin, e1, Builtin.len_, run_underlying (tab_sle hTB hs)]) h
theorem x_len_nil {d : Option Nat} {t : TypeId} {x : Operand} {e : Nat} {A : Option Addr} {m c : Nat} (hs : lk TB.sle t = some e) (hx : ev σ x = .v (.slice A m c))
    (h : Exec P X n ops os (mkG gt σ [x] [] d (.v (.int .i64 m)) [] :: acc) (σ.put d (.v (.int .i64 m))) K) : Op1 P X n ops gt ⟨d, .call ⟨.builtin .len, #[x], #[t]⟩, ty, ps, af, g⟩ os acc σ K :=
  x_pure (fun M ρ τ a w he hR => by
    have h1 := eval_v hR (he x (by simp)) hx
    refine ⟨goInt m, ?_, .v _ _⟩
    unfold execOp
    simp [resolve, invoke, builtin, h1, Builtin.len_, run_underlying (tab_sle hTB hs)]) h
end
section
variable {P : Program} {X : Ctx} {n : Nat} {ops : Array Oper} {os : List Oper} {acc : List Rule} {σ : AS} {K : List Rule → AS → Prop} {gt : List (Nat × AV)} {ty : TypeId} {ps : String} {af : Array Edge} {g : Option (Nat × Bool)}
theorem x_len_str {d : Option Nat} {t : TypeId} {x : Operand} {s : ByteArray} (hs : P.underlying t = some .string) (hx : ev σ x = .v (.string s))
    (h : Exec P X n ops os (mkG gt σ [x] [] d (.v (.int .i64 s.size)) [] :: acc) (σ.put d (.v (.int .i64 s.size))) K) : Op1 P X n ops gt ⟨d, .call ⟨.builtin .len, #[x], #[t]⟩, ty, ps, af, g⟩ os acc σ K :=
  x_pure (fun M ρ τ a w he hR => by
    have h1 := eval_v hR (he x (by simp)) hx
    refine ⟨goInt s.size, ?_, .v _ _⟩
    unfold execOp
    simp [resolve, invoke, builtin, h1, Builtin.len_, run_underlying hs]) h
theorem x_makeFunc1 {d : Option Nat} {f : FuncId} {x : Operand} (y : AV) (hy : ev σ x = y) (h : Exec P X n ops os (mkG gt σ [x] [] d (.fn f [y]) [] :: acc) (σ.put d (.fn f [y])) K) : Op1 P X n ops gt ⟨d, .makeFunc (.func f) #[] #[x], ty, ps, af, g⟩ os acc σ K :=
  x_pure (fun M ρ τ a w he hR => by
    have h1 := hR.ev x
    rw [he x (by simp), hy] at h1
    refine ⟨.func (.func f) #[] ⟨[a.eval x]⟩, by unfold execOp; simp [Instr.makeFunc], .fn _ f _ _ rfl (fun j y u a b => ?_)⟩
    cases j with
    | zero => simp at a b; subst a; subst b; exact h1
    | succ j => simp at a) h
theorem x_makeFunc0 {d : Option Nat} {f : FuncId} (h : Exec P X n ops os (mkG gt σ [] [] d (.fn f []) [] :: acc) (σ.put d (.fn f [])) K) : Op1 P X n ops gt ⟨d, .makeFunc (.func f) #[] #[], ty, ps, af, g⟩ os acc σ K :=
  x_pure (fun M ρ τ a w he hR => ⟨.func (.func f) #[] ⟨[]⟩, by unfold execOp; simp [Instr.makeFunc], .fn _ f _ _ rfl (fun j y u a b => by simp at a)⟩) h
end
end Go.Proofs.YtbacidnhjmdnlaaDoor
