/- The executor's operations on memory, one law each: boxes made, read and written, fields, elements; nothing of the program stands here; conditions: tables of types that agree with the program's / The executor's operations on slices; nothing of the program stands here; conditions: tables of types that agree with the program's / Interface values: made, asked for their type, compared; a row beside nil; conditions: tables of types that agree with the program's. -/
import Derived.Test.YtnafokinifbfhaaGreatDoorCxC
import Derived.Test.YtnafokinifbfhaaGreatDoorNetB
import Derived.Laws.Build
import Derived.Lib.BufferMore
set_option linter.unusedVariables false
set_option linter.unusedSimpArgs false
namespace Go.Proofs.YtnafokinifbfhaaGreatDoor.Cx
open Go Go.RowKit
theorem aL {α : Type} : ∀ (xs cs : List α) (o j : Nat), o + xs.length ≤ cs.length → (putL cs o xs)[j]? = if o ≤ j ∧ j < o + xs.length then xs[j - o]? else cs[j]?
  | [], cs, o, j, h => by
    rw [if_neg (by simp)]
    rfl
  | x :: xs, cs, o, j, h => by
    simp only [List.length_cons] at h
    rw [putL, aL xs (cs.set o x) (o + 1) j (by simp; omega)]
    by_cases hj : j = o
    · subst hj
      rw [if_neg (by omega), if_pos (by simp), List.getElem?_set_self (by omega), Nat.sub_self]
      rfl
    · by_cases hc : o + 1 ≤ j ∧ j < o + 1 + xs.length
      · rw [if_pos hc, if_pos (by simp; omega), show j - o = (j - (o + 1)) + 1 by omega, List.getElem?_cons_succ]
      · rw [if_neg hc, if_neg (by simp; omega), List.getElem?_set_ne (by omega)]
section
variable {P : Program} {X : Ctx} {n : Nat} {σ : AS} {d : Option Nat} {ty : TypeId} {ps : String} {af : Array Edge} {g : Option (Nat × Bool)}
variable {TB : Tabs} (hTB : TabsOk P TB)
theorem s_nilCheck {x : Operand} {s off : Nat} (hx : ev σ x = .ptr s off) : zb P X n ⟨d, .nilCheck x, ty, ps, af, g⟩ (mkR σ [x] [] d (.ptr s off) []) :=
  yO fun M ρ τ a w he hR => by
    have h1 := hR.ev x
    rw [he x (by simp), hx] at h1
    obtain ⟨g', b', z', e1, e2⟩ := h1.ptr_inv
    refine ⟨a.eval x, ?_, h1⟩
    unfold execOp
    simp only [e2]
    rfl
include hTB
theorem xF {t : TypeId} {x : Operand} {f s off off' ft : Nat} {b : Bool} {m : Nat} {fs : List (Nat × Nat)} (hx : ev σ x = .ptr s off) (hf : lk TB.fld t = some fs) (hf2 : fs[f]? = some (off', ft)) (hm : lk TB.ty ft = some (b, m + 1)) :
    zb P X n ⟨d, .fieldAddr t x f, ty, ps, af, g⟩ (mkR σ [x] [] d (.ptr s (off + off')) []) :=
  yO fun M ρ τ a w he hR => by
    have h1 := hR.ev x
    rw [he x (by simp), hx] at h1
    obtain ⟨g', b', z', e1, e2⟩ := h1.ptr_inv
    obtain ⟨gs, u1, u2⟩ := cX hTB hf
    refine ⟨.pointer (some ⟨g', b' + (off + off'), none⟩), ?_, .ptr s _ g' b' z' e1⟩
    rw [← u2] at hf2
    simp only [List.getElem?_map, Option.map_eq_some_iff, Array.getElem?_toList, Prod.mk.injEq] at hf2
    obtain ⟨fd, h3, h4, h5⟩ := hf2
    unfold execOp
    simp only [e2, Instr.fieldAt, Sem.run_bind, run_underlying u1, Result.andThen_ok, h3, Instr.sureAddr, Sem.run_pure, fieldPlace]
    rw [h5, yA hTB hm]
    simp only [Result.andThen_ok, Nat.succ_ne_zero, if_false, Sem.run_pure, Nat.add_eq_zero_iff, and_false]
    rw [h4, Addr.add_mid, Nat.add_assoc]
theorem s_alloc {s : Nat} {e : TypeId} {zs : List Value} (hz : lk TB.zer e = some zs) (ho : zn (zs.map .v) = true) (hH : σ.H s = .none) : zb P X n ⟨d, .alloc e, ty, ps, af, g⟩ (mkR σ [] [s] d (.ptr s 0) [(s, .row (zs.map .v))]) := by
  refine zW rfl fun M ρ τ a w hf hR => ?_
  obtain ⟨i, z, h1, h2, rfl⟩ := qE hTB hz
  have hH := (zo hf (s := s) (by simp)).trans hH
  have hn := hR.fresh s hH
  have hN := hR.newOb hH (.cells ⟨z.cells.toList⟩ e) (.row (z.cells.toList.map .v)) z.cells.toList.length (by simp) ⟨w.heap.size, 0, z.cells.toList, e, yG _ _ _, fG _ _, hR.size, by simp, fun j x hx => by
    rw [List.getElem?_map] at hx
    cases hu : z.cells.toList[j]? with
    | none => rw [hu] at hx; cases hx
    | some u =>
      rw [hu] at hx; injection hx with hx; subst hx
      exact ⟨u, by simpa using hu, .v _, yl ho (.v u) (List.mem_map.2 ⟨u, List.mem_of_getElem? hu, rfl⟩)⟩⟩
  refine ⟨.pointer (some ⟨w.heap.size, 0, none⟩), _, M, _, ?_, hN, .ptr s 0 _ 0 _ (yG _ _ _)⟩
  simp [execOp, Instr.alloc, zeroValue, typeInfo, h1, h2, newVar, newRow]
omit hTB in
theorem s_box {s : Nat} {e : TypeId} {x : Operand} (ho : zn (ev σ x).cells = true) (hH : σ.H s = .none) : zb P X n ⟨d, .box e x, ty, ps, af, g⟩ (mkR σ [x] [s] d (.ptr s 0) [(s, .row (ev σ x).cells)]) := by
  refine zW rfl fun M ρ τ a w hf hR => ?_
  have hH := (zo hf (s := s) (by simp)).trans hH
  have he := zP hf (x := x) (by simp)
  have hx := hR.ev x
  rw [he] at hx
  obtain ⟨h1, h2, h3⟩ := yx hx ho
  have hn := hR.fresh s hH
  have hN := hR.newOb hH (.cells ⟨(a.eval x).cells.toList⟩ e) (.row (ev σ x).cells) (a.eval x).cells.toList.length (by simp) ⟨w.heap.size, 0, (a.eval x).cells.toList, e, yG _ _ _, fG _ _, hR.size, by omega, fun j y hy => by
    obtain ⟨u, hu⟩ := zB (L := (a.eval x).cells.toList) (k := j) (by have := zM hy; omega)
    exact ⟨u, by simpa using hu, (h2 j y u hy hu).mono (aW hn), h3 u (List.mem_of_getElem? hu)⟩⟩
  refine ⟨.pointer (some ⟨w.heap.size, 0, none⟩), _, M, _, ?_, hN, .ptr s 0 _ 0 _ (yG _ _ _)⟩
  simp [execOp, Instr.box, newVar, newRow]
omit hTB in
theorem fD {M : Unit} {ρ : Rho} {τ : AS} {a : Act} {w : World} {s g' b' z' : Nat} {cs : List CV} (hR : Rel X n M ρ τ a w) (hH : τ.H s = .row cs) (e1 : ρ s = some (g', b', z')) : ∃ us t, w.heap[g']? = some (.cells ⟨us⟩ t (0, 0)) ∧ us.length = z' ∧ X.w0.heap.size ≤ g' ∧ b' + cs.length ≤ us.length ∧
    ∀ (j : Nat) (x : CV), cs[j]? = some x → ∃ u, us[b' + j]? = some u ∧ Rep ρ x u ∧ u.oneCell' = true := by
  have h0 := hR.ob s
  rw [hH] at h0
  obtain ⟨g, b, us, t, h1, h2, h3, h4, h5⟩ := h0
  rw [e1] at h1
  injection h1 with h1; injection h1 with i1 h1; injection h1 with i2 i3
  subst i1; subst i2
  exact ⟨us, t, h2, i3.symm, h3, h4, h5⟩
theorem s_load_agg {t : TypeId} {x : Operand} {s off m : Nat} {cs : List CV} (ht : lk TB.ty t = some (true, m)) (hx : ev σ x = .ptr s off) (hH : σ.H s = .row cs) (hm : off + m ≤ cs.length) :
    zb P X n ⟨d, .load t x, ty, ps, af, g⟩ (mkR σ [x] [s] d (.ag ((cs.drop off).take m)) []) := by
  refine zW rfl fun M ρ τ a w hf hR => ?_
  have hHs := (zo hf (s := s) (by simp)).trans hH
  have h1 := hR.ev x
  rw [zP hf (by simp), hx] at h1
  obtain ⟨g', b', z', e1, e2⟩ := h1.ptr_inv
  obtain ⟨us, t', b2, b3, b4, b5, b6⟩ := fD hR hHs e1
  obtain ⟨dd, u1, u2, u3⟩ := jX hTB ht
  have hlen : ((us.drop (b' + off)).take m).length = m := by simp; omega
  refine ⟨.agg ⟨(us.drop (b' + off)).take m⟩, w, M, ρ, ?_, hR, .ag _ _ (by simp; omega) (fun j y u a b => ?_)⟩
  · have hr : w.rangeAt g' (b' + off) ((us.drop (b' + off)).take m) := jb b2 fun j u hu => by
      rw [List.getElem?_take] at hu
      split at hu
      · rw [List.getElem?_drop] at hu; simpa using hu
      · cases hu
    have := run_loadAt_mid (P := P) w g' (b' + off) t ((us.drop (b' + off)).take m) dd hr u1 u2 (by rw [hlen]; exact u3)
    unfold execOp
    simp only [e2, Sem.run_bind, this, Result.andThen_ok]
    rfl
  · rw [List.getElem?_take] at a b
    split at a
    · rename_i hj
      rw [if_pos hj] at b
      rw [List.getElem?_drop] at a b
      obtain ⟨v, v1, v2, _⟩ := b6 _ y a
      rw [show b' + off + j = b' + (off + j) by omega, v1] at b
      injection b with b; subst b; exact v2
    · cases a
theorem s_load_one {t : TypeId} {x : Operand} {s off m : Nat} {cs : List CV} {y : CV} (ht : lk TB.ty t = some (false, m)) (hx : ev σ x = .ptr s off) (hH : σ.H s = .row cs) (hy : cs[off]? = some y) :
    zb P X n ⟨d, .load t x, ty, ps, af, g⟩ (mkR σ [x] [s] d y []) := by
  refine zW rfl fun M ρ τ a w hf hR => ?_
  have hHs := (zo hf (s := s) (by simp)).trans hH
  have h1 := hR.ev x
  rw [zP hf (by simp), hx] at h1
  obtain ⟨g', b', z', e1, e2⟩ := h1.ptr_inv
  obtain ⟨us, t', b2, b3, b4, b5, b6⟩ := fD hR hHs e1
  obtain ⟨u, hu, hu2, _⟩ := b6 off y hy
  refine ⟨u, w, M, ρ, ?_, hR, hu2⟩
  have hc : w.cell? ⟨g', b' + off, none⟩ = some u := by rw [cell_of_row w g' (b' + off) ⟨us⟩ t' (0, 0) b2]; simpa using hu
  unfold execOp
  simp only [e2, Instr.loadAt, Instr.sureAddr, loadVar, Sem.run_bind, Sem.run_pure, Result.andThen_ok, qH hTB ht, Bool.false_eq_true, if_false, run_load, hc]
omit hTB in
/-- Cells of a row are stored. -/
theorem Rel.store {M : Unit} {ρ : Rho} {a : Act} {w : World} (h : Rel X n M ρ σ a w) {s g' b' z' : Nat} {cs xs : List CV} {vs : List Value} (hH : σ.H s = .row cs) (hr : ρ s = some (g', b', z')) (o : Nat) (ho : o + xs.length ≤ cs.length) (hl : vs.length = xs.length)
    (hx : ∀ (j : Nat) (x : CV) (u : Value), xs[j]? = some x → vs[j]? = some u → Rep ρ x u) (h1 : ∀ z ∈ vs, z.oneCell' = true) : Rel X n M ρ (σ.hup s (.row (putL cs o xs))) a (w.setCells g' (b' + o) vs) := by
  obtain ⟨us, t', b2, b3, b4, b5, b6⟩ := fD h hH hr
  obtain ⟨e1, e2, e3, e4⟩ := jT (g := g') vs (b' + o) w
  refine h.chg (by rw [hH]; rfl) hr (.row (putL cs o xs)) (by simp) (fun g1 hg => yB hg vs (b' + o) w) e1 e2 e3 e4 ⟨g', b', putL us (b' + o) vs, t', ?_, ji vs us (b' + o) w b2, b4, ?_, fun j x hj => ?_⟩
  · rw [hr, zm, b3]
  · rw [zm, zm]; exact b5
  · rw [aL xs cs o j ho] at hj
    rw [aL vs us (b' + o) (b' + j) (by omega)]
    by_cases hc : o ≤ j ∧ j < o + xs.length
    · rw [if_pos hc] at hj
      rw [if_pos (by omega), show b' + j - (b' + o) = j - o by omega]
      obtain ⟨u, hu⟩ := zB (L := vs) (k := j - o) (by omega)
      exact ⟨u, hu, hx _ x u hj hu, h1 u (List.mem_of_getElem? hu)⟩
    · rw [if_neg hc] at hj
      rw [if_neg (by omega)]
      exact b6 j x hj
theorem s_store {t : TypeId} {x y : Operand} {s off m : Nat} {b : Bool} {cs : List CV} (ht : lk TB.ty t = some (b, m)) (hx : ev σ x = .ptr s off) (hH : σ.H s = .row cs) (hl : (ev σ y).cells.length = m) (hm : off + m ≤ cs.length) (ho : zn (ev σ y).cells = true) :
    zb P X n ⟨d, .store t x y, ty, ps, af, g⟩ (mkR σ [x, y] [s] d (.v undef) [(s, .row (putL cs off (ev σ y).cells))]) := by
  refine qO rfl rfl fun M ρ τ a w hf hR => ?_
  have hHs := (zo hf (s := s) (by simp)).trans hH
  have h1 := hR.ev x
  rw [zP hf (by simp), hx] at h1
  obtain ⟨g', b', z', e1, e2⟩ := h1.ptr_inv
  have h2 := hR.ev y
  rw [zP hf (by simp)] at h2
  obtain ⟨c1, c2, c3⟩ := yx h2 ho
  obtain ⟨us, t', b2, b3, b4, b5, b6⟩ := fD hR hHs e1
  obtain ⟨dd, u1, u2, u3⟩ := jX hTB ht
  refine ⟨_, M, ρ, ?_, Rel.store hR hHs e1 off (by omega) c1 c2 c3⟩
  have := dD (P := P) (w := w) (b := g') (o := b' + off) (ty := t) (v := a.eval y) (lN b2 (by omega)) (by rw [c1, hl]; exact u3) c3
  unfold execOp
  simp only [e2, Sem.run_bind, this, Result.andThen_ok]
  rfl
theorem uU {t : TypeId} {x i : Operand} {s sz sz' off len mc e : Nat} {ex b : Bool} {kk : IntKind} {z : Int} (hs : lk TB.sle t = some e) (hz : lk TB.ty e = some (b, sz)) (hx : ev σ x = .sl s sz' off len mc ex) (hi : ev σ i = .v (.int kk z)) (h0 : 0 ≤ z) (hlt : z.toNat < len) :
    zb P X n ⟨d, .indexAddr t x i, ty, ps, af, g⟩ (mkR σ [x, i] [] d (.ptr s (off + z.toNat * sz)) []) :=
  yO fun M ρ τ a w he hR => by
    have h1 := hR.ev x
    rw [he x (by simp), hx] at h1
    obtain ⟨g', b', z', c, e1, e2, e3, e4, e5, e6, e7⟩ := h1.sl_inv
    have h2 := zT hR (he i (by simp)) hi
    refine ⟨.pointer (some ⟨g', b' + (off + z.toNat * sz), none⟩), ?_, .ptr s _ g' b' z' e1⟩
    have hc : 0 ≤ z ∧ z < (len : Int) := ⟨h0, by omega⟩
    unfold execOp
    simp only [e2, h2, Instr.indexAt, asIntOf, Sem.run_bind, Sem.run_pure, run_underlying (yM hTB hs), Result.andThen_ok, Sem.run_ite, if_pos hc, yA hTB hz, Addr.add_mid, Nat.add_assoc]
theorem s_len {t : TypeId} {x : Operand} {s sz off len mc e : Nat} {ex : Bool} (hs : lk TB.sle t = some e) (hx : ev σ x = .sl s sz off len mc ex) : zb P X n ⟨d, .call ⟨.builtin .len, #[x], #[t]⟩, ty, ps, af, g⟩ (mkR σ [x] [] d (.v (.int .i64 len)) []) :=
  yO fun M ρ τ a w he hR => by
    have h1 := hR.ev x
    rw [he x (by simp), hx] at h1
    obtain ⟨g', b', z', c, e1, e2, e3, e4, e5, e6, e7⟩ := h1.sl_inv
    refine ⟨goInt len, ?_, .v _⟩
    unfold execOp
    simp [resolve, invoke, builtin, e2, Builtin.len_, run_underlying (yM hTB hs)]
theorem s_len_nil {t : TypeId} {x : Operand} {e : Nat} {A : Option Addr} {m c : Nat} (hs : lk TB.sle t = some e) (hx : ev σ x = .v (.slice A m c)) : zb P X n ⟨d, .call ⟨.builtin .len, #[x], #[t]⟩, ty, ps, af, g⟩ (mkR σ [x] [] d (.v (.int .i64 m)) []) :=
  yO fun M ρ τ a w he hR => by
    have h1 := zT hR (he x (by simp)) hx
    refine ⟨goInt m, ?_, .v _⟩
    unfold execOp
    simp [resolve, invoke, builtin, h1, Builtin.len_, run_underlying (yM hTB hs)]
end
end Go.Proofs.YtnafokinifbfhaaGreatDoor.Cx
namespace Go.Proofs.YtnafokinifbfhaaGreatDoor.Cx
open Go Go.RowKit
def nV (σ : AS) : Operand → Option Nat := fun o => match ev σ o with
  | .v (.int _ z) => if 0 ≤ z then some z.toNat else none
  | _ => none
theorem aH {σ : AS} {o : Operand} {m : Nat} (h : nV σ o = some m) : ∃ k, ev σ o = .v (.int k (m : Int)) := by
  unfold nV at h
  split at h
  · rename_i k z hz
    split at h
    · rename_i h0
      injection h with h
      exact ⟨k, by rw [hz, ← h, Int.toNat_of_nonneg h0]⟩
    · cases h
  · cases h
def lI (σ : AS) (dflt : Nat) : Option Operand → Option Nat
  | none => some dflt
  | some o => nV σ o
section
variable {P : Program}
theorem iG {t e : TypeId} {A : Option Addr} {len cap sz : Nat} {lo hi mx : Option Value} {l h m : Nat} (hu : P.underlying t = some (.slice e)) (hz : ∀ w, (sizeOf e).run P w = .ok sz w) (h1 : l ≤ h) (h2 : h ≤ m) (h3 : m ≤ cap)
    (hl : (lo = none ∧ l = 0) ∨ ∃ k, lo = some (.int k (l : Int))) (hh : (hi = none ∧ h = len ∧ mx = none) ∨ ∃ k, hi = some (.int k (h : Int))) (hm : (mx = none ∧ m = cap) ∨ ∃ k, mx = some (.int k (m : Int))) (w : World) :
    (Instr.sliceAt t (.slice A len cap) lo hi mx).run P w = .ok (.slice (if m = l then A else A.map (·.add (l * sz))) (h - l) (m - l)) w := by
  have hb : (Instr.sliceBounds true len cap lo hi mx).run P w = .ok (l, h, m) w := by
    unfold Instr.sliceBounds
    rcases hm with ⟨rfl, rfl⟩ | ⟨k'', rfl⟩
    · rcases hl with ⟨rfl, rfl⟩ | ⟨k, rfl⟩ <;> rcases hh with ⟨rfl, rfl, -⟩ | ⟨k', rfl⟩
      · simp
      · simp [run_sliceBound w k' (h : Int) m .sliceAcap (by omega) (by omega)]
      · simp [run_sliceBound w k (l : Int) h .sliceB (by omega) (by omega)]
      · simp [run_sliceBound w k' (h : Int) m .sliceAcap (by omega) (by omega), run_sliceBound w k (l : Int) h .sliceB (by omega) (by omega)]
    · rcases hh with ⟨_, _, hmx⟩ | ⟨k', rfl⟩
      · cases hmx
      rcases hl with ⟨rfl, rfl⟩ | ⟨k, rfl⟩
      · simp [run_sliceBound w k'' (m : Int) cap .slice3Acap (by omega) (by omega), run_sliceBound w k' (h : Int) m .slice3B (by omega) (by omega)]
      · simp [run_sliceBound w k'' (m : Int) cap .slice3Acap (by omega) (by omega), run_sliceBound w k' (h : Int) m .slice3B (by omega) (by omega), run_sliceBound w k (l : Int) h .slice3C (by omega) (by omega)]
  unfold Instr.sliceAt Instr.slice
  simp only [Sem.run_bind, run_underlying hu, Result.andThen_ok, hb, hz, Sem.run_pure]
end
def slRes (s sz off mc : Nat) (ex : Bool) (l h : Nat) : Option Nat → CV
  | none => if l < mc then .sl s sz (off + l * sz) (h - l) (mc - l) ex else bif ex then .sl s sz off 0 0 true else .se s sz
  | some m => if l < m then .sl s sz (off + l * sz) (h - l) (m - l) true else .sl s sz off 0 0 true
def mxNat (σ : AS) : Option Operand → Option (Option Nat)
  | none => some none
  | some o => (nV σ o).map some
section
variable {P : Program} {X : Ctx} {n : Nat} {σ : AS} {d : Option Nat} {ty : TypeId} {ps : String} {af : Array Edge} {g : Option (Nat × Bool)}
variable {TB : Tabs} (hTB : TabsOk P TB)
include hTB
theorem s_slice {t : TypeId} {x : Operand} {lo hi mx : Option Operand} {s sz off len mc e l h : Nat} {ex b : Bool} {m : Option Nat} (hs : lk TB.sle t = some e) (hz : lk TB.ty e = some (b, sz)) (hx : ev σ x = .sl s sz off len mc ex)
    (hlo : lI σ 0 lo = some l) (hhi : lI σ len hi = some h) (hmx : mxNat σ mx = some m) (h3 : mx.isSome = true → hi.isSome = true) (h1 : l ≤ h) (h2 : h ≤ m.getD mc) (h4 : m.getD mc ≤ mc) :
    zb P X n ⟨d, .slice t x lo hi mx, ty, ps, af, g⟩ (mkR σ (x :: (lo.toList ++ hi.toList ++ mx.toList)) [] d (slRes s sz off mc ex l h m) []) :=
  yO fun M ρ τ a w he hR => by
    have h0 := hR.ev x
    rw [he x (by simp), hx] at h0
    obtain ⟨g', b', z', c, e1, e2, e3, e4, e5, e6, e7⟩ := h0.sl_inv
    have hl : ((lo.map a.eval) = none ∧ l = 0) ∨ ∃ k, lo.map a.eval = some (.int k (l : Int)) := by
      cases lo with
      | none => injection hlo with hlo; exact .inl ⟨rfl, hlo.symm⟩
      | some o =>
        obtain ⟨k, hk⟩ := aH hlo
        exact .inr ⟨k, by rw [Option.map_some, zT hR (he o (by simp)) hk]⟩
    have hh : ((hi.map a.eval) = none ∧ h = len ∧ mx.map a.eval = none) ∨ ∃ k, hi.map a.eval = some (.int k (h : Int)) := by
      cases hi with
      | none =>
        injection hhi with hhi
        refine .inl ⟨rfl, hhi.symm, ?_⟩
        cases mx with
        | none => rfl
        | some o => simp at h3
      | some o =>
        obtain ⟨k, hk⟩ := aH hhi
        exact .inr ⟨k, by rw [Option.map_some, zT hR (he o (by simp)) hk]⟩
    cases mx with
    | none =>
      injection hmx with hmx
      subst hmx
      simp only [Option.getD_none] at h2 h4
      have hr := iG (P := P) (A := some ⟨g', b' + off, none⟩) (cap := c) (mx := none) (m := c) (yM hTB hs) (yA hTB hz) h1 (by omega) (Nat.le_refl _) hl hh (.inl ⟨rfl, rfl⟩) w
      refine ⟨_, by unfold execOp; simp only [e2, Option.map_none, Sem.run_bind, hr]; rfl, ?_⟩
      unfold slRes
      simp only
      by_cases hlt : l < mc
      · rw [if_pos hlt, if_neg (by omega), Option.map_some, Addr.add_mid]
        rw [show b' + off + l * sz = b' + (off + l * sz) by omega]
        have hmul : (c - l) * sz = c * sz - l * sz := Nat.sub_mul c l sz
        have hle : l * sz ≤ c * sz := Nat.mul_le_mul_right sz (by omega)
        exact .sl s sz _ _ _ ex g' b' z' (c - l) e1 (by omega) (by omega) (fun hx => by have := e5 hx; omega) (by omega) (by omega)
      · rw [if_neg hlt]
        have hl' : l = mc := by omega
        cases ex with
        | true =>
          have := e5 rfl
          rw [if_pos (by omega)]
          rw [show h - l = 0 by omega, show c - l = 0 by omega]
          exact .sl s sz off 0 0 true g' b' z' 0 e1 (by omega) (by omega) (fun _ => rfl) (by omega) (by have := Nat.zero_le (c * sz); omega)
        | false =>
          simp only [cond_false]
          rw [show h - l = 0 by omega]
          have hmul : (c - l) * sz = c * sz - l * sz := Nat.sub_mul c l sz
          have hle : l * sz ≤ c * sz := Nat.mul_le_mul_right sz (by omega)
          split
          · exact .se s sz g' b' z' _ _ e1 (by omega) (by omega) (by omega)
          · rw [Option.map_some, Addr.add_mid]
            exact .se s sz g' b' z' _ _ e1 (by omega) (by omega) (by omega)
    | some o =>
      change (nV σ o).map some = some m at hmx
      cases hm0 : nV σ o with
      | none => rw [hm0] at hmx; cases hmx
      | some m0 =>
        rw [hm0] at hmx
        injection hmx with hmx
        subst hmx
        simp only [Option.getD_some] at h2 h4
        obtain ⟨k, hk⟩ := aH hm0
        have hm' : (some o).map a.eval = some (.int k (m0 : Int)) := by rw [Option.map_some, zT hR (he o (by simp)) hk]
        have hr := iG (P := P) (A := some ⟨g', b' + off, none⟩) (cap := c) (m := m0) (yM hTB hs) (yA hTB hz) h1 (by omega) (by omega) hl hh (.inr ⟨k, hm'⟩) w
        refine ⟨_, by unfold execOp; simp only [e2, Sem.run_bind, hr]; rfl, ?_⟩
        unfold slRes
        simp only
        by_cases hlt : l < m0
        · rw [if_pos hlt, if_neg (by omega), Option.map_some, Addr.add_mid]
          rw [show b' + off + l * sz = b' + (off + l * sz) by omega]
          have hmul : (m0 - l) * sz = m0 * sz - l * sz := Nat.sub_mul m0 l sz
          have hle : l * sz ≤ m0 * sz := Nat.mul_le_mul_right sz (by omega)
          have hle2 : m0 * sz ≤ c * sz := Nat.mul_le_mul_right sz (by omega)
          exact .sl s sz _ _ _ true g' b' z' (m0 - l) e1 (by omega) (by omega) (fun _ => rfl) (by omega) (by omega)
        · rw [if_neg hlt, if_pos (by omega), show h - l = 0 by omega, show m0 - l = 0 by omega]
          exact .sl s sz off 0 0 true g' b' z' 0 e1 (by omega) (by omega) (fun _ => rfl) (by omega) (by have := Nat.zero_le (c * sz); omega)
end
end Go.Proofs.YtnafokinifbfhaaGreatDoor.Cx
namespace Go.Proofs.YtnafokinifbfhaaGreatDoor
open Go Go.RowKit
/-- A type that an interface value can be asked for: not one of interfaces itself, with a zero value. -/
structure AskT (P : Program) (a : TypeId) : Prop where
  conc : P.concrete a = true
  hit : ∀ (xt : TypeId) (u : Value) (w : World), (Instr.typeAssert (.iface a u) xt a true).run P w = .ok (.tuple #[u, .bool true]) w
  miss : ∃ z, ∀ (xt t : TypeId) (u : Value) (w : World), t ≠ a → (Instr.typeAssert (.iface t u) xt a true).run P w = .ok (.tuple #[z, .bool false]) w
theorem askT {P : Program} {a : TypeId} {d : TypeDesc} (hu : P.underlying a = some d) (hd : (match d with | .interface _ => false | _ => true) = true) (hz : ((P.info? a).bind (·.zero)).isSome = true) : AskT P a := by
  obtain ⟨z, hz⟩ := Option.isSome_iff_exists.1 hz
  obtain ⟨j, hj, hz'⟩ := Option.bind_eq_some_iff.1 hz
  refine ⟨?_, fun xt u w => ?_, z, fun xt t u w ht => ?_⟩
  · cases d <;> first | (cases hd; done) | simp [Program.concrete, hu]
  · cases d <;> first | (cases hd; done) | simp [Instr.typeAssert, run_underlying hu]
  · cases d <;> first | (cases hd; done) | simp [Instr.typeAssert, run_underlying hu, ht, zeroValue, typeInfo, hj, hz']
section
variable {P : Program} {X : Ctx} {n : Nat} {ops : Array Oper} {os : List Oper} {acc : List Rule} {σ : AS} {K : List Rule → AS → Prop} {gt : List (Nat × AV)} {d : Option Nat} {ty : TypeId} {ps : String} {af : Array Edge} {g : Option (Nat × Bool)}
end
end Go.Proofs.YtnafokinifbfhaaGreatDoor
