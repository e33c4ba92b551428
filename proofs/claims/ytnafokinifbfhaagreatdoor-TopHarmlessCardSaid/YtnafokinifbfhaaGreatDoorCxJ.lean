/- The executor's laws for rows that are made or grow; nothing of the program stands here; conditions: tables of types that agree with the program's. -/
import Derived.Test.YtnafokinifbfhaaGreatDoorCxI
set_option linter.unusedVariables false
set_option linter.unusedSimpArgs false
namespace Go.Proofs.YtnafokinifbfhaaGreatDoor.Cx
open Go Go.RowKit
def catC (vals : List (Nat × CV)) : List CV := vals.flatMap fun p => p.2.cells
theorem pI {β : Type} {sz : Nat} {e : β} : ∀ (vals : List (Nat × CV)) (i : Nat) (K : List CV → β), fillS sz e i vals K = e ∨ (fillS sz e i vals K = K (catC vals) ∧ ∀ (j : Nat) (p : Nat × CV), vals[j]? = some p → p.1 = i + j ∧ p.2.cells.length = sz ∧ zn p.2.cells = true)
  | [], i, K => .inr ⟨rfl, fun j p h => by simp at h⟩
  | (j, x) :: vals, i, K => by
    unfold fillS
    cases hb : (Nat.beq i j && Nat.beq x.cells.length sz && zn x.cells) with
    | false => exact .inl rfl
    | true =>
      simp only [Bool.and_eq_true] at hb
      have b1 := Nat.eq_of_beq_eq_true hb.1.1
      have b2 := Nat.eq_of_beq_eq_true hb.1.2
      rcases pI (e := e) (sz := sz) vals (i + 1) (fun l => fL (x.cells ++ l) K) with h | ⟨h1, h2⟩
      · exact .inl h
      · refine .inr ⟨by rw [cond_true, h1, fJ]; rfl, fun k p hp => ?_⟩
        cases k with
        | zero => simp at hp; subst hp; exact ⟨b1.symm, b2, hb.2⟩
        | succ k =>
          have := h2 k p (by simpa using hp)
          exact ⟨by omega, this.2⟩
theorem uP {sz : Nat} : ∀ (vals : List (Nat × CV)), (∀ p ∈ vals, p.2.cells.length = sz) → ∀ (j : Nat) (y : CV), (catC vals)[j]? = some y → ∃ k r p, vals[k]? = some p ∧ p.2.cells[r]? = some y ∧ j = k * sz + r
  | [], _, j, y, h => by simp [catC] at h
  | q :: vals, hs, j, y, h => by
    have hq := hs q (by simp)
    unfold catC at h
    rw [List.flatMap_cons, List.getElem?_append] at h
    split at h
    · exact ⟨0, j, q, rfl, h, by omega⟩
    · rename_i hj
      obtain ⟨k, r, p, h1, h2, h3⟩ := uP vals (fun p hp => hs p (by simp [hp])) _ y h
      exact ⟨k + 1, r, p, by simpa using h1, h2, by rw [Nat.succ_mul]; omega⟩
theorem vV {sz : Nat} : ∀ (vals : List (Nat × CV)), (∀ p ∈ vals, p.2.cells.length = sz) → (catC vals).length = vals.length * sz
  | [], _ => by simp [catC]
  | q :: vals, hs => by
    unfold catC
    rw [List.flatMap_cons, List.length_append, List.length_cons, Nat.succ_mul]
    have := vV vals (fun p hp => hs p (by simp [hp]))
    unfold catC at this
    rw [this, hs q (by simp)]; omega
theorem rM {zs : List CV} {sz : Nat} (hl : zs.length = sz) (hp : 0 < sz) : ∀ (m j : Nat), j < m * sz → (iP zs m)[j]? = zs[j % sz]?
  | 0, j, h => by omega
  | m + 1, j, h => by
    unfold iP
    rw [List.getElem?_append]
    split
    · rename_i hj
      rw [Nat.mod_eq_of_lt (by omega)]
    · rename_i hj
      rw [hl, rM hl hp m (j - sz) (by rw [Nat.succ_mul] at h; omega), ← Nat.mod_eq_sub_mod (by omega)]
theorem lF {zs : List CV} : ∀ (m : Nat), (iP zs m).length = m * zs.length
  | 0 => by simp [iP]
  | m + 1 => by unfold iP; rw [List.length_append, lF m, Nat.succ_mul]; omega
section
variable {P : Program} {X : Ctx} {n : Nat} {σ : AS} {d : Option Nat} {ty : TypeId} {ps : String} {af : Array Edge} {g : Option (Nat × Bool)}
variable {TB : Tabs} (hTB : TabsOk P TB)
include hTB
theorem tO {t : TypeId} {parts : Array (Nat × Operand)} {e sz len s : Nat} {b : Bool} {zs : List Value} (hs : lk TB.sle t = some e) (hz : lk TB.ty e = some (b, sz)) (hzr : lk TB.zer e = some zs) (hzl : zs.length = sz) (hpos : 0 < sz) (hlen : parts.size = len) (hsm : len * sz ≤ 16777216) (hH : σ.H s = .none)
    (hok : ∀ (j : Nat) (p : Nat × CV), (parts.toList.map fun p => (p.1, ev σ p.2))[j]? = some p → p.1 = 0 + j ∧ p.2.cells.length = sz ∧ zn p.2.cells = true) :
    zb P X n ⟨d, .buildSlice t len parts, ty, ps, af, g⟩ (mkR σ (parts.toList.map (·.2)) [s] d (.sl s sz 0 len len true) [(s, .row (catC (parts.toList.map fun p => (p.1, ev σ p.2))))]) := by
  refine zW rfl fun M ρ τ a w hf hR => ?_
  have hH := (zo hf (s := s) (by simp)).trans hH
  have hn := hR.fresh s hH
  obtain ⟨i, z, i1, i2, i3⟩ := qE hTB hzr
  obtain ⟨dd, u1, u2, u3⟩ := jX hTB hz
  rw [i1] at u3
  injection u3 with u3
  have u3 : i.size = sz := u3
  obtain ⟨p1, p2⟩ := aE hR (fun x hx => zP hf hx)
  have hvl : (parts.toList.map fun p => (p.1, ev σ p.2)).length = len := by simp [hlen]
  have hsz : ∀ p ∈ (parts.toList.map fun p => (p.1, ev σ p.2)), p.2.cells.length = sz := fun p hp => by
    obtain ⟨j, hj⟩ := List.getElem?_of_mem hp
    exact (hok j p hj).2.1
  have hq : ∀ (j : Nat) (q : Nat × Value), (parts.toList.map fun p => (p.1, a.eval p.2))[j]? = some q → ∃ p, (parts.toList.map fun p => (p.1, ev σ p.2))[j]? = some p ∧ q.1 = 0 + j ∧ Rep ρ p.2 q.2 ∧ p.2.cells.length = sz ∧ zn p.2.cells = true := fun j q hq => by
    obtain ⟨p, hp⟩ := zB (L := parts.toList.map fun p => (p.1, ev σ p.2)) (k := j) (by rw [← p1]; exact zM hq)
    obtain ⟨e1, e2⟩ := p2 j p q hp hq
    obtain ⟨e3, e4, e5⟩ := hok j p hp
    exact ⟨p, hp, by omega, e2, e4, e5⟩
  obtain ⟨us', f1, f2, f3, f4⟩ := hZ (sz := sz) (parts.toList.map fun p => (p.1, a.eval p.2)) 0 ((Array.range (len * sz)).map (z.cells[· % z.cells.size]!)).toList (fun j q hq' => by
    obtain ⟨p, _, e1, e2, e3, e4⟩ := hq j q hq'
    exact ⟨e1, by rw [(yx e2 e4).1]; exact e3⟩) (by simp [hlen])
  have hl' : us'.length = len * sz := by rw [f2]; simp
  have hrun : (Instr.buildSlice t len (parts.map fun (x : Nat × Operand) => (x.1, a.eval x.2))).run P w = .ok (.slice (some ⟨w.heap.size, 0, none⟩) len len) (w.alloc (.cells ⟨us'⟩ e)) := by
    by_cases h0 : len = 0
    · have hp0 : parts = #[] := by apply Array.toList_inj.1; exact List.eq_nil_of_length_eq_zero (by simpa [h0] using hlen)
      subst h0
      subst hp0
      obtain rfl : us' = [] := List.eq_nil_of_length_eq_zero (by omega)
      simp [Instr.buildSlice, run_underlying (yM hTB hs), sizeOf, typeInfo, i1, newRow, Instr.fill, show Array.range 0 = #[] from rfl]
    · have hne : ¬ len * i.size = 0 := by rw [u3]; intro h; rcases Nat.mul_eq_zero.1 h with h | h <;> omega
      exact run_buildSlice (P := P) w t e len _ ⟨us'⟩ i z (yM hTB hs) i1 i2 (by rw [u3]; omega) hne (by rw [Array.toList_map, u3]; exact f1)
  have hcl := vV _ hsz
  rw [hvl] at hcl
  have hN := hR.newOb hH (.cells ⟨us'⟩ e) (.row (catC (parts.toList.map fun p => (p.1, ev σ p.2)))) us'.length (by simp) ⟨w.heap.size, 0, us', e, yG _ _ _, fG _ _, hR.size, by omega, fun j x hx => by
    obtain ⟨k, r, p, e1, e2, e3⟩ := uP _ hsz j x hx
    obtain ⟨q, hqq⟩ := zB (L := parts.toList.map fun p => (p.1, a.eval p.2)) (k := k) (by rw [p1]; exact zM e1)
    obtain ⟨p', hp', e4, e5, e6, e7⟩ := hq k q hqq
    rw [e1] at hp'
    injection hp' with hp'
    subst hp'
    obtain ⟨r1, r2, r3⟩ := yx e5 e7
    obtain ⟨u, hu⟩ := zB (L := q.2.cells.toList) (k := r) (by rw [r1]; exact zM e2)
    refine ⟨u, ?_, (r2 r x u e2 hu).mono (aW hn), r3 u (List.mem_of_getElem? hu)⟩
    have := f4 k q r u hqq hu
    rw [e3, Nat.zero_add]
    rwa [Nat.zero_add] at this⟩
  refine ⟨.slice (some ⟨w.heap.size, 0, none⟩) len len, _, M, _, ?_, hN, ?_⟩
  · unfold execOp
    simp only [Sem.run_bind]
    rw [hrun]; rfl
  · have hml : len ≤ len * sz := Nat.le_mul_of_pos_right _ hpos
    exact .sl s sz 0 len len true w.heap.size 0 us'.length len (yG _ _ _) (Nat.le_refl _) (Nat.le_refl _) (fun _ => rfl) (by simp only [maxLen]; omega) (by omega)
theorem wX {t e : TypeId} {x y : Operand} {sz by_ m s : Nat} {b : Bool} {zs : List Value} (hs : lk TB.sle t = some e) (hz : lk TB.ty e = some (b, sz)) (hzr : lk TB.zer e = some zs) (hby : lk TB.byt e = some by_) (hzl : zs.length = sz) (hpos : 0 < sz)
    (hone : zn (zs.map .v) = true) {kx ky : IntKind} (hx : ev σ x = .v (.int kx (m : Nat))) (hy : ev σ y = .v (.int ky (m : Nat))) (hb : m * by_ ≤ 281474976710656) (hc : m * sz ≤ 16777216) (hm0 : 0 < m) (hH : σ.H s = .none) :
    zb P X n ⟨d, .makeSlice t x y, ty, ps, af, g⟩ (mkR σ [x, y] [s] d (.sl s sz 0 m m true) [(s, .row (iP (zs.map .v) m))]) := by
  refine zW rfl fun M ρ τ a w hf hR => ?_
  have hH := (zo hf (s := s) (by simp)).trans hH
  have hn := hR.fresh s hH
  have hxe := zT hR (zP hf (by simp)) hx
  have hye := zT hR (zP hf (by simp)) hy
  obtain ⟨i, z, t1, t2, t3, t4, t5, t6⟩ := fH hTB hs hz hzr hby hzl
  obtain ⟨i', z', q1, q2, q3⟩ := qE hTB hzr
  rw [t2] at q1
  injection q1 with q1
  subst q1
  rw [t3] at q2
  injection q2 with q2
  subst q2
  have hm : m ≤ m * sz := Nat.le_mul_of_pos_right _ hpos
  obtain ⟨w', hrun, r1, r2⟩ := run_makeSlice_full (P := P) w w.heap.size t e i z sz t1 t2 t3 (by omega) kx ky m (by omega) (by rw [Nat.mul_comm]; first | (rw [t5]; exact hb) | (rw [t6]; exact hb) | omega) (by simp only [maxLen]; omega) (Nat.le_refl _)
  have hcs : z.cells.size = sz := by rw [← hzl, ← q3]; simp
  have hzl' : (zs.map CV.v).length = sz := by simpa using hzl
  obtain ⟨g', z', c', e1, e2, e3, e4, e5, e6⟩ := iO (X := X) (ρ := ρ) (s := s) (cs := iP (zs.map .v) m) r1 hm0 hR.size (by rw [lF, hzl']; simp [madeCells]) (fun ρ' _ j x u hx hu => by
    have hlt : j < m * sz := by have := zM hx; rw [lF, hzl'] at this; exact this
    rw [rM hzl' hpos m j hlt, List.getElem?_map] at hx
    have hmod : j % sz < zs.length := by rw [hzl]; exact Nat.mod_lt _ hpos
    obtain ⟨v, hv⟩ := zB hmod
    rw [hv] at hx
    injection hx with hx
    subst hx
    have hgy : (madeCells z.cells (m * sz)).toList[j]? = some v := by
      unfold madeCells
      simp only [Array.toList_map, Array.toList_range, List.getElem?_map]
      rw [List.getElem?_range hlt]
      simp only [Option.map_some, hcs]
      congr 1
      have : z.cells[j % sz]? = some v := by rw [← Array.getElem?_toList, q3]; exact hv
      rw [getElem!_def, this]
    rw [hgy] at hu
    injection hu with hu
    subst hu
    exact ⟨.v _, yl hone (.v v) (List.mem_map.2 ⟨v, List.mem_of_getElem? hv, rfl⟩)⟩) hn
  injection e1 with e1 e1' e1''
  injection e1 with e1
  injection e1 with e1
  subst e1
  subst e1''
  refine ⟨_, w', M, _, ?_, hR.newAt hH e2 (fun k hk => r2.block k hk (by simp)) r2.os r2.tape r2.output r2.size _ z' (by simp) e6, .sl s sz 0 m m true _ 0 z' m (yG _ _ _) (Nat.le_refl _) (Nat.le_refl _) (fun _ => rfl) e4 (by omega)⟩
  unfold execOp
  simp only [hxe, hye, Sem.run_bind, hrun]
  rfl
omit hTB in
/-- The cells of a slice as they lie. -/
theorem qf {M : Unit} {ρ : Rho} {τ : AS} {a : Act} {w : World} {s sz off len mc : Nat} {ex : Bool} {cs : List CV} {u : Value} (hR : Rel X n M ρ τ a w) (hH : τ.H s = .row cs) (h : Rep ρ (.sl s sz off len mc ex) u) (hle : off + len * sz ≤ cs.length) :
    ∃ (g' b' z' c : Nat) (news : List Value), ρ s = some (g', b', z') ∧ u = .slice (some ⟨g', b' + off, none⟩) len c ∧ len ≤ mc ∧ mc ≤ c ∧ (ex = true → c = mc) ∧ c ≤ maxLen ∧ b' + off + c * sz ≤ z' ∧ news.length = len * sz ∧ (∀ j v, news[j]? = some v → w.cell? ((⟨g', b' + off, none⟩ : Addr).add j) = some v) ∧
      (∀ (j : Nat) (x : CV) (v : Value), ((cs.drop off).take (len * sz))[j]? = some x → news[j]? = some v → Rep ρ x v ∧ v.oneCell' = true) ∧ ((cs.drop off).take (len * sz)).length = len * sz := by
  obtain ⟨g', b', z', c, e1, e2, e3, e4, e5, e6, e7⟩ := h.sl_inv
  obtain ⟨us, t', b2, b3, b4, b5, b6⟩ := fD hR hH e1
  have hat : ∀ (j : Nat) (v : Value), ((us.drop (b' + off)).take (len * sz))[j]? = some v → j < len * sz ∧ us[b' + (off + j)]? = some v := fun j v hv => by
    rw [List.getElem?_take] at hv
    split at hv
    · rw [List.getElem?_drop] at hv
      exact ⟨by assumption, by rwa [Nat.add_assoc] at hv⟩
    · cases hv
  refine ⟨g', b', z', c, (us.drop (b' + off)).take (len * sz), e1, e2, e3, e4, e5, e6, e7, by simp; omega, fun j v hv => ?_, fun j x v hx hv => ?_, by simp; omega⟩
  · obtain ⟨_, hv'⟩ := hat j v hv
    rw [Addr.add_mid, cell_of_row w g' _ ⟨us⟩ t' (0, 0) b2]
    simpa [Nat.add_assoc] using hv'
  · obtain ⟨hj, hv'⟩ := hat j v hv
    rw [List.getElem?_take, if_pos hj, List.getElem?_drop] at hx
    obtain ⟨v', q1, q2, q3⟩ := b6 _ x hx
    rw [hv'] at q1
    injection q1 with q1
    subst q1
    exact ⟨q2, q3⟩
theorem tR {t e : TypeId} {x y : Operand} {sz by_ s sy off len mc : Nat} {b ex : Bool} {zs : List Value} {cs : List CV} (hs : lk TB.sle t = some e) (hz : lk TB.ty e = some (b, sz)) (hzr : lk TB.zer e = some zs) (hby : lk TB.byt e = some by_) (hzl : zs.length = sz) (hpos : 0 < sz)
    (hx : ev σ x = .v (.slice none 0 0)) (hy : ev σ y = .sl sy sz off len mc ex) (hHy : σ.H sy = .row cs) (hle : off + len * sz ≤ cs.length) (hm : 0 < len) (hb : len * by_ ≤ 140737488355328) (hml : len ≤ maxLen) (hH : σ.H s = .none) :
    zb P X n ⟨d, .call ⟨.builtin .append, #[x, y], #[t, t]⟩, ty, ps, af, g⟩ (mkR σ [x, y] [s, sy] d (.sl s sz 0 len len false) [(s, .row ((cs.drop off).take (len * sz)))]) := by
  refine zW rfl fun M ρ τ a w hf hR => ?_
  have hH := (zo hf (s := s) (by simp)).trans hH
  have hHy := (zo hf (s := sy) (by simp)).trans hHy
  have hn := hR.fresh s hH
  obtain ⟨i, z, t1, t2, t3, t4, t5, t6⟩ := fH hTB hs hz hzr hby hzl
  have h1 := zT hR (zP hf (by simp)) hx
  have h2 := hR.ev y
  rw [zP hf (by simp), hy] at h2
  obtain ⟨g', b', z', c, news, e1, e2, e3, e4, e5, e6, e7, e8, e9, e10, e11⟩ := qf hR hHy h2 hle
  have hone : ∀ v ∈ news, v.oneCell' = true := fun v hv => by
    obtain ⟨j, hj⟩ := List.getElem?_of_mem hv
    obtain ⟨x', hx'⟩ := zB (L := (cs.drop off).take (len * sz)) (k := j) (by rw [e11, ← e8]; exact zM hj)
    exact (e10 j x' v hx' hj).2
  obtain ⟨v', w', hrun, r1, r2, r3⟩ := jh (P := P) w w.heap.size t ty e i z sz by_ t1 t2 t3 t4 t5 t6 hpos (.slice none 0 0) 0 [] ⟨by simp, .inl ⟨rfl, rfl⟩⟩ (some ⟨g', b' + off, none⟩) len c news e8 (fun _ => ⟨_, rfl, e9⟩) hone (by omega) (by rw [Nat.zero_add]; exact hb) (Nat.le_refl _)
  rw [Nat.zero_add, List.nil_append] at r1
  obtain ⟨g1, z1, c1, q1, q2, q3, q4, q5, q6⟩ := iO (X := X) (ρ := ρ) (s := s) (cs := (cs.drop off).take (len * sz)) r1 hm hR.size (by rw [e11, e8]) (fun ρ' hm' j x u hx hu => ⟨(e10 j x u hx hu).1.mono hm', (e10 j x u hx hu).2⟩) hn
  subst q1
  refine ⟨_, w', M, _, ?_, hR.newAt hH q2 (fun k hk => r2.block k hk (by simp [Value.ownBlock])) r2.os r2.tape r2.output r2.size _ z1 (by simp) q6, .sl s sz 0 len len false _ 0 z1 c1 (yG _ _ _) (Nat.le_refl _) q3 (by simp) q4 (by omega)⟩
  unfold execOp
  simp [resolve, invoke, builtin, h1, e2, hrun]
theorem gQ {t e : TypeId} {x y : Operand} {sz by_ s sx offx lenx sy off len mc : Nat} {b ex : Bool} {zs : List Value} {cx cs : List CV} (hs : lk TB.sle t = some e) (hz : lk TB.ty e = some (b, sz)) (hzr : lk TB.zer e = some zs) (hby : lk TB.byt e = some by_) (hzl : zs.length = sz) (hpos : 0 < sz)
    (hx : ev σ x = .sl sx sz offx lenx lenx true) (hHx : σ.H sx = .row cx) (hlex : offx + lenx * sz ≤ cx.length) (hy : ev σ y = .sl sy sz off len mc ex) (hHy : σ.H sy = .row cs) (hle : off + len * sz ≤ cs.length) (hm : 0 < len) (hb : (lenx + len) * by_ ≤ 140737488355328) (hml : lenx + len ≤ maxLen) (hH : σ.H s = .none) :
    zb P X n ⟨d, .call ⟨.builtin .append, #[x, y], #[t, t]⟩, ty, ps, af, g⟩ (mkR σ [x, y] [s, sx, sy] d (.sl s sz 0 (lenx + len) (lenx + len) false) [(s, .row ((cx.drop offx).take (lenx * sz) ++ (cs.drop off).take (len * sz)))]) := by
  refine zW rfl fun M ρ τ a w hf hR => ?_
  have hH := (zo hf (s := s) (by simp)).trans hH
  have hHx := (zo hf (s := sx) (by simp)).trans hHx
  have hHy := (zo hf (s := sy) (by simp)).trans hHy
  have hn := hR.fresh s hH
  obtain ⟨i, z, t1, t2, t3, t4, t5, t6⟩ := fH hTB hs hz hzr hby hzl
  have h1 := hR.ev x
  rw [zP hf (by simp), hx] at h1
  have h2 := hR.ev y
  rw [zP hf (by simp), hy] at h2
  obtain ⟨gx, bx, zx, cx', olds, d1, d2, d3, d4, d5, d6, d7, d8, d9, d10, d11⟩ := qf hR hHx h1 hlex
  obtain ⟨g', b', z', c, news, e1, e2, e3, e4, e5, e6, e7, e8, e9, e10, e11⟩ := qf hR hHy h2 hle
  have hcx := d5 rfl
  obtain ⟨v', w', hrun, r1, r2⟩ := run_append_arg_grows (P := P) w t ty e i z sz by_ t1 t2 t3 t4 t5 t6 hpos ⟨gx, bx + offx, none⟩ lenx cx' olds d8 d9 ⟨g', b' + off, none⟩ len c news e8 e9 (by omega) hml hb
  obtain ⟨g1, z1, c1, q1, q2, q3, q4, q5, q6⟩ := iO (X := X) (ρ := ρ) (s := s) (cs := (cx.drop offx).take (lenx * sz) ++ (cs.drop off).take (len * sz)) r1 (by omega) hR.size (by rw [List.length_append, List.length_append, d11, e11, d8, e8]) (fun ρ' hm' j x u hx hu => by
    rw [List.getElem?_append, d11] at hx
    rw [List.getElem?_append, d8] at hu
    split at hx
    · rename_i hj; rw [if_pos hj] at hu; exact ⟨(d10 j x u hx hu).1.mono hm', (d10 j x u hx hu).2⟩
    · rename_i hj; rw [if_neg hj] at hu; exact ⟨(e10 _ x u hx hu).1.mono hm', (e10 _ x u hx hu).2⟩) hn
  subst q1
  refine ⟨_, w', M, _, ?_, hR.newAt hH q2 (fun k hk => r2.block k hk (by simp)) r2.os r2.tape r2.output r2.size _ z1 (by simp) q6, .sl s sz 0 (lenx + len) (lenx + len) false _ 0 z1 c1 (yG _ _ _) (Nat.le_refl _) q3 (by simp) q4 (by omega)⟩
  unfold execOp
  simp [resolve, invoke, builtin, d2, e2, hrun]
theorem kQ {t e : TypeId} {x y : Operand} {sz by_ s sx offx lenx mcx sy off len mc : Nat} {b ex exx : Bool} {zs : List Value} {cx cs : List CV} (hs : lk TB.sle t = some e) (hz : lk TB.ty e = some (b, sz)) (hzr : lk TB.zer e = some zs) (hby : lk TB.byt e = some by_) (hzl : zs.length = sz) (hpos : 0 < sz)
    (hx : ev σ x = .sl sx sz offx lenx mcx exx) (hHx : σ.H sx = .row cx) (hlex : offx + lenx * sz ≤ cx.length) (hy : ev σ y = .sl sy sz off len mc ex) (hHy : σ.H sy = .row cs) (hle : off + len * sz ≤ cs.length) (hm : 0 < len) (hb : (lenx + len) * by_ ≤ 140737488355328) (hml : lenx + len ≤ maxLen) (hH : σ.H s = .none) :
    zb P X n ⟨d, .call ⟨.builtin .append, #[x, y], #[t, t]⟩, ty, ps, af, g⟩ (mkR σ [x, y] [s, sx, sy] d (.sl s sz 0 (lenx + len) (lenx + len) false) [(sx, .dead), (s, .row ((cx.drop offx).take (lenx * sz) ++ (cs.drop off).take (len * sz)))]) := by
  refine zW rfl fun M ρ τ a w hf hR => ?_
  have hH := (zo hf (s := s) (by simp)).trans hH
  have hHx := (zo hf (s := sx) (by simp)).trans hHx
  have hHy := (zo hf (s := sy) (by simp)).trans hHy
  have hn := hR.fresh s hH
  have hne : s ≠ sx := by rintro rfl; rw [hH] at hHx; cases hHx
  obtain ⟨i, z, t1, t2, t3, t4, t5, t6⟩ := fH hTB hs hz hzr hby hzl
  have h1 := hR.ev x
  rw [zP hf (by simp), hx] at h1
  have h2 := hR.ev y
  rw [zP hf (by simp), hy] at h2
  obtain ⟨gx, bx, zx, cx', olds, d1, d2, d3, d4, d5, d6, d7, d8, d9, d10, d11⟩ := qf hR hHx h1 hlex
  obtain ⟨g', b', z', c, news, e1, e2, e3, e4, e5, e6, e7, e8, e9, e10, e11⟩ := qf hR hHy h2 hle
  have hone : ∀ v ∈ news, v.oneCell' = true := fun v hv => by
    obtain ⟨j, hj⟩ := List.getElem?_of_mem hv
    obtain ⟨x', hx'⟩ := zB (L := (cs.drop off).take (len * sz)) (k := j) (by rw [e11, ← e8]; exact zM hj)
    exact (e10 j x' v hx' hj).2
  by_cases hroom : lenx + len ≤ cx'
  · obtain ⟨us, t', b2, b3, b4, b5, b6⟩ := fD hR hHx d1
    have hrm : (lenx + len) * sz ≤ cx' * sz := Nat.mul_le_mul_right _ hroom
    have hadd : (lenx + len) * sz = lenx * sz + len * sz := Nat.add_mul _ _ _
    have hrun := run_append_room_cells (P := P) w t ty e i t1 t2 gx (bx + offx) lenx cx' ⟨g', b' + off, none⟩ len c news (by rw [e8, t4]) e9 hone hroom (fun j hj => by
      rw [cell_of_row w gx _ ⟨us⟩ t' (0, 0) b2, t4]
      simp
      omega) (fun j hj => by simp [World.frozen?, b2])
    rw [t4] at hrun
    obtain ⟨s1, s2, s3, s4⟩ := jT (g := gx) news (bx + offx + lenx * sz) w
    have hA := hR.take (w' := w.setCells gx (bx + offx + lenx * sz) news) (s := sx) (s' := s) (by rw [hHx]; rfl) d1 hH (bx + offx) (.row ((cx.drop offx).take (lenx * sz) ++ (cs.drop off).take (len * sz))) (by simp) (fun g1 hg1 => yB hg1 news _ w) s1 s2 s3 s4 ⟨gx, bx + offx, putL us (bx + offx + lenx * sz) news, t', by rw [yG, zm, b3], ji news us _ w b2, b4, by rw [List.length_append, d11, e11, zm]; omega, fun j x hj => by
      have hm' := aW (v := (gx, bx + offx, zx)) hn
      have hjl := zM hj
      rw [List.length_append, d11, e11] at hjl
      rw [aL _ _ _ _ (by omega)]
      rw [List.getElem?_append, d11] at hj
      split at hj
      · rename_i hr
        rw [if_neg (by omega)]
        rw [List.getElem?_take, if_pos hr, List.getElem?_drop] at hj
        obtain ⟨u, u1, u2, u3⟩ := b6 _ x hj
        exact ⟨u, by rw [Nat.add_assoc]; exact u1, u2.mono hm', u3⟩
      · rename_i hr
        rw [if_pos (by omega), show bx + offx + j - (bx + offx + lenx * sz) = j - lenx * sz by omega]
        obtain ⟨u, hu⟩ := zB (L := news) (k := j - lenx * sz) (by omega)
        exact ⟨u, hu, (e10 _ x u hj hu).1.mono hm', (e10 _ x u hj hu).2⟩⟩
    refine ⟨_, _, M, _, ?_, hA, .sl s sz 0 (lenx + len) (lenx + len) false gx (bx + offx) zx cx' (yG _ _ _) (Nat.le_refl _) hroom (by simp) d6 (by omega)⟩
    unfold execOp
    simp [resolve, invoke, builtin, d2, e2, hrun]
  · obtain ⟨v', w', hrun, r1, r2⟩ := run_append_arg_grows (P := P) w t ty e i z sz by_ t1 t2 t3 t4 t5 t6 hpos ⟨gx, bx + offx, none⟩ lenx cx' olds d8 d9 ⟨g', b' + off, none⟩ len c news e8 e9 (by omega) hml hb
    obtain ⟨g1, z1, c1, q1, q2, q3, q4, q5, q6⟩ := iO (X := X) (ρ := ρ) (s := s) (cs := (cx.drop offx).take (lenx * sz) ++ (cs.drop off).take (len * sz)) r1 (by omega) hR.size (by rw [List.length_append, List.length_append, d11, e11, d8, e8]) (fun ρ' hm' j x u hx hu => by
      rw [List.getElem?_append, d11] at hx
      rw [List.getElem?_append, d8] at hu
      split at hx
      · rename_i hj; rw [if_pos hj] at hu; exact ⟨(d10 j x u hx hu).1.mono hm', (d10 j x u hx hu).2⟩
      · rename_i hj; rw [if_neg hj] at hu; exact ⟨(e10 _ x u hx hu).1.mono hm', (e10 _ x u hx hu).2⟩) hn
    subst q1
    have hK := hR.kill (s := sx) (by rw [hHx]; rfl) d1
    refine ⟨_, w', M, _, ?_, hK.newAt (s := s) (by rw [zr _ _ hne]; exact hH) q2 (fun k hk => r2.block k hk (by simp)) r2.os r2.tape r2.output r2.size _ z1 (by simp) q6, .sl s sz 0 (lenx + len) (lenx + len) false _ 0 z1 c1 (yG _ _ _) (Nat.le_refl _) q3 (by simp) q4 (by omega)⟩
    unfold execOp
    simp [resolve, invoke, builtin, d2, e2, hrun]
end
end Go.Proofs.YtnafokinifbfhaaGreatDoor.Cx
