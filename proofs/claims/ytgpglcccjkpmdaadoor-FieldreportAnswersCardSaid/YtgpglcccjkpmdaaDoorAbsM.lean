/- Rows of any elements that are made: a row of the frame's own, of zero values; conditions: tables of types that agree with the program's. -/
import Derived.Test.YtgpglcccjkpmdaaDoorAbsZ
import Derived.Test.YtgpglcccjkpmdaaDoorAbsY
import Derived.Laws.OwnMore
set_option linter.unusedVariables false
set_option linter.unusedSimpArgs false
namespace Go.Proofs.YtgpglcccjkpmdaaDoor
open Go Go.RowKit
theorem rep_flat {zc : AV} {sz : Nat} (hl : zc.cells.length = sz) (hp : 0 < sz) : ∀ (m j : Nat), j < m * sz → ((List.replicate m zc).flatMap AV.cells)[j]? = zc.cells[j % sz]?
  | 0, j, h => by omega
  | m + 1, j, h => by
    rw [List.replicate_succ, List.flatMap_cons, List.getElem?_append]
    split
    · rename_i hj
      rw [Nat.mod_eq_of_lt (by omega)]
    · rename_i hj
      rw [hl, rep_flat hl hp m (j - sz) (by rw [Nat.succ_mul] at h; omega), ← Nat.mod_eq_sub_mod (by omega)]
theorem rep_flat_len {zc : AV} {sz : Nat} (hl : zc.cells.length = sz) (m : Nat) : ((List.replicate m zc).flatMap AV.cells).length = m * sz := by
  rw [flat_len' (sz := sz) (fun x hx => by rw [List.eq_of_mem_replicate hx]; exact hl), List.length_replicate]
section
variable {P : Program} {X : Ctx} {n : Nat} {ops : Array Oper} {os : List Oper} {acc : List Rule} {σ : AS} {K : List Rule → AS → Prop} {gt : List (Nat × AV)} {ty : TypeId} {ps : String} {af : Array Edge} {g : Option (Nat × Bool)}
variable {TB : Tabs} (hTB : TabsOk P TB)
include hTB
theorem x_make_own {t e : TypeId} {x y : Operand} {d k0 sz by_ m : Nat} {c0 : Cont} {b : Bool} {zs : List Value} (zc : AV) (hs : lk TB.sle t = some e) (hz : lk TB.ty e = some (b, sz)) (hzr : lk TB.zer e = some zs) (hby : lk TB.byt e = some by_) (hzl : zs.length = sz) (hpos : 0 < sz)
    (hzc : zc.cells = zs.map AV.v) (hone : ∀ z ∈ zs, z.oneCell' = true) (hx : ev σ x = .v (.int .i64 (m : Nat))) (hy : ev σ y = .v (.int .i64 (m : Nat))) (hb : m * by_ ≤ 281474976710656) (hc : m * sz ≤ 16777216) (hH : σ.H d = ⟨k0, c0⟩)
    (h : Exec P X n ops os (mkG gt σ [x, y] [d] (some d) (.own d (k0 + 1)) [(d, ⟨k0 + 1, .buf e sz (List.replicate m zc)⟩)] :: acc) ((σ.hup d ⟨k0 + 1, .buf e sz (List.replicate m zc)⟩).put (some d) (.own d (k0 + 1))) K) : Op1 P X n ops gt ⟨some d, .makeSlice t x y, ty, ps, af, g⟩ os acc σ K := by
  obtain rfl : (σ.H d).k = k0 := by rw [hH]
  refine ⟨⟨mkR σ [x, y] [d] (some d) (.own d ((σ.H d).k + 1)) [(d, ⟨(σ.H d).k + 1, .buf e sz (List.replicate m zc)⟩)], rule_val rfl fun M ρ τ a w hf hR => ?_, mkR_fires _ _ _ _ _ _, h⟩⟩
  have hHd := mkR_H hf (s := d) (by simp)
  have hxe := eval_v hR (mkR_ev hf (by simp)) hx
  have hye := eval_v hR (mkR_ev hf (by simp)) hy
  obtain ⟨i, z, t1, t2, t3, t4, t5, t6⟩ := tab_el hTB hs hz hzr hby hzl
  obtain ⟨i', z', q1, q2, q3⟩ := tab_zer hTB hzr
  rw [t2] at q1
  injection q1 with q1
  subst q1
  rw [t3] at q2
  injection q2 with q2
  subst q2
  have hzlen : zc.cells.length = sz := by rw [hzc, List.length_map, hzl]
  have hm : m ≤ m * sz := Nat.le_mul_of_pos_right _ hpos
  obtain ⟨w', hrun, r1, r2⟩ := run_makeSlice_full (P := P) w 0 t e i z sz t1 t2 t3 (by omega) .i64 .i64 m (by omega) (by rw [Nat.mul_comm]; first | (rw [t5]; exact hb) | (rw [t6]; exact hb) | omega) (by simp only [maxLen]; omega) (Nat.zero_le _)
  have hA := hR.appendTo d (L := List.replicate m zc) (w' := w') (news := (madeCells z.cells (m * sz)).toList) (v' := .slice (some ⟨w.heap.size, 0, none⟩) m m) (nil_ownsX X w e sz)
    (by rw [List.nil_append, List.length_replicate]; exact r1) r2 (.inr ⟨w.heap.size, Nat.le_refl _, rfl⟩) (by simp [vblk]) (by simp [vblk]) (by rw [List.nil_append, rep_flat_len hzlen]; simp [madeCells])
    (fun x hx => by rw [List.eq_of_mem_replicate hx]; exact hzlen)
    (fun j x y hx hy => by
      rw [List.nil_append] at hy
      have hlt : j < m * sz := by rw [← rep_flat_len hzlen m]; exact lt_at hx
      rw [rep_flat hzlen hpos m j hlt, hzc, List.getElem?_map] at hx
      have hmod : j % sz < zs.length := by rw [hzl]; exact Nat.mod_lt _ hpos
      obtain ⟨u, hu⟩ := some_at hmod
      rw [hu] at hx
      injection hx with hx
      subst hx
      have hcs : z.cells.size = sz := by rw [← hzl, ← q3]; simp
      have hgy : (madeCells z.cells (m * sz)).toList[j]? = some u := by
        unfold madeCells
        simp only [Array.toList_map, Array.toList_range, List.getElem?_map]
        rw [List.getElem?_range hlt]
        simp only [Option.map_some, hcs]
        congr 1
        have : z.cells[j % sz]? = some u := by rw [← Array.getElem?_toList, q3]; exact hu
        rw [getElem!_def, this]
      rw [hgy] at hy
      injection hy with hy
      subst hy
      exact ⟨.v _ _, hone _ (List.mem_of_getElem? hu)⟩)
  rw [hHd] at hA
  refine ⟨.slice (some ⟨w.heap.size, 0, none⟩) m m, w', M, _, ?_, hA, .own _ _ _ _ (by simp [updρ]) rfl⟩
  unfold execOp
  simp only [hxe, hye, Sem.run_bind, hrun]
  rfl
theorem x_index_arr_ag {d : Option Nat} {t : TypeId} {x i : Operand} {len e sz : Nat} {kk : IntKind} {z : Int} {cs ys : List AV} (ht : P.underlying t = some (.array len e)) (hz : lk TB.ty e = some (true, sz)) (hx : ev σ x = .ag cs) (hi : ev σ i = .v (.int kk z)) (h0 : 0 ≤ z ∧ z < (len : Int)) (hy : (cs.drop (z.toNat * sz)).take sz = ys)
    (h : Exec P X n ops os (mkG gt σ [x, i] [] d (.ag ys) [] :: acc) (σ.put d (.ag ys)) K) : Op1 P X n ops gt ⟨d, .index t x i, ty, ps, af, g⟩ os acc σ K :=
  x_pure (fun M ρ τ a w he hR => by
    have h1 := hR.ev x
    rw [he x (by simp), hx] at h1
    obtain ⟨vs, e1, e2, e3⟩ := h1.ag_inv
    have h2 := eval_v hR (he i (by simp)) hi
    subst hy
    refine ⟨.agg ⟨(vs.drop (z.toNat * sz)).take sz⟩, ?_, .ag _ _ _ (by simp; omega) (fun j y u a b => ?_)⟩
    · have hp : ∀ w, (part e (⟨vs⟩ : Array Value) (z.toNat * sz)).run P w = .ok (.agg ⟨(vs.drop (z.toNat * sz)).take sz⟩) w := fun w => by
        unfold part
        simp only [Sem.run_bind, run_agg hTB hz w, Result.andThen_ok, if_true, run_size hTB hz, Sem.run_pure]
        congr 2
        apply Array.toList_inj.1
        simp only [Array.toList_extract, List.extract_eq_take_drop]
        rw [Nat.add_sub_cancel_left]
      unfold execOp
      simp only [e1, h2, Instr.index, asIntOf, Sem.run_bind, Sem.run_pure, run_underlying ht, Result.andThen_ok, Sem.run_ite, if_pos h0, run_size hTB hz, hp]
    · rw [List.getElem?_take] at a b
      split at a
      · rename_i hj
        rw [if_pos hj] at b
        rw [List.getElem?_drop] at a b
        exact e3 _ y u a b
      · cases a) h
end
section
variable {P : Program} {X : Ctx} {n : Nat} {σ : AS} {Q Q' : Exit → AS → Prop}
theorem awp_mono {c : Code} (h : ∀ e τ, Q e τ → Q' e τ) (h1 : AWp P X n c Q σ) : AWp P X n c Q' σ := by
  refine ⟨fun M ρ a w hR => wp_mono (h1.run M ρ a w hR) ?_⟩
  rintro e a' w' ⟨M', ρ', σ', hR', hQ⟩
  exact ⟨M', ρ', σ', hR', h _ _ hQ⟩
/-- The ways of a block come together behind it. -/
theorem awp_viaB {ι : Type} {id : Nat} (ok : (Nat → Nat) → ι → Prop) (lT : (Nat → Nat) → ι → List (Nat × AV)) (lH : (Nat → Nat) → ι → List (Nat × Cont)) {c y : Code}
    (h1 : AWp P X n c (inBlockA id (thenA (fun τ => At ok lT lH τ fun _ => True) Q')) σ) (h2 : ∀ v i, ok v i → AWp P X n y Q (st v (lT v i) (lH v i))) : AWp P X n c (inBlockA id (thenA (AWp P X n y Q) Q')) σ := by
  have key : ∀ e τ, thenA (fun τ => At ok lT lH τ fun _ => True) Q' e τ → thenA (AWp P X n y Q) Q' e τ := fun e τ h => by
    cases e with
    | normal =>
      obtain ⟨j, hj, -, h3, h4⟩ := h
      exact AWp.weak (st_wk h3 h4) (h2 _ j hj)
    | _ => exact h
  refine awp_mono (fun e τ h => ?_) h1
  unfold inBlockA at h ⊢
  cases e with
  | exit j =>
    simp only at h ⊢
    cases hb : Nat.beq j id
    · rw [hb] at h; exact key _ _ (by simpa using h)
    · rw [hb] at h; exact key _ _ (by simpa using h)
  | _ => exact key _ _ h
end
end Go.Proofs.YtgpglcccjkpmdaaDoor
