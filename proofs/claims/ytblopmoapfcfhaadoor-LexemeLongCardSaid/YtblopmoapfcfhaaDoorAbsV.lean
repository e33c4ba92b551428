/- Rows of bytes that are made, sliced and read as strings; conditions: tables of types that agree with the program's. -/
import Derived.Test.YtblopmoapfcfhaaDoorAbsZ
import Derived.Laws.MakeOwn
set_option linter.unusedVariables false
set_option linter.unusedSimpArgs false
namespace Go.Proofs.YtblopmoapfcfhaaDoor
open Go Go.RowKit
section
variable {P : Program} {X : Ctx} {n : Nat} {ops : Array Oper} {os : List Oper} {acc : List Rule} {σ : AS} {K : List Rule → AS → Prop} {gt : List (Nat × AV)} {ty : TypeId} {ps : String} {af : Array Edge} {g : Option (Nat × Bool)}
theorem made_u8 (n : Nat) : madeCells (Value.cells (.int .u8 0)) n = ⟨List.replicate n (.int .u8 0)⟩ := by
  apply Array.toList_inj.1
  apply List.ext_getElem?
  intro j
  unfold madeCells
  simp only [Array.toList_map, Array.toList_range, List.getElem?_map, List.getElem?_replicate]
  by_cases h : j < n
  · rw [List.getElem?_range h, if_pos h]
    simp [Value.cells, Nat.mod_one]
  · rw [List.getElem?_eq_none (by simp; omega), if_neg h]
    rfl
theorem x_make_by {t e : TypeId} {x y : Operand} {d k0 : Nat} {q0 : Cont} {m : Int} (ht : P.underlying t = some (.slice e)) (hi : (P.info? e).map (fun i => (i.zero, i.size, i.bytes)) = some (some (.int .u8 0), 1, 1)) (hx : ev σ x = .v (.int .i64 m)) (hy : ev σ y = .v (.int .i64 m)) (h0 : 0 ≤ m) (h1 : m ≤ 281474976710656) (hH0 : σ.H d = ⟨k0, q0⟩)
    (h : Exec P X n ops os (mkG gt σ [x, y] [d] (some d) (.own d (k0 + 1)) [(d, ⟨k0 + 1, .ob (.by_ (List.replicate m.toNat 0))⟩)] :: acc) ((σ.hup d ⟨k0 + 1, .ob (.by_ (List.replicate m.toNat 0))⟩).put (some d) (.own d (k0 + 1))) K) : Op1 P X n ops gt ⟨some d, .makeSlice t x y, ty, ps, af, g⟩ os acc σ K := by
  obtain rfl : (σ.H d).k = k0 := by rw [hH0]
  refine ⟨⟨mkR σ [x, y] [d] (some d) (.own d ((σ.H d).k + 1)) [(d, ⟨(σ.H d).k + 1, .ob (.by_ (List.replicate m.toNat 0))⟩)], rule_val rfl fun M ρ τ a w hf hR => ?_, mkR_fires _ _ _ _ _ _, h⟩⟩
  have hH' := mkR_H hf (s := d) (by simp)
  have hxe := eval_v hR (mkR_ev hf (by simp)) hx
  have hye := eval_v hR (mkR_ev hf (by simp)) hy
  obtain ⟨it, i1, i2, i3, i4⟩ := info_parts hi
  have hrun := run_make (P := P) w t e it (.int .u8 0) ht i1 i2 .i64 .i64 m m h0 (Int.le_refl _) (by rw [i4]; omega) (by omega)
  rw [i3, Nat.mul_one, made_u8] at hrun
  have hN := hR.newOb d (v := .slice (some ⟨w.heap.size, 0, none⟩) m.toNat m.toNat) (x := .cells ⟨List.replicate m.toNat (.int .u8 0)⟩ e (0, 0)) (ob := .by_ (List.replicate m.toNat 0)) rfl fun ρ' _ =>
    ⟨m.toNat, List.replicate m.toNat (.int .u8 0), e, (0, 0), by rw [List.length_replicate], heap_alloc_new w _, by rw [List.length_replicate]; exact Nat.le_refl _, List.length_replicate, .inl rfl, fun j z hj => by
      rw [List.getElem?_replicate] at hj ⊢
      split at hj
      · rename_i hlt
        injection hj with hj
        subst hj
        rw [if_pos hlt]
      · cases hj⟩
  refine ⟨.slice (some ⟨w.heap.size, 0, none⟩) m.toNat m.toNat, _, M, _, ?_, by rw [← hH']; exact hN, .own _ _ _ _ (by rw [← hH']; simp [updρ]) rfl⟩
  unfold execOp
  simp only [hxe, hye, Sem.run_bind, hrun]
  rfl
variable {TB : Tabs} (hTB : TabsOk P TB)
include hTB
theorem x_slice_by {d : Option Nat} {t : TypeId} {x : Operand} {lo hi : Option Operand} {s k k' e : Nat} {b : Bool} {L : List Int} {l h : Int} (hs : lk TB.sle t = some e) (hz : lk TB.ty e = some (b, 1)) (hx : ev σ x = .own s k) (hH : σ.H s = ⟨k', .ob (.by_ L)⟩) (hk : k = k') (hlo : loOf σ lo = some l) (hhi : hiOf σ L.length hi = some h) (hb : 0 ≤ l ∧ l ≤ h ∧ h ≤ L.length)
    (hK : Exec P X n ops os (mkG gt σ (x :: (lo.toList ++ hi.toList)) [s] d (.os s k 1 l.toNat h.toNat) [] :: acc) (σ.put d (.os s k 1 l.toNat h.toNat)) K) : Op1 P X n ops gt ⟨d, .slice t x lo hi none, ty, ps, af, g⟩ os acc σ K := by
  refine ⟨⟨mkR σ (x :: (lo.toList ++ hi.toList)) [s] d (.os s k 1 l.toNat h.toNat) [], rule_val rfl fun M ρ τ a w hf hR => ?_, mkR_fires _ _ _ _ _ _, hK⟩⟩
  subst hk
  have hHs := (mkR_H hf (s := s) (by simp)).trans hH
  have h1 := hR.ev x
  rw [mkR_ev hf (by simp), hx] at h1
  obtain ⟨g', c, cur, t', fz, b1, b2, b3, b4, b5, b6, b7⟩ := hR.by_at hHs
  have e1 := h1.own_inv
  rw [b1] at e1
  injection e1 with e1
  obtain ⟨p1, p2, p3⟩ := hb
  have el : (l.toNat : Int) = l := Int.toNat_of_nonneg p1
  have eh : (h.toNat : Int) = h := Int.toNat_of_nonneg (by omega)
  have hl : ((lo.map a.eval) = none ∧ l.toNat = 0) ∨ ∃ k, lo.map a.eval = some (.int k (l.toNat : Int)) := by
    cases lo with
    | none => injection hlo with hlo; subst hlo; exact .inl ⟨rfl, rfl⟩
    | some o =>
      obtain ⟨k, hk⟩ := loOf_some hlo
      exact .inr ⟨k, by rw [Option.map_some, eval_v hR (mkR_ev hf (by simp)) hk, el]⟩
  have hh : ((hi.map a.eval) = none ∧ h.toNat = L.length) ∨ ∃ k, hi.map a.eval = some (.int k (h.toNat : Int)) := by
    cases hi with
    | none => injection hhi with hhi; subst hhi; exact .inl ⟨rfl, by omega⟩
    | some o =>
      obtain ⟨k, hk⟩ := hiOf_some hhi
      exact .inr ⟨k, by rw [Option.map_some, eval_v hR (mkR_ev hf (by simp)) hk, eh]⟩
  have hr := run_sliceAt' (P := P) (A := some ⟨g', 0, none⟩) (cap := c) (tab_sle hTB hs) (run_size hTB hz) (show l.toNat ≤ h.toNat by omega) (show h.toNat ≤ L.length by omega) b3 hl hh w
  refine ⟨_, w, M, ρ, by unfold execOp; simp only [← e1, Option.map_none, Sem.run_bind, hr]; rfl, hR, .os _ s k 1 l.toNat h.toNat g' _ c _ b1 (fun hlt => ?_) (fun h0 => ?_)⟩
  · rw [if_neg (by omega), Option.map_some, Addr.add_mid, Nat.zero_add]
  · split
    · rfl
    · rw [Option.map_some, Addr.add_mid, h0]
omit hTB in
/-- string(b[lo:hi]). -/
theorem x_conv_osb {d : Option Nat} {src dst e : TypeId} {x : Operand} {s k k' lo hi : Nat} {L : List Int} (hs : P.underlying src = some (.slice e)) (he : P.underlying e = some (.int .u8)) (hd : P.underlying dst = some .string) (hx : ev σ x = .os s k 1 lo hi) (hH : σ.H s = ⟨k', .ob (.by_ L)⟩) (hk : k = k') (hlt : lo < hi) (hhi : hi ≤ L.length)
    (h : Exec P X n ops os (mkG gt σ [x] [s] d (.v (.string (strOfNums ((L.take hi).drop lo)))) [] :: acc) (σ.put d (.v (.string (strOfNums ((L.take hi).drop lo))))) K) : Op1 P X n ops gt ⟨d, .convert src dst x, ty, ps, af, g⟩ os acc σ K := by
  refine ⟨⟨mkR σ [x] [s] d (.v (.string (strOfNums ((L.take hi).drop lo)))) [], rule_val rfl fun M ρ τ a w hf hR => ?_, mkR_fires _ _ _ _ _ _, h⟩⟩
  subst hk
  have hHs := (mkR_H hf (s := s) (by simp)).trans hH
  have h1 := hR.ev x
  rw [mkR_ev hf (by simp), hx] at h1
  obtain ⟨g, cap, cur, t', fz, b1, b2, b3, b4, b5, b6, b7⟩ := hR.by_at hHs
  obtain ⟨g', l, c, A, e1, e2, e3, e4⟩ := h1.os_inv
  rw [b1] at e1
  injection e1 with e1
  injection e1 with e1 e1' e1''
  injection e1 with e1
  injection e1 with e1
  subst e1
  have hA := e2 hlt
  rw [Nat.mul_one] at hA
  subst hA
  refine ⟨.string (strOfNums ((L.take hi).drop lo)), w, M, ρ, ?_, hR, .v _ _⟩
  have hlen : ((L.take hi).drop lo).length = hi - lo := by rw [List.length_drop, List.length_take, Nat.min_eq_left hhi]
  have hr := run_convert_bytes_arg (P := P) w src e hs he g lo (hi - lo) (c - lo) ((L.take hi).drop lo) hlen (fun i hi' => by
    obtain ⟨z, hz⟩ := some_at (L := (L.take hi).drop lo) (k := i) (by rw [hlen]; exact hi')
    rw [cell_of_row w g (lo + i) ⟨cur⟩ t' fz b2]
    rw [List.getD_eq_getElem?_getD, hz]
    rw [List.getElem?_drop, List.getElem?_take] at hz
    split at hz
    · have := b6 (lo + i) z hz
      simpa using this
    · cases hz) dst hd
  unfold execOp
  simp only [e4, Sem.run_bind, hr]
  rfl
end
end Go.Proofs.YtblopmoapfcfhaaDoor
