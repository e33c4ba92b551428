/- Parts of own buffers: sliced, measured, and laid behind one another in place; conditions: tables of types that agree with the program's. -/
import Derived.Test.YtgpglcccjkpmdaaDoorAbsX
set_option linter.unusedVariables false
set_option linter.unusedSimpArgs false
namespace Go.Proofs.YtgpglcccjkpmdaaDoor
open Go Go.RowKit
theorem Rep.os_inv {M : Nat → Option (Array Value)} {ρ : Nat → Nat → Option Value} {s k sz lo hi : Nat} {u : Value} (h : Rep M ρ (.os s k sz lo hi) u) : ∃ (g l c : Nat) (A : Option Addr), ρ s k = some (.slice (some ⟨g, 0, none⟩) l c) ∧ (lo < hi → A = some ⟨g, lo * sz, none⟩) ∧ (lo = 0 → A = some ⟨g, 0, none⟩) ∧ u = .slice A (hi - lo) (c - lo) := by
  cases h with
  | os _ _ _ _ _ _ g l c A h hA h0 => exact ⟨g, l, c, A, h, hA, h0, rfl⟩
theorem flat_take0 {sz : Nat} : ∀ (L : List AV) (i : Nat), (∀ x ∈ L, x.cells.length = sz) → (L.take i).flatMap AV.cells = (L.flatMap AV.cells).take (i * sz) ∧ (L.drop i).flatMap AV.cells = (L.flatMap AV.cells).drop (i * sz)
  | [], i, _ => by simp
  | x :: L, 0, _ => by simp
  | x :: L, i + 1, h => by
    obtain ⟨h1, h2⟩ := flat_take0 L i fun y hy => h y (by simp [hy])
    have hx := h x (by simp)
    have hle : x.cells.length ≤ sz + i * sz := by rw [hx]; exact Nat.le_add_right _ _
    have he : sz + i * sz - x.cells.length = i * sz := by rw [hx]; exact Nat.add_sub_cancel_left _ _
    rw [List.take_succ_cons, List.drop_succ_cons, List.flatMap_cons, List.flatMap_cons, h1, h2, Nat.succ_mul, Nat.add_comm (i * sz) sz]
    constructor
    · rw [List.take_append, List.take_of_length_le hle, he]
    · rw [List.drop_append, List.drop_of_length_le hle, List.nil_append, he]
section
variable {P : Program} {X : Ctx} {n : Nat} {ops : Array Oper} {os : List Oper} {acc : List Rule} {σ : AS} {K : List Rule → AS → Prop} {gt : List (Nat × AV)} {ty : TypeId} {ps : String} {af : Array Edge} {g : Option (Nat × Bool)}
variable {TB : Tabs} (hTB : TabsOk P TB)
include hTB
theorem x_slice_os {d : Option Nat} {t : TypeId} {x : Operand} {lo hi : Option Operand} {s k k' sz e e' : Nat} {b : Bool} {L : List AV} {l h : Int} (hs : lk TB.sle t = some e) (hz : lk TB.ty e = some (b, sz)) (hx : ev σ x = .own s k) (hH : σ.H s = ⟨k', .buf e' sz L⟩) (hk : k = k') (hlo : loOf σ lo = some l) (hhi : hiOf σ L.length hi = some h) (hb : 0 ≤ l ∧ l ≤ h ∧ h ≤ L.length) (hpos : 0 < L.length)
    (hK : Exec P X n ops os (mkG gt σ (x :: (lo.toList ++ hi.toList)) [s] d (.os s k sz l.toNat h.toNat) [] :: acc) (σ.put d (.os s k sz l.toNat h.toNat)) K) : Op1 P X n ops gt ⟨d, .slice t x lo hi none, ty, ps, af, g⟩ os acc σ K := by
  refine ⟨⟨mkR σ (x :: (lo.toList ++ hi.toList)) [s] d (.os s k sz l.toNat h.toNat) [], rule_val rfl fun M ρ τ a w hf hR => ?_, mkR_fires _ _ _ _ _ _, hK⟩⟩
  subst hk
  have hHs := (mkR_H hf (s := s) (by simp)).trans hH
  have h1 := hR.ev x
  rw [mkR_ev hf (by simp), hx] at h1
  obtain ⟨g', c, cl, us, b1, b2, b3, b4, b5, b6, -⟩ := BufAt.some_ (hR.buf s k e' sz L hHs) hpos
  have e1 := h1.own_inv
  rw [b1] at e1
  injection e1 with e1
  obtain ⟨c1, c2, c3⟩ := hb
  have el : (l.toNat : Int) = l := Int.toNat_of_nonneg c1
  have eh : (h.toNat : Int) = h := Int.toNat_of_nonneg (by omega)
  have hl : ((lo.map a.eval) = none ∧ l.toNat = 0) ∨ ∃ k, lo.map a.eval = some (.int k (l.toNat : Int)) := by
    cases lo with
    | none => injection hlo with hlo; subst hlo; exact .inl ⟨rfl, rfl⟩
    | some o =>
      obtain ⟨k, hk⟩ := loOf_some hlo
      exact .inr ⟨k, by rw [Option.map_some, eval_v hR (mkR_ev hf (by simp)) hk, el]⟩
  have hh : ((hi.map a.eval) = none ∧ h.toNat = L.length) ∨ ∃ k, hi.map a.eval = some (.int k (h.toNat : Int)) := by
    cases hi with
    | none => injection hhi with hhi; subst hhi; exact .inl ⟨rfl, by omega⟩
    | some o =>
      obtain ⟨k, hk⟩ := hiOf_some hhi
      exact .inr ⟨k, by rw [Option.map_some, eval_v hR (mkR_ev hf (by simp)) hk, eh]⟩
  have hr := run_sliceAt' (P := P) (A := some ⟨g', 0, none⟩) (cap := c) (tab_sle hTB hs) (run_size hTB hz) (show l.toNat ≤ h.toNat by omega) (show h.toNat ≤ L.length by omega) b5 hl hh w
  refine ⟨_, w, M, ρ, by unfold execOp; simp only [← e1, Option.map_none, Sem.run_bind, hr]; rfl, hR, .os _ s k sz l.toNat h.toNat g' _ c _ b1 (fun hlt => ?_) (fun h0 => ?_)⟩
  · rw [if_neg (by omega), Option.map_some, Addr.add_mid, Nat.zero_add]
  · split
    · rfl
    · rw [Option.map_some, Addr.add_mid, h0]; simp
theorem x_len_os {d : Option Nat} {t : TypeId} {x : Operand} {s k sz e lo hi : Nat} (hs : lk TB.sle t = some e) (hx : ev σ x = .os s k sz lo hi)
    (h : Exec P X n ops os (mkG gt σ [x] [] d (.v (.int .i64 ((hi - lo : Nat) : Int))) [] :: acc) (σ.put d (.v (.int .i64 ((hi - lo : Nat) : Int)))) K) : Op1 P X n ops gt ⟨d, .call ⟨.builtin .len, #[x], #[t]⟩, ty, ps, af, g⟩ os acc σ K :=
  x_pure (fun M ρ τ a w he hR => by
    have h1 := hR.ev x
    rw [he x (by simp), hx] at h1
    obtain ⟨g', l, c, A, e1, e2, e3, e4⟩ := h1.os_inv
    refine ⟨goInt ((hi - lo : Nat) : Int), ?_, .v _ _⟩
    unfold execOp
    simp [resolve, invoke, builtin, e4, Builtin.len_, run_underlying (tab_sle hTB hs)]) h
/-- append(l[:i], l[j:]...) of an own buffer, i ≤ j: in place. -/
theorem x_append_os {d : Nat} {t : TypeId} {x y : Operand} {s k k' e sz by_ k0 i j : Nat} {c0 : Cont} {b : Bool} {zs : List Value} {L : List AV} (hs : lk TB.sle t = some e) (hz : lk TB.ty e = some (b, sz)) (hzr : lk TB.zer e = some zs) (hby : lk TB.byt e = some by_) (hzl : zs.length = sz) (hpos : 0 < sz)
    (hx : ev σ x = .os s k sz 0 i) (hy : ev σ y = .os s k sz j L.length) (hHs : σ.H s = ⟨k', .buf e sz L⟩) (hk : k = k') (hH : σ.H d = ⟨k0, c0⟩) (hij : i ≤ j) (hj : j ≤ L.length) (hb : L.length * by_ ≤ 140737488355328) (hm : L.length ≤ 9223372036854775807) (hL : 0 < L.length)
    (h : Exec P X n ops os (mkG gt σ [x, y] [s, d] (some d) (.own d (k0 + 1)) [(s, ⟨k', .dead⟩), (d, ⟨k0 + 1, .buf e sz (L.take i ++ L.drop j)⟩)] :: acc) (((σ.hup s ⟨k', .dead⟩).hup d ⟨k0 + 1, .buf e sz (L.take i ++ L.drop j)⟩).put (some d) (.own d (k0 + 1))) K) : Op1 P X n ops gt ⟨some d, .call ⟨.builtin .append, #[x, y], #[t, t]⟩, ty, ps, af, g⟩ os acc σ K := by
  obtain rfl : (σ.H d).k = k0 := by rw [hH]
  subst hk
  refine ⟨⟨mkR σ [x, y] [s, d] (some d) (.own d ((σ.H d).k + 1)) [(s, ⟨k, .dead⟩), (d, ⟨(σ.H d).k + 1, .buf e sz (L.take i ++ L.drop j)⟩)], rule_val rfl fun M ρ τ a w hf hR => ?_, mkR_fires _ _ _ _ _ _, h⟩⟩
  have hHd := mkR_H hf (s := d) (by simp)
  have hHs' := (mkR_H hf (s := s) (by simp)).trans hHs
  obtain ⟨i0, z, t1, t2, t3, t4, t5, t6⟩ := tab_el hTB hs hz hzr hby hzl
  have h1 := hR.ev x
  rw [mkR_ev hf (by simp), hx] at h1
  have h2 := hR.ev y
  rw [mkR_ev hf (by simp), hy] at h2
  obtain ⟨u, us, b1, b2, b3, b4, b5, b6⟩ := hR.buf s k e sz L hHs'
  obtain ⟨g1, l1, c1, A1, e1, -, e3, e4⟩ := h1.os_inv
  obtain ⟨g2, l2, c2, A2, f1, f2, -, f4⟩ := h2.os_inv
  rw [e1] at b1 f1
  injection b1 with b1
  subst b1
  injection f1 with f1
  injection f1 with f1 f1' f1''
  injection f1 with f1
  injection f1 with f1
  subst f1; subst f1'; subst f1''
  have hA1 := e3 rfl
  subst hA1
  rw [Nat.sub_zero, Nat.sub_zero] at e4
  obtain ⟨b2, b2m⟩ := b2
  have hul : us.length = L.length * sz := b2.1
  rcases b2.2 with ⟨q0, -⟩ | ⟨g', cap, cur, q1, q2, q3, q4, q5, q6, q7⟩
  · cases q0
  injection q1 with q1 q1' q1''
  injection q1 with q1
  injection q1 with q1
  subst q1; subst q1'; subst q1''
  obtain ⟨cl⟩ := cur
  have q7' : cl.take (L.length * sz) = us := q7
  have hsplit : i * sz ≤ L.length * sz := Nat.mul_le_mul_right _ (by omega)
  have hsplit2 : j * sz ≤ L.length * sz := Nat.mul_le_mul_right _ (by omega)
  have hpre : w.ownsRow 0 e sz (.slice (some ⟨g1, 0, none⟩) i c1) i (us.take (i * sz)) := by
    refine ⟨by rw [List.length_take, hul, Nat.min_eq_left hsplit], .inr ⟨g1, c1, ⟨cl⟩, rfl, q2, q3, by omega, q5, q6, ?_⟩⟩
    show cl.take (i * sz) = us.take (i * sz)
    rw [← q7', List.take_take, Nat.min_eq_left hsplit]
  have hus1 : ∀ v ∈ us, v.oneCell' = true := fun v hv => by
    obtain ⟨r, hr⟩ := List.getElem?_of_mem hv
    obtain ⟨z', hz'⟩ := some_at (L := L.flatMap AV.cells) (k := r) (by have := lt_at hr; omega)
    exact (b6 r z' v hz' hr).2
  have hnews : 0 < L.length - j → ∃ ad, A2 = some ad ∧ ∀ r v, (us.drop (j * sz))[r]? = some v → w.cell? (ad.add r) = some v := fun hp => by
    refine ⟨⟨g1, j * sz, none⟩, f2 (by omega), fun r v hr => ?_⟩
    rw [List.getElem?_drop, ← q7', List.getElem?_take] at hr
    split at hr
    · rw [Addr.add_lit, cell_of_row w g1 _ ⟨cl⟩ e (0, 0) q3]
      simpa using hr
    · cases hr
  obtain ⟨v', w', hrun, r1, r2, r3⟩ := run_append_any (P := P) w 0 t ty e i0 z sz by_ t1 t2 t3 t4 t5 t6 hpos (.slice (some ⟨g1, 0, none⟩) i c1) i (us.take (i * sz)) hpre A2 (L.length - j) (c1 - j) (us.drop (j * sz)) (by rw [List.length_drop, hul, ← Nat.sub_mul]) hnews (fun v hv => hus1 v (List.mem_of_mem_drop hv)) (by simp only [maxLen]; omega) (Nat.le_trans (Nat.mul_le_mul_right _ (by omega)) hb) (Nat.zero_le _)
  have hweak : Rel X n M ρ (τ.hup s ⟨k, .dead⟩) a w := hR.weak ⟨fun _ => .inl rfl, fun s' => by
    simp only [AS.hup]
    by_cases hs' : s' = s
    · subst hs'; rw [Nat.beq_refl]; exact ⟨by rw [hHs']; rfl, .inr rfl⟩
    · rw [beq_ne hs']; exact ⟨rfl, .inl rfl⟩⟩
  have hkd : ((τ.hup s ⟨k, .dead⟩).H d).k = (σ.H d).k := by
    simp only [AS.hup]
    by_cases hs' : d = s
    · subst hs'; rw [Nat.beq_refl, ← hHd, hHs']; rfl
    · rw [beq_ne hs']; exact congrArg HC.k hHd
  have hb0 : ∀ g, vblk (.slice (some ⟨g1, 0, none⟩) i c1) = some g → blkOf ρ s (τ.H s) = some g := fun g hg => by
    simp [vblk] at hg
    subst hg
    rw [hHs']; simp [blkOf, e1, vblk]
  have hflat : (L.take i ++ L.drop j).flatMap AV.cells = (L.flatMap AV.cells).take (i * sz) ++ (L.flatMap AV.cells).drop (j * sz) := by
    rw [List.flatMap_append, (flat_take0 L i b5).1, (flat_take0 L j b5).2]
  have hA := hweak.appendTo d (L := L.take i ++ L.drop j) ⟨hpre, fun g hg => b2m g hg⟩ (by rw [List.length_append, List.length_take, List.length_drop, Nat.min_eq_left (by omega)]; exact r1) r2 (r3.imp id fun e => ⟨_, Nat.le_refl _, e⟩) (fun g hg => b3 g hg) (fun s' g hg hs' => by
      simp only [AS.hup] at hs'
      by_cases he : s' = s
      · subst he; rw [Nat.beq_refl] at hs'; simp [blkOf] at hs'
      · rw [beq_ne he] at hs'; exact he (hR.sep s' s g hs' (hb0 g hg)))
    (by rw [hflat]; simp only [List.length_append, List.length_take, List.length_drop, b4]) (fun x hx => (List.mem_append.1 hx).elim (fun h => b5 x (List.mem_of_mem_take h)) (fun h => b5 x (List.mem_of_mem_drop h))) (fun r x y hx hy => by
      rw [hflat, List.getElem?_append] at hx
      rw [List.getElem?_append] at hy
      have el : ((L.flatMap AV.cells).take (i * sz)).length = (us.take (i * sz)).length := by rw [List.length_take, List.length_take, b4]
      rw [el] at hx
      split at hx
      · rename_i hr
        rw [if_pos hr] at hy
        rw [List.getElem?_take] at hx hy
        split at hx
        · rename_i hr2; rw [if_pos hr2] at hy; exact b6 r x y hx hy
        · cases hx
      · rename_i hr
        rw [if_neg hr] at hy
        rw [List.getElem?_drop] at hx hy
        exact b6 _ x y hx hy)
  rw [hkd] at hA
  refine ⟨v', w', M, _, ?_, hA, .own _ _ _ _ (by simp [updρ]) (vblk_own r1).2⟩
  unfold execOp
  simp [resolve, invoke, builtin, e4, f4, hrun]
end
section
variable {P : Program} {X : Ctx} {n : Nat} {σ : AS} {Q : Exit → AS → Prop} {c : Code}
/-- A buffer of the frame's own, under another site's name. -/
theorem awp_reown {t s d k kd e sz : Nat} {c0 : Cont} {L : List AV} (hT : σ.T t = .own s k) (hHs : σ.H s = ⟨k, .buf e sz L⟩) (hH : σ.H d = ⟨kd, c0⟩) (hne : d ≠ s)
    (h : AWp P X n c Q (((σ.hup s ⟨k, .dead⟩).hup d ⟨kd + 1, .buf e sz L⟩).put (some t) (.own d (kd + 1)))) : AWp P X n c Q σ := by
  refine ⟨fun M ρ a w hR => ?_⟩
  obtain rfl : (σ.H d).k = kd := by rw [hH]
  obtain ⟨u, us, b1, b2, b3, b4, b5, b6⟩ := hR.buf s k e sz L hHs
  have hto := hR.tm t
  rw [hT] at hto
  have hu := hto.own_inv
  rw [b1] at hu
  injection hu with hu
  have hweak : Rel X n M ρ (σ.hup s ⟨k, .dead⟩) a w := hR.weak ⟨fun _ => .inl rfl, fun s' => by
    simp only [AS.hup]
    by_cases hs' : s' = s
    · subst hs'; rw [Nat.beq_refl]; exact ⟨by rw [hHs]; rfl, .inr rfl⟩
    · rw [beq_ne hs']; exact ⟨rfl, .inl rfl⟩⟩
  have hkd : ((σ.hup s ⟨k, .dead⟩).H d).k = (σ.H d).k := by simp only [AS.hup, beq_ne hne]; rfl
  have hA := hweak.appendTo d (L := L) (w' := w) (news := []) (v' := u) b2 (by rw [List.append_nil]; exact b2.1) ⟨rfl, rfl, rfl, Nat.le_refl _, fun _ _ _ => rfl⟩ (.inl rfl) b3 (fun s' g hg hs' => by
      simp only [AS.hup] at hs'
      by_cases he : s' = s
      · subst he; rw [Nat.beq_refl] at hs'; simp [blkOf] at hs'
      · rw [beq_ne he] at hs'; exact he (hR.sep s' s g hs' (by rw [hHs]; simp [blkOf, b1, hg])))
    (by rw [List.append_nil]; exact b4) b5 (by rw [List.append_nil]; exact b6)
  rw [hkd] at hA
  refine h.run M _ a w ⟨hA.live, hA.sz, fun j => ?_, hA.box, hA.buf, hA.sep, hA.fresh, hA.glob, hA.base, hA.root, hA.os, hA.tape, hA.output, hA.size, hA.frame, hA.df, hA.mp⟩
  show Rep M _ (bif Nat.beq j t then .own d ((σ.H d).k + 1) else σ.T j) _
  by_cases he : j = t
  · subst he
    rw [Nat.beq_refl]
    refine .own _ _ _ _ (by simp [updρ, hu]) ?_
    rw [← hu]
    exact (vblk_own b2.1).2
  · rw [beq_ne he]; exact hA.tm j
end
end Go.Proofs.YtgpglcccjkpmdaaDoor
