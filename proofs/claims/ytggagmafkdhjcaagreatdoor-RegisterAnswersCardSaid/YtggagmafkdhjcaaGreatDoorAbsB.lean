/- Builders of texts in the abstract machine: a builder is an object at a site, its bytes are a buffer at another; conditions: none. -/
import Derived.Test.YtggagmafkdhjcaaGreatDoorAbsX
import Derived.Lib.Builder
import Derived.Lib.AppendStr
set_option linter.unusedVariables false
set_option linter.unusedSimpArgs false
namespace Go.Proofs.YtggagmafkdhjcaaGreatDoor
open Go Go.RowKit
section
variable {P : Program} (w : World)
/-- Where the row of an append of a string lies. -/
theorem append_str_at (base : Nat) (t u ty e : TypeId) (i : TypeInfo) (ht : P.underlying t = some (.slice e)) (hu : P.underlying u = some .string) (hi : P.info? e = some i) (hz : i.zero = some (.int .u8 0)) (hsize : i.size = 1) (hby : i.bytes = 1)
    (v : Value) (n : Nat) (xs : List Value) (hown : w.ownsRow base e 1 v n xs) (s : ByteArray) (h63 : n + s.size ≤ maxLen) (hbytes : n + s.size ≤ 140737488355328) {v' : Value} {w' : World}
    (hrun : (Builtin.append_ #[t, u] ty #[v, .string s]).run P w = .ok v' w') : v'.ownBlock = v.ownBlock ∨ v'.ownBlock = some w.heap.size := by
  rcases hown.2 with ⟨rfl, rfl⟩ | ⟨g, cap, cur, rfl, hbg, hg, hnc, hcm, hcs, htake⟩
  · by_cases hm : s.size = 0
    · have hf := Lib.run_firstCells_string (P := P) w 1 s
      have hn : Lib.strCells s = [] := List.eq_nil_of_length_eq_zero (by rw [Lib.strCells_length]; exact hm)
      rw [hm] at hf
      have : (Builtin.append_ #[t, u] ty #[.slice none 0 0, .string s]).run P w = .ok (.slice none 0 0) w := by
        simp [Builtin.append_, run_underlying ht, run_underlying hu, sizeOf, typeInfo, hi, hsize, Builtin.lenOf, hm, hf]
      rw [this] at hrun
      injection hrun with e1 e2
      subst e1
      exact .inl rfl
    · have hr := run_append_nil_string (P := P) w t u ty e i (.int .u8 0) ht hu hi hz s (by omega) (by unfold maxLen at h63; omega) (by rw [hby]; omega)
      rw [hr] at hrun
      injection hrun with e1 e2
      subst e1
      exact .inr rfl
  · by_cases hroom : n + s.size ≤ cap
    · have hcs' : cur.size = cap := by simpa using hcs
      have hr := Lib.run_append_room_string (P := P) w t u ty e i ht hu hi hsize g n cap cur hg s hroom (by omega)
      rw [hr] at hrun
      injection hrun with e1 e2
      subst e1
      exact .inl rfl
    · have hxl : xs.length = n := by simpa using hown.1
      have holds : ∀ j u, xs[j]? = some u → w.cell? ((⟨g, 0, none⟩ : Addr).add j) = some u := hown.cells (g := g) rfl
      have hr := Lib.run_append_grow_string (P := P) w t u ty e i (.int .u8 0) ht hu hi hz ⟨g, 0, none⟩ n cap xs (by rw [hsize]; simpa using hxl) holds s (by omega) (by unfold maxLen at h63; omega) (by rw [hby]; exact growslice_fits (by omega) (by omega))
      rw [hr] at hrun
      injection hrun with e1 e2
      subst e1
      exact .inr rfl
theorem wpList_append_str {ops : Array Oper} {rest : List Oper} {o : Oper} {a : Act} {Q : Exit → Act → World → Prop} (hgd : o.guard = none) (sl x : Operand) (t u : TypeId)
    (ho : o.op = .call { callee := .builtin .append, args := #[sl, x], argTypes := #[t, u] })
    (base : Nat) (e : TypeId) (i : TypeInfo) (ht : P.underlying t = some (.slice e)) (hu : P.underlying u = some .string) (hi : P.info? e = some i) (hz : i.zero = some (.int .u8 0))
    (hsize : i.size = 1) (hby : i.bytes = 1)
    (v : Value) (n : Nat) (xs : List Value) (hs : a.eval sl = v) (hown : w.ownsRow base e 1 v n xs) (s : ByteArray) (hx : a.eval x = .string s)
    (h63 : n + s.size ≤ maxLen) (hbytes : n + s.size ≤ 140737488355328) (hbase : base ≤ w.heap.size)
    (h : ∀ v' w', w'.ownsRow base e 1 v' (n + s.size) (xs ++ Lib.strCells s) → w.grownBy w' v.ownBlock → (v'.ownBlock = v.ownBlock ∨ v'.ownBlock = some w.heap.size) → wpList P ops Q rest (a.put o.dst v') w') : wpList P ops Q (o :: rest) a w := by
  refine wpList_plain hgd fun K hK => ?_
  obtain ⟨v', w', hr, h2, h3, h4⟩ := Lib.run_append_own_string (P := P) w base t u o.type e i ht hu hi hz hsize hby v n xs hown s h63 hbytes hbase
  have h5 := append_str_at w base t u o.type e i ht hu hi hz hsize hby v n xs hown s h63 hbytes hr
  unfold Oper.wp execOp
  simp only [ho, resolve, invoke, builtin, Sem.run_bind, Sem.run_pure, Result.andThen_ok, List.map_toArray, List.map_cons, List.map_nil, hs, hx, hr]
  exact hK _ _ (h v' w' h2 h3 h5)
end
/-- A byte in a buffer. -/
def bv (c : UInt8) : AV := .v (.int .u8 c.toNat)
theorem bv_flat : ∀ l : List UInt8, (l.map bv).flatMap AV.cells = l.map bv
  | [] => rfl
  | c :: l => by rw [List.map_cons, List.flatMap_cons, bv_flat l]; rfl
theorem bv_cells (l : List UInt8) : ∀ x ∈ l.map bv, x.cells.length = 1 := fun x hx => by
  obtain ⟨c, -, rfl⟩ := List.mem_map.1 hx
  rfl
def byC (l : List UInt8) : List Value := l.map fun c => .int .u8 c.toNat
theorem byC_len (l : List UInt8) : (byC l).length = l.length := by simp [byC]
/-- What a method that writes into a builder does. -/
def BdCalls (P : Program) (f : FuncId) (T e : TypeId) (v r : Value) (news : List UInt8) : Prop :=
  Enter P f ∧ ∀ (B b : Nat) (p u : Value) (bs : List Value) (w : World), B ≤ b → w.heap[b]? = some (.cells ⟨[p, u]⟩ T (0, 0)) → (p = .pointer none ∨ p = .pointer (some ⟨b, 0, none⟩)) → w.ownsRow B e 1 u bs.length bs → u.ownBlock ≠ some b → bs.length + news.length ≤ 140737488355328 → B ≤ w.heap.size →
    Calls P f ⟨[.pointer (some ⟨b, 0, none⟩), v]⟩ w fun en w' => en = .returned r ∧ ∃ w1 w2 u', (w1 = w ∨ w1 = w.setCells b 0 [.pointer (some ⟨b, 0, none⟩)]) ∧ w1.heap[b]? = some (.cells ⟨[.pointer (some ⟨b, 0, none⟩), u]⟩ T (0, 0)) ∧
      w1.grownBy w2 u.ownBlock ∧ w2.ownsRow B e 1 u' (bs.length + news.length) (bs ++ byC news) ∧ (u'.ownBlock = u.ownBlock ∨ ∃ g, w1.heap.size ≤ g ∧ u'.ownBlock = some g) ∧ w' = w2.setCells b 1 [u']
/-- What a builder's text comes to. -/
def BdStr (P : Program) (f : FuncId) (T e : TypeId) : Prop :=
  Enter P f ∧ ∀ (B b : Nat) (p u : Value) (l : List UInt8) (w : World), B ≤ b → w.heap[b]? = some (.cells ⟨[p, u]⟩ T (0, 0)) → w.ownsRow B e 1 u l.length (byC l) → B ≤ w.heap.size →
    Calls P f ⟨[.pointer (some ⟨b, 0, none⟩)]⟩ w fun en w' => en = .returned (.string ⟨l.toArray⟩) ∧ w.grownBy w' u.ownBlock
section
variable {P : Program} {X : Ctx} {n : Nat} {M : Nat → Option (Array Value)} {ρ : Nat → Nat → Option Value} {σ : AS} {a : Act} {w : World}
/-- A change in a row that nobody holds. -/
theorem Rel.away (h : Rel X n M ρ σ a w) {w' : World} {row : Option Nat} (hg : w.grownBy w' row) (hM : ∀ g, row = some g → M g = none) (hne : ∀ s' g, row = some g → blkOf ρ s' (σ.H s') ≠ some g) (hb : ∀ g, row = some g → X.w0.heap.size ≤ g ∨ g ∈ X.gs) : Rel X n M ρ σ a w' := by
  have hkeep : ∀ s' g, blkOf ρ s' (σ.H s') = some g → w'.heap[g]? = w.heap[g]? := fun s' g hg' => hg.block g (h.blk_lt hg').1 (fun e => hne s' g e.symm hg')
  refine ⟨fun g arr hgm => ?_, h.sz, h.tm, fun s' k cs' e => ?_, fun s' k e1 sz1 L1 he => ?_, h.sep, h.fresh, h.glob, h.base, h.root, hg.os.trans h.os, hg.tape.trans h.tape, hg.output.trans h.output, Nat.le_trans h.size hg.size, fun g hgl hn => ?_, h.df, fun s' k L1 he => ?_⟩
  · obtain ⟨t, fr, hh⟩ := h.live g arr hgm
    refine ⟨t, fr, (hg.block g (h.lt hgm) (fun e => ?_)).trans hh⟩
    rw [hM g e.symm] at hgm
    cases hgm
  · exact (h.box s' k cs' e).mono (fun _ _ e => e) (fun _ _ _ e => e) (fun g hg' => hkeep s' g (by rw [e]; simp [blkOf, hg', vblk])) (fun _ _ e => e)
  · exact (h.buf s' k e1 sz1 L1 he).mono (fun _ _ e => e) (fun _ _ _ e => e) (fun u g hu hg' => hkeep s' g (by rw [he]; simp [blkOf, hu, hg'])) (fun _ _ _ _ e => e)
  · rw [hg.block g (Nat.lt_of_lt_of_le hgl h.size) (fun e => (hb g e.symm).elim (fun h1 => absurd hgl (Nat.not_lt.2 h1)) hn)]
    exact h.frame g hgl hn
  · exact (h.mp s' k L1 he).mono (fun _ _ _ e => e) (fun g hg' => hkeep s' g (h.mp_blk he hg')) (fun _ _ e => e)
end
section
variable {P : Program} {X : Ctx} {n : Nat} {ops : Array Oper} {os : List Oper} {acc : List Rule} {σ : AS} {K : List Rule → AS → Prop} {gt : List (Nat × AV)} {ty : TypeId} {ps : String} {af : Array Edge} {g : Option (Nat × Bool)}
theorem hup_same (σ : AS) (s : Nat) (h : HC) : (σ.hup s h).H s = h := by simp [AS.hup, Nat.beq_refl]
theorem hup_other (σ : AS) {s s' : Nat} (h : HC) (hs : s' ≠ s) : (σ.hup s h).H s' = σ.H s' := by simp [AS.hup, beq_ne hs]
theorem Rel.bytes_at {M : Nat → Option (Array Value)} {ρ : Nat → Nat → Option Value} {a : Act} {w : World} (h : Rel X n M ρ σ a w) {s k e : Nat} {L : List UInt8} (hH : σ.H s = ⟨k, .buf e 1 (L.map bv)⟩) : ∃ u, ρ s k = some u ∧ OwnsX X w e 1 u L.length (byC L) ∧ ∀ g, vblk u = some g → M g = none := by
  obtain ⟨u, us, b1, b2, b3, b4, b5, b6⟩ := h.buf s k e 1 _ hH
  have husl : us.length = (L.map bv).length := by rw [b4, bv_flat]
  have hus : us = byC L := by
    refine List.ext_getElem? fun j => ?_
    by_cases hj : j < us.length
    · obtain ⟨z, hz⟩ := some_at hj
      have hj2 : j < L.length := by rw [husl, List.length_map] at hj; exact hj
      obtain ⟨c, hc'⟩ := some_at hj2
      have := (b6 j (bv c) z (by rw [bv_flat, List.getElem?_map, hc']; rfl) hz).1
      cases this
      rw [hz]
      simp [byC, hc']
    · rw [List.getElem?_eq_none (by omega), List.getElem?_eq_none (by rw [byC_len]; rw [husl, List.length_map] at hj; omega)]
  subst hus
  rw [List.length_map] at b2
  exact ⟨u, b1, b2, b3⟩
/-- A builder is laid: its buffer stands at the site s2. -/
theorem x_alloc_bd {TB : Tabs} (hTB : TabsOk P TB) {d : Nat} {T e : TypeId} (s2 : Nat) {k0 k2 : Nat} {c0 c2 : Cont} (hz : lk TB.zer T = some [.pointer none, .slice none 0 0]) (hs : d ≠ s2) (hH : σ.H d = ⟨k0, c0⟩) (hH2 : σ.H s2 = ⟨k2, c2⟩)
    (h : Exec P X n ops os (mkG gt σ [] [d, s2] (some d) (.ptr d (k0 + 1) 0) [(s2, ⟨k2 + 1, .buf e 1 []⟩), (d, ⟨k0 + 1, .ob (.bd T s2 (k2 + 1))⟩)] :: acc) (((σ.hup s2 ⟨k2 + 1, .buf e 1 []⟩).hup d ⟨k0 + 1, .ob (.bd T s2 (k2 + 1))⟩).put (some d) (.ptr d (k0 + 1) 0)) K) :
    Op1 P X n ops gt ⟨some d, .alloc T, ty, ps, af, g⟩ os acc σ K := by
  obtain rfl : (σ.H d).k = k0 := by rw [hH]
  obtain rfl : (σ.H s2).k = k2 := by rw [hH2]
  refine ⟨⟨mkR σ [] [d, s2] (some d) (.ptr d ((σ.H d).k + 1) 0) [(s2, ⟨(σ.H s2).k + 1, .buf e 1 []⟩), (d, ⟨(σ.H d).k + 1, .ob (.bd T s2 ((σ.H s2).k + 1))⟩)], rule_val rfl fun M ρ τ a w hf hR => ?_, mkR_fires _ _ _ _ _ _, h⟩⟩
  obtain ⟨i, z, h1, h2, h3⟩ := tab_zer hTB hz
  have hHd := mkR_H hf (s := d) (by simp)
  have hHs := mkR_H hf (s := s2) (by simp)
  have hA := hR.appendTo s2 (L := []) (w' := w) (news := []) (e := e) (sz := 1) (v' := .slice none 0 0) (nil_ownsX X w e 1) (nil_owns w 0 e 1) ⟨rfl, rfl, rfl, Nat.le_refl _, fun _ _ _ => rfl⟩ (.inl rfl) (by simp [vblk]) (by simp [vblk]) (by simp) (by simp) (by simp)
  rw [hHs] at hA
  have hN := hA.newOb d (v := .pointer (some ⟨w.heap.size, 0, none⟩)) (x := .cells ⟨[.pointer none, .slice none 0 0]⟩ T (0, 0)) (ob := .bd T s2 ((σ.H s2).k + 1)) rfl fun ρ' hm =>
    ⟨rfl, .pointer none, .slice none 0 0, hm s2 ((σ.H s2).k + 1) _ (by simp [updρ]), heap_alloc_new w _, .inl rfl⟩
  have hkd : ((τ.hup s2 ⟨(σ.H s2).k + 1, .buf e 1 []⟩).H d).k = (σ.H d).k := by rw [hup_other _ _ hs, hHd]
  rw [hkd] at hN
  refine ⟨.pointer (some ⟨w.heap.size, 0, none⟩), _, M, _, ?_, hN, .ptr _ _ _ _ _ (by simp [updρ])⟩
  have hzc : z.cells = #[.pointer none, .slice none 0 0] := by
    apply Array.ext'
    simpa using h3
  simp [execOp, Instr.alloc, zeroValue, typeInfo, h1, h2, newVar, newRow, hzc]
/-- A method writes into a builder. -/
theorem x_bd {f : FuncId} {tys : Array TypeId} {x y : Operand} {v r : Value} {news : List UInt8} {d : Option Nat} {s k k' s2 k2 k2' : Nat} {T e : TypeId} {L : List UInt8} (hc : BdCalls P f T e v r news) (hx : ev σ x = .ptr s k 0) (hy : ev σ y = .v v) (hH : σ.H s = ⟨k', .ob (.bd T s2 k2)⟩) (hk : k = k') (hH2 : σ.H s2 = ⟨k2', .buf e 1 (L.map bv)⟩) (hk2 : k2 = k2')
    (hlen : L.length + news.length ≤ 140737488355328)
    (h : Exec P X n ops os (mkG gt σ [x, y] [s, s2] d .junk [(s, ⟨k', .ob (.bd T s2 (k2' + 1))⟩), (s2, ⟨k2' + 1, .buf e 1 ((L ++ news).map bv)⟩)] :: acc) (((σ.hup s ⟨k', .ob (.bd T s2 (k2' + 1))⟩).hup s2 ⟨k2' + 1, .buf e 1 ((L ++ news).map bv)⟩).put d .junk) K) :
    Op1 P X n ops gt ⟨d, .call ⟨.value (.func f), #[x, y], tys⟩, ty, ps, af, g⟩ os acc σ K := by
  subst hk; subst hk2
  refine ⟨⟨mkR σ [x, y] [s, s2] d .junk [(s, ⟨k, .ob (.bd T s2 (k2 + 1))⟩), (s2, ⟨k2 + 1, .buf e 1 ((L ++ news).map bv)⟩)], fun hlt M ρ τ a w hf hR K Q hK => ?_, mkR_fires _ _ _ _ _ _, h⟩⟩
  have hHs := (mkR_H hf (s := s) (by simp)).trans hH
  have hHs2 := (mkR_H hf (s := s2) (by simp)).trans hH2
  have h1 := hR.ev x
  rw [mkR_ev hf (by simp), hx] at h1
  obtain ⟨b, g1, g2⟩ := h1.ptr_inv
  have h2 := eval_v hR (mkR_ev hf (x := y) (by simp)) hy
  obtain ⟨v0, b', hMg, o1, o2, o3, e1, p, u, e2, e3, e4⟩ := hR.mp s k _ hHs
  rw [g1] at o1
  injection o1 with o1
  subst o1
  simp [vblk] at o2
  subst o2
  obtain ⟨u', b1, b2, b3⟩ := hR.bytes_at hHs2
  rw [e2] at b1
  injection b1 with b1
  subst b1
  have hne2 : s2 ≠ s := fun e => by
    rw [e, hHs] at hHs2
    injection hHs2 with _ e
    cases e
  have hub : u.ownBlock ≠ some b := fun e => by
    have q1 : blkOf ρ s2 (τ.H s2) = some b := by rw [hHs2]; simp [blkOf, e2]; rw [(vblk_own b2.1).1]; exact e
    have q2 : blkOf ρ s (τ.H s) = some b := hR.mp_blk hHs (by rw [g1]; rfl)
    exact hne2 (hR.sep s2 s b q1 q2)
  unfold Oper.wp
  rw [run_callF hc.1, Oper.upon_enter]
  have hbl : (byC L).length = L.length := byC_len L
  rw [← hbl] at b2
  have hcc := hc.2 0 b p u (byC L) w (Nat.zero_le _) e3 e4 b2.1 hub (by rw [hbl]; exact hlen) (Nat.zero_le _)
  have ea : List.map a.eval [x, y] = [.pointer (some ⟨b, 0, none⟩), v] := by simp [g2, h2]
  rw [ea]
  refine hcc.mono ?_
  rintro en w' ⟨rfl, w1, w2, u', hw1, hb1, hg, hown', hat, rfl⟩
  have R1 : Rel X n M ρ (τ.hup s ⟨k, .ob (.bd T s2 k2)⟩) a w1 := by
    rcases hw1 with rfl | rfl
    · refine hR.weak ⟨fun _ => .inl rfl, fun s' => ?_⟩
      by_cases hs' : s' = s
      · subst hs'; rw [hup_same, hHs]; exact ⟨rfl, .inl rfl⟩
      · rw [hup_other _ _ hs']; exact ⟨rfl, .inl rfl⟩
    · exact hR.storeObC hHs g1 rfl o3 ⟨rfl, _, u, e2, hb1, .inr rfl⟩
  have H2a : (τ.hup s ⟨k, .ob (.bd T s2 k2)⟩).H s2 = ⟨k2, .buf e 1 (L.map bv)⟩ := by rw [hup_other _ _ hne2]; exact hHs2
  obtain ⟨u1, p1, p2', p3⟩ := R1.bytes_at H2a
  rw [e2] at p1
  injection p1 with p1
  subst p1
  have R1d : Rel X n M ρ ((τ.hup s ⟨k, .ob (.bd T s2 k2)⟩).hup s2 ⟨k2, .dead⟩) a w1 := R1.weak ⟨fun _ => .inl rfl, fun s' => by
    by_cases hs' : s' = s2
    · subst hs'; rw [hup_same, H2a]; exact ⟨rfl, .inr rfl⟩
    · rw [hup_other _ _ hs']; exact ⟨rfl, .inl rfl⟩⟩
  have R2 := R1d.appendTo s2 (L := (L ++ news).map bv) (us := byC L) (news := byC news) p2' (by rw [hbl] at hown'; rw [List.length_map, List.length_append]; exact hown') hg hat p3 (fun s' g' hg' hs' => by
      by_cases he : s' = s2
      · subst he; rw [hup_same] at hs'; simp [blkOf] at hs'
      · rw [hup_other _ _ he] at hs'
        exact he (R1.sep s' s2 g' hs' (by rw [H2a]; simp [blkOf, e2, hg'])))
    (by rw [bv_flat]; simp [byC]) (bv_cells _) (fun j x z hx hz => by
      rw [bv_flat, List.getElem?_map] at hx
      rw [show byC L ++ byC news = byC (L ++ news) by simp [byC], byC, List.getElem?_map] at hz
      cases hq : (L ++ news)[j]? with
      | none => rw [hq] at hx; cases hx
      | some c =>
        rw [hq] at hx hz
        cases hx; cases hz
        exact ⟨.v _ _, rfl⟩)
  rw [hup_same] at R2
  have hs3 : (((τ.hup s ⟨k, .ob (.bd T s2 k2)⟩).hup s2 ⟨k2, .dead⟩).hup s2 ⟨k2 + 1, .buf e 1 ((L ++ news).map bv)⟩).H s = ⟨k, .ob (.bd T s2 k2)⟩ := by
    rw [hup_other _ _ (Ne.symm hne2), hup_other _ _ (Ne.symm hne2), hup_same]
  have hblt : b < w1.heap.size := (Array.getElem?_eq_some_iff.1 hb1).1
  have hb2 : w2.heap[b]? = some (.cells ⟨[.pointer (some ⟨b, 0, none⟩), u]⟩ T (0, 0)) := (hg.block b hblt (fun e => hub e.symm)).trans hb1
  have hfr := fresh_next R1d s2
  rw [hup_same] at hfr
  have g1' : updρ ρ s2 (k2 + 1) u' s k = some (.pointer (some ⟨b, 0, none⟩)) := by
    unfold updρ
    rw [if_neg (fun e => hne2 e.1.symm)]
    exact g1
  have R3 := R2.storeObC (off := 1) (vs := [u']) (o' := .bd T s2 (k2 + 1)) hs3 g1' rfl o3 ⟨rfl, .pointer (some ⟨b, 0, none⟩), u', by simp [updρ], blk_setCells [u'] [.pointer (some ⟨b, 0, none⟩), u] 1 w2 hb2, .inr rfl⟩
  refine hK M _ _ _ ((R3.weak (τ := (τ.hup s ⟨k, .ob (.bd T s2 (k2 + 1))⟩).hup s2 ⟨k2 + 1, .buf e 1 ((L ++ news).map bv)⟩) ⟨fun _ => .inl rfl, fun s' => ?_⟩).put (.junk _ _) hlt)
  by_cases q1 : s' = s
  · subst q1; rw [hup_same, hup_other _ _ (Ne.symm hne2), hup_same]; exact ⟨rfl, .inl rfl⟩
  · by_cases q2 : s' = s2
    · subst q2; rw [hup_same, hup_other _ _ q1, hup_same]; exact ⟨rfl, .inl rfl⟩
    · rw [hup_other _ _ q1, hup_other _ _ q2, hup_other _ _ q2, hup_other _ _ q1, hup_other _ _ q2, hup_other _ _ q1]; exact ⟨rfl, .inl rfl⟩
/-- A builder's text is taken. -/
theorem x_bd_str {f : FuncId} {tys : Array TypeId} {x : Operand} {d : Option Nat} {s k k' s2 k2 k2' : Nat} {T e : TypeId} {L : List UInt8} (hc : BdStr P f T e) (hx : ev σ x = .ptr s k 0) (hH : σ.H s = ⟨k', .ob (.bd T s2 k2)⟩) (hk : k = k') (hH2 : σ.H s2 = ⟨k2', .buf e 1 (L.map bv)⟩) (hk2 : k2 = k2')
    (h : Exec P X n ops os (mkG gt σ [x] [s, s2] d (.v (.string ⟨L.toArray⟩)) [(s, ⟨k', .dead⟩), (s2, ⟨k2', .dead⟩)] :: acc) (((σ.hup s ⟨k', .dead⟩).hup s2 ⟨k2', .dead⟩).put d (.v (.string ⟨L.toArray⟩))) K) :
    Op1 P X n ops gt ⟨d, .call ⟨.value (.func f), #[x], tys⟩, ty, ps, af, g⟩ os acc σ K := by
  subst hk; subst hk2
  refine ⟨⟨mkR σ [x] [s, s2] d (.v (.string ⟨L.toArray⟩)) [(s, ⟨k, .dead⟩), (s2, ⟨k2, .dead⟩)], fun hlt M ρ τ a w hf hR K Q hK => ?_, mkR_fires _ _ _ _ _ _, h⟩⟩
  have hHs := (mkR_H hf (s := s) (by simp)).trans hH
  have hHs2 := (mkR_H hf (s := s2) (by simp)).trans hH2
  have h1 := hR.ev x
  rw [mkR_ev hf (by simp), hx] at h1
  obtain ⟨b, g1, g2⟩ := h1.ptr_inv
  obtain ⟨v0, b', hMg, o1, o2, o3, e1, p, u, e2, e3, e4⟩ := hR.mp s k _ hHs
  rw [g1] at o1
  injection o1 with o1
  subst o1
  simp [vblk] at o2
  subst o2
  obtain ⟨u', b1, b2, b3⟩ := hR.bytes_at hHs2
  rw [e2] at b1
  injection b1 with b1
  subst b1
  have hcc := hc.2 0 b p u L w (Nat.zero_le _) e3 b2.1 (Nat.zero_le _)
  unfold Oper.wp
  rw [run_callF hc.1, Oper.upon_enter]
  have ea : List.map a.eval [x] = [.pointer (some ⟨b, 0, none⟩)] := by simp [g2]
  rw [ea]
  refine hcc.mono ?_
  rintro en w' ⟨rfl, hg⟩
  have R1 : Rel X n M ρ ((τ.hup s ⟨k, .dead⟩).hup s2 ⟨k2, .dead⟩) a w := hR.weak ⟨fun _ => .inl rfl, fun s' => by
    by_cases q2 : s' = s2
    · subst q2; rw [hup_same, hHs2]; exact ⟨rfl, .inr rfl⟩
    · rw [hup_other _ _ q2]
      by_cases q1 : s' = s
      · subst q1; rw [hup_same, hHs]; exact ⟨rfl, .inr rfl⟩
      · rw [hup_other _ _ q1]; exact ⟨rfl, .inl rfl⟩⟩
  have hvb := (vblk_own b2.1).1
  have R2 := R1.away hg (fun g' hg' => b3 g' (by rw [hvb]; exact hg')) (fun s' g' hg' hs' => by
    have q0 : blkOf ρ s2 (τ.H s2) = some g' := by rw [hHs2]; simp [blkOf, e2]; rw [hvb]; exact hg'
    by_cases q2 : s' = s2
    · subst q2; rw [hup_same] at hs'; simp [blkOf] at hs'
    · rw [hup_other _ _ q2] at hs'
      by_cases q1 : s' = s
      · subst q1; rw [hup_same] at hs'; simp [blkOf] at hs'
      · rw [hup_other _ _ q1] at hs'
        exact q2 (hR.sep s' s2 g' hs' q0)) (fun g' hg' => b2.2 g' (by rw [hvb]; exact hg'))
  exact hK M _ _ _ (R2.put (.v _ _) hlt)
end
end Go.Proofs.YtggagmafkdhjcaaGreatDoor
