/- The operations of the abstract machine, one law each; conditions: tables of types that agree with the program's. -/
import Derived.Test.YtbacidnhjmdnlaaDoorAbsE
set_option linter.unusedVariables false
set_option linter.unusedSimpArgs false
namespace Go.Proofs.YtbacidnhjmdnlaaDoor
open Go Go.RowKit
def lk {β : Type} : List (Nat × β) → Nat → Option β
  | [], _ => none
  | (i, x) :: l, t => bif Nat.beq t i then some x else lk l t
theorem lk_map {β : Type} {f : Nat → Option β} : ∀ {l : List (Nat × β)}, l.map (fun p => f p.1) = l.map (fun p => some p.2) → ∀ {t : Nat} {x : β}, lk l t = some x → f t = some x
  | [], _, t, x, h => by cases h
  | (i, z) :: l, he, t, x, h => by
    simp only [List.map_cons, List.cons.injEq] at he
    unfold lk at h
    cases hb : Nat.beq t i
    · rw [hb] at h; exact lk_map he.2 h
    · rw [hb] at h; rw [Nat.eq_of_beq_eq_true hb, he.1]; exact h
structure Tabs where
  ty : List (Nat × Bool × Nat)
  sle : List (Nat × Nat)
  fld : List (Nat × List (Nat × Nat))
  zer : List (Nat × List Value)
  byt : List (Nat × Nat)
  ik : List (Nat × IntKind)
def ikOf (P : Program) (t : Nat) : Option IntKind := match P.underlying t with
  | some (.int k) => some k
  | _ => none
def tyOf (P : Program) (t : Nat) : Option (Bool × Nat) := match P.underlying t, P.info? t with
  | some d, some i => some (d.isRow, i.size)
  | _, _ => none
def sleOf (P : Program) (t : Nat) : Option Nat := match P.underlying t with
  | some (.slice e) => some e
  | _ => none
def fldOf (P : Program) (t : Nat) : Option (List (Nat × Nat)) := match P.underlying t with
  | some (.struct fs) => some (fs.toList.map fun f => (f.offset, f.type))
  | _ => none
def zerOf (P : Program) (t : Nat) : Option (List Value) := ((P.info? t).bind (·.zero)).map (·.cells.toList)
def bytOf (P : Program) (t : Nat) : Option Nat := (P.info? t).map (·.bytes)
structure TabsOk (P : Program) (TB : Tabs) : Prop where
  ty : TB.ty.map (fun p => tyOf P p.1) = TB.ty.map (fun p => some p.2)
  sle : TB.sle.map (fun p => sleOf P p.1) = TB.sle.map (fun p => some p.2)
  fld : TB.fld.map (fun p => fldOf P p.1) = TB.fld.map (fun p => some p.2)
  zer : TB.zer.map (fun p => zerOf P p.1) = TB.zer.map (fun p => some p.2)
  byt : TB.byt.map (fun p => bytOf P p.1) = TB.byt.map (fun p => some p.2)
  ik : TB.ik.map (fun p => ikOf P p.1) = TB.ik.map (fun p => some p.2)
section
variable {P : Program} {TB : Tabs} (hTB : TabsOk P TB)
include hTB
theorem tab_ty {t : Nat} {b : Bool} {m : Nat} (h : lk TB.ty t = some (b, m)) : ∃ d, P.underlying t = some d ∧ d.isRow = b ∧ (P.info? t).map (·.size) = some m := by
  have h1 := lk_map hTB.ty h
  unfold tyOf at h1
  cases hd : P.underlying t with
  | none => rw [hd] at h1; cases h1
  | some d =>
    cases hi : P.info? t with
    | none => rw [hd, hi] at h1; cases h1
    | some i =>
      rw [hd, hi] at h1
      simp only [Option.some.injEq, Prod.mk.injEq] at h1
      exact ⟨d, rfl, h1.1, by simp [h1.2]⟩
theorem tab_sle {t e : Nat} (h : lk TB.sle t = some e) : P.underlying t = some (.slice e) := by
  have h1 := lk_map hTB.sle h
  unfold sleOf at h1
  split at h1
  · rename_i hu; rw [hu]; injection h1 with h1; rw [h1]
  · cases h1
theorem tab_fld {t : Nat} {fs : List (Nat × Nat)} (h : lk TB.fld t = some fs) : ∃ gs : Array Field, P.underlying t = some (.struct gs) ∧ gs.toList.map (fun f => (f.offset, f.type)) = fs := by
  have h1 := lk_map hTB.fld h
  unfold fldOf at h1
  split at h1
  · rename_i gs hu; injection h1 with h1; exact ⟨gs, hu, h1⟩
  · cases h1
theorem tab_zer {t : Nat} {zs : List Value} (h : lk TB.zer t = some zs) : ∃ i z, P.info? t = some i ∧ i.zero = some z ∧ z.cells.toList = zs := by
  have h1 := lk_map hTB.zer h
  unfold zerOf at h1
  cases hi : P.info? t with
  | none => rw [hi] at h1; cases h1
  | some i =>
    rw [hi] at h1
    simp only [Option.bind_some] at h1
    cases hz : i.zero with
    | none => rw [hz] at h1; cases h1
    | some z => rw [hz] at h1; injection h1 with h1; exact ⟨i, z, rfl, hz, h1⟩
theorem tab_ik {t : Nat} {k : IntKind} (h : lk TB.ik t = some k) : P.underlying t = some (.int k) := by
  have h1 := lk_map hTB.ik h
  unfold ikOf at h1
  split at h1
  · rename_i hu; rw [hu]; injection h1 with h1; rw [h1]
  · cases h1
theorem run_size {t : Nat} {b : Bool} {m : Nat} (h : lk TB.ty t = some (b, m)) (w : World) : (sizeOf t).run P w = .ok m w := by
  obtain ⟨d, _, _, h3⟩ := tab_ty hTB h
  cases hi : P.info? t with
  | none => rw [hi] at h3; cases h3
  | some i => rw [hi] at h3; injection h3 with h3; simp [sizeOf, typeInfo, hi, h3]
theorem run_agg {t : Nat} {b : Bool} {m : Nat} (h : lk TB.ty t = some (b, m)) (w : World) : (isAgg t).run P w = .ok b w := by
  obtain ⟨d, h1, h2, _⟩ := tab_ty hTB h
  unfold isAgg
  rw [Sem.run_bind, run_underlying h1]
  cases d <;> subst h2 <;> rfl
end
section
variable {M : Nat → Option (Array Value)} {ρ : Nat → Nat → Option Value}
theorem Rep.ptr_inv {s k off : Nat} {u : Value} (h : Rep M ρ (.ptr s k off) u) : ∃ g, ρ s k = some (.pointer (some ⟨g, 0, none⟩)) ∧ u = .pointer (some ⟨g, off, none⟩) := by
  cases h with
  | ptr _ _ _ _ g h => exact ⟨g, h, rfl⟩
theorem Rep.ag_inv {cs : List AV} {u : Value} (h : Rep M ρ (.ag cs) u) : ∃ vs : List Value, u = .agg ⟨vs⟩ ∧ vs.length = cs.length ∧ ∀ (j : Nat) (x : AV) (u : Value), cs[j]? = some x → vs[j]? = some u → Rep M ρ x u := by
  cases h with
  | ag _ _ vs hl h => exact ⟨vs, rfl, hl, h⟩
theorem Rep.tu_inv {cs : List AV} {u : Value} (h : Rep M ρ (.tu cs) u) : ∃ vs : List Value, u = .tuple ⟨vs⟩ ∧ vs.length = cs.length ∧ ∀ (j : Nat) (x : AV) (u : Value), cs[j]? = some x → vs[j]? = some u → Rep M ρ x u := by
  cases h with
  | tu _ _ vs hl h => exact ⟨vs, rfl, hl, h⟩
theorem Rep.ep_inv {cs : List AV} {u : Value} (h : Rep M ρ (.ep cs) u) : ∃ (b o : Nat) (arr : Array Value) (us : Nat → Value), u = .pointer (some ⟨b, o, none⟩) ∧ M b = some arr ∧ (∀ j, j < cs.length → arr[o + j]? = some (us j)) ∧ ∀ (j : Nat) (x : AV), cs[j]? = some x → Rep M noρ x (us j) := by
  cases h with
  | ep _ _ b o arr us h1 h2 h3 => exact ⟨b, o, arr, us, rfl, h1, h2, h3⟩
theorem Rep.sl_inv {sz : Nat} {L : List AV} {u : Value} (h : Rep M ρ (.sl sz L) u) : ∃ (A : Option Addr) (c : Nat) (us : Nat → Nat → Value), u = .slice A L.length c ∧ L.length ≤ c ∧ c ≤ maxLen ∧
    (∀ (k : Nat) (x : AV) (j : Nat) (y : AV), L[k]? = some x → x.cells[j]? = some y → Rep M noρ y (us k j)) ∧
    (∀ (k : Nat) (x : AV), L[k]? = some x → x.cells.length = sz ∧ ∃ b o arr, A = some ⟨b, o, none⟩ ∧ M b = some arr ∧ ∀ j, j < sz → arr[o + k * sz + j]? = some (us k j)) := by
  cases h with
  | sl _ _ _ A c us h1 h2 h3 h4 => exact ⟨A, c, us, rfl, h1, h2, h3, h4⟩
end
def oneC : AV → Bool
  | .v x => x.oneCell'
  | .ag _ => false
  | .tu _ => false
  | .junk => false
  | _ => true
theorem oneC_one {M : Nat → Option (Array Value)} {ρ : Nat → Nat → Option Value} {x : AV} {u : Value} (h : Rep M ρ x u) (ho : oneC x = true) : u.oneCell' = true := by
  cases h <;> first | exact ho | rfl | (cases ho; done) | assumption
def allOne : List AV → Bool
  | [] => true
  | x :: l => bif oneC x then allOne l else false
theorem allOne_at : ∀ {l : List AV}, allOne l = true → ∀ x ∈ l, oneC x = true
  | [], _, x, h => by cases h
  | y :: l, ho, x, h => by
    unfold allOne at ho
    cases hy : oneC y
    · rw [hy] at ho; cases ho
    · rw [hy] at ho
      rcases List.mem_cons.1 h with rfl | h
      · exact hy
      · exact allOne_at ho x h
/-- What a value lies as in cells. -/
theorem rep_cells {M : Nat → Option (Array Value)} {ρ : Nat → Nat → Option Value} {x : AV} {u : Value} (h : Rep M ρ x u) (ho : allOne x.cells = true) : u.cells.toList.length = x.cells.length ∧ (∀ (j : Nat) (y : AV) (z : Value), x.cells[j]? = some y → u.cells.toList[j]? = some z → Rep M ρ y z) ∧ ∀ z ∈ u.cells.toList, z.oneCell' = true := by
  have hone : ∀ (x : AV) (u : Value), Rep M ρ x u → oneC x = true → x.cells = [x] → u.cells.toList.length = x.cells.length ∧ (∀ (j : Nat) (y : AV) (z : Value), x.cells[j]? = some y → u.cells.toList[j]? = some z → Rep M ρ y z) ∧ ∀ z ∈ u.cells.toList, z.oneCell' = true := by
    intro x u h h1 hc
    have h2 := oneC_one h h1
    have hu : u.cells = #[u] := by cases u <;> first | rfl | cases h2
    rw [hu, hc]
    refine ⟨rfl, fun j y z a b => ?_, fun z hz => by simp at hz; subst hz; exact h2⟩
    cases j with
    | zero => simp at a b; subst a; subst b; exact h
    | succ j => simp at a
  cases x with
  | ag cs =>
    obtain ⟨vs, rfl, h1, h2⟩ := h.ag_inv
    refine ⟨by simpa [Value.cells, AV.cells] using h1, fun j y z a b => h2 j y z a (by simpa [Value.cells] using b), fun z hz => ?_⟩
    obtain ⟨j, hj⟩ := List.getElem?_of_mem hz
    have hj' : vs[j]? = some z := by simpa [Value.cells] using hj
    obtain ⟨y, hy⟩ := some_at (L := cs) (k := j) (by have := lt_at hj'; omega)
    exact oneC_one (h2 j y z hy hj') (allOne_at ho y (List.mem_of_getElem? hy))
  | tu xs => exact absurd (allOne_at ho _ (by simp [AV.cells]) : oneC (.tu xs) = true) (by simp [oneC])
  | junk => exact absurd (allOne_at ho _ (by simp [AV.cells]) : oneC .junk = true) (by simp [oneC])
  | v y => exact hone _ _ h (allOne_at ho _ (by simp [AV.cells])) rfl
  | sl sz L => exact hone _ _ h rfl rfl
  | ptr s k off => exact hone _ _ h rfl rfl
  | ep cs => exact hone _ _ h rfl rfl
  | own s k => exact hone _ _ h rfl rfl
  | po s k o => exact hone _ _ h rfl rfl
  | fn f cs => exact hone _ _ h rfl rfl
section
variable {P : Program} {X : Ctx} {n : Nat} {ops : Array Oper} {os : List Oper} {acc : List Rule} {σ : AS} {K : List Rule → AS → Prop} {gt : List (Nat × AV)} {d : Option Nat} {ty : TypeId} {ps : String} {af : Array Edge} {g : Option (Nat × Bool)}
theorem x_move {x : Operand} (y : AV) (hx : ev σ x = y) (h : Exec P X n ops os (mkG gt σ [x] [] d y [] :: acc) (σ.put d y) K) : Op1 P X n ops gt ⟨d, .move x, ty, ps, af, g⟩ os acc σ K := by
  subst hx
  refine ⟨⟨mkR σ [x] [] d (ev σ x) [], rule_val rfl fun M ρ τ a w hf hR => ?_, mkR_fires _ _ _ _ _ _, h⟩⟩
  exact ⟨a.eval x, w, M, ρ, rfl, hR, by have := hR.ev x; rw [mkR_ev hf (by simp)] at this; exact this⟩
theorem x_assign {x : Operand} (y : AV) (hx : ev σ x = y) (h : Exec P X n ops os (mkG gt σ [x] [] d y [] :: acc) (σ.put d y) K) : Op1 P X n ops gt ⟨d, .assign x, ty, ps, af, g⟩ os acc σ K := by
  subst hx
  refine ⟨⟨mkR σ [x] [] d (ev σ x) [], rule_val rfl fun M ρ τ a w hf hR => ?_, mkR_fires _ _ _ _ _ _, h⟩⟩
  exact ⟨a.eval x, w, M, ρ, rfl, hR, by have := hR.ev x; rw [mkR_ev hf (by simp)] at this; exact this⟩
theorem x_pick {c x y : Operand} {b : Bool} (hc : ev σ c = .v (.bool b)) (h : Exec P X n ops os (mkG gt σ [c, x, y] [] d (bif b then ev σ x else ev σ y) [] :: acc) (σ.put d (bif b then ev σ x else ev σ y)) K) : Op1 P X n ops gt ⟨d, .pick c x y, ty, ps, af, g⟩ os acc σ K := by
  refine ⟨⟨mkR σ [c, x, y] [] d (bif b then ev σ x else ev σ y) [], rule_val rfl fun M ρ τ a w hf hR => ?_, mkR_fires _ _ _ _ _ _, h⟩⟩
  have h1 := hR.ev c
  rw [mkR_ev hf (by simp), hc] at h1
  have h1 := h1.v_inv
  refine ⟨if b then a.eval x else a.eval y, w, M, ρ, by simp [execOp, h1, asBool], hR, ?_⟩
  have h2 := hR.ev x
  have h3 := hR.ev y
  rw [mkR_ev hf (by simp)] at h2 h3
  cases b
  · exact h3
  · exact h2
theorem x_pick_t {c x y : Operand} {b : Bool} (z : AV) (hc : ev σ c = .v (.bool b)) (hb : b = true) (hz : ev σ x = z) (h : Exec P X n ops os (mkG gt σ [c, x, y] [] d z [] :: acc) (σ.put d z) K) : Op1 P X n ops gt ⟨d, .pick c x y, ty, ps, af, g⟩ os acc σ K := by
  subst hb; subst hz
  exact x_pick hc h
theorem x_pick_f {c x y : Operand} {b : Bool} (z : AV) (hc : ev σ c = .v (.bool b)) (hb : b = false) (hz : ev σ y = z) (h : Exec P X n ops os (mkG gt σ [c, x, y] [] d z [] :: acc) (σ.put d z) K) : Op1 P X n ops gt ⟨d, .pick c x y, ty, ps, af, g⟩ os acc σ K := by
  subst hb; subst hz
  exact x_pick hc h
/-- A value that the operands alone give. -/
theorem x_pure {op : Op} {xs : List Operand} {y : AV} (hrun : ∀ M ρ τ a w, (∀ x ∈ xs, ev τ x = ev σ x) → Rel X n M ρ τ a w → ∃ u, (execOp a.eval ⟨d, op, ty, ps, af, g⟩).run P w = .ok (.value u) w ∧ Rep M ρ y u)
    (h : Exec P X n ops os (mkG gt σ xs [] d y [] :: acc) (σ.put d y) K) : Op1 P X n ops gt ⟨d, op, ty, ps, af, g⟩ os acc σ K := by
  refine ⟨⟨mkR σ xs [] d y [], rule_val rfl fun M ρ τ a w hf hR => ?_, mkR_fires _ _ _ _ _ _, h⟩⟩
  obtain ⟨u, h1, h2⟩ := hrun M ρ τ a w (fun x hx => mkR_ev hf hx) hR
  exact ⟨u, w, M, ρ, h1, hR, h2⟩
theorem eval_v {M : Nat → Option (Array Value)} {ρ : Nat → Nat → Option Value} {τ : AS} {a : Act} {w : World} {x : Operand} {u : Value} (hR : Rel X n M ρ τ a w) (he : ev τ x = ev σ x) (hx : ev σ x = .v u) : a.eval x = u := by
  have h1 := hR.ev x
  rw [he, hx] at h1
  exact h1.v_inv
theorem x_bin {op : BinOp} {tx : TypeId} {x y : Operand} {yt : TypeId} {u v r : Value} (hx : ev σ x = .v u) (hy : ev σ y = .v v) (hrun : ∀ w, (do eqGuard op tx x y u v; binOp op tx u v : Sem Value).run P w = .ok r w)
    (h : Exec P X n ops os (mkG gt σ [x, y] [] d (.v r) [] :: acc) (σ.put d (.v r)) K) : Op1 P X n ops gt ⟨d, .binOp op tx x y yt, ty, ps, af, g⟩ os acc σ K :=
  x_pure (fun M ρ τ a w he hR => ⟨r, by
    unfold execOp
    simp only [eval_v hR (he x (by simp)) hx, eval_v hR (he y (by simp)) hy]
    rw [Sem.run_bind, hrun w]; rfl, .v _ _⟩) h
theorem x_un {op : UnOp} {tx : TypeId} {x : Operand} {u r : Value} (hx : ev σ x = .v u) (hrun : ∀ w, (Op.unary op u).run P w = .ok r w)
    (h : Exec P X n ops os (mkG gt σ [x] [] d (.v r) [] :: acc) (σ.put d (.v r)) K) : Op1 P X n ops gt ⟨d, .unOp op tx x, ty, ps, af, g⟩ os acc σ K :=
  x_pure (fun M ρ τ a w he hR => ⟨r, by
    unfold execOp
    simp only [eval_v hR (he x (by simp)) hx]
    rw [Sem.run_bind, hrun w]; rfl, .v _ _⟩) h
theorem x_conv {src dst : TypeId} {x : Operand} {u r : Value} (hx : ev σ x = .v u) (hrun : ∀ w, (convert src dst u).run P w = .ok r w)
    (h : Exec P X n ops os (mkG gt σ [x] [] d (.v r) [] :: acc) (σ.put d (.v r)) K) : Op1 P X n ops gt ⟨d, .convert src dst x, ty, ps, af, g⟩ os acc σ K :=
  x_pure (fun M ρ τ a w he hR => ⟨r, by
    unfold execOp
    simp only [eval_v hR (he x (by simp)) hx]
    rw [Sem.run_bind, hrun w]; rfl, .v _ _⟩) h
theorem x_index {xt : TypeId} {x i : Operand} {u v r : Value} (hx : ev σ x = .v u) (hi : ev σ i = .v v) (hrun : ∀ w, (Instr.index xt u v).run P w = .ok r w)
    (h : Exec P X n ops os (mkG gt σ [x, i] [] d (.v r) [] :: acc) (σ.put d (.v r)) K) : Op1 P X n ops gt ⟨d, .index xt x i, ty, ps, af, g⟩ os acc σ K :=
  x_pure (fun M ρ τ a w he hR => ⟨r, by
    unfold execOp
    simp only [eval_v hR (he x (by simp)) hx, eval_v hR (he i (by simp)) hi]
    rw [Sem.run_bind, hrun w]; rfl, .v _ _⟩) h
theorem x_index_ag {xt : TypeId} {x i : Operand} {u v : Value} {rs : List Value} (hx : ev σ x = .v u) (hi : ev σ i = .v v) (hrun : ∀ w, (Instr.index xt u v).run P w = .ok (.agg ⟨rs⟩) w)
    (h : Exec P X n ops os (mkG gt σ [x, i] [] d (.ag (rs.map .v)) [] :: acc) (σ.put d (.ag (rs.map .v))) K) : Op1 P X n ops gt ⟨d, .index xt x i, ty, ps, af, g⟩ os acc σ K :=
  x_pure (fun M ρ τ a w he hR => ⟨.agg ⟨rs⟩, by
    unfold execOp
    simp only [eval_v hR (he x (by simp)) hx, eval_v hR (he i (by simp)) hi]
    rw [Sem.run_bind, hrun w]; rfl, .ag _ _ rs (by simp) (fun j y u a b => by
      rw [List.getElem?_map, b] at a
      injection a with a
      subst a
      exact .v _ _)⟩) h
theorem x_extract {t : Operand} {i : Nat} {xs : List AV} {y : AV} (ht : ev σ t = .tu xs) (hi : xs[i]? = some y) (h : Exec P X n ops os (mkG gt σ [t] [] d y [] :: acc) (σ.put d y) K) : Op1 P X n ops gt ⟨d, .extract t i, ty, ps, af, g⟩ os acc σ K :=
  x_pure (fun M ρ τ a w he hR => by
    have h1 := hR.ev t
    rw [he t (by simp), ht] at h1
    obtain ⟨vs, e1, e2, e3⟩ := h1.tu_inv
    obtain ⟨u, hu⟩ := some_at (L := vs) (k := i) (by rw [e2]; exact lt_at hi)
    refine ⟨u, ?_, e3 i y u hi hu⟩
    unfold execOp
    simp only [e1, Instr.extract]
    have : (⟨vs⟩ : Array Value)[i]? = some u := by simpa using hu
    simp [this]) h
theorem x_nilCheck_ptr {x : Operand} {s k off : Nat} (hx : ev σ x = .ptr s k off) (h : Exec P X n ops os (mkG gt σ [x] [] d (.ptr s k off) [] :: acc) (σ.put d (.ptr s k off)) K) : Op1 P X n ops gt ⟨d, .nilCheck x, ty, ps, af, g⟩ os acc σ K :=
  x_pure (fun M ρ τ a w he hR => by
    have h1 := hR.ev x
    rw [he x (by simp), hx] at h1
    obtain ⟨g', e1, e2⟩ := h1.ptr_inv
    refine ⟨a.eval x, ?_, h1⟩
    unfold execOp
    simp only [e2]
    rfl) h
section
variable {TB : Tabs} (hTB : TabsOk P TB)
include hTB
theorem x_fieldAddr_ptr {t : TypeId} {x : Operand} {f s k off off' ft : Nat} {b : Bool} {m : Nat} {fs : List (Nat × Nat)} (hx : ev σ x = .ptr s k off) (hf : lk TB.fld t = some fs) (hf2 : fs[f]? = some (off', ft)) (hm : lk TB.ty ft = some (b, m + 1))
    (h : Exec P X n ops os (mkG gt σ [x] [] d (.ptr s k (off + off')) [] :: acc) (σ.put d (.ptr s k (off + off'))) K) : Op1 P X n ops gt ⟨d, .fieldAddr t x f, ty, ps, af, g⟩ os acc σ K :=
  x_pure (fun M ρ τ a w he hR => by
    have h1 := hR.ev x
    rw [he x (by simp), hx] at h1
    obtain ⟨g', e1, e2⟩ := h1.ptr_inv
    obtain ⟨gs, u1, u2⟩ := tab_fld hTB hf
    refine ⟨.pointer (some ⟨g', off + off', none⟩), ?_, .ptr _ s k _ g' e1⟩
    rw [← u2] at hf2
    simp only [List.getElem?_map, Option.map_eq_some_iff, Array.getElem?_toList, Prod.mk.injEq] at hf2
    obtain ⟨fd, h3, h4, h5⟩ := hf2
    unfold execOp
    simp only [e2, Instr.fieldAt, Sem.run_bind, run_underlying u1, Result.andThen_ok, h3, Instr.sureAddr, Sem.run_pure, fieldPlace]
    rw [h5, run_size hTB hm]
    simp only [Result.andThen_ok, Nat.succ_ne_zero, if_false, Sem.run_pure, Nat.add_eq_zero_iff, and_false]
    rw [h4, Addr.add_mid]) h
theorem x_fieldAddr_ep {t : TypeId} {x : Operand} {f off' ft : Nat} {cs : List AV} {b : Bool} {m : Nat} {fs : List (Nat × Nat)} (hx : ev σ x = .ep cs) (hf : lk TB.fld t = some fs) (hf2 : fs[f]? = some (off', ft)) (hm : lk TB.ty ft = some (b, m + 1))
    (h : Exec P X n ops os (mkG gt σ [x] [] d (.ep (cs.drop off')) [] :: acc) (σ.put d (.ep (cs.drop off'))) K) : Op1 P X n ops gt ⟨d, .fieldAddr t x f, ty, ps, af, g⟩ os acc σ K :=
  x_pure (fun M ρ τ a w he hR => by
    have h1 := hR.ev x
    rw [he x (by simp), hx] at h1
    obtain ⟨b', o, arr, us, e1, e2, e3, e4⟩ := h1.ep_inv
    obtain ⟨gs, u1, u2⟩ := tab_fld hTB hf
    refine ⟨.pointer (some ⟨b', o + off', none⟩), ?_, .ep _ _ b' (o + off') arr (fun j => us (off' + j)) e2 (fun j hj => ?_) (fun j y hj => ?_)⟩
    · rw [← u2] at hf2
      simp only [List.getElem?_map, Option.map_eq_some_iff, Array.getElem?_toList, Prod.mk.injEq] at hf2
      obtain ⟨fd, h3, h4, h5⟩ := hf2
      unfold execOp
      simp only [e1, Instr.fieldAt, Sem.run_bind, run_underlying u1, Result.andThen_ok, h3, Instr.sureAddr, Sem.run_pure, fieldPlace]
      rw [h5, run_size hTB hm]
      simp only [Result.andThen_ok, Nat.succ_ne_zero, if_false, Sem.run_pure, Nat.add_eq_zero_iff, and_false]
      rw [h4, Addr.add_mid]
    · rw [List.length_drop] at hj
      rw [Nat.add_assoc]
      exact e3 _ (by omega)
    · rw [List.getElem?_drop] at hj
      exact e4 _ y hj) h
end
end
end Go.Proofs.YtbacidnhjmdnlaaDoor
