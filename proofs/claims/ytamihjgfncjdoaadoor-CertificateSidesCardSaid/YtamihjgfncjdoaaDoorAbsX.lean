/- Strings of bytes, and ends with a struct and a value behind a reference, in the abstract machine; conditions: none. | Arrays in the abstract machine: a cell's address by an index, a cell by an index, whole arrays; conditions: tables of types that agree with the program's. -/
import Derived.Test.YtamihjgfncjdoaaDoorAbsU
import Derived.Laws.BytesArg
import Derived.Laws.IdiomStrings
set_option linter.unusedVariables false
set_option linter.unusedSimpArgs false
namespace Go.Proofs.YtamihjgfncjdoaaDoor
open Go Go.RowKit
section
variable {P : Program} {X : Ctx} {n : Nat} {ops : Array Oper} {os : List Oper} {acc : List Rule} {σ : AS} {K : List Rule → AS → Prop} {gt : List (Nat × AV)} {d : Option Nat} {ty : TypeId} {ps : String} {af : Array Edge} {g : Option (Nat × Bool)}
/-- The numbers of a list of bytes. -/
def bytesL : List AV → Option (List Int)
  | [] => some []
  | .v (.int .u8 b) :: l => match bytesL l with
    | some r => some (b :: r)
    | none => none
  | _ => none
theorem bytesL_map : ∀ {N : List AV} {zs : List Int}, bytesL N = some zs → N = zs.map fun b => .v (.int .u8 b)
  | [], zs, h => by injection h with h; subst h; rfl
  | x :: l, zs, h => by
    unfold bytesL at h
    split at h
    · rename_i heq; cases heq
    · rename_i b l' heq
      injection heq with h1 h2
      subst h1; subst h2
      cases hl : bytesL l with
      | none => rw [hl] at h; cases h
      | some r => rw [hl] at h; injection h with h; subst h; rw [bytesL_map hl]; rfl
    · cases h
theorem x_conv_bytes {src dst e : TypeId} {x : Operand} {N : List AV} {zs : List Int} (hs : P.underlying src = some (.slice e)) (he : P.underlying e = some (.int .u8)) (hd : P.underlying dst = some .string) (hx : ev σ x = .sl 1 N) (hb : bytesL N = some zs) (hpos : 0 < zs.length)
    (h : Exec P X n ops os (mkG gt σ [x] [] d (.v (.string (strOfNums zs))) [] :: acc) (σ.put d (.v (.string (strOfNums zs)))) K) : Op1 P X n ops gt ⟨d, .convert src dst x, ty, ps, af, g⟩ os acc σ K :=
  x_pure (fun M ρ τ a w he' hR => by
    have h1 := hR.ev x
    rw [he' x (by simp), hx] at h1
    obtain ⟨A, c, us, e1, e2, e2', e3, e4⟩ := h1.sl_inv
    have hN := bytesL_map hb
    have hNl : N.length = zs.length := by rw [hN]; simp
    obtain ⟨y0, hy0⟩ := some_at (L := N) (k := 0) (by omega)
    obtain ⟨f1, b, o, arr, rfl, f3, f4⟩ := e4 0 y0 hy0
    obtain ⟨t, fr, hh⟩ := hR.live b arr f3
    refine ⟨_, ?_, .v _ _⟩
    have hr := run_convert_bytes_arg (P := P) w src e hs he b o N.length c zs hNl.symm (fun i hi => by
      obtain ⟨z, hz⟩ := some_at (L := zs) (k := i) (by omega)
      have hNi : N[i]? = some (.v (.int .u8 z)) := by rw [hN, List.getElem?_map, hz]; rfl
      obtain ⟨_, b', o', arr', hA, g3, g4⟩ := e4 i _ hNi
      injection hA with hA
      injection hA with ha hb
      subst ha; subst hb
      rw [f3] at g3
      injection g3 with g3
      subst g3
      have := g4 0 (by omega)
      rw [Nat.mul_one, Nat.add_zero] at this
      rw [cell_of_row w b (o + i) arr t fr hh, this]
      have h5 := (e3 i _ 0 (.v (.int .u8 z)) hNi rfl).v_inv
      rw [h5, List.getD_eq_getElem?_getD, hz]; rfl) dst hd
    unfold execOp
    simp only [e1, Sem.run_bind, hr]
    rfl) h
end
theorem ret1_ct {TB : Tabs} {σ : AS} {fn : Func} {r : AV} {e : Exit} {p ty t s k m k2 : Nat} {cs c c' : List AV} {z : AV} (he : e = .normal ∨ e = .ret) (hfn : fn.results = #[.cell p ty, .tmp t]) (hT : σ.T p = .ptr s k 0) (hH : σ.H s = ⟨k, .box cs⟩) (ht : lk TB.ty ty = some (true, m)) (hl : cs.length = m) (hT2 : vf (σ.T t) = some z) (hH1 : σ.H (refB + 0) = ⟨k2, .box c'⟩) (hk : k2 = 0) (hr : Ren (bufs σ) (frameπ 1 []) r (.tu [.ag cs, z])) (hc : RenL (bufs σ) (frameπ 1 []) c c') : RetQ TB fn 1 r [c] e σ := by
  refine ret1 he (xs := [.ag cs, σ.T t]) ?_ (by rw [vf_eq hT2]; exact hr) hH1 hk hc
  rw [hfn]
  exact ⟨.agg p ty s k m cs hT hH ht hl, .tmp t, trivial⟩
end Go.Proofs.YtamihjgfncjdoaaDoor
namespace Go.Proofs.YtamihjgfncjdoaaDoor
open Go Go.RowKit
section
variable {P : Program} {X : Ctx} {n : Nat} {ops : Array Oper} {os : List Oper} {acc : List Rule} {σ : AS} {K : List Rule → AS → Prop} {gt : List (Nat × AV)} {ty : TypeId} {ps : String} {af : Array Edge} {g : Option (Nat × Bool)} {d : Option Nat}
variable {TB : Tabs} (hTB : TabsOk P TB)
include hTB
theorem x_indexAddr_arr {t : TypeId} {x i : Operand} {s k off len sz e : Nat} {b : Bool} {kk : IntKind} {z : Int} (ht : P.underlying t = some (.array len e)) (hz : lk TB.ty e = some (b, sz)) (hx : ev σ x = .ptr s k off) (hi : ev σ i = .v (.int kk z)) (h0 : 0 ≤ z ∧ z < (len : Int))
    (h : Exec P X n ops os (mkG gt σ [x, i] [] d (.ptr s k (off + z.toNat * sz)) [] :: acc) (σ.put d (.ptr s k (off + z.toNat * sz))) K) : Op1 P X n ops gt ⟨d, .indexAddr t x i, ty, ps, af, g⟩ os acc σ K :=
  x_pure (fun M ρ τ a w he hR => by
    have h1 := hR.ev x
    rw [he x (by simp), hx] at h1
    obtain ⟨g', e1, e2⟩ := h1.ptr_inv
    have h2 := eval_v hR (he i (by simp)) hi
    refine ⟨.pointer (some ⟨g', off + z.toNat * sz, none⟩), ?_, .ptr _ s k _ g' e1⟩
    unfold execOp
    simp only [e2, h2, Instr.indexAt, asIntOf, Instr.sureAddr, Sem.run_bind, Sem.run_pure, run_underlying ht, Result.andThen_ok, Sem.run_ite, if_pos h0, run_size hTB hz, Addr.add_mid]) h
theorem x_index_arr {t : TypeId} {x i : Operand} {len e : Nat} {kk : IntKind} {z : Int} {cs : List AV} {y : AV} (ht : P.underlying t = some (.array len e)) (hz : lk TB.ty e = some (false, 1)) (hx : ev σ x = .ag cs) (hi : ev σ i = .v (.int kk z)) (h0 : 0 ≤ z ∧ z < (len : Int)) (hl : cs.length = len) (hy : cs[z.toNat]? = some y)
    (h : Exec P X n ops os (mkG gt σ [x, i] [] d y [] :: acc) (σ.put d y) K) : Op1 P X n ops gt ⟨d, .index t x i, ty, ps, af, g⟩ os acc σ K :=
  x_pure (fun M ρ τ a w he hR => by
    have h1 := hR.ev x
    rw [he x (by simp), hx] at h1
    obtain ⟨vs, e1, e2, e3⟩ := h1.ag_inv
    have h2 := eval_v hR (he i (by simp)) hi
    obtain ⟨u, hu⟩ := some_at (L := vs) (k := z.toNat) (by rw [e2]; exact lt_at hy)
    refine ⟨u, ?_, e3 _ y u hy hu⟩
    obtain ⟨dd, u1, u2, u3⟩ := tab_ty hTB hz
    have hp : ∀ w, (part e (⟨vs⟩ : Array Value) (z.toNat * 1)).run P w = .ok u w := fun w => by
      have hg : (⟨vs⟩ : Array Value)[z.toNat]? = some u := by simpa using hu
      have ha := run_agg hTB hz w
      unfold part
      simp [Sem.run_bind, ha, Result.andThen_ok, hg]
    unfold execOp
    simp only [e1, h2, Instr.index, asIntOf, Sem.run_bind, Sem.run_pure, run_underlying ht, Result.andThen_ok, Sem.run_ite, if_pos h0, run_size hTB hz, hp]) h
end
theorem hc_buf {e sz : Nat} {a b : List AV} (h : a = b) : Cont.buf e sz a = .buf e sz b := by rw [h]
/-- A part of a string. -/
theorem run_sliceAt_str {P : Program} {t : TypeId} {s : ByteArray} {lo hi : Option Value} {l h : Nat} (ht : P.underlying t = some .string) (h1 : l ≤ h) (h2 : h ≤ s.size)
    (hl : (lo = none ∧ l = 0) ∨ ∃ k, lo = some (.int k (l : Int))) (hh : (hi = none ∧ h = s.size) ∨ ∃ k, hi = some (.int k (h : Int))) (w : World) :
    (Instr.sliceAt t (.string s) lo hi none).run P w = .ok (.string (s.extract l h)) w := by
  unfold Instr.sliceAt Instr.slice Instr.sliceBounds
  rcases hl with ⟨rfl, rfl⟩ | ⟨k, rfl⟩ <;> rcases hh with ⟨rfl, rfl⟩ | ⟨k', rfl⟩
  · simp [run_underlying ht]
  · simp [run_underlying ht, run_sliceBound w k' (h : Int) s.size .sliceAlen (by omega) (by omega)]
  · simp [run_underlying ht, run_sliceBound w k (l : Int) s.size .sliceB (by omega) (by omega)]
  · simp [run_underlying ht, run_sliceBound w k' (h : Int) s.size .sliceAlen (by omega) (by omega), run_sliceBound w k (l : Int) h .sliceB (by omega) (by omega)]
section
variable {P : Program} {X : Ctx} {n : Nat} {ops : Array Oper} {os : List Oper} {acc : List Rule} {σ : AS} {K : List Rule → AS → Prop} {gt : List (Nat × AV)} {d : Option Nat} {ty : TypeId} {ps : String} {af : Array Edge} {g : Option (Nat × Bool)}
theorem x_sliceS {t : TypeId} {x : Operand} {lo hi : Option Operand} {s : ByteArray} {l h : Int} (ht : P.underlying t = some .string) (hx : ev σ x = .v (.string s)) (hlo : loOf σ lo = some l) (hhi : hiOf σ s.size hi = some h) (hb : 0 ≤ l ∧ l ≤ h ∧ h ≤ s.size)
    (hK : Exec P X n ops os (mkG gt σ (x :: (lo.toList ++ hi.toList)) [] d (.v (.string (s.extract l.toNat h.toNat))) [] :: acc) (σ.put d (.v (.string (s.extract l.toNat h.toNat)))) K) : Op1 P X n ops gt ⟨d, .slice t x lo hi none, ty, ps, af, g⟩ os acc σ K :=
  x_pure (fun M ρ τ a w he hR => by
    obtain ⟨b1, b2, b3⟩ := hb
    have el : (l.toNat : Int) = l := Int.toNat_of_nonneg b1
    have eh : (h.toNat : Int) = h := Int.toNat_of_nonneg (by omega)
    have hl : ((lo.map a.eval) = none ∧ l.toNat = 0) ∨ ∃ k, lo.map a.eval = some (.int k (l.toNat : Int)) := by
      cases lo with
      | none => injection hlo with hlo; subst hlo; exact .inl ⟨rfl, rfl⟩
      | some o =>
        obtain ⟨k, hk⟩ := loOf_some hlo
        exact .inr ⟨k, by rw [Option.map_some, eval_v hR (he o (by simp)) hk, el]⟩
    have hh : ((hi.map a.eval) = none ∧ h.toNat = s.size) ∨ ∃ k, hi.map a.eval = some (.int k (h.toNat : Int)) := by
      cases hi with
      | none => injection hhi with hhi; subst hhi; exact .inl ⟨rfl, by omega⟩
      | some o =>
        obtain ⟨k, hk⟩ := hiOf_some hhi
        exact .inr ⟨k, by rw [Option.map_some, eval_v hR (he o (by simp)) hk, eh]⟩
    have hr := run_sliceAt_str (P := P) (s := s) ht (show l.toNat ≤ h.toNat by omega) (show h.toNat ≤ s.size by omega) hl hh w
    refine ⟨_, ?_, .v _ _⟩
    unfold execOp
    simp only [eval_v hR (he x (by simp)) hx, Option.map_none, Sem.run_bind, hr]
    rfl) hK
theorem x_neg {k : IntKind} {a : Int} {x : Operand} {tx : TypeId} (hx : ev σ x = .v (.int k a)) (h : Exec P X n ops os (mkG gt σ [x] [] d (.v (.int k (k.wrap (0 - a)))) [] :: acc) (σ.put d (.v (.int k (k.wrap (0 - a))))) K) : Op1 P X n ops gt ⟨d, .unOp .neg tx x, ty, ps, af, g⟩ os acc σ K :=
  x_un hx (fun w => rfl) h
/-- An array's literal. -/
theorem m_build_arr {TB : Tabs} (hTB : TabsOk P TB) {t len e sz : Nat} {b : Bool} {parts : List (Nat × Operand)} {zs : List Value} {vals : List (Nat × AV)} {cs : List AV} (ht : P.underlying t = some (.array len e)) (he : lk TB.ty e = some (b, sz)) (hz : lk TB.zer t = some zs) (hv : vfsL σ parts = some vals) (hc : afill ((List.range len).map fun i => (i * sz, sz)) (zs.map .v) vals = some cs)
    (h : Exec P X n ops os (mkG gt σ (parts.map (·.2)) [] d (.ag cs) [] :: acc) (σ.put d (.ag cs)) K) : Op1 P X n ops gt ⟨d, .build t parts.toArray, ty, ps, af, g⟩ os acc σ K := by
  have hv := vfsL_eq hv
  refine x_pure (xs := parts.map (·.2)) (fun M ρ τ a w he' hR => ?_) h
  obtain ⟨i, z, i1, i2, rfl⟩ := tab_zer hTB hz
  obtain ⟨dd, u1, u2, u3⟩ := tab_ty hTB he
  obtain ⟨p1, p2⟩ := parts_rep hR he' hv
  obtain ⟨us', h1, h2, h3⟩ := afill_rep (M := M) (ρ := ρ) (f := fun i => some (i * sz, sz)) (fun i p h => by
    rw [List.getElem?_map] at h
    cases hr : (List.range len)[i]? with
    | none => rw [hr] at h; cases h
    | some r =>
      rw [hr] at h
      injection h with h
      obtain ⟨hlt, e⟩ := List.getElem?_eq_some_iff.1 hr
      rw [List.getElem_range] at e
      subst e
      rw [← h]) vals (z.cells.toList.map .v) cs z.cells.toList (parts.map fun p => (p.1, a.eval p.2)) hc (by simp) (fun j x u a b => by
    rw [List.getElem?_map, b] at a
    injection a with a
    subst a
    exact .v _ _) p1 p2
  refine ⟨.agg ⟨us'⟩, ?_, .ag _ _ _ h2 h3⟩
  have hb : P.built t (parts.toArray.map fun (x : Nat × Operand) => (x.1, a.eval x.2)).toList = some ⟨us'⟩ := by
    unfold Program.built
    rw [i1, ht]
    cases hi : P.info? e with
    | none => rw [hi] at u3; cases u3
    | some ie =>
      rw [hi] at u3
      injection u3 with u3
      have u4 : ie.size = sz := u3
      simp only [i2, hi]
      rw [Array.toList_map, u4]
      exact h1
  have := run_build (P := P) w t _ _ hb
  unfold execOp
  simp only [Sem.run_bind]
  rw [this]; rfl
end
section
variable {X : Ctx} {n : Nat} {M : Nat → Option (Array Value)} {ρ : Nat → Nat → Option Value} {σ : AS} {a : Act} {w : World}
end
section
variable {P : Program} {X : Ctx} {n : Nat} {ops : Array Oper} {os : List Oper} {acc : List Rule} {σ : AS} {K : List Rule → AS → Prop} {gt : List (Nat × AV)} {ty : TypeId} {ps : String} {af : Array Edge} {g : Option (Nat × Bool)}
variable {TB : Tabs} (hTB : TabsOk P TB)
include hTB
omit hTB in
end
end Go.Proofs.YtamihjgfncjdoaaDoor
