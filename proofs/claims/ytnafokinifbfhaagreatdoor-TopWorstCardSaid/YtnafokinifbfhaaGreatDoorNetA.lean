/- Strings of bytes, and ends with a struct and a value behind a reference, in the abstract machine; conditions: none. | Arrays in the abstract machine: a cell's address by an index, a cell by an index, whole arrays; conditions: tables of types that agree with the program's / network.Check and what it calls, by the abstract machine; conditions: the table of classes stands. -/
import Derived.Test.YtnafokinifbfhaaGreatDoorAbsU
import Derived.Laws.BytesArg
import Derived.Laws.IdiomStrings
import Derived.Test.YtnafokinifbfhaaGreatDoorNetP
set_option linter.unusedVariables false
set_option linter.unusedSimpArgs false
namespace Go.Proofs.YtnafokinifbfhaaGreatDoor
open Go Go.RowKit
section
variable {P : Program} {X : Ctx} {n : Nat} {ops : Array Oper} {os : List Oper} {acc : List Rule} {σ : AS} {K : List Rule → AS → Prop} {gt : List (Nat × AV)} {d : Option Nat} {ty : TypeId} {ps : String} {af : Array Edge} {g : Option (Nat × Bool)}
def nJ : List AV → Option (List Int)
  | [] => some []
  | .v (.int .u8 b) :: l => match nJ l with
    | some r => some (b :: r)
    | none => none
  | _ => none
theorem nE : ∀ {N : List AV} {zs : List Int}, nJ N = some zs → N = zs.map fun b => .v (.int .u8 b)
  | [], zs, h => by injection h with h; subst h; rfl
  | x :: l, zs, h => by
    unfold nJ at h
    split at h
    · rename_i heq; cases heq
    · rename_i b l' heq
      injection heq with h1 h2
      subst h1; subst h2
      cases hl : nJ l with
      | none => rw [hl] at h; cases h
      | some r => rw [hl] at h; injection h with h; subst h; rw [nE hl]; rfl
    · cases h
theorem sD {src dst e : TypeId} {x : Operand} {N : List AV} {zs : List Int} (hs : P.underlying src = some (.slice e)) (he : P.underlying e = some (.int .u8)) (hd : P.underlying dst = some .string) (hx : ev σ x = .sl 1 N) (hb : nJ N = some zs) (hpos : 0 < zs.length)
    (h : Exec P X n ops os (mkG gt σ [x] [] d (.v (.string (strOfNums zs))) [] :: acc) (σ.put d (.v (.string (strOfNums zs)))) K) : Op1 P X n ops gt ⟨d, .convert src dst x, ty, ps, af, g⟩ os acc σ K :=
  jF (fun M ρ τ a w he' hR => by
    have h1 := hR.ev x
    rw [he' x (by simp), hx] at h1
    obtain ⟨A, c, us, e1, e2, e2', e3, e4⟩ := h1.sl_inv
    have hN := nE hb
    have hNl : N.length = zs.length := by rw [hN]; simp
    obtain ⟨y0, hy0⟩ := zT (L := N) (k := 0) (by omega)
    obtain ⟨f1, b, o, arr, rfl, f3, f4⟩ := e4 0 y0 hy0
    obtain ⟨t, fr, hh⟩ := hR.live b arr f3
    refine ⟨_, ?_, .v _ _⟩
    have hr := run_convert_bytes_arg (P := P) w src e hs he b o N.length c zs hNl.symm (fun i hi => by
      obtain ⟨z, hz⟩ := zT (L := zs) (k := i) (by omega)
      have hNi : N[i]? = some (.v (.int .u8 z)) := by rw [hN, List.getElem?_map, hz]; rfl
      obtain ⟨_, b', o', arr', hA, g3, g4⟩ := e4 i _ hNi
      injection hA with hA
      injection hA with ha hb
      subst ha; subst hb
      rw [f3] at g3
      injection g3 with g3
      subst g3
      have := g4 0 (by omega)
      rw [Nat.mul_one, Nat.add_zero] at this
      rw [cell_of_row w b (o + i) arr t fr hh, this]
      have h5 := (e3 i _ 0 (.v (.int .u8 z)) hNi rfl).v_inv
      rw [h5, List.getD_eq_getElem?_getD, hz]; rfl) dst hd
    unfold execOp
    simp only [e1, Sem.run_bind, hr]
    rfl) h
end
end Go.Proofs.YtnafokinifbfhaaGreatDoor
namespace Go.Proofs.YtnafokinifbfhaaGreatDoor
open Go Go.RowKit
section
variable {P : Program} {X : Ctx} {n : Nat} {ops : Array Oper} {os : List Oper} {acc : List Rule} {σ : AS} {K : List Rule → AS → Prop} {gt : List (Nat × AV)} {ty : TypeId} {ps : String} {af : Array Edge} {g : Option (Nat × Bool)} {d : Option Nat}
variable {TB : Tabs} (hTB : TabsOk P TB)
include hTB
theorem jE {t : TypeId} {x i : Operand} {s k off len sz e : Nat} {b : Bool} {kk : IntKind} {z : Int} (ht : P.underlying t = some (.array len e)) (hz : lk TB.ty e = some (b, sz)) (hx : ev σ x = .ptr s k off) (hi : ev σ i = .v (.int kk z)) (h0 : 0 ≤ z ∧ z < (len : Int))
    (h : Exec P X n ops os (mkG gt σ [x, i] [] d (.ptr s k (off + z.toNat * sz)) [] :: acc) (σ.put d (.ptr s k (off + z.toNat * sz))) K) : Op1 P X n ops gt ⟨d, .indexAddr t x i, ty, ps, af, g⟩ os acc σ K :=
  jF (fun M ρ τ a w he hR => by
    have h1 := hR.ev x
    rw [he x (by simp), hx] at h1
    obtain ⟨g', e1, e2⟩ := h1.ptr_inv
    have h2 := zv hR (he i (by simp)) hi
    refine ⟨.pointer (some ⟨g', off + z.toNat * sz, none⟩), ?_, .ptr _ s k _ g' e1⟩
    unfold execOp
    simp only [e2, h2, Instr.indexAt, asIntOf, Instr.sureAddr, Sem.run_bind, Sem.run_pure, run_underlying ht, Result.andThen_ok, Sem.run_ite, if_pos h0, yd hTB hz, Addr.add_mid]) h
end
theorem qn {a b : List AV} (h : a = b) : Cont.box a = .box b := by rw [h]
theorem jB {e sz : Nat} {a b : List AV} (h : a = b) : Cont.buf e sz a = .buf e sz b := by rw [h]
theorem hc_mp {a b : List (Value × Value)} (h : a = b) : Cont.mp a = .mp b := by rw [h]
def bsv (M : List Bool) : List AV := M.map fun b => .v (.bool b)
theorem jO (M : List Bool) : (bsv M).length = M.length := by simp [bsv]
theorem bsv_at {M : List Bool} {k : Nat} {b : Bool} (h : M[k]? = some b) : (bsv M)[k]? = some (.v (.bool b)) := by
  unfold bsv
  rw [List.getElem?_map, h]; rfl
theorem bsv_set (M : List Bool) (k : Nat) (b : Bool) : putL (bsv M) k [.v (.bool b)] = bsv (M.set k b) := by
  show (bsv M).set k _ = _
  unfold bsv
  rw [List.map_set]
section
variable {P : Program} {X : Ctx} {n : Nat} {ops : Array Oper} {os : List Oper} {acc : List Rule} {σ : AS} {K : List Rule → AS → Prop} {gt : List (Nat × AV)} {d : Option Nat} {ty : TypeId} {ps : String} {af : Array Edge} {g : Option (Nat × Bool)}
theorem aX {TB : Tabs} (hTB : TabsOk P TB) {t len e sz : Nat} {b : Bool} {parts : List (Nat × Operand)} {zs : List Value} {vals : List (Nat × AV)} {cs : List AV} (ht : P.underlying t = some (.array len e)) (he : lk TB.ty e = some (b, sz)) (hz : lk TB.zer t = some zs) (hv : vfsL σ parts = some vals) (hc : pI ((List.range len).map fun i => (i * sz, sz)) (zs.map .v) vals = some cs)
    (h : Exec P X n ops os (mkG gt σ (parts.map (·.2)) [] d (.ag cs) [] :: acc) (σ.put d (.ag cs)) K) : Op1 P X n ops gt ⟨d, .build t parts.toArray, ty, ps, af, g⟩ os acc σ K := by
  have hv := kZ hv
  refine jF (xs := parts.map (·.2)) (fun M ρ τ a w he' hR => ?_) h
  obtain ⟨i, z, i1, i2, rfl⟩ := qO hTB hz
  obtain ⟨dd, u1, u2, u3⟩ := jm hTB he
  obtain ⟨p1, p2⟩ := qy hR he' hv
  obtain ⟨us', h1, h2, h3⟩ := iM (M := M) (ρ := ρ) (f := fun i => some (i * sz, sz)) (fun i p h => by
    rw [List.getElem?_map] at h
    cases hr : (List.range len)[i]? with
    | none => rw [hr] at h; cases h
    | some r =>
      rw [hr] at h
      injection h with h
      obtain ⟨hlt, e⟩ := List.getElem?_eq_some_iff.1 hr
      rw [List.getElem_range] at e
      subst e
      rw [← h]) vals (z.cells.toList.map .v) cs z.cells.toList (parts.map fun p => (p.1, a.eval p.2)) hc (by simp) (fun j x u a b => by
    rw [List.getElem?_map, b] at a
    injection a with a
    subst a
    exact .v _ _) p1 p2
  refine ⟨.agg ⟨us'⟩, ?_, .ag _ _ _ h2 h3⟩
  have hb : P.built t (parts.toArray.map fun (x : Nat × Operand) => (x.1, a.eval x.2)).toList = some ⟨us'⟩ := by
    unfold Program.built
    rw [i1, ht]
    cases hi : P.info? e with
    | none => rw [hi] at u3; cases u3
    | some ie =>
      rw [hi] at u3
      injection u3 with u3
      have u4 : ie.size = sz := u3
      simp only [i2, hi]
      rw [Array.toList_map, u4]
      exact h1
  have := run_build (P := P) w t _ _ hb
  unfold execOp
  simp only [Sem.run_bind]
  rw [this]; rfl
end
section
variable {X : Ctx} {n : Nat} {M : Nat → Option (Array Value)} {ρ : Nat → Nat → Option Value} {σ : AS} {a : Act} {w : World}
end
section
variable {P : Program} {X : Ctx} {n : Nat} {ops : Array Oper} {os : List Oper} {acc : List Rule} {σ : AS} {K : List Rule → AS → Prop} {gt : List (Nat × AV)} {ty : TypeId} {ps : String} {af : Array Edge} {g : Option (Nat × Bool)}
variable {TB : Tabs} (hTB : TabsOk P TB)
include hTB
omit hTB in
end
end Go.Proofs.YtnafokinifbfhaaGreatDoor
namespace Go.Proofs.YtnafokinifbfhaaGreatDoor
open Go Go.RowKit
set_option maxRecDepth 10000
variable {G : Nat → Option (List Value)}
def Nd.av (x : Nd) : AV := .ag [.v (.string x.n), .v (.int .i64 x.cu), .v (.int .i64 x.co)]
def Dv.av (d : Dv) : AV := .ag [.v (.string d.n), .v (.int .i64 d.k), .v (.int .i64 d.a), .v (.int .i64 d.b), .v (.int .i64 d.co)]
theorem bytes_beq (s n : ByteArray) : (s == n) = decide (s = n) := by
  obtain ⟨a⟩ := s
  obtain ⟨b⟩ := n
  show (a == b) = _
  by_cases h : a = b
  · subst h; simp
  · simp [h]
theorem qG (s : ByteArray) : ∀ U : List ByteArray, fM .string (.string s) (nK U) = some (if dE U s = true then some (.bool true) else none)
  | [] => rfl
  | n :: U => by
    have ih := qG s U
    unfold nK at ih ⊢
    rw [List.map_cons, fM]
    simp only [Instr.sameNow]
    by_cases h : s = n
    · subst h
      rw [bytes_beq]
      simp [dE]
    · rw [bytes_beq, decide_eq_false h]
      simp only [ih, dE, List.any_cons, decide_eq_false h, Bool.false_or]
      rfl
theorem comp_A (n : Int) : zl Tryz.prog G 107 [.v (.int .i64 n)] [] (.v (.bool (dJ n))) [] := by
  refine zY tbOk (zM Tryz.func107 (by kernel_rfl) rfl) Tryz.func107 rfl _ Tryz.ntmps107 (Nat.le_of_ble_eq_true rfl) fun X hX => ?_
  subst hX
  repeat' (first | ((with_reducible refine zI ?_); refine zJ rfl ?_) | ((with_reducible refine zE ?_); refine zF rfl ?_) | ((with_reducible refine zt ?_); (first | refine yM rfl (by first | rfl | assumption) rfl ?_ | refine yL rfl (by first | rfl | assumption) rfl ?_)) | ((with_reducible refine zP ?_); refine zV rfl rfl rfl ?_)  | refine zK ?_ | refine zB rfl ?_ | refine yJ rfl rfl (by first | rfl | assumption) ?_ | refine yV rfl rfl (by first | rfl | assumption) ?_ | with_reducible (first | refine zG ?_ | refine zH ?_ | refine zS ?_) | ((with_reducible refine zA ?_ ?_); kernel_rfl) | refine yv rfl rfl (fun _ => ?_) (fun _ => ?_) | refine zh rfl (fun _ => ?_) (fun _ => ?_))
  all_goals refine yC (by first | exact .inr rfl | exact .inl rfl) rfl rfl ?_
  all_goals simp_all [dJ]
  all_goals (intros; omega)
theorem kV (n : Int) : zl Tryz.prog G 151 [.v (.int .i64 n)] [] (.v (.bool (qX n))) [] := by
  refine zY tbOk (zM Tryz.func151 (by kernel_rfl) rfl) Tryz.func151 rfl _ Tryz.ntmps151 (Nat.le_of_ble_eq_true rfl) fun X hX => ?_
  subst hX
  repeat' (first | ((with_reducible refine zI ?_); refine zJ rfl ?_) | ((with_reducible refine zE ?_); refine zF rfl ?_) | ((with_reducible refine zt ?_); (first | refine yM rfl (by first | rfl | assumption) rfl ?_ | refine yL rfl (by first | rfl | assumption) rfl ?_)) | ((with_reducible refine zP ?_); refine zV rfl rfl rfl ?_)  | refine zK ?_ | refine zB rfl ?_ | refine yJ rfl rfl (by first | rfl | assumption) ?_ | refine yV rfl rfl (by first | rfl | assumption) ?_ | with_reducible (first | refine zG ?_ | refine zH ?_ | refine zS ?_) | ((with_reducible refine zA ?_ ?_); kernel_rfl) | refine yv rfl rfl (fun _ => ?_) (fun _ => ?_) | refine zh rfl (fun _ => ?_) (fun _ => ?_))
  all_goals refine yC (by first | exact .inr rfl | exact .inl rfl) rfl rfl ?_
  all_goals simp_all [qX]
  all_goals (intros; omega)
set_option maxHeartbeats 1000000 in
theorem ends_A (d : Dv) (m : Int) : zl Tryz.prog G 108 [d.av, .v (.int .i64 m)] [] (.v (.bool (jZ d m))) [] := by
  refine zY tbOk (zM Tryz.func108 (by kernel_rfl) rfl) Tryz.func108 rfl _ Tryz.ntmps108 (Nat.le_of_ble_eq_true rfl) fun X hX => ?_
  subst hX
  repeat' (first | ((with_reducible refine zI ?_); refine zJ rfl ?_) | ((with_reducible refine zE ?_); refine zF rfl ?_) | ((with_reducible refine zO ?_); refine zL tbOk rfl rfl rfl rfl ?_) | ((with_reducible refine zQ ?_); refine zN tbOk rfl rfl rfl rfl rfl ?_) | ((with_reducible refine yz ?_); refine jA rfl rfl rfl ?_) | ((with_reducible refine zt ?_); (first | refine yM rfl (by first | rfl | assumption) rfl ?_ | refine yL rfl (by first | rfl | assumption) rfl ?_)) | ((with_reducible refine zP ?_); refine zV rfl rfl rfl ?_)  | refine zK ?_ | refine zB rfl ?_ | refine yr rfl rfl (by first | rfl | assumption) ?_ | refine jk rfl rfl (by first | rfl | assumption) ?_ | with_reducible (first | refine zG ?_ | refine zf ?_ | refine zo ?_ | refine zH ?_ | refine zW ?_ | refine zS ?_) | ((with_reducible refine zA ?_ ?_); kernel_rfl) | refine yb rfl (by first | rfl | assumption) ?_ | refine yv rfl rfl (fun _ => ?_) (fun _ => ?_) | refine zh rfl (fun _ => ?_) (fun _ => ?_))
  all_goals first
    | (fail_if_success with_reducible refine yB ?_
       skip)
    | (refine zC (kV d.k) ?_
       skip)
  all_goals repeat' (first | ((with_reducible refine zI ?_); refine zJ rfl ?_) | ((with_reducible refine zE ?_); refine zF rfl ?_) | ((with_reducible refine zO ?_); refine zL tbOk rfl rfl rfl rfl ?_) | ((with_reducible refine zQ ?_); refine zN tbOk rfl rfl rfl rfl rfl ?_) | ((with_reducible refine k_un ?_); refine jy rfl ?_) | ((with_reducible refine zt ?_); (first | refine yM rfl (by first | rfl | assumption) rfl ?_ | refine yL rfl (by first | rfl | assumption) rfl ?_)) | ((with_reducible refine zP ?_); refine zV rfl rfl rfl ?_)  | refine zK ?_ | refine zB rfl ?_ | refine yJ rfl rfl (by first | rfl | assumption) ?_ | refine yV rfl rfl (by first | rfl | assumption) ?_ | with_reducible (first | refine zG ?_ | refine zf ?_ | refine ze ?_ | refine zo ?_ | refine zH ?_ | refine zR ?_ | refine zS ?_) | ((with_reducible refine zA ?_ ?_); kernel_rfl) | refine yv rfl rfl (fun _ => ?_) (fun _ => ?_) | refine zh rfl (fun _ => ?_) (fun _ => ?_))
  all_goals refine yC (by first | exact .inr rfl | exact .inl rfl) rfl rfl ?_
  all_goals refine congrArg (fun b => AV.v (.bool b)) ?_
  all_goals simp_all [jZ]
  all_goals first
    | (intros; omega)
    | (rw [decide_eq_false (show ¬ d.a < 0 by omega), decide_eq_false (show ¬ m ≤ d.a by omega)]
       by_cases h9 : d.b = d.a <;> by_cases h10 : d.b = -1 <;> simp_all)
end Go.Proofs.YtnafokinifbfhaaGreatDoor
