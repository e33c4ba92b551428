/- Strings of bytes, and ends with a struct and a value behind a reference, in the abstract machine; conditions: none. | Arrays in the abstract machine: a cell's address by an index, a cell by an index, whole arrays; conditions: tables of types that agree with the program's / network.Check and what it calls, by the abstract machine; conditions: the table of classes stands / network.Check, by the abstract machine; conditions: the table of classes stands. -/
import Derived.Test.YtnafokinifbfhaaGreatDoorAbsU
import Derived.Laws.BytesArg
import Derived.Laws.IdiomStrings
import Derived.Test.YtnafokinifbfhaaGreatDoorNetP
import Derived.Test.YtnafokinifbfhaaGreatDoorZg
set_option linter.unusedVariables false
set_option linter.unusedSimpArgs false
namespace Go.Proofs.YtnafokinifbfhaaGreatDoor
open Go Go.RowKit
section
variable {P : Program} {X : Ctx} {n : Nat} {ops : Array Oper} {os : List Oper} {acc : List Rule} {σ : AS} {K : List Rule → AS → Prop} {gt : List (Nat × AV)} {d : Option Nat} {ty : TypeId} {ps : String} {af : Array Edge} {g : Option (Nat × Bool)}
/-- The numbers of a list of bytes. -/
def pY : List AV → Option (List Int)
  | [] => some []
  | .v (.int .u8 b) :: l => match pY l with
    | some r => some (b :: r)
    | none => none
  | _ => none
theorem pT : ∀ {N : List AV} {zs : List Int}, pY N = some zs → N = zs.map fun b => .v (.int .u8 b)
  | [], zs, h => by injection h with h; subst h; rfl
  | x :: l, zs, h => by
    unfold pY at h
    split at h
    · rename_i heq; cases heq
    · rename_i b l' heq
      injection heq with h1 h2
      subst h1; subst h2
      cases hl : pY l with
      | none => rw [hl] at h; cases h
      | some r => rw [hl] at h; injection h with h; subst h; rw [pT hl]; rfl
    · cases h
theorem tN {src dst e : TypeId} {x : Operand} {N : List AV} {zs : List Int} (hs : P.underlying src = some (.slice e)) (he : P.underlying e = some (.int .u8)) (hd : P.underlying dst = some .string) (hx : ev σ x = .sl 1 N) (hb : pY N = some zs) (hpos : 0 < zs.length)
    (h : Exec P X n ops os (mkG gt σ [x] [] d (.v (.string (strOfNums zs))) [] :: acc) (σ.put d (.v (.string (strOfNums zs)))) K) : Op1 P X n ops gt ⟨d, .convert src dst x, ty, ps, af, g⟩ os acc σ K :=
  yb (fun M ρ τ a w he' hR => by
    have h1 := hR.ev x
    rw [he' x (by simp), hx] at h1
    obtain ⟨A, c, us, e1, e2, e2', e3, e4⟩ := h1.sl_inv
    have hN := pT hb
    have hNl : N.length = zs.length := by rw [hN]; simp
    obtain ⟨y0, hy0⟩ := zB (L := N) (k := 0) (by omega)
    obtain ⟨f1, b, o, arr, rfl, f3, f4⟩ := e4 0 y0 hy0
    obtain ⟨t, fr, hh⟩ := hR.live b arr f3
    refine ⟨_, ?_, .v _ _⟩
    have hr := run_convert_bytes_arg (P := P) w src e hs he b o N.length c zs hNl.symm (fun i hi => by
      obtain ⟨z, hz⟩ := zB (L := zs) (k := i) (by omega)
      have hNi : N[i]? = some (.v (.int .u8 z)) := by rw [hN, List.getElem?_map, hz]; rfl
      obtain ⟨_, b', o', arr', hA, g3, g4⟩ := e4 i _ hNi
      injection hA with hA
      injection hA with ha hb
      subst ha; subst hb
      rw [f3] at g3
      injection g3 with g3
      subst g3
      have := g4 0 (by omega)
      rw [Nat.mul_one, Nat.add_zero] at this
      rw [cell_of_row w b (o + i) arr t fr hh, this]
      have h5 := (e3 i _ 0 (.v (.int .u8 z)) hNi rfl).v_inv
      rw [h5, List.getD_eq_getElem?_getD, hz]; rfl) dst hd
    unfold execOp
    simp only [e1, Sem.run_bind, hr]
    rfl) h
end
end Go.Proofs.YtnafokinifbfhaaGreatDoor
namespace Go.Proofs.YtnafokinifbfhaaGreatDoor
open Go Go.RowKit
section
variable {P : Program} {X : Ctx} {n : Nat} {ops : Array Oper} {os : List Oper} {acc : List Rule} {σ : AS} {K : List Rule → AS → Prop} {gt : List (Nat × AV)} {ty : TypeId} {ps : String} {af : Array Edge} {g : Option (Nat × Bool)} {d : Option Nat}
variable {TB : Tabs} (hTB : TabsOk P TB)
include hTB
theorem ya {t : TypeId} {x i : Operand} {s k off len sz e : Nat} {b : Bool} {kk : IntKind} {z : Int} (ht : P.underlying t = some (.array len e)) (hz : lk TB.ty e = some (b, sz)) (hx : ev σ x = .ptr s k off) (hi : ev σ i = .v (.int kk z)) (h0 : 0 ≤ z ∧ z < (len : Int))
    (h : Exec P X n ops os (mkG gt σ [x, i] [] d (.ptr s k (off + z.toNat * sz)) [] :: acc) (σ.put d (.ptr s k (off + z.toNat * sz))) K) : Op1 P X n ops gt ⟨d, .indexAddr t x i, ty, ps, af, g⟩ os acc σ K :=
  yb (fun M ρ τ a w he hR => by
    have h1 := hR.ev x
    rw [he x (by simp), hx] at h1
    obtain ⟨g', e1, e2⟩ := h1.ptr_inv
    have h2 := zT hR (he i (by simp)) hi
    refine ⟨.pointer (some ⟨g', off + z.toNat * sz, none⟩), ?_, .ptr _ s k _ g' e1⟩
    unfold execOp
    simp only [e2, h2, Instr.indexAt, asIntOf, Instr.sureAddr, Sem.run_bind, Sem.run_pure, run_underlying ht, Result.andThen_ok, Sem.run_ite, if_pos h0, yA hTB hz, Addr.add_mid]) h
end
theorem qr {a b : List AV} (h : a = b) : Cont.box a = .box b := by rw [h]
theorem zq {e sz : Nat} {a b : List AV} (h : a = b) : Cont.buf e sz a = .buf e sz b := by rw [h]
theorem hc_mp {a b : List (Value × Value)} (h : a = b) : Cont.mp a = .mp b := by rw [h]
/-- Truth values, one in each cell. -/
def bsv (M : List Bool) : List AV := M.map fun b => .v (.bool b)
theorem yp (M : List Bool) : (bsv M).length = M.length := by simp [bsv]
theorem bsv_at {M : List Bool} {k : Nat} {b : Bool} (h : M[k]? = some b) : (bsv M)[k]? = some (.v (.bool b)) := by
  unfold bsv
  rw [List.getElem?_map, h]; rfl
theorem bsv_set (M : List Bool) (k : Nat) (b : Bool) : putL (bsv M) k [.v (.bool b)] = bsv (M.set k b) := by
  show (bsv M).set k _ = _
  unfold bsv
  rw [List.map_set]
section
variable {P : Program} {X : Ctx} {n : Nat} {ops : Array Oper} {os : List Oper} {acc : List Rule} {σ : AS} {K : List Rule → AS → Prop} {gt : List (Nat × AV)} {d : Option Nat} {ty : TypeId} {ps : String} {af : Array Edge} {g : Option (Nat × Bool)}
/-- An array's literal. -/
theorem bK {TB : Tabs} (hTB : TabsOk P TB) {t len e sz : Nat} {b : Bool} {parts : List (Nat × Operand)} {zs : List Value} {vals : List (Nat × AV)} {cs : List AV} (ht : P.underlying t = some (.array len e)) (he : lk TB.ty e = some (b, sz)) (hz : lk TB.zer t = some zs) (hv : vfsL σ parts = some vals) (hc : rR ((List.range len).map fun i => (i * sz, sz)) (zs.map .v) vals = some cs)
    (h : Exec P X n ops os (mkG gt σ (parts.map (·.2)) [] d (.ag cs) [] :: acc) (σ.put d (.ag cs)) K) : Op1 P X n ops gt ⟨d, .build t parts.toArray, ty, ps, af, g⟩ os acc σ K := by
  have hv := nI hv
  refine yb (xs := parts.map (·.2)) (fun M ρ τ a w he' hR => ?_) h
  obtain ⟨i, z, i1, i2, rfl⟩ := qE hTB hz
  obtain ⟨dd, u1, u2, u3⟩ := jX hTB he
  obtain ⟨p1, p2⟩ := aE hR he' hv
  obtain ⟨us', h1, h2, h3⟩ := lS (M := M) (ρ := ρ) (f := fun i => some (i * sz, sz)) (fun i p h => by
    rw [List.getElem?_map] at h
    cases hr : (List.range len)[i]? with
    | none => rw [hr] at h; cases h
    | some r =>
      rw [hr] at h
      injection h with h
      obtain ⟨hlt, e⟩ := List.getElem?_eq_some_iff.1 hr
      rw [List.getElem_range] at e
      subst e
      rw [← h]) vals (z.cells.toList.map .v) cs z.cells.toList (parts.map fun p => (p.1, a.eval p.2)) hc (by simp) (fun j x u a b => by
    rw [List.getElem?_map, b] at a
    injection a with a
    subst a
    exact .v _ _) p1 p2
  refine ⟨.agg ⟨us'⟩, ?_, .ag _ _ _ h2 h3⟩
  have hb : P.built t (parts.toArray.map fun (x : Nat × Operand) => (x.1, a.eval x.2)).toList = some ⟨us'⟩ := by
    unfold Program.built
    rw [i1, ht]
    cases hi : P.info? e with
    | none => rw [hi] at u3; cases u3
    | some ie =>
      rw [hi] at u3
      injection u3 with u3
      have u4 : ie.size = sz := u3
      simp only [i2, hi]
      rw [Array.toList_map, u4]
      exact h1
  have := run_build (P := P) w t _ _ hb
  unfold execOp
  simp only [Sem.run_bind]
  rw [this]; rfl
end
section
variable {X : Ctx} {n : Nat} {M : Nat → Option (Array Value)} {ρ : Nat → Nat → Option Value} {σ : AS} {a : Act} {w : World}
end
section
variable {P : Program} {X : Ctx} {n : Nat} {ops : Array Oper} {os : List Oper} {acc : List Rule} {σ : AS} {K : List Rule → AS → Prop} {gt : List (Nat × AV)} {ty : TypeId} {ps : String} {af : Array Edge} {g : Option (Nat × Bool)}
variable {TB : Tabs} (hTB : TabsOk P TB)
include hTB
omit hTB in
end
end Go.Proofs.YtnafokinifbfhaaGreatDoor
namespace Go.Proofs.YtnafokinifbfhaaGreatDoor
open Go Go.RowKit
set_option maxRecDepth 10000
variable {G : Nat → Option (List Value)}
def Nd.av (x : Nd) : AV := .ag [.v (.string x.n), .v (.int .i64 x.cu), .v (.int .i64 x.co)]
def Dv.av (d : Dv) : AV := .ag [.v (.string d.n), .v (.int .i64 d.k), .v (.int .i64 d.a), .v (.int .i64 d.b), .v (.int .i64 d.co)]
theorem bytes_beq (s n : ByteArray) : (s == n) = decide (s = n) := by
  obtain ⟨a⟩ := s
  obtain ⟨b⟩ := n
  show (a == b) = _
  by_cases h : a = b
  · subst h; simp
  · simp [h]
theorem jx (s : ByteArray) : ∀ U : List ByteArray, gS .string (.string s) (pR U) = some (if jL U s = true then some (.bool true) else none)
  | [] => rfl
  | n :: U => by
    have ih := jx s U
    unfold pR at ih ⊢
    rw [List.map_cons, gS]
    simp only [Instr.sameNow]
    by_cases h : s = n
    · subst h
      rw [bytes_beq]
      simp [jL]
    · rw [bytes_beq, decide_eq_false h]
      simp only [ih, jL, List.any_cons, decide_eq_false h, Bool.false_or]
      rfl
theorem comp_A (n : Int) : zJ Tryz.prog G 107 [.v (.int .i64 n)] [] (.v (.bool (jq n))) [] := by
  refine zE tbOk (zA Tryz.func107 (by kernel_rfl) rfl) Tryz.func107 rfl _ Tryz.ntmps107 (Nat.le_of_ble_eq_true rfl) fun X hX => ?_
  subst hX
  repeat' (first | ((with_reducible refine yD ?_); refine yE rfl ?_) | ((with_reducible refine zi ?_); refine zh rfl ?_) | ((with_reducible refine yf ?_); (first | refine yj rfl (by first | rfl | assumption) rfl ?_ | refine yW rfl (by first | rfl | assumption) rfl ?_)) | ((with_reducible refine yZ ?_); refine yI rfl rfl rfl ?_)  | refine yh ?_ | refine zu rfl ?_ | refine jA rfl rfl (by first | rfl | assumption) ?_ | refine ym rfl rfl (by first | rfl | assumption) ?_ | with_reducible (first | refine zw ?_ | refine zp ?_ | refine yF ?_) | ((with_reducible refine zl ?_ ?_); kernel_rfl) | refine zX rfl rfl (fun _ => ?_) (fun _ => ?_) | refine zF rfl (fun _ => ?_) (fun _ => ?_))
  all_goals refine zL (by first | exact .inr rfl | exact .inl rfl) rfl rfl ?_
  all_goals simp_all [jq]
  all_goals (intros; omega)
theorem nG (n : Int) : zJ Tryz.prog G 151 [.v (.int .i64 n)] [] (.v (.bool (yH n))) [] := by
  refine zE tbOk (zA Tryz.func151 (by kernel_rfl) rfl) Tryz.func151 rfl _ Tryz.ntmps151 (Nat.le_of_ble_eq_true rfl) fun X hX => ?_
  subst hX
  repeat' (first | ((with_reducible refine yD ?_); refine yE rfl ?_) | ((with_reducible refine zi ?_); refine zh rfl ?_) | ((with_reducible refine yf ?_); (first | refine yj rfl (by first | rfl | assumption) rfl ?_ | refine yW rfl (by first | rfl | assumption) rfl ?_)) | ((with_reducible refine yZ ?_); refine yI rfl rfl rfl ?_)  | refine yh ?_ | refine zu rfl ?_ | refine jA rfl rfl (by first | rfl | assumption) ?_ | refine ym rfl rfl (by first | rfl | assumption) ?_ | with_reducible (first | refine zw ?_ | refine zp ?_ | refine yF ?_) | ((with_reducible refine zl ?_ ?_); kernel_rfl) | refine zX rfl rfl (fun _ => ?_) (fun _ => ?_) | refine zF rfl (fun _ => ?_) (fun _ => ?_))
  all_goals refine zL (by first | exact .inr rfl | exact .inl rfl) rfl rfl ?_
  all_goals simp_all [yH]
  all_goals (intros; omega)
set_option maxHeartbeats 1000000 in
theorem ends_A (d : Dv) (m : Int) : zJ Tryz.prog G 108 [d.av, .v (.int .i64 m)] [] (.v (.bool (zj d m))) [] := by
  refine zE tbOk (zA Tryz.func108 (by kernel_rfl) rfl) Tryz.func108 rfl _ Tryz.ntmps108 (Nat.le_of_ble_eq_true rfl) fun X hX => ?_
  subst hX
  repeat' (first | ((with_reducible refine yD ?_); refine yE rfl ?_) | ((with_reducible refine zi ?_); refine zh rfl ?_) | ((with_reducible refine zS ?_); refine zN tbOk rfl rfl rfl rfl ?_) | ((with_reducible refine ze ?_); refine zY tbOk rfl rfl rfl rfl rfl ?_) | ((with_reducible refine mG ?_); refine mP rfl rfl rfl ?_) | ((with_reducible refine yf ?_); (first | refine yj rfl (by first | rfl | assumption) rfl ?_ | refine yW rfl (by first | rfl | assumption) rfl ?_)) | ((with_reducible refine yZ ?_); refine yI rfl rfl rfl ?_)  | refine yh ?_ | refine zu rfl ?_ | refine yq rfl rfl (by first | rfl | assumption) ?_ | refine qd rfl rfl (by first | rfl | assumption) ?_ | with_reducible (first | refine zw ?_ | refine yd ?_ | refine jI ?_ | refine zp ?_ | refine yi ?_ | refine yF ?_) | ((with_reducible refine zl ?_ ?_); kernel_rfl) | refine cE rfl (by first | rfl | assumption) ?_ | refine zX rfl rfl (fun _ => ?_) (fun _ => ?_) | refine zF rfl (fun _ => ?_) (fun _ => ?_))
  all_goals first
    | (fail_if_success with_reducible refine yV ?_
       skip)
    | (refine zC (nG d.k) ?_
       skip)
  all_goals repeat' (first | ((with_reducible refine yD ?_); refine yE rfl ?_) | ((with_reducible refine zi ?_); refine zh rfl ?_) | ((with_reducible refine zS ?_); refine zN tbOk rfl rfl rfl rfl ?_) | ((with_reducible refine ze ?_); refine zY tbOk rfl rfl rfl rfl rfl ?_) | ((with_reducible refine k_un ?_); refine dM rfl ?_) | ((with_reducible refine yf ?_); (first | refine yj rfl (by first | rfl | assumption) rfl ?_ | refine yW rfl (by first | rfl | assumption) rfl ?_)) | ((with_reducible refine yZ ?_); refine yI rfl rfl rfl ?_)  | refine yh ?_ | refine zu rfl ?_ | refine jA rfl rfl (by first | rfl | assumption) ?_ | refine ym rfl rfl (by first | rfl | assumption) ?_ | with_reducible (first | refine zw ?_ | refine yd ?_ | refine qZ ?_ | refine jI ?_ | refine zp ?_ | refine yT ?_ | refine yF ?_) | ((with_reducible refine zl ?_ ?_); kernel_rfl) | refine zX rfl rfl (fun _ => ?_) (fun _ => ?_) | refine zF rfl (fun _ => ?_) (fun _ => ?_))
  all_goals refine zL (by first | exact .inr rfl | exact .inl rfl) rfl rfl ?_
  all_goals refine congrArg (fun b => AV.v (.bool b)) ?_
  all_goals simp_all [zj]
  all_goals first
    | (intros; omega)
    | (rw [decide_eq_false (show ¬ d.a < 0 by omega), decide_eq_false (show ¬ m ≤ d.a by omega)]
       by_cases h9 : d.b = d.a <;> by_cases h10 : d.b = -1 <;> simp_all)
end Go.Proofs.YtnafokinifbfhaaGreatDoor
namespace Go.Proofs.YtnafokinifbfhaaGreatDoor
open Go Go.RowKit
set_option maxRecDepth 10000
variable {G : Nat → Option (List Value)}
theorem rO (U : List ByteArray) (n : ByteArray) : pR (U ++ [n]) = pR U ++ [(.string n, .bool true)] := by
  unfold pR
  rw [List.map_append]
  rfl
theorem zBool (w : World) : (zeroValue 4).run Tryz.prog w = .ok (.bool false) w := by
  kernel_rfl
theorem ndGo_at {U : List ByteArray} {N : List Nd} {k : Nat} {x : Nd} (h : N[k]? = some x) : ndGo U (N.drop k) = if qv x.n.data.toList = false then 3 else if jL U x.n = true then 4 else if x.cu < 0 ∨ 1048576 < x.cu ∨ jq x.co = false then 5 else ndGo (U ++ [x.n]) (N.drop (k + 1)) := by
  rw [zv h]; rfl
theorem dvGo_at {m : Int} {U : List ByteArray} {V : List Dv} {k : Nat} {d : Dv} (h : V[k]? = some d) : dvGo m U (V.drop k) = if qv d.n.data.toList = false then 3 else if jL U d.n = true then 4 else if d.k < 1 ∨ 6 < d.k then 6 else if zj d m = false then 7 else if jq d.co = false then 5 else dvGo m (U ++ [d.n]) (V.drop (k + 1)) := by
  rw [zv h]; rfl
def dL (V : List Dv) (k : Nat) : List ByteArray := (V.take k).map Dv.n
theorem mU {V : List Dv} {k : Nat} {x : Dv} (h : V[k]? = some x) : dL V (k + 1) = dL V k ++ [x.n] := by
  unfold dL
  rw [List.take_add_one, h]
  simp
def jw (N : List Nd) (k : Nat) : List ByteArray := (N.take k).map Nd.n
theorem iT {N : List Nd} {k : Nat} {x : Nd} (h : N[k]? = some x) : jw N (k + 1) = jw N k ++ [x.n] := by
  unfold jw
  rw [List.take_add_one, h]
  simp
set_option maxHeartbeats 4000000 in
theorem netcheck_A (N : List Nd) (V : List Dv) (hG : GCls G) (hN : ∀ x ∈ N, x.n.size ≤ maxLen) (hV : ∀ x ∈ V, x.n.size ≤ maxLen) (h1 : N.length ≤ maxLen) (h2 : V.length ≤ maxLen) : zJ Tryz.prog G 66 [.ag [.sl 3 (N.map Nd.av), .sl 5 (V.map Dv.av)]] [] (.v (.int .i64 (netE N V))) [] := by
  refine zE tbOk (zA Tryz.func66 (by kernel_rfl) rfl) Tryz.func66 rfl _ Tryz.ntmps66 (Nat.le_of_ble_eq_true rfl) fun X hX => ?_
  subst hX
  refine zg12 ?_
  refine zX rfl rfl (fun h => ?_) (fun h => ?_)
  · have h32 : 32 < N.length := by simp at h; omega
    refine zg6 ?_
    refine zL (by first | exact .inr rfl | exact .inl rfl) rfl rfl ?_
    unfold netE
    rw [if_pos (.inl h32)]
  have h32 : ¬ 32 < N.length := by simp at h; omega
  refine zg9 ?_
  refine zF rfl (fun h => ?_) (fun h => ?_)
  · have h64 : 64 < V.length := by simp at h; omega
    refine zg6 ?_
    refine zL (by first | exact .inr rfl | exact .inl rfl) rfl rfl ?_
    unfold netE
    rw [if_pos (.inr h64)]
  · have h64 : ¬ 64 < V.length := by simp at h; omega
    refine zg13 ?_
    refine rV rfl ?_
    refine zg13 ?_
    refine zQ (ι := Nat) (fun k => k ≤ N.length ∧ ndGo (jw N k) (N.drop k) = ndGo [] N) (fun k => N.length - k) (fun v k => [(1, .ptr 1 (v 1) 0), (3, .own 18 (v 18)), (20, .sl 3 (N.map Nd.av)), (21, .v (.int .i64 (N.map Nd.av).length)), (22, .v (.int .i64 k))]) (fun v k => [(1, .box [.sl 3 (N.map Nd.av), .sl 5 (V.map Dv.av)]), (18, .mp (pR (jw N k)))]) ?_ ?_
    · exact ⟨0, ⟨Nat.zero_le _, rfl⟩, trivial, ⟨rfl, rfl, rfl, rfl, rfl, trivial⟩, ⟨rfl, rfl, trivial⟩⟩
    · rintro v k ⟨hk, hf⟩
      refine zg1 ?_
      refine zF rfl (fun h => ?_) (fun h => ?_)
      · have hlt : k < N.length := by simpa using h
        obtain ⟨x, hx⟩ := zB hlt
        have hy : (N.map Nd.av)[k]? = some x.av := by rw [List.getElem?_map, hx]; rfl
        rw [ndGo_at hx] at hf
        refine zg14 ?_
        refine zC (name_A x.n hG (hN x (List.mem_of_getElem? hx))) ?_
        refine zg5 ?_
        refine zF rfl (fun hE => ?_) (fun hE => ?_)
        · refine zg6 ?_
          refine zL (by first | exact .inr rfl | exact .inl rfl) rfl rfl ?_
          rw [if_pos (by simpa using hE)] at hf
          unfold netE
          rw [if_neg (by omega), if_pos (by rw [← hf]; decide), ← hf]
        · rw [if_neg (by simpa using hE)] at hf
          refine zg11 ?_
          by_cases hU : jL (jw N k) x.n = true
          · refine qh Tryz.underlying159 Tryz.underlying9 (by simp [MapKept.IsKey]) zBool rfl rfl rfl rfl ((jx x.n (jw N k)).trans (congrArg some (if_pos hU))) ?_
            refine zg6 ?_
            refine zL (by first | exact .inr rfl | exact .inl rfl) rfl rfl ?_
            rw [if_pos hU] at hf
            unfold netE
            rw [if_neg (by omega), if_pos (by rw [← hf]; decide), ← hf]
          · rw [if_neg hU] at hf
            refine qh Tryz.underlying159 Tryz.underlying9 (by simp [MapKept.IsKey]) zBool rfl rfl rfl rfl ((jx x.n (jw N k)).trans (congrArg some (if_neg hU))) ?_
            refine zg4 ?_
            refine zX rfl rfl (fun c1 => ?_) (fun c1 => ?_)
            · refine zg7 ?_
              refine zL (by first | exact .inr rfl | exact .inl rfl) rfl rfl ?_
              rw [if_pos (.inl (by simpa using c1))] at hf
              unfold netE
              rw [if_neg (by omega), if_pos (by rw [← hf]; decide), ← hf]
            · refine zg8 ?_
              refine zX rfl rfl (fun c2 => ?_) (fun c2 => ?_)
              · refine zg6 ?_
                refine zL (by first | exact .inr rfl | exact .inl rfl) rfl rfl ?_
                rw [if_pos (.inr (.inl (by simpa using c2)))] at hf
                unfold netE
                rw [if_neg (by omega), if_pos (by rw [← hf]; decide), ← hf]
              · refine zg8 ?_
                refine zC (comp_A x.co) ?_
                refine zg9 ?_
                refine zF rfl (fun c3 => ?_) (fun c3 => ?_)
                · refine zg6 ?_
                  refine zL (by first | exact .inr rfl | exact .inl rfl) rfl rfl ?_
                  rw [if_pos (.inr (.inr (by simpa using c3)))] at hf
                  unfold netE
                  rw [if_neg (by omega), if_pos (by rw [← hf]; decide), ← hf]
                · have c1' : ¬ x.cu < 0 := by simpa using c1
                  have c2' : ¬ 1048576 < x.cu := by simpa using c2
                  have c3' : ¬ jq x.co = false := by simpa using c3
                  rw [if_neg (by rintro (h | h | h) <;> contradiction)] at hf
                  refine zg7 ?_
                  refine rT Tryz.underlying159 Tryz.underlying9 (by simp [MapKept.IsKey]) rfl rfl rfl rfl rfl ((jx x.n (jw N k)).trans (congrArg some (if_neg hU))) ?_
                  refine zg2 ?_
                  refine ⟨k + 1, ⟨by omega, by rw [iT hx]; exact hf⟩, by omega, ⟨rfl, rfl, rfl, rfl, rfl, trivial⟩, ⟨rfl, ?_, trivial⟩⟩
                  rw [iT hx, rO]
                  rfl
      · have hlt : ¬ k < N.length := by simpa using h
        have hk' : k = N.length := by omega
        subst hk'
        have hn0 : ndGo [] N = 0 := by rw [← hf, List.drop_of_length_le (Nat.le_refl _)]; rfl
        have eV : netE N V = dvGo N.length (N.map Nd.n) V := by
          unfold netE
          rw [if_neg (by omega), if_neg (by simp [hn0])]
        rw [eV, show N.map Nd.n = jw N N.length by unfold jw; rw [List.take_length]]
        generalize jw N N.length = U
        refine zg7 ?_
        refine zQ (ι := Nat) (fun k => k ≤ V.length ∧ dvGo N.length (U ++ dL V k) (V.drop k) = dvGo N.length U V) (fun k => V.length - k) (fun v k => [(1, .ptr 1 (v 1) 0), (3, .own 18 (v 18)), (56, .sl 5 (V.map Dv.av)), (57, .v (.int .i64 (V.map Dv.av).length)), (58, .v (.int .i64 k))]) (fun v k => [(1, .box [.sl 3 (N.map Nd.av), .sl 5 (V.map Dv.av)]), (18, .mp (pR (U ++ dL V k)))]) ?_ ?_
        · exact ⟨0, ⟨Nat.zero_le _, by simp [dL]⟩, trivial, ⟨rfl, rfl, rfl, rfl, rfl, trivial⟩, ⟨rfl, by rw [show U ++ dL V 0 = U by simp [dL]]; rfl, trivial⟩⟩
        · rintro v k ⟨hk, hg⟩
          refine zg1 ?_
          refine zF rfl (fun h => ?_) (fun h => ?_)
          · have hlt : k < V.length := by simpa using h
            obtain ⟨d, hx⟩ := zB hlt
            have hy : (V.map Dv.av)[k]? = some d.av := by rw [List.getElem?_map, hx]; rfl
            rw [dvGo_at hx] at hg
            refine zg14 ?_
            refine zC (name_A d.n hG (hV d (List.mem_of_getElem? hx))) ?_
            refine zg5 ?_
            refine zF rfl (fun hE => ?_) (fun hE => ?_)
            · refine zg6 ?_
              refine zL (by first | exact .inr rfl | exact .inl rfl) rfl rfl ?_
              rw [if_pos (by simpa using hE)] at hg
              rw [← hg]
            · rw [if_neg (by simpa using hE)] at hg
              refine zg11 ?_
              by_cases hU : jL (U ++ dL V k) d.n = true
              · refine qh Tryz.underlying159 Tryz.underlying9 (by simp [MapKept.IsKey]) zBool rfl rfl rfl rfl ((jx d.n _).trans (congrArg some (if_pos hU))) ?_
                refine zg6 ?_
                refine zL (by first | exact .inr rfl | exact .inl rfl) rfl rfl ?_
                rw [if_pos hU] at hg
                rw [← hg]
              · rw [if_neg hU] at hg
                refine qh Tryz.underlying159 Tryz.underlying9 (by simp [MapKept.IsKey]) zBool rfl rfl rfl rfl ((jx d.n _).trans (congrArg some (if_neg hU))) ?_
                refine zg4 ?_
                refine zX rfl rfl (fun c1 => ?_) (fun c1 => ?_)
                · refine zg6 ?_
                  refine zL (by first | exact .inr rfl | exact .inl rfl) rfl rfl ?_
                  rw [if_pos (.inl (by simpa using c1))] at hg
                  rw [← hg]
                · refine zg9 ?_
                  refine zF rfl (fun c2 => ?_) (fun c2 => ?_)
                  · refine zg6 ?_
                    refine zL (by first | exact .inr rfl | exact .inl rfl) rfl rfl ?_
                    rw [if_pos (.inr (by simpa using c2))] at hg
                    rw [← hg]
                  · have c1' : ¬ d.k < 1 := by simpa using c1
                    have c2' : ¬ 6 < d.k := by simpa using c2
                    rw [if_neg (by omega)] at hg
                    refine zg13 ?_
                    have hln : ((N.map Nd.av).length : Int) = N.length := by simp
                    have hE2 := ends_A (G := X.G) d ((N.map Nd.av).length : Int)
                    rw [hln] at hE2
                    refine zC (ends_A d ((N.map Nd.av).length : Int)) ?_
                    refine zg5 ?_
                    refine zF rfl (fun c3 => ?_) (fun c3 => ?_)
                    · refine zg6 ?_
                      refine zL (by first | exact .inr rfl | exact .inl rfl) rfl rfl ?_
                      rw [if_pos (by simpa using c3)] at hg
                      rw [← hg]
                    · rw [if_neg (by simpa using c3)] at hg
                      refine zg11 ?_
                      refine zC (comp_A d.co) ?_
                      refine zg5 ?_
                      refine zF rfl (fun c4 => ?_) (fun c4 => ?_)
                      · refine zg6 ?_
                        refine zL (by first | exact .inr rfl | exact .inl rfl) rfl rfl ?_
                        rw [if_pos (by simpa using c4)] at hg
                        rw [← hg]
                      · rw [if_neg (by simpa using c4)] at hg
                        refine zg7 ?_
                        refine rT Tryz.underlying159 Tryz.underlying9 (by simp [MapKept.IsKey]) rfl rfl rfl rfl rfl ((jx d.n _).trans (congrArg some (if_neg hU))) ?_
                        refine zg2 ?_
                        refine ⟨k + 1, ⟨by omega, by rw [mU hx, ← List.append_assoc]; exact hg⟩, by omega, ⟨rfl, rfl, rfl, rfl, rfl, trivial⟩, ⟨rfl, ?_, trivial⟩⟩
                        rw [mU hx, ← List.append_assoc, rO]
                        rfl
          · have hlt : ¬ k < V.length := by simpa using h
            refine zg2 ?_
            refine zL (by first | exact .inr rfl | exact .inl rfl) rfl rfl ?_
            rw [List.drop_of_length_le (by omega)] at hg
            rw [← hg]; rfl
end Go.Proofs.YtnafokinifbfhaaGreatDoor
