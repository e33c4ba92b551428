/- Tables of the program: a cell of one, a row of all its cells; conditions: tables of types that agree with the program's / mask.is, position, valid, check, Check, State, Unknown, Count, by the abstract machine; conditions: the table of positions stands. -/
import Derived.Test.YtnafokinifbfhaaGreatDoorNetA
import Derived.Test.YtnafokinifbfhaaGreatDoorCoA
set_option linter.unusedVariables false
set_option linter.unusedSimpArgs false
namespace Go.Proofs.YtnafokinifbfhaaGreatDoor
open Go Go.RowKit
section
variable {P : Program} {X : Ctx} {n : Nat} {ops : Array Oper} {os : List Oper} {acc : List Rule} {σ : AS} {K : List Rule → AS → Prop} {gt : List (Nat × AV)} {ty : TypeId} {ps : String} {af : Array Edge} {g : Option (Nat × Bool)} {d : Option Nat}
end
section
variable {P : Program} {X : Ctx} {n : Nat} {ops : Array Oper} {os : List Oper} {acc : List Rule} {σ : AS} {K : List Rule → AS → Prop} {gt : List (Nat × AV)} {ty : TypeId} {ps : String} {af : Array Edge} {g : Option (Nat × Bool)} {d : Option Nat}
variable {TB : Tabs} (hTB : TabsOk P TB)
include hTB
theorem dS {t : TypeId} {x i : Operand} {gl o len sz e : Nat} {b : Bool} {kk : IntKind} {z : Int} (ht : P.underlying t = some (.array len e)) (hz : lk TB.ty e = some (b, sz)) (hx : ev σ x = .v (.pointer (some ⟨gl, o, none⟩))) (hi : ev σ i = .v (.int kk z)) (h0 : 0 ≤ z ∧ z < (len : Int))
    (h : Exec P X n ops os (mkG gt σ [x, i] [] d (.v (.pointer (some ⟨gl, o + z.toNat * sz, none⟩))) [] :: acc) (σ.put d (.v (.pointer (some ⟨gl, o + z.toNat * sz, none⟩)))) K) : Op1 P X n ops gt ⟨d, .indexAddr t x i, ty, ps, af, g⟩ os acc σ K :=
  jF (fun M ρ τ a w he hR => by
    have h1 := zv hR (he x (by simp)) hx
    have h2 := zv hR (he i (by simp)) hi
    refine ⟨.pointer (some ⟨gl, o + z.toNat * sz, none⟩), ?_, .v _ _⟩
    unfold execOp
    simp only [h1, h2, Instr.indexAt, asIntOf, Instr.sureAddr, Sem.run_bind, Sem.run_pure, run_underlying ht, Result.andThen_ok, Sem.run_ite, if_pos h0, yd hTB hz, Addr.add_mid]) h
theorem pR {t : TypeId} {x : Operand} {gl o : Nat} {vs : List Value} {u : Value} (ht : lk TB.ty t = some (false, 1)) (hx : ev σ x = .v (.pointer (some ⟨gl, o, none⟩))) (hG : X.G gl = some vs) (hu : vs[o]? = some u)
    (h : Exec P X n ops os (mkG gt σ [x] [] d (.v u) [] :: acc) (σ.put d (.v u)) K) : Op1 P X n ops gt ⟨d, .load t x, ty, ps, af, g⟩ os acc σ K :=
  jF (fun M ρ τ a w he hR => by
    have h1 := zv hR (he x (by simp)) hx
    obtain ⟨t', fr, hh⟩ := hR.live gl ⟨vs⟩ (hR.glob gl vs hG)
    refine ⟨u, ?_, .v _ _⟩
    have hc : w.cell? ⟨gl, o, none⟩ = some u := by rw [cell_of_row w gl o ⟨vs⟩ t' fr hh]; simpa using hu
    unfold execOp
    simp only [h1, Instr.loadAt, Instr.sureAddr, loadVar, Sem.run_bind, Sem.run_pure, Result.andThen_ok, qK hTB ht, Bool.false_eq_true, if_false, run_load, hc]) h
end
end Go.Proofs.YtnafokinifbfhaaGreatDoor
namespace Go.Proofs.YtnafokinifbfhaaGreatDoor
open Go Go.RowKit
set_option maxRecDepth 10000
variable {G : Nat → Option (List Value)}
section
variable {P : Program} {X : Ctx} {n : Nat} {ops : Array Oper} {os : List Oper} {acc : List Rule} {σ : AS} {K : List Rule → AS → Prop} {gt : List (Nat × AV)} {ty : TypeId} {ps : String} {af : Array Edge} {g : Option (Nat × Bool)} {d : Option Nat}
variable {TB : Tabs} (hTB : TabsOk P TB)
include hTB
theorem dG {t : TypeId} {x : Operand} {f gl off off' ft : Nat} {b : Bool} {m : Nat} {fs : List (Nat × Nat)} (hx : ev σ x = .v (.pointer (some ⟨gl, off, none⟩))) (hf : lk TB.fld t = some fs) (hf2 : fs[f]? = some (off', ft)) (hm : lk TB.ty ft = some (b, m + 1))
    (h : Exec P X n ops os (mkG gt σ [x] [] d (.v (.pointer (some ⟨gl, off + off', none⟩))) [] :: acc) (σ.put d (.v (.pointer (some ⟨gl, off + off', none⟩)))) K) : Op1 P X n ops gt ⟨d, .fieldAddr t x f, ty, ps, af, g⟩ os acc σ K :=
  jF (fun M ρ τ a w he hR => by
    have e2 := zv hR (he x (by simp)) hx
    obtain ⟨gs, u1, u2⟩ := cM hTB hf
    refine ⟨.pointer (some ⟨gl, off + off', none⟩), ?_, .v _ _⟩
    rw [← u2] at hf2
    simp only [List.getElem?_map, Option.map_eq_some_iff, Array.getElem?_toList, Prod.mk.injEq] at hf2
    obtain ⟨fd, h3, h4, h5⟩ := hf2
    unfold execOp
    simp only [e2, Instr.fieldAt, Sem.run_bind, run_underlying u1, Result.andThen_ok, h3, Instr.sureAddr, Sem.run_pure, fieldPlace]
    rw [h5, yd hTB hm]
    simp only [Result.andThen_ok, Nat.succ_ne_zero, if_false, Sem.run_pure, Nat.add_eq_zero_iff, and_false]
    rw [h4, Addr.add_mid]) h
end
def posL : List Value := [.bool false, .bool false, .bool true, .bool true, .bool true, .bool true, .bool true, .bool false]
def GPos (G : Nat → Option (List Value)) : Prop := G 0 = some posL
def isB (m : Int) : Bool := decide (1 ≤ m) && decide (m ≤ 3)
def posB (m : Int) : Bool := decide (1 ≤ m) && decide (m ≤ 2)
theorem arrP : Tryz.prog.underlying 178 = some (.array 4 177) := Tryz.underlying178
theorem mis_A (m : Int) (hP : GPos G) : zl Tryz.prog G 79 [.v (.int .i64 m)] [] (.v (.bool (isB m))) [] := by
  refine zY tbOk (zM Tryz.func79 (by kernel_rfl) rfl) Tryz.func79 rfl _ Tryz.ntmps79 (Nat.le_of_ble_eq_true rfl) fun X hX => ?_
  subst hX
  repeat (first | ((with_reducible refine zI ?_); refine zJ rfl ?_) | ((with_reducible refine zE ?_); refine zF rfl ?_) | ((with_reducible refine zP ?_); refine zV rfl rfl rfl ?_)  | refine zK ?_ | refine zB rfl ?_ | with_reducible (first | refine zG ?_ | refine zH ?_) | ((with_reducible refine zA ?_ ?_); kernel_rfl))
  by_cases h0 : 0 ≤ m
  · have d0 : decide (m ≥ 0) = true := decide_eq_true h0
    repeat (first | ((with_reducible refine zI ?_); refine zJ rfl ?_) | ((with_reducible refine zt ?_); refine yM rfl (by first | rfl | assumption) rfl ?_) | ((with_reducible refine zP ?_); refine zV rfl rfl rfl ?_)  | refine zB rfl ?_ | refine yJ rfl rfl (by first | rfl | assumption) ?_  )
    by_cases h4 : m < 4
    · have d4 : decide (m < 4) = true := decide_eq_true h4
      obtain ⟨k, rfl⟩ := Int.eq_ofNat_of_zero_le h0
      repeat (first | ((with_reducible refine zI ?_); refine zJ rfl ?_)  | refine yJ rfl rfl (by first | rfl | assumption) ?_  )
      with_reducible refine zU ?_
      refine dS tbOk arrP rfl rfl rfl (by constructor <;> omega) ?_
      repeat (first   | refine yJ rfl rfl (by first | rfl | assumption) ?_  )
      with_reducible refine zO ?_
      refine dG tbOk rfl rfl rfl rfl ?_
      repeat (first   | refine yJ rfl rfl (by first | rfl | assumption) ?_  )
      with_reducible refine zQ ?_
      refine pR tbOk (u := .bool (isB (k : Nat))) rfl rfl hP ?_ ?_
      · have hk : k < 4 := by omega
        rw [Int.toNat_natCast]
        match k, hk with
        | 0, _ => rfl
        | 1, _ => rfl
        | 2, _ => rfl
        | 3, _ => rfl
      repeat (first | ((with_reducible refine zE ?_); refine zF rfl ?_) | ((with_reducible refine zt ?_); refine yM rfl (by first | rfl | assumption) rfl ?_)  | refine zK ?_ | refine zB rfl ?_ | with_reducible (first | refine zG ?_ | refine zS ?_) )
      refine yC (by first | exact .inr rfl | exact .inl rfl) rfl rfl ?_
      rfl
    · have d4 : decide (m < 4) = false := decide_eq_false h4
      repeat (first | ((with_reducible refine zE ?_); refine zF rfl ?_) | ((with_reducible refine zt ?_); refine yL rfl (by first | rfl | assumption) rfl ?_)  | refine zK ?_ | refine zB rfl ?_ | refine yV rfl rfl (by first | rfl | assumption) ?_ | with_reducible (first | refine zG ?_ | refine zS ?_) )
      refine yC (by first | exact .inr rfl | exact .inl rfl) rfl rfl ?_
      refine congrArg (fun b => AV.v (.bool b)) ?_
      unfold isB
      rw [decide_eq_false (by omega : ¬ m ≤ _), Bool.and_false]
  · have d0 : decide (m ≥ 0) = false := decide_eq_false (by omega)
    repeat (first | ((with_reducible refine zI ?_); refine zJ rfl ?_) | ((with_reducible refine zE ?_); refine zF rfl ?_) | ((with_reducible refine zt ?_); refine yL rfl (by first | rfl | assumption) rfl ?_)  | refine zK ?_ | refine zB rfl ?_ | refine yV rfl rfl (by first | rfl | assumption) ?_ | with_reducible (first | refine zG ?_ | refine zS ?_) )
    refine yC (by first | exact .inr rfl | exact .inl rfl) rfl rfl ?_
    refine congrArg (fun b => AV.v (.bool b)) ?_
    unfold isB
    rw [decide_eq_false (by omega : ¬ 1 ≤ m), Bool.false_and]
theorem mpos_A (m : Int) (hP : GPos G) : zl Tryz.prog G 124 [.v (.int .i64 m)] [] (.v (.bool (posB m))) [] := by
  refine zY tbOk (zM Tryz.func124 (by kernel_rfl) rfl) Tryz.func124 rfl _ Tryz.ntmps124 (Nat.le_of_ble_eq_true rfl) fun X hX => ?_
  subst hX
  repeat (first | ((with_reducible refine zI ?_); refine zJ rfl ?_) | ((with_reducible refine zE ?_); refine zF rfl ?_) | ((with_reducible refine zP ?_); refine zV rfl rfl rfl ?_)  | refine zK ?_ | refine zB rfl ?_ | with_reducible (first | refine zG ?_ | refine zH ?_) | ((with_reducible refine zA ?_ ?_); kernel_rfl))
  by_cases h0 : 0 ≤ m
  · have d0 : decide (m ≥ 0) = true := decide_eq_true h0
    repeat (first | ((with_reducible refine zI ?_); refine zJ rfl ?_) | ((with_reducible refine zt ?_); refine yM rfl (by first | rfl | assumption) rfl ?_) | ((with_reducible refine zP ?_); refine zV rfl rfl rfl ?_)  | refine zB rfl ?_ | refine yJ rfl rfl (by first | rfl | assumption) ?_  )
    by_cases h4 : m < 4
    · have d4 : decide (m < 4) = true := decide_eq_true h4
      obtain ⟨k, rfl⟩ := Int.eq_ofNat_of_zero_le h0
      repeat (first | ((with_reducible refine zI ?_); refine zJ rfl ?_)  | refine yJ rfl rfl (by first | rfl | assumption) ?_  )
      with_reducible refine zU ?_
      refine dS tbOk arrP rfl rfl rfl (by constructor <;> omega) ?_
      repeat (first   | refine yJ rfl rfl (by first | rfl | assumption) ?_  )
      with_reducible refine zO ?_
      refine dG tbOk rfl rfl rfl rfl ?_
      repeat (first   | refine yJ rfl rfl (by first | rfl | assumption) ?_  )
      with_reducible refine zQ ?_
      refine pR tbOk (u := .bool (posB (k : Nat))) rfl rfl hP ?_ ?_
      · have hk : k < 4 := by omega
        rw [Int.toNat_natCast]
        match k, hk with
        | 0, _ => rfl
        | 1, _ => rfl
        | 2, _ => rfl
        | 3, _ => rfl
      repeat (first | ((with_reducible refine zE ?_); refine zF rfl ?_) | ((with_reducible refine zt ?_); refine yM rfl (by first | rfl | assumption) rfl ?_)  | refine zK ?_ | refine zB rfl ?_ | with_reducible (first | refine zG ?_ | refine zS ?_) )
      refine yC (by first | exact .inr rfl | exact .inl rfl) rfl rfl ?_
      rfl
    · have d4 : decide (m < 4) = false := decide_eq_false h4
      repeat (first | ((with_reducible refine zE ?_); refine zF rfl ?_) | ((with_reducible refine zt ?_); refine yL rfl (by first | rfl | assumption) rfl ?_)  | refine zK ?_ | refine zB rfl ?_ | refine yV rfl rfl (by first | rfl | assumption) ?_ | with_reducible (first | refine zG ?_ | refine zS ?_) )
      refine yC (by first | exact .inr rfl | exact .inl rfl) rfl rfl ?_
      refine congrArg (fun b => AV.v (.bool b)) ?_
      unfold posB
      rw [decide_eq_false (by omega : ¬ m ≤ _), Bool.and_false]
  · have d0 : decide (m ≥ 0) = false := decide_eq_false (by omega)
    repeat (first | ((with_reducible refine zI ?_); refine zJ rfl ?_) | ((with_reducible refine zE ?_); refine zF rfl ?_) | ((with_reducible refine zt ?_); refine yL rfl (by first | rfl | assumption) rfl ?_)  | refine zK ?_ | refine zB rfl ?_ | refine yV rfl rfl (by first | rfl | assumption) ?_ | with_reducible (first | refine zG ?_ | refine zS ?_) )
    refine yC (by first | exact .inr rfl | exact .inl rfl) rfl rfl ?_
    refine congrArg (fun b => AV.v (.bool b)) ?_
    unfold posB
    rw [decide_eq_false (by omega : ¬ 1 ≤ m), Bool.false_and]
def idxP (p : Int → Bool) : List Int → Nat → Int
  | [], _ => -1
  | x :: l, i => if p x = true then i else idxP p l (i + 1)
theorem xW {p : Int → Bool} {L : List Int} {k : Nat} {x : Int} (h : L[k]? = some x) : idxP p (L.drop k) k = if p x = true then (k : Int) else idxP p (L.drop (k + 1)) (k + 1) := by rw [yq h]; rfl
theorem sQ (p : Int → Bool) : ∀ (L : List Int) (i : Nat), decide (idxP p L i ≥ 0) = L.any p
  | [], i => by simp [idxP]
  | x :: L, i => by
    rw [idxP, List.any_cons]
    split
    · rename_i h; rw [h]; simp
    · rename_i h; rw [sQ p L (i + 1)]; simp [h]
set_option maxHeartbeats 1000000 in
theorem ifn_A (L : List Int) (f : FuncId) (p : Int → Bool) (hf : ∀ x ∈ L, zl Tryz.prog G f [.v (.int .i64 x)] [] (.v (.bool (p x))) []) (hm : L.length ≤ maxLen) :
    zl Tryz.prog G 94 [.sl 1 (L.map iv), .fn f []] [] (.v (.int .i64 (idxP p L 0))) [] := by
  have hml : L.length ≤ 9223372036854775807 := by unfold maxLen at hm; omega
  refine zY tbOk (zM Tryz.func94 (by kernel_rfl) rfl) Tryz.func94 rfl _ Tryz.ntmps94 (Nat.le_of_ble_eq_true rfl) fun X hX => ?_
  subst hX
  repeat (first | ((with_reducible refine zI ?_); refine zJ rfl ?_) | ((with_reducible refine zE ?_); refine zF rfl ?_) | ((with_reducible refine yB ?_); refine yj tbOk rfl rfl ?_)  | refine zK ?_ | refine zB rfl ?_ | with_reducible (first | refine zG ?_ | refine zH ?_ | refine zW ?_) | ((with_reducible refine zA ?_ ?_); kernel_rfl))
  refine ya (ι := Nat) (fun k => k ≤ L.length ∧ idxP p (L.drop k) k = idxP p L 0) (fun k => L.length - k) (fun v k => [(0, .sl 1 (L.map iv)), (1, .fn f []), (7, .v (.int .i64 (L.map iv).length)), (8, .v (.int .i64 (k : Nat)))]) (fun v k => []) ?_ ?_
  · exact ⟨0, ⟨Nat.zero_le _, rfl⟩, trivial, ⟨rfl, rfl, rfl, rfl, trivial⟩, trivial⟩
  · rintro v k ⟨hk, hi⟩
    repeat (first | ((with_reducible refine zP ?_); refine zV rfl rfl rfl ?_)  | refine zK ?_ | refine zB rfl ?_ | with_reducible (first | refine zG ?_ | refine zH ?_) | ((with_reducible refine zA ?_ ?_); kernel_rfl))
    refine zh rfl (fun h => ?_) (fun h => ?_)
    · have hlt : k < L.length := by simpa using h
      obtain ⟨x, hx⟩ := zT hlt
      have hy := cW hx
      rw [xW hx] at hi
      repeat (first | ((with_reducible refine zI ?_); refine zJ rfl ?_) | ((with_reducible refine zE ?_); refine zF rfl ?_) | ((with_reducible refine zQ ?_); refine zj tbOk rfl rfl rfl ?_) | ((with_reducible refine zU ?_); refine zg tbOk rfl rfl rfl rfl (by assumption) ?_)  | refine zK ?_ | refine zB rfl ?_ | with_reducible (first | refine zG ?_ | refine zH ?_ | refine zW ?_ | refine zR ?_) | ((with_reducible refine zA ?_ ?_); kernel_rfl))
      with_reducible refine yB ?_
      refine cJ (ss := []) (cs' := []) (hf x (List.mem_of_getElem? hx)) rfl (by repeat' (first | exact trivial | exact Ren.v _ | refine ⟨?_, ?_⟩)) (by simp) trivial rfl trivial (by repeat' exact RenB.v _) ?_
      repeat (first   | refine zK ?_ | with_reducible refine zG ?_ )
      refine zh rfl (fun hq => ?_) (fun hq => ?_)
      · rw [if_pos hq] at hi
        repeat (first | ((with_reducible refine zI ?_); refine zJ rfl ?_) | ((with_reducible refine zE ?_); refine zF rfl ?_)  | refine zK ?_ | refine zB rfl ?_ | with_reducible (first | refine zG ?_ | refine zf ?_ | refine zo ?_ | refine zH ?_ | refine zS ?_) | ((with_reducible refine zA ?_ ?_); kernel_rfl))
        refine yC (by first | exact .inr rfl | exact .inl rfl) rfl rfl ?_
        rw [← hi]
      · rw [if_neg (by simp [hq])] at hi
        repeat (first | ((with_reducible refine zI ?_); refine zJ rfl ?_) | ((with_reducible refine zP ?_); refine zX rfl rfl (by omega) ?_)  | refine zK ?_ | refine zB rfl ?_ | with_reducible (first | refine zG ?_ | refine ze ?_ | refine zR ?_) | ((with_reducible refine zA ?_ ?_); kernel_rfl))
        exact ⟨k + 1, ⟨by omega, hi⟩, by omega, ⟨rfl, rfl, rfl, rfl, trivial⟩, trivial⟩
    · have hlt : ¬ k < L.length := by simpa using h
      rw [List.drop_of_length_le (by omega)] at hi
      repeat (first | ((with_reducible refine zE ?_); refine zF rfl ?_)  | refine zK ?_ | refine zB rfl ?_ | with_reducible (first | refine zG ?_ | refine zd ?_ | refine zH ?_ | refine zw ?_ | refine zS ?_) | ((with_reducible refine zb ?_ ?_); rfl) | ((with_reducible refine zA ?_ ?_); kernel_rfl))
      refine yC (by first | exact .inr rfl | exact .inl rfl) rfl rfl ?_
      rw [← hi]; rfl
theorem cfn_A (L : List Int) (f : FuncId) (p : Int → Bool) (hf : ∀ x ∈ L, zl Tryz.prog G f [.v (.int .i64 x)] [] (.v (.bool (p x))) []) (hm : L.length ≤ maxLen) :
    zl Tryz.prog G 50 [.sl 1 (L.map iv), .fn f []] [] (.v (.bool (L.any p))) [] := by
  rw [← sQ p L 0]
  refine zY tbOk (zM Tryz.func50 (by kernel_rfl) rfl) Tryz.func50 rfl _ Tryz.ntmps50 (Nat.le_of_ble_eq_true rfl) fun X hX => ?_
  subst hX
  repeat (first | ((with_reducible refine zI ?_); refine zJ rfl ?_) | ((with_reducible refine zE ?_); refine zF rfl ?_)  | refine zK ?_ | refine zB rfl ?_ | with_reducible (first | refine zG ?_ | refine zH ?_) | ((with_reducible refine zA ?_ ?_); kernel_rfl))
  refine zk (ifn_A L f p hf hm) (by repeat' (first | exact trivial | exact Ren.sl _ _ | refine yo ?_ | refine ⟨?_, ?_⟩)) (by repeat' exact RenB.v _) ?_
  repeat (first | ((with_reducible refine zE ?_); refine zF rfl ?_) | ((with_reducible refine zP ?_); refine zV rfl rfl rfl ?_)  | refine zK ?_ | refine zB rfl ?_ | with_reducible (first | refine zG ?_ | refine zS ?_) )
  refine yC (by first | exact .inr rfl | exact .inl rfl) rfl rfl ?_
  rfl
theorem mvcl_A (m : Int) (hP : GPos G) : zl Tryz.prog G 165 [.v (.int .i64 m)] [] (.v (.bool (!isB m))) [] := by
  refine zY tbOk (zM Tryz.func165 (by kernel_rfl) rfl) Tryz.func165 rfl _ Tryz.ntmps165 (Nat.le_of_ble_eq_true rfl) fun X hX => ?_
  subst hX
  repeat (first | ((with_reducible refine zI ?_); refine zJ rfl ?_) | ((with_reducible refine zE ?_); refine zF rfl ?_)  | refine zK ?_ | refine zB rfl ?_ | with_reducible (first | refine zG ?_ | refine zH ?_) | ((with_reducible refine zA ?_ ?_); kernel_rfl))
  refine zk (mis_A m hP) (by repeat' (first | exact trivial | exact Ren.v _ | refine ⟨?_, ?_⟩)) (by repeat' exact RenB.v _) ?_
  repeat (first | ((with_reducible refine zE ?_); refine zF rfl ?_) | ((with_reducible refine k_un ?_); refine jy rfl ?_)  | refine zK ?_ | refine zB rfl ?_ | with_reducible (first | refine zG ?_ | refine zS ?_) )
  refine yC (by first | exact .inr rfl | exact .inl rfl) rfl rfl ?_
  rfl
theorem mval_A (L : List Int) (hP : GPos G) (h : ∀ m ∈ L, isB m = true) (hm : L.length ≤ maxLen) : zl Tryz.prog G 122 [.sl 1 (L.map iv)] [] (.v (.bool true)) [] := by
  have hc := cfn_A (G := G) L 165 (fun m => !isB m) (fun x _ => mvcl_A x hP) hm
  have e : L.any (fun m => !isB m) = false := by
    rw [List.any_eq_false]
    intro x hx
    rw [h x hx]; decide
  rw [e] at hc
  refine zY tbOk (zM Tryz.func122 (by kernel_rfl) rfl) Tryz.func122 rfl _ Tryz.ntmps122 (Nat.le_of_ble_eq_true rfl) fun X hX => ?_
  subst hX
  repeat (first | ((with_reducible refine zI ?_); refine zJ rfl ?_) | ((with_reducible refine zE ?_); refine zF rfl ?_)  | refine zK ?_ | refine zB rfl ?_ | with_reducible (first | refine zG ?_ | refine zH ?_) | ((with_reducible refine zA ?_ ?_); kernel_rfl))
  refine zk (hc) (by repeat' (first | exact trivial | exact Ren.sl _ _ | refine yo ?_ | refine ⟨?_, ?_⟩)) (by repeat' exact RenB.v _) ?_
  repeat (first | ((with_reducible refine zE ?_); refine zF rfl ?_) | ((with_reducible refine k_un ?_); refine jy rfl ?_)  | refine zK ?_ | refine zB rfl ?_ | with_reducible (first | refine zG ?_ | refine zS ?_) )
  refine yC (by first | exact .inr rfl | exact .inl rfl) rfl rfl ?_
  rfl
set_option maxHeartbeats 1000000 in
theorem mchk_A (N : List Nd) (V : List Dv) (L : List Int) (f : FuncId) (hG : GCls G) (hN : ∀ x ∈ N, x.n.size ≤ maxLen) (hVs : ∀ x ∈ V, x.n.size ≤ maxLen) (hn : N.length ≤ 32) (hv : V.length ≤ 64) (h0 : netE N V = 0) (hl : L.length = V.length) (hf : ∀ x ∈ L, zl Tryz.prog G f [.v (.int .i64 x)] [] (.v (.bool true)) []) :
    zl Tryz.prog G 78 [ja N V, .sl 1 (L.map iv), .fn f []] [] (.v (.int .i64 0)) [] := by
  have hvl : (V.map Dv.av).length = V.length := by simp
  have hml : (L.map iv).length = L.length := by simp
  have hnc := wN N V hG hN hVs (by unfold maxLen; omega) (by unfold maxLen; omega)
  rw [h0] at hnc
  refine zY tbOk (zM Tryz.func78 (by kernel_rfl) rfl) Tryz.func78 rfl _ Tryz.ntmps78 (Nat.le_of_ble_eq_true rfl) fun X hX => ?_
  subst hX
  repeat (first | ((with_reducible refine zE ?_); refine zF rfl ?_) | ((with_reducible refine zQ ?_); refine zZ tbOk rfl rfl rfl rfl (Nat.le_of_ble_eq_true rfl) ?_) | ((with_reducible refine yz ?_); refine jA rfl rfl rfl ?_)  | refine zK ?_ | refine zB rfl ?_ | with_reducible (first | refine zG ?_ | refine zH ?_) | ((with_reducible refine zA ?_ ?_); kernel_rfl))
  refine zk (hnc) (by repeat' (first | exact trivial | exact Ren.sl _ _ | refine zp ?_ | refine ⟨?_, ?_⟩)) (by repeat' exact RenB.v _) ?_
  repeat (first | ((with_reducible refine zI ?_); refine zJ rfl ?_) | ((with_reducible refine zE ?_); refine zF rfl ?_) | ((with_reducible refine zO ?_); refine zL tbOk rfl rfl rfl rfl ?_) | ((with_reducible refine zQ ?_); refine zN tbOk rfl rfl rfl rfl rfl ?_) | ((with_reducible refine yB ?_); refine yj tbOk rfl rfl ?_) | ((with_reducible refine zP ?_); refine zV rfl rfl rfl ?_)  | refine zK ?_ | refine zB rfl ?_ | with_reducible (first | refine zG ?_ | refine zH ?_ | refine zR ?_) | ((with_reducible refine zA ?_ ?_); kernel_rfl) | refine zm rfl (by first | rfl | assumption) ?_)
  refine zh rfl (fun h => ?_) (fun h => ?_)
  · exfalso; rw [hml, hvl, hl] at h; simp at h
  repeat (first | ((with_reducible refine zI ?_); refine zJ rfl ?_) | ((with_reducible refine yB ?_); refine yj tbOk rfl rfl ?_)  | refine zK ?_ | refine zB rfl ?_ | with_reducible (first | refine zG ?_ | refine zH ?_ | refine zW ?_ | refine zR ?_) | ((with_reducible refine zA ?_ ?_); kernel_rfl))
  refine ya (ι := Nat) (fun k => k ≤ L.length) (fun k => L.length - k) (fun v k => [(2, .fn f []), (21, .sl 1 (L.map iv)), (22, .v (.int .i64 (L.map iv).length)), (23, .v (.int .i64 (k : Nat)))]) (fun v k => []) ?_ ?_
  · exact ⟨0, Nat.zero_le _, trivial, ⟨rfl, rfl, rfl, rfl, trivial⟩, trivial⟩
  rintro v k hk
  repeat (first | ((with_reducible refine zP ?_); refine zV rfl rfl rfl ?_)  | refine zK ?_ | refine zB rfl ?_ | with_reducible (first | refine zG ?_ | refine zH ?_) | ((with_reducible refine zA ?_ ?_); kernel_rfl))
  refine zh rfl (fun h => ?_) (fun h => ?_)
  · have hlt : k < L.length := by simpa using h
    obtain ⟨x, hx⟩ := zT hlt
    have hy := cW hx
    repeat (first | ((with_reducible refine zI ?_); refine zJ rfl ?_) | ((with_reducible refine zE ?_); refine zF rfl ?_) | ((with_reducible refine zQ ?_); refine zj tbOk rfl rfl rfl ?_) | ((with_reducible refine zU ?_); refine zg tbOk rfl rfl rfl rfl (by assumption) ?_)  | refine zK ?_ | refine zB rfl ?_ | with_reducible (first | refine zG ?_ | refine zH ?_ | refine zW ?_ | refine zR ?_) | ((with_reducible refine zA ?_ ?_); kernel_rfl))
    refine cJ (ss := []) (cs' := []) (hf x (List.mem_of_getElem? hx)) rfl (by repeat' (first | exact trivial | exact Ren.v _ | refine ⟨?_, ?_⟩)) (by simp) trivial rfl trivial (by repeat' exact RenB.v _) ?_
    repeat (first | ((with_reducible refine zI ?_); refine zJ rfl ?_) | ((with_reducible refine k_un ?_); refine jy rfl ?_) | ((with_reducible refine zP ?_); refine zX rfl rfl (by omega) ?_)  | refine zK ?_ | refine zB rfl ?_ | with_reducible (first | refine zG ?_ | refine ze ?_ | refine zR ?_) | ((with_reducible refine zA ?_ ?_); kernel_rfl) | refine zm rfl (by first | rfl | assumption) ?_)
    exact ⟨k + 1, by omega, by omega, ⟨rfl, rfl, rfl, rfl, trivial⟩, trivial⟩
  · repeat (first | ((with_reducible refine zE ?_); refine zF rfl ?_)  | refine zK ?_ | refine zB rfl ?_ | with_reducible (first | refine zG ?_ | refine zd ?_ | refine zH ?_ | refine zw ?_ | refine zS ?_) | ((with_reducible refine zb ?_ ?_); rfl) | ((with_reducible refine zA ?_ ?_); kernel_rfl))
    refine yC (by first | exact .inr rfl | exact .inl rfl) rfl rfl ?_
    rfl
theorem uX (N : List Nd) (V : List Dv) (L : List Int) (hG : GCls G) (hP : GPos G) (hN : ∀ x ∈ N, x.n.size ≤ maxLen) (hVs : ∀ x ∈ V, x.n.size ≤ maxLen) (hn : N.length ≤ 32) (hv : V.length ≤ 64) (h0 : netE N V = 0) (hl : L.length = V.length) (hf : ∀ x ∈ L, isB x = true) :
    zl Tryz.prog G 39 [ja N V, .sl 1 (L.map iv)] [] (.v (.int .i64 0)) [] := by
  have hc := mchk_A (G := G) N V L 79 hG hN hVs hn hv h0 hl (fun x hx => by have := mis_A (G := G) x hP; rw [hf x hx] at this; exact this)
  refine zY tbOk (zM Tryz.func39 (by kernel_rfl) rfl) Tryz.func39 rfl _ Tryz.ntmps39 (Nat.le_of_ble_eq_true rfl) fun X hX => ?_
  subst hX
  repeat (first | ((with_reducible refine zI ?_); refine zJ rfl ?_) | ((with_reducible refine zE ?_); refine zF rfl ?_) | ((with_reducible refine zQ ?_); refine zZ tbOk rfl rfl rfl rfl (Nat.le_of_ble_eq_true rfl) ?_) | ((with_reducible refine yz ?_); refine jA rfl rfl rfl ?_)  | refine zK ?_ | refine zB rfl ?_ | with_reducible (first | refine zG ?_ | refine zH ?_) | ((with_reducible refine zA ?_ ?_); kernel_rfl))
  refine zk (hc) (by repeat' (first | exact trivial | exact Ren.sl _ _ | refine zp ?_ | refine yo ?_ | refine ⟨?_, ?_⟩)) (by repeat' exact RenB.v _) ?_
  repeat (first | ((with_reducible refine zE ?_); refine zF rfl ?_)  | refine zK ?_ | refine zB rfl ?_ | with_reducible (first | refine zG ?_ | refine zS ?_) )
  refine yC (by first | exact .inr rfl | exact .inl rfl) rfl rfl ?_
  rfl
theorem nD (N : List Nd) (V : List Dv) (L : List Int) (hG : GCls G) (hP : GPos G) (hN : ∀ x ∈ N, x.n.size ≤ maxLen) (hVs : ∀ x ∈ V, x.n.size ≤ maxLen) (hn : N.length ≤ 32) (hv : V.length ≤ 64) (h0 : netE N V = 0) (hl : L.length = V.length) (hf : ∀ x ∈ L, posB x = true) :
    zl Tryz.prog G 83 [ja N V, .sl 1 (L.map iv)] [] (.v (.int .i64 0)) [] := by
  have hc := mchk_A (G := G) N V L 124 hG hN hVs hn hv h0 hl (fun x hx => by have := mpos_A (G := G) x hP; rw [hf x hx] at this; exact this)
  refine zY tbOk (zM Tryz.func83 (by kernel_rfl) rfl) Tryz.func83 rfl _ Tryz.ntmps83 (Nat.le_of_ble_eq_true rfl) fun X hX => ?_
  subst hX
  repeat (first | ((with_reducible refine zI ?_); refine zJ rfl ?_) | ((with_reducible refine zE ?_); refine zF rfl ?_) | ((with_reducible refine zQ ?_); refine zZ tbOk rfl rfl rfl rfl (Nat.le_of_ble_eq_true rfl) ?_) | ((with_reducible refine yz ?_); refine jA rfl rfl rfl ?_)  | refine zK ?_ | refine zB rfl ?_ | with_reducible (first | refine zG ?_ | refine zH ?_) | ((with_reducible refine zA ?_ ?_); kernel_rfl))
  refine zk (hc) (by repeat' (first | exact trivial | exact Ren.sl _ _ | refine zp ?_ | refine yo ?_ | refine ⟨?_, ?_⟩)) (by repeat' exact RenB.v _) ?_
  repeat (first | ((with_reducible refine zE ?_); refine zF rfl ?_)  | refine zK ?_ | refine zB rfl ?_ | with_reducible (first | refine zG ?_ | refine zS ?_) )
  refine yC (by first | exact .inr rfl | exact .inl rfl) rfl rfl ?_
  rfl
def jb : Nat → List Int → List Int
  | _, [] => []
  | i, m :: l => if m = 3 then (i : Int) :: jb (i + 1) l else jb (i + 1) l
def unkP (L : List Int) : List Int := jb 0 L
set_option maxHeartbeats 1000000 in
theorem munk_A (L : List Int) (hm : L.length ≤ 1000) : zl Tryz.prog G 81 [.sl 1 (L.map iv)] [] (.sl 1 ((unkP L).map iv)) [] := by
  unfold unkP
  refine zY tbOk (zM Tryz.func81 (by kernel_rfl) rfl) Tryz.func81 rfl _ Tryz.ntmps81 (Nat.le_of_ble_eq_true rfl) fun X hX => ?_
  subst hX
  repeat (first | ((with_reducible refine zI ?_); refine zJ rfl ?_) | ((with_reducible refine zE ?_); refine zF rfl ?_) | ((with_reducible refine yB ?_); refine yj tbOk rfl rfl ?_)  | refine zK ?_ | refine zB rfl ?_ | with_reducible (first | refine zG ?_ | refine zH ?_ | refine zW ?_) | ((with_reducible refine zA ?_ ?_); kernel_rfl))
  refine aW (t := 3) (s := 18) 3 1 rfl rfl ?_
  refine ya (ι := Nat × List Int) (fun i => i.1 ≤ L.length ∧ i.2.length ≤ i.1 ∧ i.2 ++ jb i.1 (L.drop i.1) = jb 0 L) (fun i => L.length - i.1) (fun v i => [(3, .own 18 (v 18)), (6, .sl 1 (L.map iv)), (7, .v (.int .i64 (L.map iv).length)), (8, .v (.int .i64 (i.1 : Nat)))]) (fun v i => [(18, .buf 3 1 (i.2.map iv))]) ?_ ?_
  · exact ⟨(0, []), ⟨Nat.zero_le _, Nat.le_refl _, rfl⟩, trivial, ⟨rfl, rfl, rfl, rfl, trivial⟩, ⟨rfl, trivial⟩⟩
  rintro v ⟨i, E⟩ ⟨hi, hE, hf⟩
  dsimp only at hi hE hf ⊢
  have hml : (E.map iv).length = E.length := by simp
  repeat (first | ((with_reducible refine zP ?_); refine zV rfl rfl rfl ?_)  | refine zK ?_ | refine zB rfl ?_ | with_reducible (first | refine zG ?_ | refine zH ?_) | ((with_reducible refine zA ?_ ?_); kernel_rfl))
  refine zh rfl (fun h => ?_) (fun h => ?_)
  · have hlt : i < L.length := by simpa using h
    obtain ⟨x, hx⟩ := zT hlt
    have hy := cW hx
    rw [yq hx, jb] at hf
    repeat (first | ((with_reducible refine zI ?_); refine zJ rfl ?_) | ((with_reducible refine zE ?_); refine zF rfl ?_) | ((with_reducible refine zQ ?_); refine zj tbOk rfl rfl rfl ?_) | ((with_reducible refine zU ?_); refine zg tbOk rfl rfl rfl rfl (by assumption) ?_) | ((with_reducible refine zP ?_); refine zV rfl rfl rfl ?_)  | refine zK ?_ | refine zB rfl ?_ | with_reducible (first | refine zG ?_ | refine zH ?_ | refine zW ?_ | refine zR ?_) | ((with_reducible refine zA ?_ ?_); kernel_rfl))
    refine zh rfl (fun c => ?_) (fun c => ?_)
    · rw [if_pos (by simpa using c)] at hf
      repeat (first | ((with_reducible refine zI ?_); refine zJ rfl ?_) | ((with_reducible refine yE ?_); refine yD tbOk rfl rfl rfl rfl rfl (by omega) rfl rfl rfl ?_) | refine zB rfl ?_  | ((with_reducible refine zA ?_ ?_); kernel_rfl))
      refine yT tbOk rfl rfl rfl rfl rfl (by decide) rfl rfl rfl rfl rfl (fun x hx => by simp at hx; subst hx; rfl) (by simp only [List.length_map, List.length_cons, List.length_nil]; omega) (by simp only [List.length_map, List.length_cons, List.length_nil]; omega) ?_
      repeat (first | ((with_reducible refine zI ?_); refine zJ rfl ?_) | ((with_reducible refine zE ?_); refine zF rfl ?_) | ((with_reducible refine zP ?_); refine zX rfl rfl (by omega) ?_)  | refine zK ?_ | refine zB rfl ?_ | with_reducible (first | refine zG ?_ | refine ze ?_) | ((with_reducible refine zA ?_ ?_); kernel_rfl))
      exact ⟨(i + 1, E ++ [(i : Int)]), ⟨hlt, by simp; omega, by rw [← hf]; simp⟩, by show L.length - (i + 1) < L.length - i; omega, ⟨rfl, rfl, rfl, rfl, trivial⟩, ⟨jB (by rw [List.map_append]; rfl), trivial⟩⟩
    · rw [if_neg (by simpa using c)] at hf
      repeat (first | ((with_reducible refine zI ?_); refine zJ rfl ?_) | ((with_reducible refine zP ?_); refine zX rfl rfl (by omega) ?_)  | refine zK ?_ | refine zB rfl ?_ | with_reducible (first | refine zG ?_ | refine ze ?_ | refine zR ?_) | ((with_reducible refine zA ?_ ?_); kernel_rfl))
      exact ⟨(i + 1, E), ⟨hlt, by show E.length ≤ i + 1; omega, hf⟩, by show L.length - (i + 1) < L.length - i; omega, ⟨rfl, rfl, rfl, rfl, trivial⟩, ⟨rfl, trivial⟩⟩
  · have hge : ¬ i < L.length := by simpa using h
    rw [List.drop_of_length_le (by omega)] at hf
    have hf' : jb 0 L = E := by rw [← hf]; simp [jb]
    rw [hf']
    repeat (first | ((with_reducible refine zI ?_); refine zJ rfl ?_) | ((with_reducible refine zE ?_); refine zF rfl ?_)  | refine zK ?_ | refine zB rfl ?_ | with_reducible (first | refine zG ?_ | refine zd ?_ | refine zH ?_ | refine zw ?_ | refine zS ?_) | ((with_reducible refine zb ?_ ?_); rfl) | ((with_reducible refine zA ?_ ?_); kernel_rfl))
    refine bD (by first | exact .inr rfl | exact .inl rfl) rfl rfl ?_
    repeat' exact Ren.own _ _ _ _ ⟨_, rfl⟩
theorem mcount_A (L : List Int) (hP : GPos G) (h : ∀ m ∈ L, isB m = true) (hm : L.length ≤ 1000) (hu : (unkP L).length ≤ 8) : zl Tryz.prog G 80 [.sl 1 (L.map iv)] [] (.tu [.v (.int .i64 ((2 ^ (unkP L).length : Nat) : Int)), .v (.int .i64 0)]) [] := by
  have hml : ((unkP L).map iv).length = (unkP L).length := by simp
  have hp : (2 : Nat) ^ (unkP L).length ≤ 2 ^ 8 := Nat.pow_le_pow_right (by decide) hu
  have hw : IntKind.i64.wrap (1 * 2 ^ ((((unkP L).map iv).length : Int)).toNat) = ((2 ^ (unkP L).length : Nat) : Int) := by
    rw [hml, Int.toNat_natCast, Int.one_mul]
    have e : ((2 : Int) ^ (unkP L).length) = ((2 ^ (unkP L).length : Nat) : Int) := by simp
    rw [e]
    generalize (2 : Nat) ^ (unkP L).length = q at hp
    exact zr (by omega)
  have hsh : (0 : Int) ≤ ((((unkP L).map iv).length : Nat) : Int) ∧ ((((unkP L).map iv).length : Nat) : Int) ≤ (IntKind.i64.bits : Nat) := ⟨by omega, by rw [hml]; show ((unkP L).length : Int) ≤ 64; omega⟩
  refine zY tbOk (zM Tryz.func80 (by kernel_rfl) rfl) Tryz.func80 rfl _ Tryz.ntmps80 (Nat.le_of_ble_eq_true rfl) fun X hX => ?_
  subst hX
  repeat (first | ((with_reducible refine zI ?_); refine zJ rfl ?_) | ((with_reducible refine zE ?_); refine zF rfl ?_)  | refine zK ?_ | refine zB rfl ?_ | with_reducible (first | refine zG ?_ | refine zH ?_) | ((with_reducible refine zA ?_ ?_); kernel_rfl))
  refine zk (mval_A L hP h (by unfold maxLen; omega)) (by repeat' (first | exact trivial | exact Ren.sl _ _ | refine ⟨?_, ?_⟩)) (by repeat' exact RenB.v _) ?_
  repeat (first | ((with_reducible refine zI ?_); refine zJ rfl ?_) | ((with_reducible refine k_un ?_); refine jy rfl ?_)  | refine zK ?_ | refine zB rfl ?_ | with_reducible (first | refine zG ?_ | refine zH ?_ | refine zR ?_) | ((with_reducible refine zA ?_ ?_); kernel_rfl) | refine zm rfl (by first | rfl | assumption) ?_)
  refine zk (munk_A L hm) (by repeat' (first | exact trivial | exact Ren.sl _ _ | refine ⟨?_, ?_⟩)) (by repeat' exact RenB.sl _ _) ?_
  repeat (first | ((with_reducible refine zI ?_); refine zJ rfl ?_) | ((with_reducible refine zE ?_); refine zF rfl ?_) | ((with_reducible refine yB ?_); refine yj tbOk rfl rfl ?_) | ((with_reducible refine zP ?_); refine zV rfl rfl rfl ?_)  | refine zK ?_ | refine zB rfl ?_ | with_reducible (first | refine zG ?_ | refine zH ?_) | ((with_reducible refine zA ?_ ?_); kernel_rfl))
  refine zh rfl (fun c => ?_) (fun c => ?_)
  · exfalso; rw [hml] at c; simp at c; omega
  repeat (first | ((with_reducible refine zI ?_); refine zJ rfl ?_) | ((with_reducible refine zE ?_); refine zF rfl ?_) | ((with_reducible refine zP ?_); refine x_shl rfl rfl (by first | decide | assumption | (refine ⟨?_, ?_⟩ <;> first | decide | omega)) ?_)  | refine zK ?_ | refine zB rfl ?_ | with_reducible (first | refine zG ?_ | refine zH ?_ | refine zR ?_ | refine zS ?_) | ((with_reducible refine zA ?_ ?_); kernel_rfl))
  rw [← hw]
  refine qN (by first | exact .inr rfl | exact .inl rfl) rfl rfl rfl ?_
  repeat' (first | exact trivial | exact Ren.v _ | refine yR ?_ | refine ⟨?_, ?_⟩)
end Go.Proofs.YtnafokinifbfhaaGreatDoor
