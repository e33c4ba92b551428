/- Tables of the program: a cell of one, a row of all its cells; conditions: tables of types that agree with the program's / mask.is, position, valid, check, Check, State, Unknown, Count, by the abstract machine; conditions: the table of positions stands / A row that is handed to a callee which changes it in place: the row as a box, and back as a row that nobody writes any more; conditions: tables of types that agree with the program's. -/
import Derived.Test.YtnafokinifbfhaaGreatDoorNetB
import Derived.Test.YtnafokinifbfhaaGreatDoorCoA
import Derived.Test.YtnafokinifbfhaaGreatDoorZg
set_option linter.unusedVariables false
set_option linter.unusedSimpArgs false
namespace Go.Proofs.YtnafokinifbfhaaGreatDoor
open Go Go.RowKit
section
variable {P : Program} {X : Ctx} {n : Nat} {ops : Array Oper} {os : List Oper} {acc : List Rule} {σ : AS} {K : List Rule → AS → Prop} {gt : List (Nat × AV)} {ty : TypeId} {ps : String} {af : Array Edge} {g : Option (Nat × Bool)} {d : Option Nat}
end
section
variable {P : Program} {X : Ctx} {n : Nat} {ops : Array Oper} {os : List Oper} {acc : List Rule} {σ : AS} {K : List Rule → AS → Prop} {gt : List (Nat × AV)} {ty : TypeId} {ps : String} {af : Array Edge} {g : Option (Nat × Bool)} {d : Option Nat}
variable {TB : Tabs} (hTB : TabsOk P TB)
include hTB
theorem fC {t : TypeId} {x i : Operand} {gl o len sz e : Nat} {b : Bool} {kk : IntKind} {z : Int} (ht : P.underlying t = some (.array len e)) (hz : lk TB.ty e = some (b, sz)) (hx : ev σ x = .v (.pointer (some ⟨gl, o, none⟩))) (hi : ev σ i = .v (.int kk z)) (h0 : 0 ≤ z ∧ z < (len : Int))
    (h : Exec P X n ops os (mkG gt σ [x, i] [] d (.v (.pointer (some ⟨gl, o + z.toNat * sz, none⟩))) [] :: acc) (σ.put d (.v (.pointer (some ⟨gl, o + z.toNat * sz, none⟩)))) K) : Op1 P X n ops gt ⟨d, .indexAddr t x i, ty, ps, af, g⟩ os acc σ K :=
  yb (fun M ρ τ a w he hR => by
    have h1 := zT hR (he x (by simp)) hx
    have h2 := zT hR (he i (by simp)) hi
    refine ⟨.pointer (some ⟨gl, o + z.toNat * sz, none⟩), ?_, .v _ _⟩
    unfold execOp
    simp only [h1, h2, Instr.indexAt, asIntOf, Instr.sureAddr, Sem.run_bind, Sem.run_pure, run_underlying ht, Result.andThen_ok, Sem.run_ite, if_pos h0, yA hTB hz, Addr.add_mid]) h
theorem tB {t : TypeId} {x : Operand} {gl o : Nat} {vs : List Value} {u : Value} (ht : lk TB.ty t = some (false, 1)) (hx : ev σ x = .v (.pointer (some ⟨gl, o, none⟩))) (hG : X.G gl = some vs) (hu : vs[o]? = some u)
    (h : Exec P X n ops os (mkG gt σ [x] [] d (.v u) [] :: acc) (σ.put d (.v u)) K) : Op1 P X n ops gt ⟨d, .load t x, ty, ps, af, g⟩ os acc σ K :=
  yb (fun M ρ τ a w he hR => by
    have h1 := zT hR (he x (by simp)) hx
    obtain ⟨t', fr, hh⟩ := hR.live gl ⟨vs⟩ (hR.glob gl vs hG)
    refine ⟨u, ?_, .v _ _⟩
    have hc : w.cell? ⟨gl, o, none⟩ = some u := by rw [cell_of_row w gl o ⟨vs⟩ t' fr hh]; simpa using hu
    unfold execOp
    simp only [h1, Instr.loadAt, Instr.sureAddr, loadVar, Sem.run_bind, Sem.run_pure, Result.andThen_ok, qH hTB ht, Bool.false_eq_true, if_false, run_load, hc]) h
end
end Go.Proofs.YtnafokinifbfhaaGreatDoor
namespace Go.Proofs.YtnafokinifbfhaaGreatDoor
open Go Go.RowKit
set_option maxRecDepth 10000
variable {G : Nat → Option (List Value)}
section
variable {P : Program} {X : Ctx} {n : Nat} {ops : Array Oper} {os : List Oper} {acc : List Rule} {σ : AS} {K : List Rule → AS → Prop} {gt : List (Nat × AV)} {ty : TypeId} {ps : String} {af : Array Edge} {g : Option (Nat × Bool)} {d : Option Nat}
variable {TB : Tabs} (hTB : TabsOk P TB)
include hTB
theorem fF {t : TypeId} {x : Operand} {f gl off off' ft : Nat} {b : Bool} {m : Nat} {fs : List (Nat × Nat)} (hx : ev σ x = .v (.pointer (some ⟨gl, off, none⟩))) (hf : lk TB.fld t = some fs) (hf2 : fs[f]? = some (off', ft)) (hm : lk TB.ty ft = some (b, m + 1))
    (h : Exec P X n ops os (mkG gt σ [x] [] d (.v (.pointer (some ⟨gl, off + off', none⟩))) [] :: acc) (σ.put d (.v (.pointer (some ⟨gl, off + off', none⟩)))) K) : Op1 P X n ops gt ⟨d, .fieldAddr t x f, ty, ps, af, g⟩ os acc σ K :=
  yb (fun M ρ τ a w he hR => by
    have e2 := zT hR (he x (by simp)) hx
    obtain ⟨gs, u1, u2⟩ := cX hTB hf
    refine ⟨.pointer (some ⟨gl, off + off', none⟩), ?_, .v _ _⟩
    rw [← u2] at hf2
    simp only [List.getElem?_map, Option.map_eq_some_iff, Array.getElem?_toList, Prod.mk.injEq] at hf2
    obtain ⟨fd, h3, h4, h5⟩ := hf2
    unfold execOp
    simp only [e2, Instr.fieldAt, Sem.run_bind, run_underlying u1, Result.andThen_ok, h3, Instr.sureAddr, Sem.run_pure, fieldPlace]
    rw [h5, yA hTB hm]
    simp only [Result.andThen_ok, Nat.succ_ne_zero, if_false, Sem.run_pure, Nat.add_eq_zero_iff, and_false]
    rw [h4, Addr.add_mid]) h
end
def posL : List Value := [.bool false, .bool false, .bool true, .bool true, .bool true, .bool true, .bool true, .bool false]
def GPos (G : Nat → Option (List Value)) : Prop := G 0 = some posL
def isB (m : Int) : Bool := decide (1 ≤ m) && decide (m ≤ 3)
def posB (m : Int) : Bool := decide (1 ≤ m) && decide (m ≤ 2)
theorem arrP : Tryz.prog.underlying 178 = some (.array 4 177) := Tryz.underlying178
theorem mis_A (m : Int) (hP : GPos G) : zJ Tryz.prog G 79 [.v (.int .i64 m)] [] (.v (.bool (isB m))) [] := by
  refine zE tbOk (zA Tryz.func79 (by kernel_rfl) rfl) Tryz.func79 rfl _ Tryz.ntmps79 (Nat.le_of_ble_eq_true rfl) fun X hX => ?_
  subst hX
  refine zg1 ?_
  by_cases h0 : 0 ≤ m
  · have d0 : decide (m ≥ 0) = true := decide_eq_true h0
    refine zg15 ?_
    by_cases h4 : m < 4
    · have d4 : decide (m < 4) = true := decide_eq_true h4
      obtain ⟨k, rfl⟩ := Int.eq_ofNat_of_zero_le h0
      refine zg8 ?_
      with_reducible refine zH ?_
      refine fC tbOk arrP rfl rfl rfl (by constructor <;> omega) ?_
      refine zg8 ?_
      with_reducible refine zS ?_
      refine fF tbOk rfl rfl rfl rfl ?_
      refine zg8 ?_
      with_reducible refine ze ?_
      refine tB tbOk (u := .bool (isB (k : Nat))) rfl rfl hP ?_ ?_
      · have hk : k < 4 := by omega
        rw [Int.toNat_natCast]
        match k, hk with
        | 0, _ => rfl
        | 1, _ => rfl
        | 2, _ => rfl
        | 3, _ => rfl
      refine zg5 ?_
      refine zL (by first | exact .inr rfl | exact .inl rfl) rfl rfl ?_
      rfl
    · have d4 : decide (m < 4) = false := decide_eq_false h4
      refine zg7 ?_
      refine zL (by first | exact .inr rfl | exact .inl rfl) rfl rfl ?_
      refine congrArg (fun b => AV.v (.bool b)) ?_
      unfold isB
      rw [decide_eq_false (by omega : ¬ m ≤ _), Bool.and_false]
  · have d0 : decide (m ≥ 0) = false := decide_eq_false (by omega)
    refine zg7 ?_
    refine zL (by first | exact .inr rfl | exact .inl rfl) rfl rfl ?_
    refine congrArg (fun b => AV.v (.bool b)) ?_
    unfold isB
    rw [decide_eq_false (by omega : ¬ 1 ≤ m), Bool.false_and]
theorem mpos_A (m : Int) (hP : GPos G) : zJ Tryz.prog G 124 [.v (.int .i64 m)] [] (.v (.bool (posB m))) [] := by
  refine zE tbOk (zA Tryz.func124 (by kernel_rfl) rfl) Tryz.func124 rfl _ Tryz.ntmps124 (Nat.le_of_ble_eq_true rfl) fun X hX => ?_
  subst hX
  refine zg1 ?_
  by_cases h0 : 0 ≤ m
  · have d0 : decide (m ≥ 0) = true := decide_eq_true h0
    refine zg15 ?_
    by_cases h4 : m < 4
    · have d4 : decide (m < 4) = true := decide_eq_true h4
      obtain ⟨k, rfl⟩ := Int.eq_ofNat_of_zero_le h0
      refine zg8 ?_
      with_reducible refine zH ?_
      refine fC tbOk arrP rfl rfl rfl (by constructor <;> omega) ?_
      refine zg8 ?_
      with_reducible refine zS ?_
      refine fF tbOk rfl rfl rfl rfl ?_
      refine zg8 ?_
      with_reducible refine ze ?_
      refine tB tbOk (u := .bool (posB (k : Nat))) rfl rfl hP ?_ ?_
      · have hk : k < 4 := by omega
        rw [Int.toNat_natCast]
        match k, hk with
        | 0, _ => rfl
        | 1, _ => rfl
        | 2, _ => rfl
        | 3, _ => rfl
      refine zg5 ?_
      refine zL (by first | exact .inr rfl | exact .inl rfl) rfl rfl ?_
      rfl
    · have d4 : decide (m < 4) = false := decide_eq_false h4
      refine zg7 ?_
      refine zL (by first | exact .inr rfl | exact .inl rfl) rfl rfl ?_
      refine congrArg (fun b => AV.v (.bool b)) ?_
      unfold posB
      rw [decide_eq_false (by omega : ¬ m ≤ _), Bool.and_false]
  · have d0 : decide (m ≥ 0) = false := decide_eq_false (by omega)
    refine zg7 ?_
    refine zL (by first | exact .inr rfl | exact .inl rfl) rfl rfl ?_
    refine congrArg (fun b => AV.v (.bool b)) ?_
    unfold posB
    rw [decide_eq_false (by omega : ¬ 1 ≤ m), Bool.false_and]
def idxP (p : Int → Bool) : List Int → Nat → Int
  | [], _ => -1
  | x :: l, i => if p x = true then i else idxP p l (i + 1)
theorem uM {p : Int → Bool} {L : List Int} {k : Nat} {x : Int} (h : L[k]? = some x) : idxP p (L.drop k) k = if p x = true then (k : Int) else idxP p (L.drop (k + 1)) (k + 1) := by rw [zv h]; rfl
theorem pK (p : Int → Bool) : ∀ (L : List Int) (i : Nat), decide (idxP p L i ≥ 0) = L.any p
  | [], i => by simp [idxP]
  | x :: L, i => by
    rw [idxP, List.any_cons]
    split
    · rename_i h; rw [h]; simp
    · rename_i h; rw [pK p L (i + 1)]; simp [h]
set_option maxHeartbeats 1000000 in
theorem ifn_A (L : List Int) (f : FuncId) (p : Int → Bool) (hf : ∀ x ∈ L, zJ Tryz.prog G f [.v (.int .i64 x)] [] (.v (.bool (p x))) []) (hm : L.length ≤ maxLen) :
    zJ Tryz.prog G 94 [.sl 1 (L.map iv), .fn f []] [] (.v (.int .i64 (idxP p L 0))) [] := by
  have hml : L.length ≤ 9223372036854775807 := by unfold maxLen at hm; omega
  refine zE tbOk (zA Tryz.func94 (by kernel_rfl) rfl) Tryz.func94 rfl _ Tryz.ntmps94 (Nat.le_of_ble_eq_true rfl) fun X hX => ?_
  subst hX
  refine zg0 ?_
  refine zQ (ι := Nat) (fun k => k ≤ L.length ∧ idxP p (L.drop k) k = idxP p L 0) (fun k => L.length - k) (fun v k => [(0, .sl 1 (L.map iv)), (1, .fn f []), (7, .v (.int .i64 (L.map iv).length)), (8, .v (.int .i64 (k : Nat)))]) (fun v k => []) ?_ ?_
  · exact ⟨0, ⟨Nat.zero_le _, rfl⟩, trivial, ⟨rfl, rfl, rfl, rfl, trivial⟩, trivial⟩
  · rintro v k ⟨hk, hi⟩
    refine zg1 ?_
    refine zF rfl (fun h => ?_) (fun h => ?_)
    · have hlt : k < L.length := by simpa using h
      obtain ⟨x, hx⟩ := zB hlt
      have hy := qA hx
      rw [uM hx] at hi
      refine zg3 ?_
      with_reducible refine yV ?_
      refine bH (ss := []) (cs' := []) (hf x (List.mem_of_getElem? hx)) rfl (by repeat' (first | exact trivial | exact Ren.v _ | refine ⟨?_, ?_⟩)) (by simp) trivial rfl trivial (by repeat' exact RenB.v _) ?_
      refine zg1 ?_
      refine zF rfl (fun hq => ?_) (fun hq => ?_)
      · rw [if_pos hq] at hi
        refine zg6 ?_
        refine zL (by first | exact .inr rfl | exact .inl rfl) rfl rfl ?_
        rw [← hi]
      · rw [if_neg (by simp [hq])] at hi
        refine zg2 ?_
        exact ⟨k + 1, ⟨by omega, hi⟩, by omega, ⟨rfl, rfl, rfl, rfl, trivial⟩, trivial⟩
    · have hlt : ¬ k < L.length := by simpa using h
      rw [List.drop_of_length_le (by omega)] at hi
      refine zg2 ?_
      refine zL (by first | exact .inr rfl | exact .inl rfl) rfl rfl ?_
      rw [← hi]; rfl
theorem cfn_A (L : List Int) (f : FuncId) (p : Int → Bool) (hf : ∀ x ∈ L, zJ Tryz.prog G f [.v (.int .i64 x)] [] (.v (.bool (p x))) []) (hm : L.length ≤ maxLen) :
    zJ Tryz.prog G 50 [.sl 1 (L.map iv), .fn f []] [] (.v (.bool (L.any p))) [] := by
  rw [← pK p L 0]
  refine zE tbOk (zA Tryz.func50 (by kernel_rfl) rfl) Tryz.func50 rfl _ Tryz.ntmps50 (Nat.le_of_ble_eq_true rfl) fun X hX => ?_
  subst hX
  refine zg1 ?_
  refine zG (ifn_A L f p hf hm) (by repeat' (first | exact trivial | exact Ren.sl _ _ | refine yJ ?_ | refine ⟨?_, ?_⟩)) (by repeat' exact RenB.v _) ?_
  refine zg5 ?_
  refine zL (by first | exact .inr rfl | exact .inl rfl) rfl rfl ?_
  rfl
theorem mvcl_A (m : Int) (hP : GPos G) : zJ Tryz.prog G 165 [.v (.int .i64 m)] [] (.v (.bool (!isB m))) [] := by
  refine zE tbOk (zA Tryz.func165 (by kernel_rfl) rfl) Tryz.func165 rfl _ Tryz.ntmps165 (Nat.le_of_ble_eq_true rfl) fun X hX => ?_
  subst hX
  refine zg1 ?_
  refine zG (mis_A m hP) (by repeat' (first | exact trivial | exact Ren.v _ | refine ⟨?_, ?_⟩)) (by repeat' exact RenB.v _) ?_
  refine zg5 ?_
  refine zL (by first | exact .inr rfl | exact .inl rfl) rfl rfl ?_
  rfl
theorem mval_A (L : List Int) (hP : GPos G) (h : ∀ m ∈ L, isB m = true) (hm : L.length ≤ maxLen) : zJ Tryz.prog G 122 [.sl 1 (L.map iv)] [] (.v (.bool true)) [] := by
  have hc := cfn_A (G := G) L 165 (fun m => !isB m) (fun x _ => mvcl_A x hP) hm
  have e : L.any (fun m => !isB m) = false := by
    rw [List.any_eq_false]
    intro x hx
    rw [h x hx]; decide
  rw [e] at hc
  refine zE tbOk (zA Tryz.func122 (by kernel_rfl) rfl) Tryz.func122 rfl _ Tryz.ntmps122 (Nat.le_of_ble_eq_true rfl) fun X hX => ?_
  subst hX
  refine zg1 ?_
  refine zG (hc) (by repeat' (first | exact trivial | exact Ren.sl _ _ | refine yJ ?_ | refine ⟨?_, ?_⟩)) (by repeat' exact RenB.v _) ?_
  refine zg5 ?_
  refine zL (by first | exact .inr rfl | exact .inl rfl) rfl rfl ?_
  rfl
set_option maxHeartbeats 1000000 in
theorem mchk_A (N : List Nd) (V : List Dv) (L : List Int) (f : FuncId) (hG : GCls G) (hN : ∀ x ∈ N, x.n.size ≤ maxLen) (hVs : ∀ x ∈ V, x.n.size ≤ maxLen) (hn : N.length ≤ 32) (hv : V.length ≤ 64) (h0 : netE N V = 0) (hl : L.length = V.length) (hf : ∀ x ∈ L, zJ Tryz.prog G f [.v (.int .i64 x)] [] (.v (.bool true)) []) :
    zJ Tryz.prog G 78 [yR N V, .sl 1 (L.map iv), .fn f []] [] (.v (.int .i64 0)) [] := by
  have hvl : (V.map Dv.av).length = V.length := by simp
  have hml : (L.map iv).length = L.length := by simp
  have hnc := netcheck_A N V hG hN hVs (by unfold maxLen; omega) (by unfold maxLen; omega)
  rw [h0] at hnc
  refine zE tbOk (zA Tryz.func78 (by kernel_rfl) rfl) Tryz.func78 rfl _ Tryz.ntmps78 (Nat.le_of_ble_eq_true rfl) fun X hX => ?_
  subst hX
  refine zg0 ?_
  refine zG (hnc) (by repeat' (first | exact trivial | exact Ren.sl _ _ | refine zO ?_ | refine ⟨?_, ?_⟩)) (by repeat' exact RenB.v _) ?_
  refine zg13 ?_
  refine zF rfl (fun h => ?_) (fun h => ?_)
  · exfalso; rw [hml, hvl, hl] at h; simp at h
  refine zg4 ?_
  refine zQ (ι := Nat) (fun k => k ≤ L.length) (fun k => L.length - k) (fun v k => [(2, .fn f []), (21, .sl 1 (L.map iv)), (22, .v (.int .i64 (L.map iv).length)), (23, .v (.int .i64 (k : Nat)))]) (fun v k => []) ?_ ?_
  · exact ⟨0, Nat.zero_le _, trivial, ⟨rfl, rfl, rfl, rfl, trivial⟩, trivial⟩
  rintro v k hk
  refine zg1 ?_
  refine zF rfl (fun h => ?_) (fun h => ?_)
  · have hlt : k < L.length := by simpa using h
    obtain ⟨x, hx⟩ := zB hlt
    have hy := qA hx
    refine zg3 ?_
    refine bH (ss := []) (cs' := []) (hf x (List.mem_of_getElem? hx)) rfl (by repeat' (first | exact trivial | exact Ren.v _ | refine ⟨?_, ?_⟩)) (by simp) trivial rfl trivial (by repeat' exact RenB.v _) ?_
    refine zg10 ?_
    exact ⟨k + 1, by omega, by omega, ⟨rfl, rfl, rfl, rfl, trivial⟩, trivial⟩
  · refine zg2 ?_
    refine zL (by first | exact .inr rfl | exact .inl rfl) rfl rfl ?_
    rfl
theorem mCheck_A (N : List Nd) (V : List Dv) (L : List Int) (hG : GCls G) (hP : GPos G) (hN : ∀ x ∈ N, x.n.size ≤ maxLen) (hVs : ∀ x ∈ V, x.n.size ≤ maxLen) (hn : N.length ≤ 32) (hv : V.length ≤ 64) (h0 : netE N V = 0) (hl : L.length = V.length) (hf : ∀ x ∈ L, isB x = true) :
    zJ Tryz.prog G 39 [yR N V, .sl 1 (L.map iv)] [] (.v (.int .i64 0)) [] := by
  have hc := mchk_A (G := G) N V L 79 hG hN hVs hn hv h0 hl (fun x hx => by have := mis_A (G := G) x hP; rw [hf x hx] at this; exact this)
  refine zE tbOk (zA Tryz.func39 (by kernel_rfl) rfl) Tryz.func39 rfl _ Tryz.ntmps39 (Nat.le_of_ble_eq_true rfl) fun X hX => ?_
  subst hX
  refine zg0 ?_
  refine zG (hc) (by repeat' (first | exact trivial | exact Ren.sl _ _ | refine zO ?_ | refine yJ ?_ | refine ⟨?_, ?_⟩)) (by repeat' exact RenB.v _) ?_
  refine zg5 ?_
  refine zL (by first | exact .inr rfl | exact .inl rfl) rfl rfl ?_
  rfl
theorem iW (N : List Nd) (V : List Dv) (L : List Int) (hG : GCls G) (hP : GPos G) (hN : ∀ x ∈ N, x.n.size ≤ maxLen) (hVs : ∀ x ∈ V, x.n.size ≤ maxLen) (hn : N.length ≤ 32) (hv : V.length ≤ 64) (h0 : netE N V = 0) (hl : L.length = V.length) (hf : ∀ x ∈ L, posB x = true) :
    zJ Tryz.prog G 83 [yR N V, .sl 1 (L.map iv)] [] (.v (.int .i64 0)) [] := by
  have hc := mchk_A (G := G) N V L 124 hG hN hVs hn hv h0 hl (fun x hx => by have := mpos_A (G := G) x hP; rw [hf x hx] at this; exact this)
  refine zE tbOk (zA Tryz.func83 (by kernel_rfl) rfl) Tryz.func83 rfl _ Tryz.ntmps83 (Nat.le_of_ble_eq_true rfl) fun X hX => ?_
  subst hX
  refine zg0 ?_
  refine zG (hc) (by repeat' (first | exact trivial | exact Ren.sl _ _ | refine zO ?_ | refine yJ ?_ | refine ⟨?_, ?_⟩)) (by repeat' exact RenB.v _) ?_
  refine zg5 ?_
  refine zL (by first | exact .inr rfl | exact .inl rfl) rfl rfl ?_
  rfl
def jr : Nat → List Int → List Int
  | _, [] => []
  | i, m :: l => if m = 3 then (i : Int) :: jr (i + 1) l else jr (i + 1) l
def unkP (L : List Int) : List Int := jr 0 L
set_option maxHeartbeats 1000000 in
theorem munk_A (L : List Int) (hm : L.length ≤ 1000) : zJ Tryz.prog G 81 [.sl 1 (L.map iv)] [] (.sl 1 ((unkP L).map iv)) [] := by
  unfold unkP
  refine zE tbOk (zA Tryz.func81 (by kernel_rfl) rfl) Tryz.func81 rfl _ Tryz.ntmps81 (Nat.le_of_ble_eq_true rfl) fun X hX => ?_
  subst hX
  refine zg0 ?_
  refine jm (t := 3) (s := 18) 3 1 rfl rfl ?_
  refine zQ (ι := Nat × List Int) (fun i => i.1 ≤ L.length ∧ i.2.length ≤ i.1 ∧ i.2 ++ jr i.1 (L.drop i.1) = jr 0 L) (fun i => L.length - i.1) (fun v i => [(3, .own 18 (v 18)), (6, .sl 1 (L.map iv)), (7, .v (.int .i64 (L.map iv).length)), (8, .v (.int .i64 (i.1 : Nat)))]) (fun v i => [(18, .buf 3 1 (i.2.map iv))]) ?_ ?_
  · exact ⟨(0, []), ⟨Nat.zero_le _, Nat.le_refl _, rfl⟩, trivial, ⟨rfl, rfl, rfl, rfl, trivial⟩, ⟨rfl, trivial⟩⟩
  rintro v ⟨i, E⟩ ⟨hi, hE, hf⟩
  dsimp only at hi hE hf ⊢
  have hml : (E.map iv).length = E.length := by simp
  refine zg1 ?_
  refine zF rfl (fun h => ?_) (fun h => ?_)
  · have hlt : i < L.length := by simpa using h
    obtain ⟨x, hx⟩ := zB hlt
    have hy := qA hx
    rw [zv hx, jr] at hf
    refine zg3 ?_
    refine zF rfl (fun c => ?_) (fun c => ?_)
    · rw [if_pos (by simpa using c)] at hf
      refine zg11 ?_
      refine za tbOk rfl rfl rfl rfl rfl (by decide) rfl rfl rfl rfl rfl (fun x hx => by simp at hx; subst hx; rfl) (by simp only [List.length_map, List.length_cons, List.length_nil]; omega) (by simp only [List.length_map, List.length_cons, List.length_nil]; omega) ?_
      refine zg2 ?_
      exact ⟨(i + 1, E ++ [(i : Int)]), ⟨hlt, by simp; omega, by rw [← hf]; simp⟩, by show L.length - (i + 1) < L.length - i; omega, ⟨rfl, rfl, rfl, rfl, trivial⟩, ⟨zq (by rw [List.map_append]; rfl), trivial⟩⟩
    · rw [if_neg (by simpa using c)] at hf
      refine zg2 ?_
      exact ⟨(i + 1, E), ⟨hlt, by show E.length ≤ i + 1; omega, hf⟩, by show L.length - (i + 1) < L.length - i; omega, ⟨rfl, rfl, rfl, rfl, trivial⟩, ⟨rfl, trivial⟩⟩
  · have hge : ¬ i < L.length := by simpa using h
    rw [List.drop_of_length_le (by omega)] at hf
    have hf' : jr 0 L = E := by rw [← hf]; simp [jr]
    rw [hf']
    refine zg2 ?_
    refine qs (by first | exact .inr rfl | exact .inl rfl) rfl rfl ?_
    repeat' exact Ren.own _ _ _ _ ⟨_, rfl⟩
theorem mcount_A (L : List Int) (hP : GPos G) (h : ∀ m ∈ L, isB m = true) (hm : L.length ≤ 1000) (hu : (unkP L).length ≤ 8) : zJ Tryz.prog G 80 [.sl 1 (L.map iv)] [] (.tu [.v (.int .i64 ((2 ^ (unkP L).length : Nat) : Int)), .v (.int .i64 0)]) [] := by
  have hml : ((unkP L).map iv).length = (unkP L).length := by simp
  have hp : (2 : Nat) ^ (unkP L).length ≤ 2 ^ 8 := Nat.pow_le_pow_right (by decide) hu
  have hw : IntKind.i64.wrap (1 * 2 ^ ((((unkP L).map iv).length : Int)).toNat) = ((2 ^ (unkP L).length : Nat) : Int) := by
    rw [hml, Int.toNat_natCast, Int.one_mul]
    have e : ((2 : Int) ^ (unkP L).length) = ((2 ^ (unkP L).length : Nat) : Int) := by simp
    rw [e]
    generalize (2 : Nat) ^ (unkP L).length = q at hp
    exact yy (by omega)
  have hsh : (0 : Int) ≤ ((((unkP L).map iv).length : Nat) : Int) ∧ ((((unkP L).map iv).length : Nat) : Int) ≤ (IntKind.i64.bits : Nat) := ⟨by omega, by rw [hml]; show ((unkP L).length : Int) ≤ 64; omega⟩
  refine zE tbOk (zA Tryz.func80 (by kernel_rfl) rfl) Tryz.func80 rfl _ Tryz.ntmps80 (Nat.le_of_ble_eq_true rfl) fun X hX => ?_
  subst hX
  refine zg1 ?_
  refine zG (mval_A L hP h (by unfold maxLen; omega)) (by repeat' (first | exact trivial | exact Ren.sl _ _ | refine ⟨?_, ?_⟩)) (by repeat' exact RenB.v _) ?_
  refine zg10 ?_
  refine zG (munk_A L hm) (by repeat' (first | exact trivial | exact Ren.sl _ _ | refine ⟨?_, ?_⟩)) (by repeat' exact RenB.sl _ _) ?_
  refine zg6 ?_
  refine zF rfl (fun c => ?_) (fun c => ?_)
  · exfalso; rw [hml] at c; simp at c; omega
  refine zg12 ?_
  rw [← hw]
  refine jH (by first | exact .inr rfl | exact .inl rfl) rfl rfl rfl ?_
  repeat' (first | exact trivial | exact Ren.v _ | refine zf ?_ | refine ⟨?_, ?_⟩)
end Go.Proofs.YtnafokinifbfhaaGreatDoor
namespace Go.Proofs.YtnafokinifbfhaaGreatDoor
open Go Go.RowKit
/-- A box that holds a row's elements, and behind them what nobody knows. -/
def bsC (L J : List AV) : List AV := L.flatMap AV.cells ++ J
theorem bsC_take {L J : List AV} {sz j : Nat} {y : AV} (hsz : ∀ x ∈ L, x.cells.length = sz) (hy : L[j]? = some y) : ((bsC L J).drop (j * sz)).take sz = y.cells ∧ j * sz + sz ≤ (bsC L J).length := by
  have hl := yc hsz
  have hlt := zM hy
  have hc := hsz y (List.mem_of_getElem? hy)
  have hm : j * sz + sz ≤ L.length * sz := by
    have := Nat.mul_le_mul_right sz (show j + 1 ≤ L.length from hlt)
    rw [Nat.add_mul] at this
    omega
  refine ⟨?_, by unfold bsC; rw [List.length_append, hl]; omega⟩
  obtain ⟨A, B, rfl, rfl⟩ : ∃ A B, L = A ++ y :: B ∧ j = A.length := by
    obtain ⟨h1, h2⟩ := List.getElem?_eq_some_iff.1 hy
    exact ⟨L.take j, L.drop (j + 1), by rw [← h2, List.getElem_cons_drop, List.take_append_drop], by rw [List.length_take]; omega⟩
  have hA : (A.flatMap AV.cells).length = A.length * sz := yc fun x hx => hsz x (by simp [hx])
  unfold bsC
  rw [List.flatMap_append, List.flatMap_cons, List.append_assoc, ← hA, List.drop_left, List.append_assoc, ← hc, List.take_left]
theorem bsC_put {L J : List AV} {sz j : Nat} {y x : AV} (hsz : ∀ x ∈ L, x.cells.length = sz) (hy : L[j]? = some y) (hx : x.cells.length = sz) : putL (bsC L J) (j * sz) x.cells = bsC (L.set j x) J := by
  obtain ⟨A, B, rfl, rfl⟩ : ∃ A B, L = A ++ y :: B ∧ j = A.length := by
    obtain ⟨h1, h2⟩ := List.getElem?_eq_some_iff.1 hy
    exact ⟨L.take j, L.drop (j + 1), by rw [← h2, List.getElem_cons_drop, List.take_append_drop], by rw [List.length_take]; omega⟩
  have hA : (A.flatMap AV.cells).length = A.length * sz := yc fun x hx => hsz x (by simp [hx])
  have hc := hsz y (by simp)
  have key : ∀ (xs ys P Q : List AV), xs.length = ys.length → putL (P ++ (ys ++ Q)) P.length xs = P ++ (xs ++ Q) := by
    intro xs
    induction xs with
    | nil => intro ys P Q h; obtain rfl : ys = [] := List.eq_nil_of_length_eq_zero (by simpa using h.symm); rfl
    | cons a xs ih =>
      intro ys P Q h
      match ys, h with
      | b :: ys, h =>
        rw [putL]
        have e : (P ++ (b :: ys ++ Q)).set P.length a = (P ++ [a]) ++ (ys ++ Q) := by simp
        rw [e]
        have := ih ys (P ++ [a]) Q (by simpa using h)
        rw [List.length_append] at this
        simp only [List.length_cons, List.length_nil] at this
        rw [this]
        simp
  unfold bsC
  rw [List.set_append_right _ _ (Nat.le_refl _), Nat.sub_self]
  simp only [List.set_cons_zero, List.flatMap_append, List.flatMap_cons, List.append_assoc]
  rw [← hA]
  exact key x.cells y.cells _ _ (by omega)
section
variable {P : Program} {X : Ctx} {n : Nat} {σ : AS} {Q : Exit → AS → Prop} {c : Code}
/-- An own buffer becomes a box, in some slots. -/
theorem vQ {s k e sz : Nat} {L : List AV} (ts : List (Nat × AV)) (hH : σ.H s = ⟨k, .buf e sz L⟩) (hp : 0 < L.length) (hT : ∀ J, RwTs (.own s k) (.bs s (k + 1) sz L.length) ts (σ.hup s ⟨k + 1, .box (bsC L J)⟩))
    (h : ∀ J, (∀ x ∈ J, x = AV.junk) → AWp P X n c Q (tput ts (σ.hup s ⟨k + 1, .box (bsC L J)⟩))) : AWp P X n c Q σ := by
  refine ⟨fun M ρ a w hR => ?_⟩
  have hdead : Rel X n M ρ (σ.hup s ⟨k, .dead⟩) a w := hR.weak ⟨fun _ => .inl rfl, fun s' => by
    simp only [AS.hup]
    by_cases hs' : s' = s
    · subst hs'; rw [Nat.beq_refl]; exact ⟨by rw [hH]; rfl, .inr rfl⟩
    · rw [zV hs']; exact ⟨rfl, .inl rfl⟩⟩
  have hbuf := hR.buf s k e sz L hH
  obtain ⟨u, us, b1, b2, b3, b4, b5, b6⟩ := hbuf
  obtain ⟨b2, b2m⟩ := b2
  rcases b2.2 with ⟨rfl, hn⟩ | ⟨g, cap, cur, rfl, e2, e3, e4, e5, e6, e7⟩
  · omega
  obtain ⟨cl⟩ := cur
  have hMg := b3 g rfl
  have hbs : zI ρ s (σ.H s) = some g := by rw [hH]; simp [zI, b1, vblk]
  have e7' : cl.take (L.length * sz) = us := e7
  have hfl := yc b5
  have hle : us.length ≤ cl.length := by rw [← e7', List.length_take]; omega
  have hkk : ((σ.hup s ⟨k, .dead⟩).H s).k = k := by simp [AS.hup, Nat.beq_refl]
  have hbox := hdead.addBox s g e (cs := bsC L (List.replicate (cl.length - us.length) .junk)) (us := cl) e3 hMg (b2m g rfl) (fun s' hs' => by
    simp only [AS.hup] at hs'
    by_cases he : s' = s
    · subst he; rw [Nat.beq_refl] at hs'; simp [zI] at hs'
    · rw [zV he] at hs'; exact he (hR.sep s' s g hs' hbs)) (by unfold bsC; rw [List.length_append, List.length_replicate, ← b4]; omega) (fun j x z hx hz => by
    unfold bsC at hx
    by_cases hj : j < us.length
    · rw [List.getElem?_append_left (by rw [← b4]; exact hj)] at hx
      refine ((b6 j x z hx ?_).1).mono' (fun _ _ e => e) (fun s k y e => by simp [noρ] at e)
      rw [← e7', List.getElem?_take_of_lt (by rw [← hfl, ← b4]; exact hj)]
      exact hz
    · rw [List.getElem?_append_right (by rw [← b4]; omega)] at hx
      have := List.mem_of_getElem? hx
      rw [List.mem_replicate] at this
      rw [this.2]
      exact .junk _ _)
  rw [hkk] at hbox
  have hup2 : ((σ.hup s ⟨k, .dead⟩).hup s ⟨k + 1, .box (bsC L (List.replicate (cl.length - us.length) .junk))⟩) = σ.hup s ⟨k + 1, .box (bsC L (List.replicate (cl.length - us.length) .junk))⟩ := by
    unfold AS.hup
    congr 1
    funext m
    cases hb : Nat.beq m s <;> simp [hb]
  rw [hup2] at hbox
  refine (h _ (fun x hx => (List.mem_replicate.1 hx).2)).run M _ a w (Rel.rwT (fun u hu => ?_) hbox (hT _))
  have hu' := hu.own_inv
  have hne : updρ ρ s (k + 1) (.pointer (some ⟨g, 0, none⟩)) s k = ρ s k := by
    unfold updρ
    rw [if_neg (by omega)]
  rw [hne, b1] at hu'
  injection hu' with hu'
  subst hu'
  exact .bs _ s (k + 1) sz _ g _ (by simp [updρ]) e4 e5
/-- A box that holds a row becomes a row that nobody writes any more, in some slots. -/
theorem awp_box_sl {s k sz : Nat} {L J : List AV} (hgs : X.gs = []) (ts : List (Nat × AV)) (hH : σ.H s = ⟨k, .box (bsC L J)⟩) (hsz : ∀ x ∈ L, x.cells.length = sz) (hpos : 0 < sz) (hpu : ∀ x ∈ L, js x.cells = true) (hm : L.length ≤ maxLen) (hT : RwTs (.bs s k sz L.length) (.sl sz L) ts (σ.hup s ⟨k, .dead⟩))
    (h : AWp P X n c Q (tput ts (σ.hup s ⟨k, .dead⟩))) : AWp P X n c Q σ := by
  refine ⟨fun M ρ a w hR => ?_⟩
  have hdead : Rel X n M ρ (σ.hup s ⟨k, .dead⟩) a w := hR.weak ⟨fun _ => .inl rfl, fun s' => by
    simp only [AS.hup]
    by_cases hs' : s' = s
    · subst hs'; rw [Nat.beq_refl]; exact ⟨by rw [hH]; rfl, .inr rfl⟩
    · rw [zV hs']; exact ⟨rfl, .inl rfl⟩⟩
  obtain ⟨g, t, us, b1, b2, b3, b4, b5, b6⟩ := hR.box s k _ hH
  have hX : X.w0.heap.size ≤ g := by
    rcases b4 with b4 | b4
    · exact b4
    · rw [hgs] at b4; simp at b4
  have hbs : zI ρ s (σ.H s) = some g := by rw [hH]; simp [zI, b1, vblk]
  have hA := hdead.addM (g := g) b2 b3 (.inl hX) (fun s' hs' => by
    simp only [AS.hup] at hs'
    by_cases he : s' = s
    · subst he; rw [Nat.beq_refl] at hs'; simp [zI] at hs'
    · rw [zV he] at hs'; exact he (hR.sep s' s g hs' hbs))
  have hMg : updM M g ⟨us⟩ g = some ⟨us⟩ := by simp [updM]
  refine h.run _ ρ a w (Rel.rwT (fun u hu => ?_) hA hT)
  cases hu with
  | bs _ _ _ _ _ g' c' h1 hc hm' =>
    rw [b1] at h1
    injection h1 with h1
    injection h1 with h1
    injection h1 with h1
    injection h1 with h1
    subst h1
    have hfl := yc hsz
    have hmono : ∀ g' x, M g' = some x → updM M g ⟨us⟩ g' = some x := fun g' x e => by
      unfold updM
      rw [if_neg (by rintro rfl; rw [b3] at e; cases e)]
      exact e
    have hul : (L.flatMap AV.cells).length ≤ us.length := by rw [b5]; unfold bsC; rw [List.length_append]; omega
    refine .sl _ sz L (some ⟨g, 0, none⟩) c' (fun k j => (us[k * sz + j]?).getD undef) hc hm' (fun k x j y hx hy => ?_) (fun k x hx => ?_)
    · have hf := buf_at (M' := updM M g ⟨us⟩) (us := us) hsz k x j y hx hy
      obtain ⟨z, hz⟩ := zB (L := us) (k := k * sz + j) (by have := zM hf; omega)
      rw [hz]
      have hb := b6 _ y z (by unfold bsC; rw [List.getElem?_append_left (zM hf)]; exact hf) hz
      exact (mB (ρ' := noρ) hb (kB (hpu x (List.mem_of_getElem? hx)) y (List.mem_of_getElem? hy))).mono' hmono (fun _ _ _ e => e)
    · refine ⟨hsz x (List.mem_of_getElem? hx), g, 0, ⟨us⟩, rfl, hMg, fun j hj => ?_⟩
      have hk := zM hx
      have hlt : k * sz + j < L.length * sz := by
        have : (k + 1) * sz ≤ L.length * sz := Nat.mul_le_mul_right _ hk
        rw [Nat.succ_mul] at this
        omega
      obtain ⟨z, hz⟩ := zB (L := us) (k := k * sz + j) (by omega)
      rw [Nat.zero_add, hz]
      simpa using hz
end
section
variable {P : Program} {X : Ctx} {n : Nat} {ops : Array Oper} {os : List Oper} {acc : List Rule} {σ : AS} {K : List Rule → AS → Prop} {gt : List (Nat × AV)} {ty : TypeId} {ps : String} {af : Array Edge} {g : Option (Nat × Bool)} {d : Option Nat} {TB : Tabs} (hTB : TabsOk P TB)
include hTB
theorem dY {t : TypeId} {x i : Operand} {s k sz sz' len e : Nat} {b : Bool} {kk : IntKind} {z : Int} (hs : lk TB.sle t = some e) (hz : lk TB.ty e = some (b, sz)) (hx : ev σ x = .bs s k sz' len) (hi : ev σ i = .v (.int kk z)) (h0 : 0 ≤ z ∧ z < (len : Int))
    (h : Exec P X n ops os (mkG gt σ [x, i] [] d (.ptr s k (z.toNat * sz)) [] :: acc) (σ.put d (.ptr s k (z.toNat * sz))) K) : Op1 P X n ops gt ⟨d, .indexAddr t x i, ty, ps, af, g⟩ os acc σ K :=
  yb (fun M ρ τ a w he hR => by
    have h1 := hR.ev x
    rw [he x (by simp), hx] at h1
    have h2 := zT hR (he i (by simp)) hi
    generalize hu : a.eval x = u at h1
    cases h1 with
    | bs _ _ _ _ _ g c e1 hc hm =>
      refine ⟨.pointer (some ⟨g, z.toNat * sz, none⟩), ?_, .ptr _ s k _ g e1⟩
      unfold execOp
      simp only [hu, h2, Instr.indexAt, asIntOf, Sem.run_bind, Sem.run_pure, run_underlying (yM hTB hs), Result.andThen_ok, Sem.run_ite, if_pos h0, yA hTB hz, Addr.add_mid, Nat.zero_add]) h
theorem x_store_bs {t : TypeId} {x y : Operand} {s k k' off j m : Nat} {b : Bool} {L J : List AV} {z y0 : AV} (ht : lk TB.ty t = some (b, m)) (hx : ev σ x = .ptr s k off) (hH : σ.H s = ⟨k', .box (bsC L J)⟩) (hk : k = k') (ho : off = j * m) (hsz : ∀ x ∈ L, x.cells.length = m) (hj : L[j]? = some y0) (hz : ev σ y = z) (hl : z.cells.length = m) (hone : zn z.cells = true)
    (h : Exec P X n ops os (mkG gt σ [x, y] [s] none (.v undef) [(s, ⟨k', .box (bsC (L.set j z) J)⟩)] :: acc) (σ.hup s ⟨k', .box (bsC (L.set j z) J)⟩) K) : Op1 P X n ops gt ⟨none, .store t x y, ty, ps, af, g⟩ os acc σ K := by
  subst ho
  obtain ⟨h1, h2⟩ := bsC_take (J := J) hsz hj
  have h3 := bsC_put (J := J) hsz hj hl
  exact x_store hTB ht hx hH hk z hz rfl hl h2 hone (by rw [h3]; exact h)
end
/-- A function's law out of a walk of its body, where it is handed no box. -/
theorem acalls_of0 {P : Program} {TB : Tabs} {G : Nat → Option (List Value)} {f : FuncId} {args : List AV} {r : AV} (hTB : TabsOk P TB) {fn : Func} {c : Code} (he : qK P f) (hf : P.funcs[f]? = some fn) (hb : fn.body = some c) (n : Nat) (hn : fn.ntmps = n) (hle : args.length ≤ n)
    (h : ∀ X : Ctx, X.G = G → X.gs = [] → AWp P X n c (RetQ TB fn 0 r []) (dR args [])) : zJ P G f args [] r [] := by
  refine ⟨he, fun M w gs vs hl hG hnd hr hv hrep => ?_⟩
  have hgs : gs = [] := List.eq_nil_of_length_eq_zero hr.len
  subst hgs
  refine calls_of_wp hf hb ?_
  rw [hn]
  have hR := tF (n := n) hl hG hnd hr hv hrep hle
  refine wp_mono ((h ⟨w, [], [], G, M⟩ rfl rfl).run M (refρ []) _ w hR) ?_
  rintro e a' w' ⟨M', ρ', σ', hR', hQ⟩
  exact sW hTB hnd hl (by simp) hR' hQ
section
variable {P : Program} {X : Ctx} {n : Nat} {ops : Array Oper} {os : List Oper} {acc : List Rule} {σ : AS} {K : List Rule → AS → Prop} {gt : List (Nat × AV)} {ty : TypeId} {ps : String} {af : Array Edge} {g : Option (Nat × Bool)}
theorem x_max {d : Option Nat} {t t' : TypeId} {x y : Operand} {k k' : IntKind} {a b : Int} (hx : ev σ x = .v (.int k a)) (hy : ev σ y = .v (.int k' b))
    (h : Exec P X n ops os (mkG gt σ [x, y] [] d (.v (.int k (max a b))) [] :: acc) (σ.put d (.v (.int k (max a b)))) K) : Op1 P X n ops gt ⟨d, .call ⟨.builtin .max, #[x, y], #[t, t']⟩, ty, ps, af, g⟩ os acc σ K :=
  yb (fun M ρ τ a' w he hR => by
    have h1 := zT hR (he x (by simp)) hx
    have h2 := zT hR (he y (by simp)) hy
    have e : (if b > a then b else a) = max a b := by
      rw [Int.max_def]
      split <;> split <;> omega
    refine ⟨.int k (max a b), ?_, .v _ _⟩
    unfold execOp
    simp [resolve, invoke, builtin, h1, h2, Builtin.max_, Builtin.max2, e]) h
theorem x_min {d : Option Nat} {t t' : TypeId} {x y : Operand} {k k' : IntKind} {a b : Int} (hx : ev σ x = .v (.int k a)) (hy : ev σ y = .v (.int k' b))
    (h : Exec P X n ops os (mkG gt σ [x, y] [] d (.v (.int k (min a b))) [] :: acc) (σ.put d (.v (.int k (min a b)))) K) : Op1 P X n ops gt ⟨d, .call ⟨.builtin .min, #[x, y], #[t, t']⟩, ty, ps, af, g⟩ os acc σ K :=
  yb (fun M ρ τ a' w he hR => by
    have h1 := zT hR (he x (by simp)) hx
    have h2 := zT hR (he y (by simp)) hy
    have e : (if b < a then b else a) = min a b := by
      rw [Int.min_def]
      split <;> split <;> omega
    refine ⟨.int k (min a b), ?_, .v _ _⟩
    unfold execOp
    simp [resolve, invoke, builtin, h1, h2, Builtin.min_, Builtin.min2, e]) h
end
end Go.Proofs.YtnafokinifbfhaaGreatDoor
