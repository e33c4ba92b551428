/- Interface values: made, asked for their type, compared; a row beside nil; conditions: tables of types that agree with the program's. -/
import Derived.Test.YtggngllfnboehaaGreatDoorAbsX
import Derived.Laws.Build
import Derived.Lib.BufferMore
set_option linter.unusedVariables false
set_option linter.unusedSimpArgs false
namespace Go.Proofs.YtggngllfnboehaaGreatDoor
open Go Go.RowKit
theorem zi {P : Program} {X : Ctx} {n : Nat} {ops : Array Oper} {os : List Oper} {acc : List Rule} {σ : AS} {K : List Rule → AS → Prop} {gt : List (Nat × AV)} {d : Option Nat} {ty : TypeId} {ps : String} {af : Array Edge} {g : Option (Nat × Bool)} {a : TypeId} {x : Operand} (h : Op1 P X n ops gt ⟨d, .makeInterface a x, ty, ps, af, g⟩ os acc σ K) : Op1 P X n ops gt ⟨d, .makeInterface a x, ty, ps, af, g⟩ os acc σ K := h
theorem yE {P : Program} {X : Ctx} {n : Nat} {ops : Array Oper} {os : List Oper} {acc : List Rule} {σ : AS} {K : List Rule → AS → Prop} {gt : List (Nat × AV)} {d : Option Nat} {ty : TypeId} {ps : String} {af : Array Edge} {g : Option (Nat × Bool)} {x : Operand} {a b : TypeId} {c : Bool} (h : Op1 P X n ops gt ⟨d, .typeAssert x a b c, ty, ps, af, g⟩ os acc σ K) : Op1 P X n ops gt ⟨d, .typeAssert x a b c, ty, ps, af, g⟩ os acc σ K := h
/-- A type that an interface value can be asked for: not one of interfaces itself, with a zero value. -/
structure AskT (P : Program) (a : TypeId) : Prop where
  conc : P.concrete a = true
  hit : ∀ (xt : TypeId) (u : Value) (w : World), (Instr.typeAssert (.iface a u) xt a true).run P w = .ok (.tuple #[u, .bool true]) w
  miss : ∃ z, ∀ (xt t : TypeId) (u : Value) (w : World), t ≠ a → (Instr.typeAssert (.iface t u) xt a true).run P w = .ok (.tuple #[z, .bool false]) w
theorem askT {P : Program} {a : TypeId} {d : TypeDesc} (hu : P.underlying a = some d) (hd : (match d with | .interface _ => false | _ => true) = true) (hz : ((P.info? a).bind (·.zero)).isSome = true) : AskT P a := by
  obtain ⟨z, hz⟩ := Option.isSome_iff_exists.1 hz
  obtain ⟨j, hj, hz'⟩ := Option.bind_eq_some_iff.1 hz
  refine ⟨?_, fun xt u w => ?_, z, fun xt t u w ht => ?_⟩
  · cases d <;> first | (cases hd; done) | simp [Program.concrete, hu]
  · cases d <;> first | (cases hd; done) | simp [Instr.typeAssert, run_underlying hu]
  · cases d <;> first | (cases hd; done) | simp [Instr.typeAssert, run_underlying hu, ht, zeroValue, typeInfo, hj, hz']
section
variable {P : Program} {X : Ctx} {n : Nat} {ops : Array Oper} {os : List Oper} {acc : List Rule} {σ : AS} {K : List Rule → AS → Prop} {gt : List (Nat × AV)} {d : Option Nat} {ty : TypeId} {ps : String} {af : Array Edge} {g : Option (Nat × Bool)}
theorem yY {t : TypeId} {x : Operand} {u : Value} (hc : AskT P t) (hx : ev σ x = .v u)
    (h : Exec P X n ops os (mkG gt σ [x] [] d (.v (.iface t u)) [] :: acc) (σ.put d (.v (.iface t u))) K) : Op1 P X n ops gt ⟨d, .makeInterface t x, ty, ps, af, g⟩ os acc σ K :=
  yy (fun M ρ τ a w he hR => ⟨.iface t u, by
    unfold execOp
    simp only [jH hR (he x (by simp)) hx]
    rw [Sem.run_bind, run_makeInterface w t u hc.conc]; rfl, .v _ _⟩) h
theorem zz {t : TypeId} {x : Operand} {cs : List AV} {us : List Value} (hc : AskT P t) (hx : ev σ x = .ag cs) (hu : qY cs = some us)
    (h : Exec P X n ops os (mkG gt σ [x] [] d (.v (.iface t (.agg ⟨us⟩))) [] :: acc) (σ.put d (.v (.iface t (.agg ⟨us⟩)))) K) : Op1 P X n ops gt ⟨d, .makeInterface t x, ty, ps, af, g⟩ os acc σ K :=
  yy (fun M ρ τ a w he hR => ⟨.iface t (.agg ⟨us⟩), by
    have h1 := hR.ev x
    rw [he x (by simp), hx] at h1
    unfold execOp
    simp only [conc_rep hu h1]
    rw [Sem.run_bind, run_makeInterface w t _ hc.conc]; rfl, .v _ _⟩) h
theorem yS {x : Operand} {xt a : TypeId} {u : Value} (hc : AskT P a) (hx : ev σ x = .v (.iface a u))
    (h : Exec P X n ops os (mkG gt σ [x] [] d (.tu [.v u, .v (.bool true)]) [] :: acc) (σ.put d (.tu [.v u, .v (.bool true)])) K) : Op1 P X n ops gt ⟨d, .typeAssert x xt a true, ty, ps, af, g⟩ os acc σ K :=
  yy (fun M ρ τ b w he hR => ⟨.tuple #[u, .bool true], by
    unfold execOp
    simp only [jH hR (he x (by simp)) hx]
    rw [Sem.run_bind, hc.hit]; rfl, .tu _ _ [u, .bool true] rfl (fun j y z p q => by
      match j, p, q with
      | 0, p, q => cases p; cases q; exact .v _ _
      | 1, p, q => cases p; cases q; exact .v _ _
      | j + 2, p, q => simp at p)⟩) h
theorem yD {x : Operand} {xt a : TypeId} {us : List Value} (hc : AskT P a) (hx : ev σ x = .v (.iface a (.agg ⟨us⟩)))
    (h : Exec P X n ops os (mkG gt σ [x] [] d (.tu [.ag (us.map .v), .v (.bool true)]) [] :: acc) (σ.put d (.tu [.ag (us.map .v), .v (.bool true)])) K) : Op1 P X n ops gt ⟨d, .typeAssert x xt a true, ty, ps, af, g⟩ os acc σ K :=
  yy (fun M ρ τ b w he hR => ⟨.tuple #[.agg ⟨us⟩, .bool true], by
    unfold execOp
    simp only [jH hR (he x (by simp)) hx]
    rw [Sem.run_bind, hc.hit]; rfl, .tu _ _ [.agg ⟨us⟩, .bool true] rfl (fun j y z p q => by
      match j, p, q with
      | 0, p, q =>
        cases p; cases q
        refine .ag _ _ us (by simp) (fun i y u a b => ?_)
        rw [List.getElem?_map, b] at a
        injection a with a
        subst a
        exact .v _ _
      | 1, p, q => cases p; cases q; exact .v _ _
      | j + 2, p, q => simp at p)⟩) h
theorem yM {x : Operand} {xt a t : TypeId} {u : Value} (hc : AskT P a) (hx : ev σ x = .v (.iface t u)) (ht : Nat.beq t a = false)
    (h : Exec P X n ops os (mkG gt σ [x] [] d (.tu [.junk, .v (.bool false)]) [] :: acc) (σ.put d (.tu [.junk, .v (.bool false)])) K) : Op1 P X n ops gt ⟨d, .typeAssert x xt a true, ty, ps, af, g⟩ os acc σ K := by
  obtain ⟨z, hz⟩ := hc.miss
  exact yy (fun M ρ τ b w he hR => ⟨.tuple #[z, .bool false], by
    unfold execOp
    simp only [jH hR (he x (by simp)) hx]
    rw [Sem.run_bind, hz xt t u w (fun e => by rw [e, Nat.beq_refl] at ht; cases ht)]; rfl, .tu _ _ [z, .bool false] rfl (fun j y z p q => by
      match j, p, q with
      | 0, p, q => cases p; exact .junk _ _
      | 1, p, q => cases p; cases q; exact .v _ _
      | j + 2, p, q => simp at p)⟩) h
/-- Two interface values that hold strings of one named type. -/
structure EqS (P : Program) (ti t : TypeId) : Prop where
  run : ∀ (a b : ByteArray) (w : World), (binOp .eql ti (.iface t (.string a)) (.iface t (.string b))).run P w = .ok (.bool (a == b)) w
theorem eqS {P : Program} {ti t : TypeId} {ms : Array (String × TypeId)} (hi : P.underlying ti = some (.interface ms)) (ht : P.underlying t = some .string) (hc : (P.info? t).map (·.comparable) = some true) : EqS P ti t := by
  obtain ⟨j, hj, hz'⟩ := Option.map_eq_some_iff.1 hc
  refine ⟨fun a b w => ?_⟩
  have h2 : ∀ d : Nat, (Op.equalIn (d + 1) t (.string a) (.string b)).run P w = .ok (a == b) w := fun d => by simp [Op.equalIn, run_underlying ht]
  have h1 : ∀ d : Nat, (Op.equalIn (d + 1 + 1) ti (.iface t (.string a)) (.iface t (.string b))).run P w = .ok (a == b) w := fun d => by
    rw [Op.equalIn]
    simp only [Sem.run_bind, run_underlying hi, Result.andThen_ok]
    simp [typeInfo, hj, hz', h2]
  simp only [binOp, Op.equal, Sem.run_bind]
  rw [show Op.maxDepth = 9998 + 1 + 1 from rfl, h1]
  rfl
theorem x_eql_ifS {x y : Operand} {tx t yt : TypeId} {a b : ByteArray} (hc : EqS P tx t) (hx : ev σ x = .v (.iface t (.string a))) (hy : ev σ y = .v (.iface t (.string b)))
    (h : Exec P X n ops os (mkG gt σ [x, y] [] d (.v (.bool (a == b))) [] :: acc) (σ.put d (.v (.bool (a == b)))) K) : Op1 P X n ops gt ⟨d, .binOp .eql tx x y yt, ty, ps, af, g⟩ os acc σ K :=
  jk hx hy (fun w => by
    rw [Sem.run_bind]
    exact (congrArg (fun r => Result.andThen r _) (show (eqGuard .eql tx x y (.iface t (.string a)) (.iface t (.string b))).run P w = .ok () w from rfl)).trans (hc.run a b w)) h
theorem x_eql_nil {x y : Operand} {tx e yt : TypeId} (ht : P.underlying tx = some (.slice e)) (hx : ev σ x = .v (.slice none 0 0)) (hy : ev σ y = .v (.slice none 0 0))
    (h : Exec P X n ops os (mkG gt σ [x, y] [] d (.v (.bool true)) [] :: acc) (σ.put d (.v (.bool true))) K) : Op1 P X n ops gt ⟨d, .binOp .eql tx x y yt, ty, ps, af, g⟩ os acc σ K :=
  jk hx hy (fun w => by
    rw [Sem.run_bind]
    exact (congrArg (fun r => Result.andThen r _) (show (eqGuard .eql tx x y (.slice none 0 0) (.slice none 0 0)).run P w = .ok () w from rfl)).trans (Lib.run_eql_slice_nil_nil w 0 0 ht)) h
theorem x_eql_sl_nil {x y : Operand} {tx e yt : TypeId} {sz : Nat} {z : AV} {L : List AV} (ht : P.underlying tx = some (.slice e)) (hx : ev σ x = .sl sz (z :: L)) (hy : ev σ y = .v (.slice none 0 0))
    (h : Exec P X n ops os (mkG gt σ [x, y] [] d (.v (.bool false)) [] :: acc) (σ.put d (.v (.bool false))) K) : Op1 P X n ops gt ⟨d, .binOp .eql tx x y yt, ty, ps, af, g⟩ os acc σ K :=
  yy (fun M ρ τ b w he hR => ⟨.bool false, by
    have h1 := hR.ev x
    rw [he x (by simp), hx] at h1
    obtain ⟨A, c, us, e1, e2, e3, e4, e5⟩ := h1.sl_inv
    obtain ⟨_, b', o, arr, e6, _⟩ := e5 0 z rfl
    unfold execOp
    simp only [e1, jH hR (he y (by simp)) hy, e6]
    rw [Sem.run_bind]
    refine (congrArg (fun r => Result.andThen r _) (?_ : _ = Result.ok (Value.bool false) w)).trans rfl
    rw [Sem.run_bind]
    exact (congrArg (fun r => Result.andThen r _) (show (eqGuard .eql tx x y (.slice (some ⟨b', o, none⟩) (z :: L).length c) (.slice none 0 0)).run P w = .ok () w from rfl)).trans (Lib.run_eql_slice_some_nil w _ _ _ ht), .v _ _⟩) h
end
end Go.Proofs.YtggngllfnboehaaGreatDoor
