/- How a walk of the abstract machine goes on from statement to statement; conditions: none. -/
import Derived.Test.YtbacidnhjmdnlaaDoorAbsL
set_option linter.unusedVariables false
set_option linter.unusedSimpArgs false
namespace Go.Proofs.YtbacidnhjmdnlaaDoor
open Go Go.RowKit
def nrm (Q : Exit → AS → Prop) : List Rule → AS → Prop := fun _ τ => Q .normal τ
def drw (ops : Array Oper) (Q : Exit → AS → Prop) : List Rule → AS → Prop := fun rs τ => indepB ops.toList rs = true ∧ Q .normal τ
section
variable {P : Program} {X : Ctx} {n : Nat} {σ τ : AS} {Q : Exit → AS → Prop} {K : AS → Prop} {ops : Array Oper} {acc : List Rule}
theorem w_region {id : Nat} (hd : dstsB n ops.toList = true) (h : Exec P X n ops ops.toList [] σ (nrm Q)) : AWp P X n (.region id ops false) Q σ := awp_region hd h
theorem w_draw {id : Nat} (hm : P.follows .mixedOrders = true) (hd : dstsB n ops.toList = true) (h : Exec P X n ops ops.toList [] σ (drw ops Q)) : AWp P X n (.region id ops true) Q σ := awp_draw hm hd h
theorem e_nrm (h : Q .normal τ) : Exec P X n ops [] acc τ (nrm Q) := ⟨h⟩
theorem e_drw {ops' : Array Oper} (hi : indepB ops'.toList acc.reverse = true) (h : Q .normal τ) : Exec P X n ops [] acc τ (drw ops' Q) := ⟨⟨hi, h⟩⟩
theorem q_then (h : K τ) : thenA K Q .normal τ := h
theorem q_then_exit {i : Nat} (h : Q (.exit i) τ) : thenA K Q (.exit i) τ := h
theorem q_then_ret (h : Q .ret τ) : thenA K Q .ret τ := h
theorem q_block (h : Q .normal τ) {i : Nat} : inBlockA i Q .normal τ := h
theorem q_block_ret (h : Q .ret τ) {i : Nat} : inBlockA i Q .ret τ := h
theorem q_block_exit {i j : Nat} (hb : Nat.beq i j = true) (h : Q .normal τ) : inBlockA j Q (.exit i) τ := by
  show bif Nat.beq i j then _ else _
  rw [hb]; exact h
theorem q_block_out {i j : Nat} (hb : Nat.beq i j = false) (h : Q (.exit i) τ) : inBlockA j Q (.exit i) τ := by
  show bif Nat.beq i j then _ else _
  rw [hb]; exact h
theorem q_scope (h : Q .normal τ) : noGotoA Q .normal τ := h
theorem q_scope_ret (h : Q .ret τ) : noGotoA Q .ret τ := h
theorem q_scope_exit {i : Nat} (h : Q (.exit i) τ) : noGotoA Q (.exit i) τ := h
theorem w_cond_t {t : Nat} {x y : Code} {b : Bool} (hc : σ.T t = .v (.bool b)) (hb : b = true) (h : AWp P X n x Q σ) : AWp P X n (.cond (.tmp t) x y) Q σ := awp_cond hc (fun _ => h) (fun h' => by rw [hb] at h'; cases h')
theorem w_cond_f {t : Nat} {x y : Code} {b : Bool} (hc : σ.T t = .v (.bool b)) (hb : b = false) (h : AWp P X n y Q σ) : AWp P X n (.cond (.tmp t) x y) Q σ := awp_cond hc (fun h' => by rw [hb] at h'; cases h') (fun _ => h)
theorem w_cond {t : Nat} {x y : Code} {b : Bool} (hc : σ.T t = .v (.bool b)) (h1 : b = true → AWp P X n x Q σ) (h2 : b = false → AWp P X n y Q σ) : AWp P X n (.cond (.tmp t) x y) Q σ := awp_cond hc h1 h2
theorem st_T {v : Nat → Nat} {lT : List (Nat × AV)} {lH : List (Nat × Cont)} (t : Nat) : (st v lT lH).T t = look lT t := rfl
theorem ret_v {TB : Tabs} {fn : Func} {r : AV} {u : Value} {t : Nat} {e : Exit} (he : e = .normal ∨ e = .ret) (hfn : fn.results = #[.tmp t]) (hT : σ.T t = .v u) (hr : r = .v u) : RetQ TB fn 0 r [] e σ := by
  subst hr
  refine ⟨he, [σ.T t], [], ?_, rfl, by simp, by simp, ?_, trivial⟩
  · rw [hfn]; exact ⟨.tmp t, trivial⟩
  · show Ren _ _ (.v u) (σ.T t)
    rw [hT]; exact .v u
/-- The end of a function: no box is handed in or out. -/
theorem ret0 {TB : Tabs} {fn : Func} {r : AV} {xs : List AV} {e : Exit} (he : e = .normal ∨ e = .ret) (hx : ResL TB σ fn.results.toList xs) (hr : Ren (bufs σ) (frameπ 0 []) r (retAV xs)) : RetQ TB fn 0 r [] e σ :=
  ⟨he, xs, [], hx, rfl, by simp, by simp, hr, trivial⟩
theorem refs_at {m : Nat} {c' : List AV} {c : List AV} {fs : List (Nat × Nat)} {i : Nat} (hi : i < m) (hH : σ.H (refB + i) = ⟨0, .box c'⟩) (hc : RenL (bufs σ) (frameπ m fs) c c') : ∃ s k c', frameπ m fs i = some (s, k) ∧ σ.H s = ⟨k, .box c'⟩ ∧ RenL (bufs σ) (frameπ m fs) c c' :=
  ⟨refB + i, 0, c', by unfold frameπ; rw [if_pos hi], hH, hc⟩
/-- The end of a function that was handed one box. -/
theorem ret1 {TB : Tabs} {fn : Func} {r : AV} {xs : List AV} {e : Exit} {c c' : List AV} (he : e = .normal ∨ e = .ret) (hx : ResL TB σ fn.results.toList xs) (hr : Ren (bufs σ) (frameπ 1 []) r (retAV xs)) {k : Nat} (hH : σ.H (refB + 0) = ⟨k, .box c'⟩) (hk : k = 0) (hc : RenL (bufs σ) (frameπ 1 []) c c') : RetQ TB fn 1 r [c] e σ := by
  subst hk
  exact ⟨he, xs, [], hx, rfl, by simp, by simp, hr, refs_at (by omega) hH hc, trivial⟩
theorem ret1_v {TB : Tabs} {fn : Func} {r : AV} {u : Value} {t k : Nat} {e : Exit} {c c' : List AV} (he : e = .normal ∨ e = .ret) (hfn : fn.results = #[.tmp t]) (hT : σ.T t = .v u) (hH : σ.H (refB + 0) = ⟨k, .box c'⟩) (hk : k = 0) (hr : r = .v u) (hc : c = c') (hp : RenL (bufs σ) (frameπ 1 []) c' c') : RetQ TB fn 1 r [c] e σ := by
  subst hr; subst hc
  refine ret1 he (xs := [σ.T t]) ?_ ?_ hH hk hp
  · rw [hfn]; exact ⟨.tmp t, trivial⟩
  · show Ren _ _ (.v u) (σ.T t)
    rw [hT]; exact .v u
/-- The end of a function that hands out a new box. -/
theorem retNew {TB : Tabs} {fn : Func} {s k : Nat} {e : Exit} {c c' : List AV} (he : e = .normal ∨ e = .ret) (hx : ResL TB σ fn.results.toList [.ptr s k 0]) (hs : s < refB) (hH : σ.H s = ⟨k, .box c'⟩) (hc : RenL (bufs σ) (frameπ 0 [(s, k)]) c c') : RetQ TB fn 0 (.ptr (refB + 0) 0 0) [c] e σ :=
  ⟨he, [.ptr s k 0], [(s, k)], hx, rfl, by simp, by simp [hs], .ptr 0 s k 0 rfl, ⟨s, k, c', rfl, hH, hc⟩, trivial⟩
end
section
variable {P : Program} {X : Ctx} {n : Nat} {ops : Array Oper} {os : List Oper} {acc : List Rule} {σ : AS} {K : List Rule → AS → Prop} {gt : List (Nat × AV)} {d : Option Nat} {ty : TypeId} {ps : String} {af : Array Edge} {g : Option (Nat × Bool)} {a b : Nat} {x y z : Operand} {lo hi mx : Option Operand} {c : Call} {bo : BinOp} {uo : UnOp} {fn : Fn} {fs cs : Array Operand} {bp : Array (Nat × Operand)}
theorem k_move (h : Op1 P X n ops gt ⟨d, .move x, ty, ps, af, g⟩ os acc σ K) : Op1 P X n ops gt ⟨d, .move x, ty, ps, af, g⟩ os acc σ K := h
theorem k_assign (h : Op1 P X n ops gt ⟨d, .assign x, ty, ps, af, g⟩ os acc σ K) : Op1 P X n ops gt ⟨d, .assign x, ty, ps, af, g⟩ os acc σ K := h
theorem k_fieldAddr (h : Op1 P X n ops gt ⟨d, .fieldAddr a x b, ty, ps, af, g⟩ os acc σ K) : Op1 P X n ops gt ⟨d, .fieldAddr a x b, ty, ps, af, g⟩ os acc σ K := h
theorem k_load (h : Op1 P X n ops gt ⟨d, .load a x, ty, ps, af, g⟩ os acc σ K) : Op1 P X n ops gt ⟨d, .load a x, ty, ps, af, g⟩ os acc σ K := h
theorem k_store (h : Op1 P X n ops gt ⟨d, .store a x y, ty, ps, af, g⟩ os acc σ K) : Op1 P X n ops gt ⟨d, .store a x y, ty, ps, af, g⟩ os acc σ K := h
theorem k_alloc (h : Op1 P X n ops gt ⟨d, .alloc a, ty, ps, af, g⟩ os acc σ K) : Op1 P X n ops gt ⟨d, .alloc a, ty, ps, af, g⟩ os acc σ K := h
theorem k_box (h : Op1 P X n ops gt ⟨d, .box a x, ty, ps, af, g⟩ os acc σ K) : Op1 P X n ops gt ⟨d, .box a x, ty, ps, af, g⟩ os acc σ K := h
theorem k_bin (h : Op1 P X n ops gt ⟨d, .binOp bo a x y b, ty, ps, af, g⟩ os acc σ K) : Op1 P X n ops gt ⟨d, .binOp bo a x y b, ty, ps, af, g⟩ os acc σ K := h
theorem k_un (h : Op1 P X n ops gt ⟨d, .unOp uo a x, ty, ps, af, g⟩ os acc σ K) : Op1 P X n ops gt ⟨d, .unOp uo a x, ty, ps, af, g⟩ os acc σ K := h
theorem k_extract (h : Op1 P X n ops gt ⟨d, .extract x a, ty, ps, af, g⟩ os acc σ K) : Op1 P X n ops gt ⟨d, .extract x a, ty, ps, af, g⟩ os acc σ K := h
theorem k_pick (h : Op1 P X n ops gt ⟨d, .pick x y z, ty, ps, af, g⟩ os acc σ K) : Op1 P X n ops gt ⟨d, .pick x y z, ty, ps, af, g⟩ os acc σ K := h
theorem k_indexAddr (h : Op1 P X n ops gt ⟨d, .indexAddr a x y, ty, ps, af, g⟩ os acc σ K) : Op1 P X n ops gt ⟨d, .indexAddr a x y, ty, ps, af, g⟩ os acc σ K := h
theorem k_index (h : Op1 P X n ops gt ⟨d, .index a x y, ty, ps, af, g⟩ os acc σ K) : Op1 P X n ops gt ⟨d, .index a x y, ty, ps, af, g⟩ os acc σ K := h
theorem k_call (h : Op1 P X n ops gt ⟨d, .call c, ty, ps, af, g⟩ os acc σ K) : Op1 P X n ops gt ⟨d, .call c, ty, ps, af, g⟩ os acc σ K := h
theorem k_nilCheck (h : Op1 P X n ops gt ⟨d, .nilCheck x, ty, ps, af, g⟩ os acc σ K) : Op1 P X n ops gt ⟨d, .nilCheck x, ty, ps, af, g⟩ os acc σ K := h
theorem k_makeFunc (h : Op1 P X n ops gt ⟨d, .makeFunc fn fs cs, ty, ps, af, g⟩ os acc σ K) : Op1 P X n ops gt ⟨d, .makeFunc fn fs cs, ty, ps, af, g⟩ os acc σ K := h
theorem k_build (h : Op1 P X n ops gt ⟨d, .build a bp, ty, ps, af, g⟩ os acc σ K) : Op1 P X n ops gt ⟨d, .build a bp, ty, ps, af, g⟩ os acc σ K := h
theorem k_buildSlice (h : Op1 P X n ops gt ⟨d, .buildSlice a b bp, ty, ps, af, g⟩ os acc σ K) : Op1 P X n ops gt ⟨d, .buildSlice a b bp, ty, ps, af, g⟩ os acc σ K := h
theorem k_slice (h : Op1 P X n ops gt ⟨d, .slice a x lo hi mx, ty, ps, af, g⟩ os acc σ K) : Op1 P X n ops gt ⟨d, .slice a x lo hi mx, ty, ps, af, g⟩ os acc σ K := h
theorem k_convert (h : Op1 P X n ops gt ⟨d, .convert a b x, ty, ps, af, g⟩ os acc σ K) : Op1 P X n ops gt ⟨d, .convert a b x, ty, ps, af, g⟩ os acc σ K := h
theorem k_field (h : Op1 P X n ops gt ⟨d, .field a x b, ty, ps, af, g⟩ os acc σ K) : Op1 P X n ops gt ⟨d, .field a x b, ty, ps, af, g⟩ os acc σ K := h
theorem k_makeSlice (h : Op1 P X n ops gt ⟨d, .makeSlice a x y, ty, ps, af, g⟩ os acc σ K) : Op1 P X n ops gt ⟨d, .makeSlice a x y, ty, ps, af, g⟩ os acc σ K := h
end
theorem enter_of {P : Program} {f : FuncId} {fn : Func} {c : Code} (hf : P.funcs[f]? = some fn) (hname : (fn.name == "runtime.NumGoroutine") = false) (hb : fn.body = some c) : Enter P f := by
  intro args w
  have h1 : fn.name ≠ "runtime.NumGoroutine" := by simpa using hname
  simp [callFunc, hf, h1, hb, mark]
end Go.Proofs.YtbacidnhjmdnlaaDoor
