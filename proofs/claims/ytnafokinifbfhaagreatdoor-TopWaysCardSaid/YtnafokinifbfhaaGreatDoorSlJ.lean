/- An own row as a queue, and a queue's cells of size one; conditions: none / A cut in a walk: ways that part come together in one state; conditions: none / Own buffers handed to a call that gives them back with one element more: copies of rows of any size, the contract, and its law in a walk; conditions: none / What laying elements into, and taking them out of, slices of the caller's own needs, for elements of any size; conditions: none / slices.Clone at []int, of the caller's own; conditions: none. -/
import Derived.Test.YtnafokinifbfhaaGreatDoorAbsC
import Derived.Test.YtnafokinifbfhaaGreatDoorNetA
import Derived.Shelf.Spec.SlicesInsert
import Derived.Lib.AppendZerosOnto
import Derived.Lib.SliceRun
import Derived.Test.YtnafokinifbfhaaGreatDoorTab
set_option linter.unusedVariables false
set_option linter.unusedSimpArgs false
namespace Go.Proofs.YtnafokinifbfhaaGreatDoor
open Go Go.RowKit
section
variable {P : Program} {X : Ctx} {n : Nat} {ops : Array Oper} {os : List Oper} {acc : List Rule} {σ : AS} {K : List Rule → AS → Prop} {gt : List (Nat × AV)} {ty : TypeId} {ps : String} {af : Array Edge} {g : Option (Nat × Bool)}
/-- A call that gives back a new slice with elements: it comes as a queue. -/
theorem iS {f : FuncId} {tys : Array TypeId} {xs : List Operand} {args : List AV} {d k0 e sz : Nat} {q0 : Cont} {L : List AV} (hc : vV P f args e sz L) (h0 : 0 < L.length) (hargs : RenL noB (πs []) args (xs.map (ev σ))) (hH0 : σ.H d = ⟨k0, q0⟩)
    (h : Exec P X n ops os (mkG gt σ xs [d] (some d) (.own d (k0 + 1)) [(d, ⟨k0 + 1, .ob (.qu e sz L)⟩)] :: acc) ((σ.hup d ⟨k0 + 1, .ob (.qu e sz L)⟩).put (some d) (.own d (k0 + 1))) K) :
    Op1 P X n ops gt ⟨some d, .call ⟨.value (.func f), xs.toArray, tys⟩, ty, ps, af, g⟩ os acc σ K := by
  obtain rfl : (σ.H d).k = k0 := by rw [hH0]
  refine ⟨⟨mkR σ xs [d] (some d) (.own d ((σ.H d).k + 1)) [(d, ⟨(σ.H d).k + 1, .ob (.qu e sz L)⟩)], fun hlt M ρ τ a w hf hR K Q hK => ?_, yE _ _ _ _ _ _, h⟩⟩
  have hH := ya hf (s := d) (by simp)
  obtain ⟨c1, c2, c3, c4⟩ := kF (ss := []) (refs := []) hR (by simp) trivial
  obtain ⟨a1, a2⟩ := cF hR (fun x hx => zw hf hx) hargs c3
  unfold Oper.wp
  rw [hY hc.1, Oper.upon_enter]
  refine (hc.2 M w _ hR.live a1 a2).mono ?_
  rintro en w' ⟨u, us, rfl, hb, hown, q1, q2, q3⟩
  have hone := (js hown).2
  obtain ⟨z0, z1⟩ := hown
  rcases z1 with ⟨-, z2⟩ | ⟨g', cap, cur, rfl, z2, e3, e4, e5, e6, e7⟩
  · omega
  obtain ⟨cl⟩ := cur
  have e6' : cl.length = cap * sz := e6
  have e7' : cl.take (L.length * sz) = us := e7
  have hfl : (L.flatMap AV.cells).length = L.length * sz := qB q2
  have hA := hR.toOb d (v' := .slice (some ⟨g', 0, none⟩) L.length cap) (g' := g') (w' := w') (own := none) (o' := .qu e sz L) rfl ⟨hb.os, hb.tape, hb.output, hb.size, fun k hk _ => hb.block k hk⟩ (fun g e => by cases e) (.inr z2) (Nat.le_trans hR.size z2) (fun g e => by cases e) (fun ρ' hρ => by
    refine ⟨0, cap, cl, rfl, e3, e4, e5, by omega, q2, fun j y hy => ?_⟩
    have hlt := zo hy
    obtain ⟨u, hu⟩ := zT (L := us) (k := j) (by omega)
    have hcu : cl[0 + j]? = some u := by
      rw [Nat.zero_add]
      rw [← e7', List.getElem?_take] at hu
      split at hu
      · exact hu
      · cases hu
    exact ⟨u, hcu, q3 j y u hy hu⟩)
  rw [hH] at hA
  refine hK M _ _ w' (hA.put (.own _ _ _ _ ?_ hone) hlt)
  simp [updρ]
end
section
variable {P : Program} {X : Ctx} {n : Nat} {ops : Array Oper} {os : List Oper} {acc : List Rule} {σ : AS} {K : List Rule → AS → Prop} {gt : List (Nat × AV)} {ty : TypeId} {ps : String} {af : Array Edge} {g : Option (Nat × Bool)} {d : Option Nat}
variable {TB : Tabs} (hTB : TabsOk P TB)
include hTB
theorem aO {t : TypeId} {x : Operand} {s k k' off m e sz : Nat} {Q : List AV} {y : AV} (ht : lk TB.ty t = some (false, m)) (hx : ev σ x = .qp s k off) (hH : σ.H s = ⟨k', .ob (.qu e sz Q)⟩) (hk : k = k') (hy : (Q.flatMap AV.cells)[off]? = some y)
    (h : Exec P X n ops os (mkG gt σ [x] [s] d y [] :: acc) (σ.put d y) K) : Op1 P X n ops gt ⟨d, .load t x, ty, ps, af, g⟩ os acc σ K := by
  refine ⟨⟨mkR σ [x] [s] d y [], yB rfl fun M ρ τ a w hf hR => ?_, yE _ _ _ _ _ _, h⟩⟩
  subst hk
  have hHs := (ya hf (s := s) (by simp)).trans hH
  have h1 := hR.ev x
  rw [zw hf (by simp), hx] at h1
  obtain ⟨g0, o0, l0, c0, e1, e2⟩ := h1.qp_inv
  obtain ⟨v, g', -, b1, b2, b3, o, c, cur, rfl, c2, c3, c4, c5, c6, c7⟩ := hR.mp s k _ hHs
  rw [b1] at e1
  injection e1 with e1
  injection e1 with e1 e1' e1''
  injection e1 with e1
  injection e1 with e1 e3
  subst e1; subst e3
  obtain ⟨u, q1, q2, q3⟩ := c7 _ y hy
  refine ⟨u, w, M, ρ, ?_, hR, q2.mono' (fun _ _ e => e) (fun _ _ _ e => by cases e)⟩
  have hc : w.cell? ⟨g', o + off, none⟩ = some u := by rw [cell_of_row w g' (o + off) ⟨cur⟩ e (0, 0) c2]; simpa using q1
  unfold execOp
  simp only [e2, Instr.loadAt, Instr.sureAddr, loadVar, Sem.run_bind, Sem.run_pure, Result.andThen_ok, qT hTB ht, Bool.false_eq_true, if_false, run_load, hc]
end
end Go.Proofs.YtnafokinifbfhaaGreatDoor
namespace Go.Proofs.YtnafokinifbfhaaGreatDoor
open Go Go.RowKit
section
variable {P : Program} {X : Ctx} {n : Nat} {σ : AS} {Q Q' : Exit → AS → Prop}
end
end Go.Proofs.YtnafokinifbfhaaGreatDoor
namespace Go.Proofs.YtnafokinifbfhaaGreatDoor
open Go Go.RowKit
section
variable {X : Ctx} {n : Nat} {M : Nat → Option (Array Value)} {ρ : Nat → Nat → Option Value} {σ : AS} {a : Act} {w : World}
end
section
variable {P : Program} {X : Ctx} {n : Nat} {ops : Array Oper} {os : List Oper} {acc : List Rule} {σ : AS} {K : List Rule → AS → Prop} {gt : List (Nat × AV)} {ty : TypeId} {ps : String} {af : Array Edge} {g : Option (Nat × Bool)}
end
end Go.Proofs.YtnafokinifbfhaaGreatDoor
namespace Go.Proofs.YtnafokinifbfhaaGreatDoor
open Go Go.RowKit
end Go.Proofs.YtnafokinifbfhaaGreatDoor
namespace Go.Proofs.YtnafokinifbfhaaGreatDoor
open Go Go.RowKit
theorem infoRowI : (Tryz.prog.info? 3).map (fun i => (i.zero, i.size, i.bytes)) = some (some (Value.int .i64 0), 1, 8) := by kernel_rfl
theorem rV (A : Option Addr) (n c : Nat) (w : World) : (binOp .eql 22 (.slice A n c) (.slice none 0 0)).run Tryz.prog w = .ok (.bool A.isNone) w :=
  Lib.run_eql_slice_nil w 22 3 A n c 0 0 Tryz.underlying22
set_option maxHeartbeats 1000000 in
theorem tD (c : Nat) (w : World) : Calls Tryz.prog 71 #[.slice none 0 c] w fun e w' => e = .returned (.slice none 0 0) ∧ w = w' := by
  have he := rV
  go_enter Tryz.func71, Tryz.ntmps71
  go_wp2
  go_ret
  exact ⟨rfl, rfl⟩
set_option maxHeartbeats 1000000 in
theorem pT (ad : Addr) (c n : Nat) (news : List Value) (w : World) (hl : news.length = n * 1) (hr : ∀ w', Below w.heap.size w w' → 0 < n → ∃ a, some ad = some a ∧ ∀ j u, news[j]? = some u → w'.cell? (a.add j) = some u) (h1 : ∀ u ∈ news, u.oneCell' = true) (hn : n ≤ 1000) :
    Calls Tryz.prog 71 #[.slice (some ad) n c] w fun e w' => ∃ v, e = .returned v ∧ w'.ownsRow w.heap.size 3 1 v n news ∧ Below w.heap.size w w' := by
  have he := rV
  obtain ⟨i0, hi, hz0, hz1, hz2⟩ := info_parts infoRowI
  go_enter Tryz.func71, Tryz.ntmps71
  go_wp2_with (at_builtin; refine gC _ rfl (.tmp 5) (.tmp 6) _ rfl w.heap.size 3 i0 _ 1 8 Tryz.underlying22 hi hz0 hz1 hz2 rfl (by omega) (.slice (some ⟨w.heap.size, 0, none⟩) 0 0) 0 [] rfl (World.ownsRow_made w #[] 0 (Nat.le_refl _) (by simp [maxLen]) rfl) (some ad) n c news rfl hl (hr _ ((Below.refl _ _).alloc (Nat.le_refl _) _)) h1 (by simp only [maxLen]; omega) (by omega) (by simp) ?_; intro v1 w1 hown1 hg1 hat1; simp only [Nat.zero_add, List.nil_append] at hown1)
  go_ret
  refine ⟨v1, rfl, hown1, ?_⟩
  refine ((Below.refl _ _).alloc (Nat.le_refl _) _).grown hg1 (by simp) (fun k hk => ?_)
  simp [Value.ownBlock] at hk
  omega
theorem sT (N : List AV) (ho : ∀ x ∈ N, yR x.cells = true) (hn : N.length ≤ 1000) : vV Tryz.prog 71 [.sl 1 N] 3 1 N := by
  refine ⟨zM Tryz.func71 (by kernel_rfl) rfl, fun M w vs hlive hl ha => ?_⟩
  obtain ⟨v, rfl⟩ : ∃ v, vs = [v] := List.length_eq_one_iff.1 hl
  have hv := ha 0 _ v rfl rfl
  obtain ⟨A, c, news, rfl, e2, e3, e4, e5, e6, e7⟩ := kL hlive hv (by decide) ho
  rcases A with _ | ad
  · have h0 : N.length = 0 := by
      rcases Nat.eq_zero_or_pos N.length with h0 | h0
      · exact h0
      · obtain ⟨_, e, _⟩ := e3 h0; cases e
    have hN : N = [] := List.eq_nil_of_length_eq_zero h0
    subst hN
    have hnews : news = [] := List.eq_nil_of_length_eq_zero (by simpa using e2)
    subst hnews
    exact (tD c w).mono fun e w' ⟨he, hw⟩ => ⟨_, [], he, by subst hw; exact Below.refl _ _, lI _ _ _ _, by simp, by simp, by simp⟩
  · refine (pT ad c N.length news w e2 (fun w' hb h0 => ?_) e4 hn).mono fun e w' ⟨u, he, hown, hb⟩ => ⟨u, news, he, hb, hown, e6, e5, e7⟩
    obtain ⟨a, ea, hc⟩ := e3 h0
    refine ⟨a, ea, fun j u hj => ?_⟩
    have h1 := hc j u hj
    have hlt := block_lt_of_cell h1
    rw [← h1]
    exact World.cell?_of_block (hb.block _ hlt)
end Go.Proofs.YtnafokinifbfhaaGreatDoor
