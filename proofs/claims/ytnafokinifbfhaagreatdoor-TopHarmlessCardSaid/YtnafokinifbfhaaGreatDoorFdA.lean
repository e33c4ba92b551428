/- An own row as a queue, and a queue's cells of size one; conditions: none / A cut in a walk: ways that part come together in one state; conditions: none / Own buffers handed to a call that gives them back with one element more: copies of rows of any size, the contract, and its law in a walk; conditions: none / What laying elements into, and taking them out of, slices of the caller's own needs, for elements of any size; conditions: none / slices.Clone at []int, of the caller's own; conditions: none / network.Distances, by the abstract machine: it floods; conditions: a network whose ends are right, at most 32 nodes / Rows of any elements that are made: a row of the frame's own, of zero values; conditions: tables of types that agree with the program's / Deck.One, by the abstract machine; conditions: none / permitofficeref14.Add and permitofficemake.Locks, by the abstract machine: the locks that it makes are valid; conditions: none / network.Flood with a closure that says which devices may be used, and zone.region, by the abstract machine; conditions: a network whose ends are right. -/
import Derived.Test.YtnafokinifbfhaaGreatDoorAbsC
import Derived.Test.YtnafokinifbfhaaGreatDoorNetB
import Derived.Shelf.Spec.SlicesInsert
import Derived.Lib.AppendZerosOnto
import Derived.Lib.SliceRun
import Derived.Test.YtnafokinifbfhaaGreatDoorTab
import Derived.Test.YtnafokinifbfhaaGreatDoorAbsZ
import Derived.Test.YtnafokinifbfhaaGreatDoorZg
import Derived.Laws.OwnMore
import Derived.Test.YtnafokinifbfhaaGreatDoorDkA
set_option linter.unusedVariables false
set_option linter.unusedSimpArgs false
namespace Go.Proofs.YtnafokinifbfhaaGreatDoor
open Go Go.RowKit
section
variable {P : Program} {X : Ctx} {n : Nat} {ops : Array Oper} {os : List Oper} {acc : List Rule} {σ : AS} {K : List Rule → AS → Prop} {gt : List (Nat × AV)} {ty : TypeId} {ps : String} {af : Array Edge} {g : Option (Nat × Bool)}
/-- A call that gives back a new slice with elements: it comes as a queue. -/
theorem vL {f : FuncId} {tys : Array TypeId} {xs : List Operand} {args : List AV} {d k0 e sz : Nat} {q0 : Cont} {L : List AV} (hc : tI P f args e sz L) (h0 : 0 < L.length) (hargs : RenL noB (πs []) args (xs.map (ev σ))) (hH0 : σ.H d = ⟨k0, q0⟩)
    (h : Exec P X n ops os (mkG gt σ xs [d] (some d) (.own d (k0 + 1)) [(d, ⟨k0 + 1, .ob (.qu e sz L)⟩)] :: acc) ((σ.hup d ⟨k0 + 1, .ob (.qu e sz L)⟩).put (some d) (.own d (k0 + 1))) K) :
    Op1 P X n ops gt ⟨some d, .call ⟨.value (.func f), xs.toArray, tys⟩, ty, ps, af, g⟩ os acc σ K := by
  obtain rfl : (σ.H d).k = k0 := by rw [hH0]
  refine ⟨⟨mkR σ xs [d] (some d) (.own d ((σ.H d).k + 1)) [(d, ⟨(σ.H d).k + 1, .ob (.qu e sz L)⟩)], fun hlt M ρ τ a w hf hR K Q hK => ?_, zR _ _ _ _ _ _, h⟩⟩
  have hH := zo hf (s := d) (by simp)
  obtain ⟨c1, c2, c3, c4⟩ := cZ (ss := []) (refs := []) hR (by simp) trivial
  obtain ⟨a1, a2⟩ := ju hR (fun x hx => zP hf hx) hargs c3
  unfold Oper.wp
  rw [qU hc.1, Oper.upon_enter]
  refine (hc.2 M w _ hR.live a1 a2).mono ?_
  rintro en w' ⟨u, us, rfl, hb, hown, q1, q2, q3⟩
  have hone := (jc hown).2
  obtain ⟨z0, z1⟩ := hown
  rcases z1 with ⟨-, z2⟩ | ⟨g', cap, cur, rfl, z2, e3, e4, e5, e6, e7⟩
  · omega
  obtain ⟨cl⟩ := cur
  have e6' : cl.length = cap * sz := e6
  have e7' : cl.take (L.length * sz) = us := e7
  have hfl : (L.flatMap AV.cells).length = L.length * sz := yc q2
  have hA := hR.toOb d (v' := .slice (some ⟨g', 0, none⟩) L.length cap) (g' := g') (w' := w') (own := none) (o' := .qu e sz L) rfl ⟨hb.os, hb.tape, hb.output, hb.size, fun k hk _ => hb.block k hk⟩ (fun g e => by cases e) (.inr z2) (Nat.le_trans hR.size z2) (fun g e => by cases e) (fun ρ' hρ => by
    refine ⟨0, cap, cl, rfl, e3, e4, e5, by omega, q2, fun j y hy => ?_⟩
    have hlt := zM hy
    obtain ⟨u, hu⟩ := zB (L := us) (k := j) (by omega)
    have hcu : cl[0 + j]? = some u := by
      rw [Nat.zero_add]
      rw [← e7', List.getElem?_take] at hu
      split at hu
      · exact hu
      · cases hu
    exact ⟨u, hcu, q3 j y u hy hu⟩)
  rw [hH] at hA
  refine hK M _ _ w' (hA.put (.own _ _ _ _ ?_ hone) hlt)
  simp [updρ]
end
section
variable {P : Program} {X : Ctx} {n : Nat} {ops : Array Oper} {os : List Oper} {acc : List Rule} {σ : AS} {K : List Rule → AS → Prop} {gt : List (Nat × AV)} {ty : TypeId} {ps : String} {af : Array Edge} {g : Option (Nat × Bool)} {d : Option Nat}
variable {TB : Tabs} (hTB : TabsOk P TB)
include hTB
theorem gJ {t : TypeId} {x : Operand} {s k k' off m e sz : Nat} {Q : List AV} {y : AV} (ht : lk TB.ty t = some (false, m)) (hx : ev σ x = .qp s k off) (hH : σ.H s = ⟨k', .ob (.qu e sz Q)⟩) (hk : k = k') (hy : (Q.flatMap AV.cells)[off]? = some y)
    (h : Exec P X n ops os (mkG gt σ [x] [s] d y [] :: acc) (σ.put d y) K) : Op1 P X n ops gt ⟨d, .load t x, ty, ps, af, g⟩ os acc σ K := by
  refine ⟨⟨mkR σ [x] [s] d y [], zW rfl fun M ρ τ a w hf hR => ?_, zR _ _ _ _ _ _, h⟩⟩
  subst hk
  have hHs := (zo hf (s := s) (by simp)).trans hH
  have h1 := hR.ev x
  rw [zP hf (by simp), hx] at h1
  obtain ⟨g0, o0, l0, c0, e1, e2⟩ := h1.qp_inv
  obtain ⟨v, g', -, b1, b2, b3, o, c, cur, rfl, c2, c3, c4, c5, c6, c7⟩ := hR.mp s k _ hHs
  rw [b1] at e1
  injection e1 with e1
  injection e1 with e1 e1' e1''
  injection e1 with e1
  injection e1 with e1 e3
  subst e1; subst e3
  obtain ⟨u, q1, q2, q3⟩ := c7 _ y hy
  refine ⟨u, w, M, ρ, ?_, hR, q2.mono' (fun _ _ e => e) (fun _ _ _ e => by cases e)⟩
  have hc : w.cell? ⟨g', o + off, none⟩ = some u := by rw [cell_of_row w g' (o + off) ⟨cur⟩ e (0, 0) c2]; simpa using q1
  unfold execOp
  simp only [e2, Instr.loadAt, Instr.sureAddr, loadVar, Sem.run_bind, Sem.run_pure, Result.andThen_ok, qH hTB ht, Bool.false_eq_true, if_false, run_load, hc]
end
end Go.Proofs.YtnafokinifbfhaaGreatDoor
namespace Go.Proofs.YtnafokinifbfhaaGreatDoor
open Go Go.RowKit
section
variable {P : Program} {X : Ctx} {n : Nat} {σ : AS} {Q Q' : Exit → AS → Prop}
end
end Go.Proofs.YtnafokinifbfhaaGreatDoor
namespace Go.Proofs.YtnafokinifbfhaaGreatDoor
open Go Go.RowKit
theorem gT {α : Type} : ∀ (xs cs : List α) (o : Nat), o + xs.length ≤ cs.length → putL cs o xs = cs.take o ++ xs ++ cs.drop (o + xs.length)
  | [], cs, o, h => by simp [putL]
  | x :: xs, cs, o, h => by
    simp at h
    rw [putL, gT xs _ _ (by simp; omega)]
    have e1 : (cs.set o x).take (o + 1) = cs.take o ++ [x] := by
      rw [List.take_add_one, List.take_set_of_le (by omega), List.getElem?_set_self (by omega)]; rfl
    have e2 : (cs.set o x).drop (o + 1 + xs.length) = cs.drop (o + (x :: xs).length) := by
      rw [List.drop_set_of_lt (by omega)]
      congr 1
      simp; omega
    rw [e1, e2]
    simp
section
variable {X : Ctx} {n : Nat} {M : Nat → Option (Array Value)} {ρ : Nat → Nat → Option Value} {σ : AS} {a : Act} {w : World}
end
section
variable {P : Program} {X : Ctx} {n : Nat} {ops : Array Oper} {os : List Oper} {acc : List Rule} {σ : AS} {K : List Rule → AS → Prop} {gt : List (Nat × AV)} {ty : TypeId} {ps : String} {af : Array Edge} {g : Option (Nat × Bool)}
end
end Go.Proofs.YtnafokinifbfhaaGreatDoor
namespace Go.Proofs.YtnafokinifbfhaaGreatDoor
open Go Go.RowKit
theorem sF {sz : Nat} : ∀ (L : List AV) (i : Nat), (∀ x ∈ L, x.cells.length = sz) → (L.take i).flatMap AV.cells = (L.flatMap AV.cells).take (i * sz) ∧ (L.drop i).flatMap AV.cells = (L.flatMap AV.cells).drop (i * sz)
  | [], i, _ => by simp
  | x :: L, 0, _ => by simp
  | x :: L, i + 1, h => by
    obtain ⟨h1, h2⟩ := sF L i fun y hy => h y (by simp [hy])
    have hx := h x (by simp)
    have hle : x.cells.length ≤ sz + i * sz := by rw [hx]; exact Nat.le_add_right _ _
    have he : sz + i * sz - x.cells.length = i * sz := by rw [hx]; exact Nat.add_sub_cancel_left _ _
    rw [List.take_succ_cons, List.drop_succ_cons, List.flatMap_cons, List.flatMap_cons, h1, h2, Nat.succ_mul, Nat.add_comm (i * sz) sz]
    constructor
    · rw [List.take_append, List.take_of_length_le hle, he]
    · rw [List.drop_append, List.drop_of_length_le hle, List.nil_append, he]
/-- 'clear' at elements of some cells each. -/
theorem vC {P : Program} (w : World) (t e ty : TypeId) (z : Value) (ht : P.underlying t = some (.slice e)) (hv : ∀ w, (zeroValue e).run P w = .ok z w) (b o n c : Nat) (cs : List Value) (hz : (Builtin.zeroCells z.cells n).toList = cs) (h1 : ∀ v ∈ cs, v.oneCell' = true) (hn : 0 < n)
    (hc : ∀ j, j < cs.length → (w.cell? ⟨b, o + j, none⟩).isSome = true) (hf : ∀ j, j < cs.length → w.frozen? ⟨b, o + j, none⟩ = false) :
    (Builtin.clear_ #[t] ty #[.slice (some ⟨b, o, none⟩) n c]).run P w = .ok (.tuple #[]) (w.setCells b o cs) := by
  have hst := run_storeCells_cells (P := P) b o cs 0 w (by simpa using hc) (by simpa using hf) h1
  simp only [Nat.add_zero] at hst
  obtain ⟨m, rfl⟩ : ∃ m, n = m + 1 := ⟨n - 1, by omega⟩
  simp [Builtin.clear_, run_underlying ht, hv, hz, hst]
end Go.Proofs.YtnafokinifbfhaaGreatDoor
namespace Go.Proofs.YtnafokinifbfhaaGreatDoor
open Go Go.RowKit
theorem wS : (Tryz.prog.info? 3).map (fun i => (i.zero, i.size, i.bytes)) = some (some (Value.int .i64 0), 1, 8) := by kernel_rfl
theorem xI (A : Option Addr) (n c : Nat) (w : World) : (binOp .eql 22 (.slice A n c) (.slice none 0 0)).run Tryz.prog w = .ok (.bool A.isNone) w :=
  Lib.run_eql_slice_nil w 22 3 A n c 0 0 Tryz.underlying22
set_option maxHeartbeats 1000000 in
theorem clone_nilI (c : Nat) (w : World) : Calls Tryz.prog 71 #[.slice none 0 c] w fun e w' => e = .returned (.slice none 0 0) ∧ w = w' := by
  have he := xI
  go_enter Tryz.func71, Tryz.ntmps71
  go_wp2
  go_ret
  exact ⟨rfl, rfl⟩
set_option maxHeartbeats 1000000 in
theorem vH (ad : Addr) (c n : Nat) (news : List Value) (w : World) (hl : news.length = n * 1) (hr : ∀ w', Below w.heap.size w w' → 0 < n → ∃ a, some ad = some a ∧ ∀ j u, news[j]? = some u → w'.cell? (a.add j) = some u) (h1 : ∀ u ∈ news, u.oneCell' = true) (hn : n ≤ 1000) :
    Calls Tryz.prog 71 #[.slice (some ad) n c] w fun e w' => ∃ v, e = .returned v ∧ w'.ownsRow w.heap.size 3 1 v n news ∧ Below w.heap.size w w' := by
  have he := xI
  obtain ⟨i0, hi, hz0, hz1, hz2⟩ := info_parts wS
  go_enter Tryz.func71, Tryz.ntmps71
  go_wp2_with (at_builtin; refine kX _ rfl (.tmp 5) (.tmp 6) _ rfl w.heap.size 3 i0 _ 1 8 Tryz.underlying22 hi hz0 hz1 hz2 rfl (by omega) (.slice (some ⟨w.heap.size, 0, none⟩) 0 0) 0 [] rfl (World.ownsRow_made w #[] 0 (Nat.le_refl _) (by simp [maxLen]) rfl) (some ad) n c news rfl hl (hr _ ((Below.refl _ _).alloc (Nat.le_refl _) _)) h1 (by simp only [maxLen]; omega) (by omega) (by simp) ?_; intro v1 w1 hown1 hg1 hat1; simp only [Nat.zero_add, List.nil_append] at hown1)
  go_ret
  refine ⟨v1, rfl, hown1, ?_⟩
  refine ((Below.refl _ _).alloc (Nat.le_refl _) _).grown hg1 (by simp) (fun k hk => ?_)
  simp [Value.ownBlock] at hk
  omega
theorem oW (N : List AV) (ho : ∀ x ∈ N, zn x.cells = true) (hn : N.length ≤ 1000) : tI Tryz.prog 71 [.sl 1 N] 3 1 N := by
  refine ⟨zA Tryz.func71 (by kernel_rfl) rfl, fun M w vs hlive hl ha => ?_⟩
  obtain ⟨v, rfl⟩ : ∃ v, vs = [v] := List.length_eq_one_iff.1 hl
  have hv := ha 0 _ v rfl rfl
  obtain ⟨A, c, news, rfl, e2, e3, e4, e5, e6, e7⟩ := mY hlive hv (by decide) ho
  rcases A with _ | ad
  · have h0 : N.length = 0 := by
      rcases Nat.eq_zero_or_pos N.length with h0 | h0
      · exact h0
      · obtain ⟨_, e, _⟩ := e3 h0; cases e
    have hN : N = [] := List.eq_nil_of_length_eq_zero h0
    subst hN
    have hnews : news = [] := List.eq_nil_of_length_eq_zero (by simpa using e2)
    subst hnews
    exact (clone_nilI c w).mono fun e w' ⟨he, hw⟩ => ⟨_, [], he, by subst hw; exact Below.refl _ _, pG _ _ _ _, by simp, by simp, by simp⟩
  · refine (vH ad c N.length news w e2 (fun w' hb h0 => ?_) e4 hn).mono fun e w' ⟨u, he, hown, hb⟩ => ⟨u, news, he, hb, hown, e6, e5, e7⟩
    obtain ⟨a, ea, hc⟩ := e3 h0
    refine ⟨a, ea, fun j u hj => ?_⟩
    have h1 := hc j u hj
    have hlt := block_lt_of_cell h1
    rw [← h1]
    exact World.cell?_of_block (hb.block _ hlt)
end Go.Proofs.YtnafokinifbfhaaGreatDoor
namespace Go.Proofs.YtnafokinifbfhaaGreatDoor
open Go Go.RowKit
set_option maxRecDepth 10000
variable {G : Nat → Option (List Value)}
theorem flood_done {U : Nat → Bool} {V : List Dv} {L : List Int} {n : Nat} (hV : ∀ d ∈ V, zj d n = true) (hL : ∀ v ∈ L, 0 ≤ v ∧ v < n) (k : Nat) (h : (brun U V k (yn n L, L)).2 = []) : (brun U V k (yn n L, L)).1 = flood U V n L := by
  unfold flood
  have he := nX hV (mu (yn n L, L)) (kG (U := U) (V := V) hL) (Nat.le_refl _)
  have e1 : brun U V (k + mu (yn n L, L)) (yn n L, L) = brun U V k (yn n L, L) := by rw [oN, lJ h]
  have e2 : brun U V (mu (yn n L, L) + k) (yn n L, L) = brun U V (mu (yn n L, L)) (yn n L, L) := by rw [oN, lJ he]
  rw [← e1, Nat.add_comm, e2]
theorem xW {L : List Int} {n j : Nat} {x : Int} (h : L[j]? = some x) : yn n (L.take (j + 1)) = (yn n (L.take j)).set x.toNat 0 := by
  unfold yn; rw [yr h, List.foldl_append]; rfl
theorem FlOk.lt {U : Nat → Bool} {V : List Dv} {L : List Int} {n : Nat} {S : Fl} (h : FlOk U V L n S) {x k : Nat} (hx : S.1[x]? = some (k : Int)) : k < n := by
  have key : ∀ (k x : Nat), S.1[x]? = some (k : Int) → ∀ j : Nat, j < k + 1 → (j : Int) ∈ S.1 := by
    intro k
    induction k with
    | zero =>
      intro x hx j hj
      obtain rfl : j = 0 := by omega
      exact List.mem_of_getElem? hx
    | succ k ih =>
      intro x hx j hj
      by_cases e : j = k + 1
      · subst e; exact List.mem_of_getElem? hx
      · obtain ⟨i, d, h1, h2, h3, h4⟩ := h.pre x k hx
        exact ih _ h4 j (by omega)
  have := mem_all (O := S.1) (k + 1) (key k x hx)
  have := h.len
  omega
theorem mu_le {S : Fl} : mu S ≤ 2 * S.1.length + S.2.length := by
  unfold mu
  have := List.countP_le_length (p := fun x : Int => decide (x < 0)) (l := S.1)
  omega
theorem oY (L : List Int) : ∀ x ∈ L.map iv, zn x.cells = true := fun x hx => by
  obtain ⟨r, _, rfl⟩ := List.mem_map.1 hx
  rfl
end Go.Proofs.YtnafokinifbfhaaGreatDoor
namespace Go.Proofs.YtnafokinifbfhaaGreatDoor
open Go Go.RowKit
theorem wY {zc : AV} {sz : Nat} (hl : zc.cells.length = sz) (hp : 0 < sz) : ∀ (m j : Nat), j < m * sz → ((List.replicate m zc).flatMap AV.cells)[j]? = zc.cells[j % sz]?
  | 0, j, h => by omega
  | m + 1, j, h => by
    rw [List.replicate_succ, List.flatMap_cons, List.getElem?_append]
    split
    · rename_i hj
      rw [Nat.mod_eq_of_lt (by omega)]
    · rename_i hj
      rw [hl, wY hl hp m (j - sz) (by rw [Nat.succ_mul] at h; omega), ← Nat.mod_eq_sub_mod (by omega)]
theorem iZ {zc : AV} {sz : Nat} (hl : zc.cells.length = sz) (m : Nat) : ((List.replicate m zc).flatMap AV.cells).length = m * sz := by
  rw [yc (sz := sz) (fun x hx => by rw [List.eq_of_mem_replicate hx]; exact hl), List.length_replicate]
section
variable {P : Program} {X : Ctx} {n : Nat} {ops : Array Oper} {os : List Oper} {acc : List Rule} {σ : AS} {K : List Rule → AS → Prop} {gt : List (Nat × AV)} {ty : TypeId} {ps : String} {af : Array Edge} {g : Option (Nat × Bool)}
variable {TB : Tabs} (hTB : TabsOk P TB)
include hTB
theorem qR {t e : TypeId} {x y : Operand} {d k0 sz by_ m : Nat} {c0 : Cont} {b : Bool} {zs : List Value} (zc : AV) (hs : lk TB.sle t = some e) (hz : lk TB.ty e = some (b, sz)) (hzr : lk TB.zer e = some zs) (hby : lk TB.byt e = some by_) (hzl : zs.length = sz) (hpos : 0 < sz)
    (hzc : zc.cells = zs.map AV.v) (hone : ∀ z ∈ zs, z.oneCell' = true) (hx : ev σ x = .v (.int .i64 (m : Nat))) (hy : ev σ y = .v (.int .i64 (m : Nat))) (hb : m * by_ ≤ 281474976710656) (hc : m * sz ≤ 16777216) (hH : σ.H d = ⟨k0, c0⟩)
    (h : Exec P X n ops os (mkG gt σ [x, y] [d] (some d) (.own d (k0 + 1)) [(d, ⟨k0 + 1, .buf e sz (List.replicate m zc)⟩)] :: acc) ((σ.hup d ⟨k0 + 1, .buf e sz (List.replicate m zc)⟩).put (some d) (.own d (k0 + 1))) K) : Op1 P X n ops gt ⟨some d, .makeSlice t x y, ty, ps, af, g⟩ os acc σ K := by
  obtain rfl : (σ.H d).k = k0 := by rw [hH]
  refine ⟨⟨mkR σ [x, y] [d] (some d) (.own d ((σ.H d).k + 1)) [(d, ⟨(σ.H d).k + 1, .buf e sz (List.replicate m zc)⟩)], zW rfl fun M ρ τ a w hf hR => ?_, zR _ _ _ _ _ _, h⟩⟩
  have hHd := zo hf (s := d) (by simp)
  have hxe := zT hR (zP hf (by simp)) hx
  have hye := zT hR (zP hf (by simp)) hy
  obtain ⟨i, z, t1, t2, t3, t4, t5, t6⟩ := fH hTB hs hz hzr hby hzl
  obtain ⟨i', z', q1, q2, q3⟩ := qE hTB hzr
  rw [t2] at q1
  injection q1 with q1
  subst q1
  rw [t3] at q2
  injection q2 with q2
  subst q2
  have hzlen : zc.cells.length = sz := by rw [hzc, List.length_map, hzl]
  have hm : m ≤ m * sz := Nat.le_mul_of_pos_right _ hpos
  obtain ⟨w', hrun, r1, r2⟩ := run_makeSlice_full (P := P) w 0 t e i z sz t1 t2 t3 (by omega) .i64 .i64 m (by omega) (by rw [Nat.mul_comm]; first | (rw [t5]; exact hb) | (rw [t6]; exact hb) | omega) (by simp only [maxLen]; omega) (Nat.zero_le _)
  have hA := hR.appendTo d (L := List.replicate m zc) (w' := w') (news := (madeCells z.cells (m * sz)).toList) (v' := .slice (some ⟨w.heap.size, 0, none⟩) m m) (cG X w e sz)
    (by rw [List.nil_append, List.length_replicate]; exact r1) r2 (.inr ⟨w.heap.size, Nat.le_refl _, rfl⟩) (by simp [vblk]) (by simp [vblk]) (by rw [List.nil_append, iZ hzlen]; simp [madeCells])
    (fun x hx => by rw [List.eq_of_mem_replicate hx]; exact hzlen)
    (fun j x y hx hy => by
      rw [List.nil_append] at hy
      have hlt : j < m * sz := by rw [← iZ hzlen m]; exact zM hx
      rw [wY hzlen hpos m j hlt, hzc, List.getElem?_map] at hx
      have hmod : j % sz < zs.length := by rw [hzl]; exact Nat.mod_lt _ hpos
      obtain ⟨u, hu⟩ := zB hmod
      rw [hu] at hx
      injection hx with hx
      subst hx
      have hcs : z.cells.size = sz := by rw [← hzl, ← q3]; simp
      have hgy : (madeCells z.cells (m * sz)).toList[j]? = some u := by
        unfold madeCells
        simp only [Array.toList_map, Array.toList_range, List.getElem?_map]
        rw [List.getElem?_range hlt]
        simp only [Option.map_some, hcs]
        congr 1
        have : z.cells[j % sz]? = some u := by rw [← Array.getElem?_toList, q3]; exact hu
        rw [getElem!_def, this]
      rw [hgy] at hy
      injection hy with hy
      subst hy
      exact ⟨.v _ _, hone _ (List.mem_of_getElem? hu)⟩)
  rw [hHd] at hA
  refine ⟨.slice (some ⟨w.heap.size, 0, none⟩) m m, w', M, _, ?_, hA, .own _ _ _ _ (by simp [updρ]) rfl⟩
  unfold execOp
  simp only [hxe, hye, Sem.run_bind, hrun]
  rfl
end
section
variable {P : Program} {X : Ctx} {n : Nat} {σ : AS} {Q Q' : Exit → AS → Prop}
end
end Go.Proofs.YtnafokinifbfhaaGreatDoor
namespace Go.Proofs.YtnafokinifbfhaaGreatDoor
open Go Go.RowKit
set_option maxRecDepth 10000
variable {G : Nat → Option (List Value)}
theorem oA (D : Dk) (n : Int) (hD : DkOk D) (h1 : -9223372036854775808 ≤ n) (h2 : n ≤ 9223372036854775807) : zJ Tryz.prog G 37 [.ptr (refB + 0) 0 0, .v (.int .i64 n)] [D.cells] (.v (.bool (D.val n == 0))) [D.next.cells] := by
  refine zE tbOk (zA Tryz.func37 (by kernel_rfl) rfl) Tryz.func37 rfl _ Tryz.ntmps37 (Nat.le_of_ble_eq_true rfl) fun X hX => ?_
  subst hX
  refine zg1 ?_
  refine zD (ss := [(refB + 0, 0)]) (yv D n hD h1 h2) (by simp) (in1 rfl rfl) rfl (yP rfl) ?_
  refine zg5 ?_
  refine dC (by first | exact .inr rfl | exact .inl rfl) rfl rfl rfl (by first | rfl | assumption) ?_ ?_ (by repeat' (first | exact trivial | exact Ren.v _ | exact Ren.sl _ _ | exact Ren.ep _ | exact Ren.ptr _ _ _ _ rfl | exact Ren.bs _ _ _ _ _ rfl | exact Ren.nil _ | exact Ren.own _ _ _ _ ⟨_, rfl⟩ | refine zO ?_ | refine zf ?_ | refine yJ ?_ | refine ⟨?_, ?_⟩)) <;> rfl
end Go.Proofs.YtnafokinifbfhaaGreatDoor
namespace Go.Proofs.YtnafokinifbfhaaGreatDoor
open Go Go.RowKit
set_option maxRecDepth 10000
variable {G : Nat → Option (List Value)}
theorem eZ {TB : Tabs} {σ : AS} {fn : Func} {r : AV} {e : Exit} {t1 k : Nat} {y : AV} {c c' : List AV} (he : e = .normal ∨ e = .ret) (hfn : fn.results = #[.tmp t1]) (h1 : vf (σ.T t1) = some y) (hr : Ren (bufs σ) (yg 1 []) r y) (hH : σ.H (refB + 0) = ⟨k, .box c'⟩) (hk : k = 0) (hc : RenL (bufs σ) (yg 1 []) c c') : RetQ TB fn 1 r [c] e σ := by
  refine ret1 he (xs := [σ.T t1]) ?_ (by rw [qN h1]; exact hr) hH hk hc
  rw [hfn]
  exact ⟨.tmp t1, trivial⟩
end Go.Proofs.YtnafokinifbfhaaGreatDoor
namespace Go.Proofs.YtnafokinifbfhaaGreatDoor
open Go Go.RowKit
set_option maxRecDepth 10000
variable {G : Nat → Option (List Value)}
def rd (O : List Int) : List Bool := O.map fun x => decide (0 ≤ x)
theorem jE (O : List Int) : (rd O).length = O.length := by simp [rd]
theorem rd_set (O : List Int) (k : Nat) (x : Int) (h : 0 ≤ x) : (rd O).set k true = rd (O.set k x) := by
  unfold rd; rw [List.map_set]; simp [h]
theorem rd_get {O : List Int} {k : Nat} (h : k < O.length) : (rd O)[k]? = some (!decide (O.getD k 0 < 0)) := by
  obtain ⟨z, hz⟩ := zB h
  unfold rd
  rw [List.getElem?_map, hz, List.getD_eq_getElem?_getD, hz]
  simp only [Option.map_some, Option.getD_some]
  by_cases h : 0 ≤ z
  · rw [decide_eq_true h, decide_eq_false (by omega)]; rfl
  · rw [decide_eq_false h, decide_eq_true (by omega)]; rfl
theorem bR : ∀ R : List Bool, (bsv R).flatMap AV.cells = bsv R
  | [] => rfl
  | b :: R => by
    have := bR R
    unfold bsv at this ⊢
    rw [List.map_cons, List.flatMap_cons, this]; rfl
theorem rd_at {O : List Int} {z : Int} (h : z.toNat < O.length) : ((bsv (rd O)).flatMap AV.cells)[z.toNat * 1]? = some (.v (.bool (!decide (O.getD z.toNat 0 < 0)))) := by
  rw [bR, Nat.mul_one, bsv_at (rd_get h)]
theorem rd_put {O : List Int} {z x : Int} (h : 0 ≤ x) : (bsv (rd (O.set z.toNat x))).flatMap AV.cells = putL ((bsv (rd O)).flatMap AV.cells) (z.toNat * 1) [.v (.bool true)] := by
  rw [bR, bR, Nat.mul_one, bsv_set, rd_set _ _ _ h]
theorem rP (R : List Bool) : ∀ x ∈ bsv R, x.cells.length = 1 := fun x hx => by
  unfold bsv at hx
  obtain ⟨b, _, rfl⟩ := List.mem_map.1 hx
  rfl
set_option maxHeartbeats 8000000 in
theorem flood_A (N : List Nd) (V : List Dv) (U : Nat → Bool) (L : List Int) (f gst : FuncId) (c : List AV) (hst : ∀ x : Int, zJ Tryz.prog G gst [.v (.int .i64 x)] [] (.v (.bool false)) []) (hV : ∀ d ∈ V, zj d N.length = true) (hf : ∀ i : Nat, i < V.length → zJ Tryz.prog G f [.v (.int .i64 (i : Nat)), .ptr (refB + 0) 0 0] [c] (.v (.bool (U i))) [c]) (hc : js c = true) (hL : ∀ v ∈ L, 0 ≤ v ∧ v < N.length) (h0 : 0 < L.length) (hl : L.length ≤ 32) (hn : N.length ≤ 32) (hv : V.length ≤ 64) :
    zJ Tryz.prog G 149 [yR N V, .sl 1 (L.map iv), .fn f [.ptr (refB + 0) 0 0], .fn gst []] [c] (.sl 1 (bsv (rd (Go.Proofs.YtnafokinifbfhaaGreatDoor.flood U V N.length L)))) [c] := by
  have hml : (L.map iv).length = L.length := by simp
  have hvl : (V.map Dv.av).length = V.length := by simp
  have hnl : (N.map Nd.av).length = N.length := by simp
  refine zE tbOk (zA Tryz.func149 (by kernel_rfl) rfl) Tryz.func149 rfl _ Tryz.ntmps149 (Nat.le_of_ble_eq_true rfl) fun X hX => ?_
  subst hX
  refine zg12 ?_
  with_reducible refine jz ?_
  refine qR (zc := .v (.bool false)) tbOk rfl rfl rfl rfl rfl (by decide) rfl (by intro z hz; simp at hz; subst hz; rfl) rfl rfl (by omega) (by omega) rfl ?_
  refine zg1 ?_
  refine vL (oW (L.map iv) (oY L) (by omega)) (by omega) (by repeat' (first | exact trivial | exact Ren.sl _ _ | refine ⟨?_, ?_⟩)) rfl ?_
  refine zg0 ?_
  refine yK (ι := Nat) (fun v j => v (refB + 0) = 0 ∧ j ≤ L.length) (fun j => L.length - j) (fun v j => [(2, .fn f [.ptr (refB + 0) (v (refB + 0)) 0]), (3, .fn gst []), (4, .ptr 4 (v 4) 0), (9, .own 19 (v 19)), (10, .own 21 (v 21)), (22, .sl 1 (L.map iv)), (23, .v (.int .i64 (L.map iv).length)), (24, .v (.int .i64 (j : Nat)))]) (fun v j => [(refB + 0, .box c), (4, .box [.sl 3 (N.map Nd.av), .sl 5 (V.map Dv.av)]), (19, .buf 4 1 (bsv (rd (yn N.length (L.take j))))), (21, .ob (.qu 3 1 (L.map iv)))]) ?_ ?_
  · refine ⟨0, ⟨rfl, Nat.zero_le _⟩, trivial, ⟨rfl, rfl, rfl, rfl, rfl, rfl, rfl, rfl, trivial⟩, ⟨rfl, rfl, zq ?_, rfl, trivial⟩⟩
    rw [hnl, show yn N.length (L.take 0) = List.replicate N.length (-1) from rfl]
    unfold rd bsv
    rw [List.map_replicate, List.map_replicate]; rfl
  rintro v j ⟨hv0, hj⟩
  refine zg1 ?_
  refine zF rfl (fun h => ?_) (fun h => ?_)
  · have hlt : j < L.length := by simpa using h
    obtain ⟨x, hx⟩ := zB hlt
    have hy := qA hx
    have hxr := hL x (List.mem_of_getElem? hx)
    have hmk : (yn N.length (L.take j)).length = N.length := fW
    refine zg3 ?_
    (with_reducible refine zH ?_); refine zK tbOk rfl rfl rfl rfl rfl rfl ⟨by omega, by rw [yp, jE]; omega⟩ ?_
    refine zg1 ?_
    (with_reducible refine zt ?_); refine zz (L' := bsv (rd ((yn N.length (L.take j)).set x.toNat 0))) tbOk rfl rfl rfl rfl rfl rfl rfl rfl rfl (by rw [bR, yp, jE]; omega) (by simp [yp, jE]) (rP _) (rd_put (by omega)) ?_
    refine zg2 ?_
    exact ⟨j + 1, ⟨hv0, by omega⟩, by omega, ⟨rfl, rfl, rfl, rfl, rfl, rfl, rfl, rfl, trivial⟩, ⟨rfl, rfl, zq (by rw [xW hx]), rfl, trivial⟩⟩
  have hjl : L.take j = L := by rw [List.take_of_length_le]; simp at h; omega
  rw [hjl]
  refine zg2 ?_
  refine yK (ι := Fl) (fun v S => v (refB + 0) = 0 ∧ FlInv U V L N.length S ∧ mu S ≤ 1000 ∧ ∃ k, S = brun U V k (yn N.length L, L)) mu (fun v S => [(2, .fn f [.ptr (refB + 0) (v (refB + 0)) 0]), (3, .fn gst []), (4, .ptr 4 (v 4) 0), (9, .own 19 (v 19)), (10, .own 21 (v 21))]) (fun v S => [(refB + 0, .box c), (4, .box [.sl 3 (N.map Nd.av), .sl 5 (V.map Dv.av)]), (19, .buf 4 1 (bsv (rd S.1))), (21, .ob (.qu 3 1 (S.2.map iv)))]) ?_ ?_
  · refine ⟨(yn N.length L, L), ⟨hv0, kG hL, ?_, 0, rfl⟩, trivial, ⟨rfl, rfl, rfl, rfl, rfl, trivial⟩, ⟨rfl, rfl, rfl, rfl, trivial⟩⟩
    refine Nat.le_trans mu_le ?_
    dsimp only
    rw [fW]; omega
  clear v h hj hjl hv0
  rintro v S ⟨hv0, hI, hmu, kk, hS⟩
  have hlS : S.1.length = N.length := hI.ok.len
  refine zg11 ?_
  with_reducible refine yV ?_
  refine x_len_qu (e := 3) (sz := 1) (q := some (S.2.map iv)) tbOk rfl rfl rfl rfl ?_
  refine zg1 ?_
  have hqm : (S.2.map iv).length = S.2.length := by simp
  refine zF rfl (fun h => ?_) (fun h => ?_)
  · have hq0 : 0 < S.2.length := by rw [← hqm]; simpa [qL] using h
    obtain ⟨x, Q, hSQ⟩ : ∃ x Q, S.2 = x :: Q := by
      cases hq : S.2 with
      | nil => rw [hq] at hq0; simp at hq0
      | cons x Q => exact ⟨x, Q, rfl⟩
    obtain ⟨hx0, kx, hkx⟩ := hI.ok.wait x (by rw [hSQ]; simp)
    have hxn : x.toNat < N.length := by rw [← hlS]; exact zM hkx
    obtain ⟨hIr, hlt⟩ := fU (U := U) hV hI
    have hlt := hlt (by rw [hSQ]; simp)
    have hok0 : FlOk U V L N.length (S.1, Q) := ⟨hI.ok.len, fun q hq' => hI.ok.wait q (by rw [hSQ]; simp [hq']), hI.ok.low, hI.ok.rch, hI.ok.pre⟩
    have hbr : dO U x 0 V (S.1, Q) = qn U V S := by unfold qn; rw [hSQ]
    have hmu0 : mu (S.1, Q) ≤ 1000 := by unfold mu at hmu ⊢; rw [hSQ] at hmu; simp at hmu ⊢; omega
    rw [hSQ]
    refine zg0 ?_
    with_reducible refine zH ?_
    refine dV (Q := (x :: Q).map iv) tbOk rfl rfl rfl rfl rfl rfl ⟨by decide, by simp⟩ ?_
    refine zg1 ?_
    with_reducible refine ze ?_
    refine gJ (y := iv x) (Q := (x :: Q).map iv) tbOk rfl rfl rfl rfl rfl ?_
    refine zg1 ?_
    refine bH (ss := []) (cs' := []) (hst x) rfl (by repeat' (first | exact trivial | exact Ren.v _ | refine ⟨?_, ?_⟩)) (by simp) trivial rfl trivial (by repeat' exact RenB.v _) ?_
    refine zg13 ?_
    refine yK (ι := Nat × Fl) (fun v i => v (refB + 0) = 0 ∧ i.1 ≤ V.length ∧ FlOk U V L N.length i.2 ∧ i.2.1[x.toNat]? = some (kx : Int) ∧ dO U x i.1 (V.drop i.1) i.2 = qn U V S ∧ mu i.2 ≤ 1000) (fun i => V.length - i.1) (fun v i => [(2, .fn f [.ptr (refB + 0) (v (refB + 0)) 0]), (3, .fn gst []), (4, .ptr 4 (v 4) 0), (9, .own 19 (v 19)), (10, .own 21 (v 21)), (43, .sl 5 (V.map Dv.av)), (44, .v (.int .i64 (V.map Dv.av).length)), (45, .v (.int .i64 (i.1 : Nat)))]) (fun v i => [(refB + 0, .box c), (4, .box [.sl 3 (N.map Nd.av), .sl 5 (V.map Dv.av)]), (19, .buf 4 1 (bsv (rd i.2.1))), (21, .ob (.qu 3 1 ((x :: i.2.2).map iv)))]) ?_ ?_
    · exact ⟨(0, (S.1, Q)), ⟨hv0, Nat.zero_le _, hok0, hkx, hbr, hmu0⟩, trivial, ⟨rfl, rfl, rfl, rfl, rfl, rfl, rfl, rfl, trivial⟩, ⟨rfl, rfl, rfl, rfl, trivial⟩⟩
    clear v h hv0
    rintro v ⟨i, T⟩ ⟨hv0, hi, hT, hTx, hTb, hTm⟩
    dsimp only at hv0 hi hT hTx hTb hTm ⊢
    have hlT : T.1.length = N.length := hT.len
    have hTq : T.2.length ≤ 1000 := by unfold mu at hTm; omega
    refine zg1 ?_
    refine zF rfl (fun h => ?_) (fun h => ?_)
    · have hlt2 : i < V.length := by simpa using h
      obtain ⟨d, hd⟩ := zB hlt2
      have hy := gM hd
      obtain ⟨b1, b2, -, -, -, b6⟩ := bdev_ok hV hT hx0 hTx hd
      rw [zv hd, dO] at hTb
      refine zg14 ?_
      with_reducible refine zH ?_
      refine dV (Q := (x :: T.2).map iv) tbOk rfl rfl rfl rfl rfl rfl ⟨by decide, by simp⟩ ?_
      refine zg1 ?_
      with_reducible refine ze ?_
      refine gJ (y := iv x) (Q := (x :: T.2).map iv) tbOk rfl rfl rfl rfl rfl ?_
      refine zg1 ?_
      refine zG (across_A d x) (by repeat' (first | exact trivial | exact Ren.v _ | refine zO ?_ | refine ⟨?_, ?_⟩)) (by repeat' exact RenB.v _) ?_
      obtain ⟨w, hw⟩ : ∃ w, w = acr d x := ⟨_, rfl⟩
      rw [← hw]
      refine zg12 ?_
      by_cases c1 : 0 ≤ w
      · have d1 : decide (w ≥ 0) = true := decide_eq_true c1
        have hwn : w < N.length := (oQ (hV d (List.mem_of_getElem? hd)) hw.symm c1).1
        by_cases c2 : T.1.getD w.toNat 0 < 0
        · have d2 : (!(!decide (T.1.getD w.toNat 0 < 0))) = true := by rw [decide_eq_true c2]; rfl
          refine zg8 ?_
          (with_reducible refine zH ?_); refine zK tbOk rfl rfl rfl rfl rfl rfl ⟨by omega, by rw [yp, jE]; omega⟩ ?_
          refine zg8 ?_
          (with_reducible refine ze ?_); refine zk tbOk rfl rfl rfl rfl (rd_at (by omega)) (by rw [yp, jE]; omega) ?_
          refine zg8 ?_
          with_reducible refine yV ?_
          refine bH (ss := [(refB + 0, v (refB + 0))]) (hf i hlt2) rfl (by repeat' (first | exact trivial | exact Ren.v _ | exact Ren.ptr _ _ _ _ rfl | refine ⟨?_, ?_⟩)) (by simp) (in1 rfl hc) rfl (yP hc) (by repeat' exact RenB.v _) ?_
          cases c3 : U i with
          | false =>
            have e : bdev U x i d T = T := by unfold bdev; rw [if_neg (by rw [c3]; simp)]
            rw [e] at hTb
            refine zg10 ?_
            exact ⟨(i + 1, T), ⟨hv0, hlt2, hT, hTx, hTb, hTm⟩, by show V.length - (i + 1) < V.length - i; omega, ⟨rfl, rfl, rfl, rfl, rfl, rfl, rfl, rfl, trivial⟩, ⟨rfl, rfl, rfl, rfl, trivial⟩⟩
          | true =>
            have e : bdev U x i d T = (T.1.set w.toNat (T.1.getD x.toNat 0 + 1), T.2 ++ [w]) := by unfold bdev; rw [← hw, if_pos ⟨c1, c3, c2⟩]
            rw [e] at hTb b1 b2 b6
            have hgx : T.1.getD x.toNat 0 = kx := getD_some hTx
            refine zg7 ?_
            (with_reducible refine zH ?_); refine zK tbOk rfl rfl rfl rfl rfl rfl ⟨by omega, by rw [yp, jE]; omega⟩ ?_
            refine zg1 ?_
            (with_reducible refine zt ?_); refine zz (L' := bsv (rd (T.1.set w.toNat (T.1.getD x.toNat 0 + 1)))) tbOk rfl rfl rfl rfl rfl rfl rfl rfl rfl (by rw [bR, yp, jE]; omega) (by simp [yp, jE]) (rP _) (rd_put (by omega)) ?_
            refine zg12 ?_
            with_reducible refine yV ?_
            refine vM (q := some ((x :: T.2).map iv)) tbOk (fun e => by cases e) rfl rfl rfl rfl rfl (by decide) rfl rfl rfl rfl (Nat.succ_pos _) (fun x hx => by simp at hx; subst hx; rfl) (by simp [qL]; omega) (by simp [qL]; omega) ?_
            refine zg2 ?_
            refine ⟨(i + 1, (T.1.set w.toNat (T.1.getD x.toNat 0 + 1), T.2 ++ [w])), ⟨hv0, hlt2, b1, b2 _ _ hTx, hTb, Nat.le_trans b6 hTm⟩, by show V.length - (i + 1) < V.length - i; omega, ⟨rfl, rfl, rfl, rfl, rfl, rfl, rfl, rfl, trivial⟩, ⟨rfl, rfl, rfl, ?_, trivial⟩⟩
            simp [qL, List.map_append]; rfl
        · have d2 : (!(!decide (T.1.getD w.toNat 0 < 0))) = false := by rw [decide_eq_false c2]; rfl
          have e : bdev U x i d T = T := by unfold bdev; rw [← hw, if_neg (fun h => c2 h.2.2)]
          rw [e] at hTb
          refine zg8 ?_
          (with_reducible refine zH ?_); refine zK tbOk rfl rfl rfl rfl rfl rfl ⟨by omega, by rw [yp, jE]; omega⟩ ?_
          refine zg8 ?_
          (with_reducible refine ze ?_); refine zk tbOk rfl rfl rfl rfl (rd_at (by omega)) (by rw [yp, jE]; omega) ?_
          refine zg15 ?_
          exact ⟨(i + 1, T), ⟨hv0, hlt2, hT, hTx, hTb, hTm⟩, by show V.length - (i + 1) < V.length - i; omega, ⟨rfl, rfl, rfl, rfl, rfl, rfl, rfl, rfl, trivial⟩, ⟨rfl, rfl, rfl, rfl, trivial⟩⟩
      · have d1 : decide (w ≥ 0) = false := decide_eq_false (by omega)
        have e : bdev U x i d T = T := by unfold bdev; rw [← hw, if_neg (fun h => c1 h.1)]
        rw [e] at hTb
        refine zg10 ?_
        exact ⟨(i + 1, T), ⟨hv0, hlt2, hT, hTx, hTb, hTm⟩, by show V.length - (i + 1) < V.length - i; omega, ⟨rfl, rfl, rfl, rfl, rfl, rfl, rfl, rfl, trivial⟩, ⟨rfl, rfl, rfl, rfl, trivial⟩⟩
    · have hge : ¬ i < V.length := by simpa using h
      rw [List.drop_of_length_le (by omega)] at hTb
      have hTb : T = qn U V S := hTb
      refine zg2 ?_
      with_reducible refine iS ?_
      refine x_slice_qu (Q := (x :: T.2).map iv) tbOk rfl rfl rfl rfl rfl rfl ⟨by decide, by simp; omega⟩ ?_
      refine zg5 ?_
      exact ⟨T, ⟨hv0, by rw [hTb]; exact hIr, hTm, kk + 1, by rw [hTb, oN, ← hS]; rfl⟩, by rw [hTb]; exact hlt, ⟨rfl, rfl, rfl, rfl, rfl, trivial⟩, ⟨rfl, rfl, rfl, rfl, trivial⟩⟩
  · have hq0 : S.2 = [] := List.length_eq_zero_iff.1 (by rw [← hqm]; simp [qL] at h; simpa using h)
    have hfl : S.1 = Go.Proofs.YtnafokinifbfhaaGreatDoor.flood U V N.length L := by rw [hS]; exact flood_done hV hL kk (by rw [← hS]; exact hq0)
    rw [← hfl]
    refine zg2 ?_
    exact eZ (by first | exact .inr rfl | exact .inl rfl) rfl rfl (by repeat' exact Ren.own _ _ _ _ ⟨_, rfl⟩) rfl hv0 (jG hc)
end Go.Proofs.YtnafokinifbfhaaGreatDoor
