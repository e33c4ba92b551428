/- An own row as a queue, and a queue's cells of size one; conditions: none / A cut in a walk: ways that part come together in one state; conditions: none / Own buffers handed to a call that gives them back with one element more: copies of rows of any size, the contract, and its law in a walk; conditions: none / What laying elements into, and taking them out of, slices of the caller's own needs, for elements of any size; conditions: none / slices.Clone at []int, of the caller's own; conditions: none / network.Distances, by the abstract machine: it floods; conditions: a network whose ends are right, at most 32 nodes / Rows of any elements that are made: a row of the frame's own, of zero values; conditions: tables of types that agree with the program's / Deck.One, by the abstract machine; conditions: none / permitofficeref14.Add and permitofficemake.Locks, by the abstract machine: the locks that it makes are valid; conditions: none. -/
import Derived.Test.YtnafokinifbfhaaGreatDoorAbsC
import Derived.Test.YtnafokinifbfhaaGreatDoorNetA
import Derived.Shelf.Spec.SlicesInsert
import Derived.Lib.AppendZerosOnto
import Derived.Lib.SliceRun
import Derived.Test.YtnafokinifbfhaaGreatDoorTab
import Derived.Test.YtnafokinifbfhaaGreatDoorAbsZ
import Derived.Laws.OwnMore
import Derived.Test.YtnafokinifbfhaaGreatDoorDkA
set_option linter.unusedVariables false
set_option linter.unusedSimpArgs false
namespace Go.Proofs.YtnafokinifbfhaaGreatDoor
open Go Go.RowKit
section
variable {P : Program} {X : Ctx} {n : Nat} {ops : Array Oper} {os : List Oper} {acc : List Rule} {σ : AS} {K : List Rule → AS → Prop} {gt : List (Nat × AV)} {ty : TypeId} {ps : String} {af : Array Edge} {g : Option (Nat × Bool)}
theorem uC {f : FuncId} {tys : Array TypeId} {xs : List Operand} {args : List AV} {d k0 e sz : Nat} {q0 : Cont} {L : List AV} (hc : rJ P f args e sz L) (h0 : 0 < L.length) (hargs : RenL noB (πs []) args (xs.map (ev σ))) (hH0 : σ.H d = ⟨k0, q0⟩)
    (h : Exec P X n ops os (mkG gt σ xs [d] (some d) (.own d (k0 + 1)) [(d, ⟨k0 + 1, .ob (.qu e sz L)⟩)] :: acc) ((σ.hup d ⟨k0 + 1, .ob (.qu e sz L)⟩).put (some d) (.own d (k0 + 1))) K) :
    Op1 P X n ops gt ⟨some d, .call ⟨.value (.func f), xs.toArray, tys⟩, ty, ps, af, g⟩ os acc σ K := by
  obtain rfl : (σ.H d).k = k0 := by rw [hH0]
  refine ⟨⟨mkR σ xs [d] (some d) (.own d ((σ.H d).k + 1)) [(d, ⟨(σ.H d).k + 1, .ob (.qu e sz L)⟩)], fun hlt M ρ τ a w hf hR K Q hK => ?_, zu _ _ _ _ _ _, h⟩⟩
  have hH := yW hf (s := d) (by simp)
  obtain ⟨c1, c2, c3, c4⟩ := cP (ss := []) (refs := []) hR (by simp) trivial
  obtain ⟨a1, a2⟩ := qB hR (fun x hx => zn hf hx) hargs c3
  unfold Oper.wp
  rw [qU hc.1, Oper.upon_enter]
  refine (hc.2 M w _ hR.live a1 a2).mono ?_
  rintro en w' ⟨u, us, rfl, hb, hown, q1, q2, q3⟩
  have hone := (ju hown).2
  obtain ⟨z0, z1⟩ := hown
  rcases z1 with ⟨-, z2⟩ | ⟨g', cap, cur, rfl, z2, e3, e4, e5, e6, e7⟩
  · omega
  obtain ⟨cl⟩ := cur
  have e6' : cl.length = cap * sz := e6
  have e7' : cl.take (L.length * sz) = us := e7
  have hfl : (L.flatMap AV.cells).length = L.length * sz := jH q2
  have hA := hR.toOb d (v' := .slice (some ⟨g', 0, none⟩) L.length cap) (g' := g') (w' := w') (own := none) (o' := .qu e sz L) rfl ⟨hb.os, hb.tape, hb.output, hb.size, fun k hk _ => hb.block k hk⟩ (fun g e => by cases e) (.inr z2) (Nat.le_trans hR.size z2) (fun g e => by cases e) (fun ρ' hρ => by
    refine ⟨0, cap, cl, rfl, e3, e4, e5, by omega, q2, fun j y hy => ?_⟩
    have hlt := zi hy
    obtain ⟨u, hu⟩ := zT (L := us) (k := j) (by omega)
    have hcu : cl[0 + j]? = some u := by
      rw [Nat.zero_add]
      rw [← e7', List.getElem?_take] at hu
      split at hu
      · exact hu
      · cases hu
    exact ⟨u, hcu, q3 j y u hy hu⟩)
  rw [hH] at hA
  refine hK M _ _ w' (hA.put (.own _ _ _ _ ?_ hone) hlt)
  simp [updρ]
end
section
variable {P : Program} {X : Ctx} {n : Nat} {ops : Array Oper} {os : List Oper} {acc : List Rule} {σ : AS} {K : List Rule → AS → Prop} {gt : List (Nat × AV)} {ty : TypeId} {ps : String} {af : Array Edge} {g : Option (Nat × Bool)} {d : Option Nat}
variable {TB : Tabs} (hTB : TabsOk P TB)
include hTB
theorem fO {t : TypeId} {x : Operand} {s k k' off m e sz : Nat} {Q : List AV} {y : AV} (ht : lk TB.ty t = some (false, m)) (hx : ev σ x = .qp s k off) (hH : σ.H s = ⟨k', .ob (.qu e sz Q)⟩) (hk : k = k') (hy : (Q.flatMap AV.cells)[off]? = some y)
    (h : Exec P X n ops os (mkG gt σ [x] [s] d y [] :: acc) (σ.put d y) K) : Op1 P X n ops gt ⟨d, .load t x, ty, ps, af, g⟩ os acc σ K := by
  refine ⟨⟨mkR σ [x] [s] d y [], yG rfl fun M ρ τ a w hf hR => ?_, zu _ _ _ _ _ _, h⟩⟩
  subst hk
  have hHs := (yW hf (s := s) (by simp)).trans hH
  have h1 := hR.ev x
  rw [zn hf (by simp), hx] at h1
  obtain ⟨g0, o0, l0, c0, e1, e2⟩ := h1.qp_inv
  obtain ⟨v, g', -, b1, b2, b3, o, c, cur, rfl, c2, c3, c4, c5, c6, c7⟩ := hR.mp s k _ hHs
  rw [b1] at e1
  injection e1 with e1
  injection e1 with e1 e1' e1''
  injection e1 with e1
  injection e1 with e1 e3
  subst e1; subst e3
  obtain ⟨u, q1, q2, q3⟩ := c7 _ y hy
  refine ⟨u, w, M, ρ, ?_, hR, q2.mono' (fun _ _ e => e) (fun _ _ _ e => by cases e)⟩
  have hc : w.cell? ⟨g', o + off, none⟩ = some u := by rw [cell_of_row w g' (o + off) ⟨cur⟩ e (0, 0) c2]; simpa using q1
  unfold execOp
  simp only [e2, Instr.loadAt, Instr.sureAddr, loadVar, Sem.run_bind, Sem.run_pure, Result.andThen_ok, qK hTB ht, Bool.false_eq_true, if_false, run_load, hc]
end
end Go.Proofs.YtnafokinifbfhaaGreatDoor
namespace Go.Proofs.YtnafokinifbfhaaGreatDoor
open Go Go.RowKit
section
variable {P : Program} {X : Ctx} {n : Nat} {σ : AS} {Q Q' : Exit → AS → Prop}
end
end Go.Proofs.YtnafokinifbfhaaGreatDoor
namespace Go.Proofs.YtnafokinifbfhaaGreatDoor
open Go Go.RowKit
theorem fK {α : Type} : ∀ (xs cs : List α) (o : Nat), o + xs.length ≤ cs.length → putL cs o xs = cs.take o ++ xs ++ cs.drop (o + xs.length)
  | [], cs, o, h => by simp [putL]
  | x :: xs, cs, o, h => by
    simp at h
    rw [putL, fK xs _ _ (by simp; omega)]
    have e1 : (cs.set o x).take (o + 1) = cs.take o ++ [x] := by
      rw [List.take_add_one, List.take_set_of_le (by omega), List.getElem?_set_self (by omega)]; rfl
    have e2 : (cs.set o x).drop (o + 1 + xs.length) = cs.drop (o + (x :: xs).length) := by
      rw [List.drop_set_of_lt (by omega)]
      congr 1
      simp; omega
    rw [e1, e2]
    simp
section
variable {X : Ctx} {n : Nat} {M : Nat → Option (Array Value)} {ρ : Nat → Nat → Option Value} {σ : AS} {a : Act} {w : World}
end
section
variable {P : Program} {X : Ctx} {n : Nat} {ops : Array Oper} {os : List Oper} {acc : List Rule} {σ : AS} {K : List Rule → AS → Prop} {gt : List (Nat × AV)} {ty : TypeId} {ps : String} {af : Array Edge} {g : Option (Nat × Bool)}
end
end Go.Proofs.YtnafokinifbfhaaGreatDoor
namespace Go.Proofs.YtnafokinifbfhaaGreatDoor
open Go Go.RowKit
theorem oA {sz : Nat} : ∀ (L : List AV) (i : Nat), (∀ x ∈ L, x.cells.length = sz) → (L.take i).flatMap AV.cells = (L.flatMap AV.cells).take (i * sz) ∧ (L.drop i).flatMap AV.cells = (L.flatMap AV.cells).drop (i * sz)
  | [], i, _ => by simp
  | x :: L, 0, _ => by simp
  | x :: L, i + 1, h => by
    obtain ⟨h1, h2⟩ := oA L i fun y hy => h y (by simp [hy])
    have hx := h x (by simp)
    have hle : x.cells.length ≤ sz + i * sz := by rw [hx]; exact Nat.le_add_right _ _
    have he : sz + i * sz - x.cells.length = i * sz := by rw [hx]; exact Nat.add_sub_cancel_left _ _
    rw [List.take_succ_cons, List.drop_succ_cons, List.flatMap_cons, List.flatMap_cons, h1, h2, Nat.succ_mul, Nat.add_comm (i * sz) sz]
    constructor
    · rw [List.take_append, List.take_of_length_le hle, he]
    · rw [List.drop_append, List.drop_of_length_le hle, List.nil_append, he]
theorem tM {P : Program} (w : World) (t e ty : TypeId) (z : Value) (ht : P.underlying t = some (.slice e)) (hv : ∀ w, (zeroValue e).run P w = .ok z w) (b o n c : Nat) (cs : List Value) (hz : (Builtin.zeroCells z.cells n).toList = cs) (h1 : ∀ v ∈ cs, v.oneCell' = true) (hn : 0 < n)
    (hc : ∀ j, j < cs.length → (w.cell? ⟨b, o + j, none⟩).isSome = true) (hf : ∀ j, j < cs.length → w.frozen? ⟨b, o + j, none⟩ = false) :
    (Builtin.clear_ #[t] ty #[.slice (some ⟨b, o, none⟩) n c]).run P w = .ok (.tuple #[]) (w.setCells b o cs) := by
  have hst := run_storeCells_cells (P := P) b o cs 0 w (by simpa using hc) (by simpa using hf) h1
  simp only [Nat.add_zero] at hst
  obtain ⟨m, rfl⟩ : ∃ m, n = m + 1 := ⟨n - 1, by omega⟩
  simp [Builtin.clear_, run_underlying ht, hv, hz, hst]
end Go.Proofs.YtnafokinifbfhaaGreatDoor
namespace Go.Proofs.YtnafokinifbfhaaGreatDoor
open Go Go.RowKit
theorem uT : (Tryz.prog.info? 3).map (fun i => (i.zero, i.size, i.bytes)) = some (some (Value.int .i64 0), 1, 8) := by kernel_rfl
theorem tL (A : Option Addr) (n c : Nat) (w : World) : (binOp .eql 22 (.slice A n c) (.slice none 0 0)).run Tryz.prog w = .ok (.bool A.isNone) w :=
  Lib.run_eql_slice_nil w 22 3 A n c 0 0 Tryz.underlying22
set_option maxHeartbeats 1000000 in
theorem wZ (c : Nat) (w : World) : Calls Tryz.prog 71 #[.slice none 0 c] w fun e w' => e = .returned (.slice none 0 0) ∧ w = w' := by
  have he := tL
  go_enter Tryz.func71, Tryz.ntmps71
  go_wp2
  go_ret
  exact ⟨rfl, rfl⟩
set_option maxHeartbeats 1000000 in
theorem uA (ad : Addr) (c n : Nat) (news : List Value) (w : World) (hl : news.length = n * 1) (hr : ∀ w', Below w.heap.size w w' → 0 < n → ∃ a, some ad = some a ∧ ∀ j u, news[j]? = some u → w'.cell? (a.add j) = some u) (h1 : ∀ u ∈ news, u.oneCell' = true) (hn : n ≤ 1000) :
    Calls Tryz.prog 71 #[.slice (some ad) n c] w fun e w' => ∃ v, e = .returned v ∧ w'.ownsRow w.heap.size 3 1 v n news ∧ Below w.heap.size w w' := by
  have he := tL
  obtain ⟨i0, hi, hz0, hz1, hz2⟩ := info_parts uT
  go_enter Tryz.func71, Tryz.ntmps71
  go_wp2_with (at_builtin; refine gW _ rfl (.tmp 5) (.tmp 6) _ rfl w.heap.size 3 i0 _ 1 8 Tryz.underlying22 hi hz0 hz1 hz2 rfl (by omega) (.slice (some ⟨w.heap.size, 0, none⟩) 0 0) 0 [] rfl (World.ownsRow_made w #[] 0 (Nat.le_refl _) (by simp [maxLen]) rfl) (some ad) n c news rfl hl (hr _ ((Below.refl _ _).alloc (Nat.le_refl _) _)) h1 (by simp only [maxLen]; omega) (by omega) (by simp) ?_; intro v1 w1 hown1 hg1 hat1; simp only [Nat.zero_add, List.nil_append] at hown1)
  go_ret
  refine ⟨v1, rfl, hown1, ?_⟩
  refine ((Below.refl _ _).alloc (Nat.le_refl _) _).grown hg1 (by simp) (fun k hk => ?_)
  simp [Value.ownBlock] at hk
  omega
theorem nS (N : List AV) (ho : ∀ x ∈ N, yU x.cells = true) (hn : N.length ≤ 1000) : rJ Tryz.prog 71 [.sl 1 N] 3 1 N := by
  refine ⟨zM Tryz.func71 (by kernel_rfl) rfl, fun M w vs hlive hl ha => ?_⟩
  obtain ⟨v, rfl⟩ : ∃ v, vs = [v] := List.length_eq_one_iff.1 hl
  have hv := ha 0 _ v rfl rfl
  obtain ⟨A, c, news, rfl, e2, e3, e4, e5, e6, e7⟩ := kW hlive hv (by decide) ho
  rcases A with _ | ad
  · have h0 : N.length = 0 := by
      rcases Nat.eq_zero_or_pos N.length with h0 | h0
      · exact h0
      · obtain ⟨_, e, _⟩ := e3 h0; cases e
    have hN : N = [] := List.eq_nil_of_length_eq_zero h0
    subst hN
    have hnews : news = [] := List.eq_nil_of_length_eq_zero (by simpa using e2)
    subst hnews
    exact (wZ c w).mono fun e w' ⟨he, hw⟩ => ⟨_, [], he, by subst hw; exact Below.refl _ _, lR _ _ _ _, by simp, by simp, by simp⟩
  · refine (uA ad c N.length news w e2 (fun w' hb h0 => ?_) e4 hn).mono fun e w' ⟨u, he, hown, hb⟩ => ⟨u, news, he, hb, hown, e6, e5, e7⟩
    obtain ⟨a, ea, hc⟩ := e3 h0
    refine ⟨a, ea, fun j u hj => ?_⟩
    have h1 := hc j u hj
    have hlt := block_lt_of_cell h1
    rw [← h1]
    exact World.cell?_of_block (hb.block _ hlt)
end Go.Proofs.YtnafokinifbfhaaGreatDoor
namespace Go.Proofs.YtnafokinifbfhaaGreatDoor
open Go Go.RowKit
set_option maxRecDepth 10000
variable {G : Nat → Option (List Value)}
theorem wL {U : Nat → Bool} {V : List Dv} {L : List Int} {n : Nat} (hV : ∀ d ∈ V, jZ d n = true) (hL : ∀ v ∈ L, 0 ≤ v ∧ v < n) (k : Nat) (h : (brun U V k (jM n L, L)).2 = []) : (brun U V k (jM n L, L)).1 = flood U V n L := by
  unfold flood
  have he := lJ hV (mu (jM n L, L)) (gU (U := U) (V := V) hL) (Nat.le_refl _)
  have e1 : brun U V (k + mu (jM n L, L)) (jM n L, L) = brun U V k (jM n L, L) := by rw [lM, iT h]
  have e2 : brun U V (mu (jM n L, L) + k) (jM n L, L) = brun U V (mu (jM n L, L)) (jM n L, L) := by rw [lM, iT he]
  rw [← e1, Nat.add_comm, e2]
theorem vL {L : List Int} {n j : Nat} {x : Int} (h : L[j]? = some x) : jM n (L.take (j + 1)) = (jM n (L.take j)).set x.toNat 0 := by
  unfold jM; rw [qM h, List.foldl_append]; rfl
theorem FlOk.lt {U : Nat → Bool} {V : List Dv} {L : List Int} {n : Nat} {S : Fl} (h : FlOk U V L n S) {x k : Nat} (hx : S.1[x]? = some (k : Int)) : k < n := by
  have key : ∀ (k x : Nat), S.1[x]? = some (k : Int) → ∀ j : Nat, j < k + 1 → (j : Int) ∈ S.1 := by
    intro k
    induction k with
    | zero =>
      intro x hx j hj
      obtain rfl : j = 0 := by omega
      exact List.mem_of_getElem? hx
    | succ k ih =>
      intro x hx j hj
      by_cases e : j = k + 1
      · subst e; exact List.mem_of_getElem? hx
      · obtain ⟨i, d, h1, h2, h3, h4⟩ := h.pre x k hx
        exact ih _ h4 j (by omega)
  have := mem_all (O := S.1) (k + 1) (key k x hx)
  have := h.len
  omega
theorem mu_le {S : Fl} : mu S ≤ 2 * S.1.length + S.2.length := by
  unfold mu
  have := List.countP_le_length (p := fun x : Int => decide (x < 0)) (l := S.1)
  omega
theorem nL (L : List Int) : ∀ x ∈ L.map iv, yU x.cells = true := fun x hx => by
  obtain ⟨r, _, rfl⟩ := List.mem_map.1 hx
  rfl
end Go.Proofs.YtnafokinifbfhaaGreatDoor
namespace Go.Proofs.YtnafokinifbfhaaGreatDoor
open Go Go.RowKit
theorem sL {zc : AV} {sz : Nat} (hl : zc.cells.length = sz) (hp : 0 < sz) : ∀ (m j : Nat), j < m * sz → ((List.replicate m zc).flatMap AV.cells)[j]? = zc.cells[j % sz]?
  | 0, j, h => by omega
  | m + 1, j, h => by
    rw [List.replicate_succ, List.flatMap_cons, List.getElem?_append]
    split
    · rename_i hj
      rw [Nat.mod_eq_of_lt (by omega)]
    · rename_i hj
      rw [hl, sL hl hp m (j - sz) (by rw [Nat.succ_mul] at h; omega), ← Nat.mod_eq_sub_mod (by omega)]
theorem gS {zc : AV} {sz : Nat} (hl : zc.cells.length = sz) (m : Nat) : ((List.replicate m zc).flatMap AV.cells).length = m * sz := by
  rw [jH (sz := sz) (fun x hx => by rw [List.eq_of_mem_replicate hx]; exact hl), List.length_replicate]
section
variable {P : Program} {X : Ctx} {n : Nat} {ops : Array Oper} {os : List Oper} {acc : List Rule} {σ : AS} {K : List Rule → AS → Prop} {gt : List (Nat × AV)} {ty : TypeId} {ps : String} {af : Array Edge} {g : Option (Nat × Bool)}
variable {TB : Tabs} (hTB : TabsOk P TB)
include hTB
theorem cN {t e : TypeId} {x y : Operand} {d k0 sz by_ m : Nat} {c0 : Cont} {b : Bool} {zs : List Value} (zc : AV) (hs : lk TB.sle t = some e) (hz : lk TB.ty e = some (b, sz)) (hzr : lk TB.zer e = some zs) (hby : lk TB.byt e = some by_) (hzl : zs.length = sz) (hpos : 0 < sz)
    (hzc : zc.cells = zs.map AV.v) (hone : ∀ z ∈ zs, z.oneCell' = true) (hx : ev σ x = .v (.int .i64 (m : Nat))) (hy : ev σ y = .v (.int .i64 (m : Nat))) (hb : m * by_ ≤ 281474976710656) (hc : m * sz ≤ 16777216) (hH : σ.H d = ⟨k0, c0⟩)
    (h : Exec P X n ops os (mkG gt σ [x, y] [d] (some d) (.own d (k0 + 1)) [(d, ⟨k0 + 1, .buf e sz (List.replicate m zc)⟩)] :: acc) ((σ.hup d ⟨k0 + 1, .buf e sz (List.replicate m zc)⟩).put (some d) (.own d (k0 + 1))) K) : Op1 P X n ops gt ⟨some d, .makeSlice t x y, ty, ps, af, g⟩ os acc σ K := by
  obtain rfl : (σ.H d).k = k0 := by rw [hH]
  refine ⟨⟨mkR σ [x, y] [d] (some d) (.own d ((σ.H d).k + 1)) [(d, ⟨(σ.H d).k + 1, .buf e sz (List.replicate m zc)⟩)], yG rfl fun M ρ τ a w hf hR => ?_, zu _ _ _ _ _ _, h⟩⟩
  have hHd := yW hf (s := d) (by simp)
  have hxe := zv hR (zn hf (by simp)) hx
  have hye := zv hR (zn hf (by simp)) hy
  obtain ⟨i, z, t1, t2, t3, t4, t5, t6⟩ := dK hTB hs hz hzr hby hzl
  obtain ⟨i', z', q1, q2, q3⟩ := qO hTB hzr
  rw [t2] at q1
  injection q1 with q1
  subst q1
  rw [t3] at q2
  injection q2 with q2
  subst q2
  have hzlen : zc.cells.length = sz := by rw [hzc, List.length_map, hzl]
  have hm : m ≤ m * sz := Nat.le_mul_of_pos_right _ hpos
  obtain ⟨w', hrun, r1, r2⟩ := run_makeSlice_full (P := P) w 0 t e i z sz t1 t2 t3 (by omega) .i64 .i64 m (by omega) (by rw [Nat.mul_comm]; first | (rw [t5]; exact hb) | (rw [t6]; exact hb) | omega) (by simp only [maxLen]; omega) (Nat.zero_le _)
  have hA := hR.appendTo d (L := List.replicate m zc) (w' := w') (news := (madeCells z.cells (m * sz)).toList) (v' := .slice (some ⟨w.heap.size, 0, none⟩) m m) (bK X w e sz)
    (by rw [List.nil_append, List.length_replicate]; exact r1) r2 (.inr ⟨w.heap.size, Nat.le_refl _, rfl⟩) (by simp [vblk]) (by simp [vblk]) (by rw [List.nil_append, gS hzlen]; simp [madeCells])
    (fun x hx => by rw [List.eq_of_mem_replicate hx]; exact hzlen)
    (fun j x y hx hy => by
      rw [List.nil_append] at hy
      have hlt : j < m * sz := by rw [← gS hzlen m]; exact zi hx
      rw [sL hzlen hpos m j hlt, hzc, List.getElem?_map] at hx
      have hmod : j % sz < zs.length := by rw [hzl]; exact Nat.mod_lt _ hpos
      obtain ⟨u, hu⟩ := zT hmod
      rw [hu] at hx
      injection hx with hx
      subst hx
      have hcs : z.cells.size = sz := by rw [← hzl, ← q3]; simp
      have hgy : (madeCells z.cells (m * sz)).toList[j]? = some u := by
        unfold madeCells
        simp only [Array.toList_map, Array.toList_range, List.getElem?_map]
        rw [List.getElem?_range hlt]
        simp only [Option.map_some, hcs]
        congr 1
        have : z.cells[j % sz]? = some u := by rw [← Array.getElem?_toList, q3]; exact hu
        rw [getElem!_def, this]
      rw [hgy] at hy
      injection hy with hy
      subst hy
      exact ⟨.v _ _, hone _ (List.mem_of_getElem? hu)⟩)
  rw [hHd] at hA
  refine ⟨.slice (some ⟨w.heap.size, 0, none⟩) m m, w', M, _, ?_, hA, .own _ _ _ _ (by simp [updρ]) rfl⟩
  unfold execOp
  simp only [hxe, hye, Sem.run_bind, hrun]
  rfl
end
section
variable {P : Program} {X : Ctx} {n : Nat} {σ : AS} {Q Q' : Exit → AS → Prop}
end
end Go.Proofs.YtnafokinifbfhaaGreatDoor
namespace Go.Proofs.YtnafokinifbfhaaGreatDoor
open Go Go.RowKit
set_option maxRecDepth 10000
variable {G : Nat → Option (List Value)}
theorem lU (D : Dk) (n : Int) (hD : DkOk D) (h1 : -9223372036854775808 ≤ n) (h2 : n ≤ 9223372036854775807) : zl Tryz.prog G 37 [.ptr (refB + 0) 0 0, .v (.int .i64 n)] [D.cells] (.v (.bool (D.val n == 0))) [D.next.cells] := by
  refine zY tbOk (zM Tryz.func37 (by kernel_rfl) rfl) Tryz.func37 rfl _ Tryz.ntmps37 (Nat.le_of_ble_eq_true rfl) fun X hX => ?_
  subst hX
  repeat (first | ((with_reducible refine zI ?_); refine zJ rfl ?_) | ((with_reducible refine zE ?_); refine zF rfl ?_)  | refine zK ?_ | refine zB rfl ?_ | with_reducible (first | refine zG ?_ | refine zH ?_) | ((with_reducible refine zA ?_ ?_); kernel_rfl))
  refine zD (ss := [(refB + 0, 0)]) (jS D n hD h1 h2) (by simp) (in1 rfl rfl) rfl (yx rfl) ?_
  repeat (first | ((with_reducible refine zE ?_); refine zF rfl ?_) | ((with_reducible refine zP ?_); refine zV rfl rfl rfl ?_)  | refine zK ?_ | refine zB rfl ?_ | with_reducible (first | refine zG ?_ | refine zS ?_) )
  refine dV (by first | exact .inr rfl | exact .inl rfl) rfl rfl rfl (by first | rfl | assumption) ?_ ?_ (by repeat' (first | exact trivial | exact Ren.v _ | exact Ren.sl _ _ | exact Ren.ep _ | exact Ren.ptr _ _ _ _ rfl | exact Ren.bs _ _ _ _ _ rfl | exact Ren.nil _ | exact Ren.own _ _ _ _ ⟨_, rfl⟩ | refine zp ?_ | refine yR ?_ | refine yo ?_ | refine ⟨?_, ?_⟩)) <;> rfl
end Go.Proofs.YtnafokinifbfhaaGreatDoor
namespace Go.Proofs.YtnafokinifbfhaaGreatDoor
open Go Go.RowKit
set_option maxRecDepth 10000
variable {G : Nat → Option (List Value)}
theorem lG {TB : Tabs} {σ : AS} {fn : Func} {r : AV} {e : Exit} {t1 k : Nat} {y : AV} {c c' : List AV} (he : e = .normal ∨ e = .ret) (hfn : fn.results = #[.tmp t1]) (h1 : vf (σ.T t1) = some y) (hr : Ren (bufs σ) (jJ 1 []) r y) (hH : σ.H (refB + 0) = ⟨k, .box c'⟩) (hk : k = 0) (hc : RenL (bufs σ) (jJ 1 []) c c') : RetQ TB fn 1 r [c] e σ := by
  refine ret1 he (xs := [σ.T t1]) ?_ (by rw [qS h1]; exact hr) hH hk hc
  rw [hfn]
  exact ⟨.tmp t1, trivial⟩
end Go.Proofs.YtnafokinifbfhaaGreatDoor
