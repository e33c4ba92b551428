/- Rows of any elements that are made: a row of the frame's own, of zero values; conditions: tables of types that agree with the program's / Deck.One, by the abstract machine; conditions: none / permitofficeref14.Add and permitofficemake.Locks, by the abstract machine: the locks that it makes are valid; conditions: none. -/
import Derived.Test.YtnafokinifbfhaaGreatDoorAbsC
import Derived.Test.YtnafokinifbfhaaGreatDoorSlJ
import Derived.Laws.OwnMore
import Derived.Test.YtnafokinifbfhaaGreatDoorDkA
import Derived.Test.YtnafokinifbfhaaGreatDoorLcA
set_option linter.unusedVariables false
set_option linter.unusedSimpArgs false
namespace Go.Proofs.YtnafokinifbfhaaGreatDoor
open Go Go.RowKit
theorem rJ {zc : AV} {sz : Nat} (hl : zc.cells.length = sz) (hp : 0 < sz) : ∀ (m j : Nat), j < m * sz → ((List.replicate m zc).flatMap AV.cells)[j]? = zc.cells[j % sz]?
  | 0, j, h => by omega
  | m + 1, j, h => by
    rw [List.replicate_succ, List.flatMap_cons, List.getElem?_append]
    split
    · rename_i hj
      rw [Nat.mod_eq_of_lt (by omega)]
    · rename_i hj
      rw [hl, rJ hl hp m (j - sz) (by rw [Nat.succ_mul] at h; omega), ← Nat.mod_eq_sub_mod (by omega)]
theorem fT {zc : AV} {sz : Nat} (hl : zc.cells.length = sz) (m : Nat) : ((List.replicate m zc).flatMap AV.cells).length = m * sz := by
  rw [qB (sz := sz) (fun x hx => by rw [List.eq_of_mem_replicate hx]; exact hl), List.length_replicate]
section
variable {P : Program} {X : Ctx} {n : Nat} {ops : Array Oper} {os : List Oper} {acc : List Rule} {σ : AS} {K : List Rule → AS → Prop} {gt : List (Nat × AV)} {ty : TypeId} {ps : String} {af : Array Edge} {g : Option (Nat × Bool)}
variable {TB : Tabs} (hTB : TabsOk P TB)
include hTB
theorem lF {t e : TypeId} {x y : Operand} {d k0 sz by_ m : Nat} {c0 : Cont} {b : Bool} {zs : List Value} (zc : AV) (hs : lk TB.sle t = some e) (hz : lk TB.ty e = some (b, sz)) (hzr : lk TB.zer e = some zs) (hby : lk TB.byt e = some by_) (hzl : zs.length = sz) (hpos : 0 < sz)
    (hzc : zc.cells = zs.map AV.v) (hone : ∀ z ∈ zs, z.oneCell' = true) (hx : ev σ x = .v (.int .i64 (m : Nat))) (hy : ev σ y = .v (.int .i64 (m : Nat))) (hb : m * by_ ≤ 281474976710656) (hc : m * sz ≤ 16777216) (hH : σ.H d = ⟨k0, c0⟩)
    (h : Exec P X n ops os (mkG gt σ [x, y] [d] (some d) (.own d (k0 + 1)) [(d, ⟨k0 + 1, .buf e sz (List.replicate m zc)⟩)] :: acc) ((σ.hup d ⟨k0 + 1, .buf e sz (List.replicate m zc)⟩).put (some d) (.own d (k0 + 1))) K) : Op1 P X n ops gt ⟨some d, .makeSlice t x y, ty, ps, af, g⟩ os acc σ K := by
  obtain rfl : (σ.H d).k = k0 := by rw [hH]
  refine ⟨⟨mkR σ [x, y] [d] (some d) (.own d ((σ.H d).k + 1)) [(d, ⟨(σ.H d).k + 1, .buf e sz (List.replicate m zc)⟩)], yB rfl fun M ρ τ a w hf hR => ?_, yE _ _ _ _ _ _, h⟩⟩
  have hHd := ya hf (s := d) (by simp)
  have hxe := yA hR (zw hf (by simp)) hx
  have hye := yA hR (zw hf (by simp)) hy
  obtain ⟨i, z, t1, t2, t3, t4, t5, t6⟩ := bY hTB hs hz hzr hby hzl
  obtain ⟨i', z', q1, q2, q3⟩ := qW hTB hzr
  rw [t2] at q1
  injection q1 with q1
  subst q1
  rw [t3] at q2
  injection q2 with q2
  subst q2
  have hzlen : zc.cells.length = sz := by rw [hzc, List.length_map, hzl]
  have hm : m ≤ m * sz := Nat.le_mul_of_pos_right _ hpos
  obtain ⟨w', hrun, r1, r2⟩ := run_makeSlice_full (P := P) w 0 t e i z sz t1 t2 t3 (by omega) .i64 .i64 m (by omega) (by rw [Nat.mul_comm]; first | (rw [t5]; exact hb) | (rw [t6]; exact hb) | omega) (by simp only [maxLen]; omega) (Nat.zero_le _)
  have hA := hR.appendTo d (L := List.replicate m zc) (w' := w') (news := (madeCells z.cells (m * sz)).toList) (v' := .slice (some ⟨w.heap.size, 0, none⟩) m m) (dG X w e sz)
    (by rw [List.nil_append, List.length_replicate]; exact r1) r2 (.inr ⟨w.heap.size, Nat.le_refl _, rfl⟩) (by simp [vblk]) (by simp [vblk]) (by rw [List.nil_append, fT hzlen]; simp [madeCells])
    (fun x hx => by rw [List.eq_of_mem_replicate hx]; exact hzlen)
    (fun j x y hx hy => by
      rw [List.nil_append] at hy
      have hlt : j < m * sz := by rw [← fT hzlen m]; exact zo hx
      rw [rJ hzlen hpos m j hlt, hzc, List.getElem?_map] at hx
      have hmod : j % sz < zs.length := by rw [hzl]; exact Nat.mod_lt _ hpos
      obtain ⟨u, hu⟩ := zT hmod
      rw [hu] at hx
      injection hx with hx
      subst hx
      have hcs : z.cells.size = sz := by rw [← hzl, ← q3]; simp
      have hgy : (madeCells z.cells (m * sz)).toList[j]? = some u := by
        unfold madeCells
        simp only [Array.toList_map, Array.toList_range, List.getElem?_map]
        rw [List.getElem?_range hlt]
        simp only [Option.map_some, hcs]
        congr 1
        have : z.cells[j % sz]? = some u := by rw [← Array.getElem?_toList, q3]; exact hu
        rw [getElem!_def, this]
      rw [hgy] at hy
      injection hy with hy
      subst hy
      exact ⟨.v _ _, hone _ (List.mem_of_getElem? hu)⟩)
  rw [hHd] at hA
  refine ⟨.slice (some ⟨w.heap.size, 0, none⟩) m m, w', M, _, ?_, hA, .own _ _ _ _ (by simp [updρ]) rfl⟩
  unfold execOp
  simp only [hxe, hye, Sem.run_bind, hrun]
  rfl
end
section
variable {P : Program} {X : Ctx} {n : Nat} {σ : AS} {Q Q' : Exit → AS → Prop}
end
end Go.Proofs.YtnafokinifbfhaaGreatDoor
namespace Go.Proofs.YtnafokinifbfhaaGreatDoor
open Go Go.RowKit
set_option maxRecDepth 10000
variable {G : Nat → Option (List Value)}
theorem kA (D : Dk) (n : Int) (hD : DkOk D) (h1 : -9223372036854775808 ≤ n) (h2 : n ≤ 9223372036854775807) : zu Tryz.prog G 37 [.ptr (refB + 0) 0 0, .v (.int .i64 n)] [D.cells] (.v (.bool (D.val n == 0))) [D.next.cells] := by
  refine zf tbOk (zM Tryz.func37 (by kernel_rfl) rfl) Tryz.func37 rfl _ Tryz.ntmps37 (Nat.le_of_ble_eq_true rfl) fun X hX => ?_
  subst hX
  repeat (first | ((with_reducible refine zI ?_); refine zH rfl ?_) | ((with_reducible refine zE ?_); refine zD rfl ?_)  | refine zJ ?_ | refine zB rfl ?_ | with_reducible (first | refine zC ?_ | refine zF ?_) | ((with_reducible refine zA ?_ ?_); kernel_rfl))
  refine yW (ss := [(refB + 0, 0)]) (jK D n hD h1 h2) (by repeat' (first | exact trivial | exact Ren.v _ | exact Ren.sl _ _ | exact Ren.ep _ | exact Ren.ptr _ _ _ _ rfl | exact Ren.bs _ _ _ _ _ rfl | exact Ren.nil _ | exact Ren.own _ _ _ _ ⟨_, rfl⟩ | refine zn ?_ | refine zz ?_ | refine yG ?_ | refine ⟨?_, ?_⟩)) (by simp) (in1 rfl rfl) rfl (ym rfl) (by repeat' (first | exact trivial | exact RenB.v _ | exact RenB.sl _ _ | exact RenB.ep _ | exact RenB.ptr _ _ _ _ rfl | refine yi ?_ | refine yM ?_ | refine ⟨?_, ?_⟩)) ?_
  repeat (first | ((with_reducible refine zE ?_); refine zD rfl ?_) | ((with_reducible refine zP ?_); refine zS rfl rfl rfl ?_)  | refine zJ ?_ | refine zB rfl ?_ | with_reducible (first | refine zC ?_ | refine zQ ?_) )
  refine qq (by first | exact .inr rfl | exact .inl rfl) rfl rfl rfl (by first | rfl | assumption) ?_ ?_ (by repeat' (first | exact trivial | exact Ren.v _ | exact Ren.sl _ _ | exact Ren.ep _ | exact Ren.ptr _ _ _ _ rfl | exact Ren.bs _ _ _ _ _ rfl | exact Ren.nil _ | exact Ren.own _ _ _ _ ⟨_, rfl⟩ | refine zn ?_ | refine zz ?_ | refine yG ?_ | refine ⟨?_, ?_⟩)) <;> rfl
end Go.Proofs.YtnafokinifbfhaaGreatDoor
namespace Go.Proofs.YtnafokinifbfhaaGreatDoor
open Go Go.RowKit
set_option maxRecDepth 10000
variable {G : Nat → Option (List Value)}
theorem lowK_at {L : List Lk} {a : Nat} {x k : Lk} (h : L[a]? = some x) : lowK k (L.drop a) = if befB x k = true then lowK k (L.drop (a + 1)) + 1 else 0 := by rw [yq h]; rfl
theorem tN (L : List Lk) : ∀ x ∈ L.map Lk.av, yR x.cells = true := by
  intro x hx
  obtain ⟨r, _, rfl⟩ := List.mem_map.1 hx
  rfl
set_option maxHeartbeats 4000000 in
theorem radd_A (N : List Nd) (V : List Dv) (L : List Lk) (k : Lk) (hN : ∀ x ∈ N, x.n.size ≤ maxLen) (hV : ∀ x ∈ V, x.n.size ≤ maxLen) (h1 : N.length ≤ maxLen) (h2 : V.length ≤ maxLen) (h3 : L.length ≤ maxLen) :
    zu Tryz.prog G 60 [qE N V, .sl 3 (L.map Lk.av), k.av] [] (.tu [.sl 3 ((addK N V L k).1.map Lk.av), .v (.int .i64 (addK N V L k).2)]) [] := by
  have hml : (L.map Lk.av).length = L.length := by simp
  have hm9 : L.length ≤ 9223372036854775807 := by unfold maxLen at h3; omega
  refine zf tbOk (zM Tryz.func60 (by kernel_rfl) rfl) Tryz.func60 rfl _ Tryz.ntmps60 (Nat.le_of_ble_eq_true rfl) fun X hX => ?_
  subst hX
  unfold addK
  repeat (first | ((with_reducible refine zI ?_); refine zH rfl ?_) | ((with_reducible refine zE ?_); refine zD rfl ?_) | ((with_reducible refine zO ?_); refine zk tbOk rfl rfl rfl rfl (Nat.le_of_ble_eq_true rfl) ?_) | ((with_reducible refine yw ?_); refine yv rfl rfl rfl ?_)  | refine zJ ?_ | refine zB rfl ?_ | with_reducible (first | refine zC ?_ | refine zF ?_) | ((with_reducible refine zA ?_ ?_); kernel_rfl))
  refine zl (rlocks_A N V L hN hV h1 h2) (by repeat' (first | exact trivial | exact Ren.v _ | exact Ren.sl _ _ | exact Ren.ep _ | exact Ren.ptr _ _ _ _ rfl | exact Ren.bs _ _ _ _ _ rfl | exact Ren.nil _ | exact Ren.own _ _ _ _ ⟨_, rfl⟩ | refine zn ?_ | refine zz ?_ | refine yG ?_ | refine ⟨?_, ?_⟩)) (by repeat' (first | exact trivial | exact RenB.v _ | exact RenB.sl _ _ | exact RenB.ep _ | exact RenB.ptr _ _ _ _ rfl | refine yi ?_ | refine yM ?_ | refine ⟨?_, ?_⟩)) ?_
  repeat (first | ((with_reducible refine zI ?_); refine zH rfl ?_) | ((with_reducible refine zE ?_); refine zD rfl ?_) | ((with_reducible refine zP ?_); refine zS rfl rfl rfl ?_)  | refine zJ ?_ | refine zB rfl ?_ | with_reducible (first | refine zC ?_ | refine zF ?_) | ((with_reducible refine zA ?_ ?_); kernel_rfl))
  refine zX rfl (fun h => ?_) (fun h => ?_)
  · rw [if_pos (by simpa using h)]
    repeat (first | ((with_reducible refine zI ?_); refine zH rfl ?_) | ((with_reducible refine zE ?_); refine zD rfl ?_)  | refine zJ ?_ | refine zB rfl ?_ | with_reducible (first | refine zC ?_ | refine zR ?_ | refine zF ?_ | refine zQ ?_) | ((with_reducible refine zA ?_ ?_); kernel_rfl))
    refine jx (by first | exact .inr rfl | exact .inl rfl) rfl rfl rfl ?_
    repeat' (first | exact trivial | exact Ren.v _ | exact Ren.sl _ _ | exact Ren.ep _ | exact Ren.ptr _ _ _ _ rfl | exact Ren.bs _ _ _ _ _ rfl | exact Ren.nil _ | exact Ren.own _ _ _ _ ⟨_, rfl⟩ | refine zn ?_ | refine zz ?_ | refine yG ?_ | refine ⟨?_, ?_⟩)
  rw [if_neg (by simpa using h)]
  repeat (first | ((with_reducible refine zO ?_); refine zk tbOk rfl rfl rfl rfl (Nat.le_of_ble_eq_true rfl) ?_)  | refine zB rfl ?_ | with_reducible (first | refine zC ?_ | refine zF ?_ | refine zN ?_) | ((with_reducible refine zA ?_ ?_); kernel_rfl))
  refine zl (vO N V k) (by repeat' (first | exact trivial | exact Ren.v _ | exact Ren.sl _ _ | exact Ren.ep _ | exact Ren.ptr _ _ _ _ rfl | exact Ren.bs _ _ _ _ _ rfl | exact Ren.nil _ | exact Ren.own _ _ _ _ ⟨_, rfl⟩ | refine zn ?_ | refine zz ?_ | refine yG ?_ | refine ⟨?_, ?_⟩)) (by repeat' (first | exact trivial | exact RenB.v _ | exact RenB.sl _ _ | exact RenB.ep _ | exact RenB.ptr _ _ _ _ rfl | refine yi ?_ | refine yM ?_ | refine ⟨?_, ?_⟩)) ?_
  repeat (first | ((with_reducible refine zI ?_); refine zH rfl ?_) | ((with_reducible refine zE ?_); refine zD rfl ?_) | ((with_reducible refine zP ?_); refine zS rfl rfl rfl ?_)  | refine zJ ?_ | refine zB rfl ?_ | with_reducible (first | refine zC ?_ | refine zF ?_) | ((with_reducible refine zA ?_ ?_); kernel_rfl))
  refine zX rfl (fun h => ?_) (fun h => ?_)
  · rw [if_pos (by simpa using h)]
    repeat (first | ((with_reducible refine zI ?_); refine zH rfl ?_) | ((with_reducible refine zE ?_); refine zD rfl ?_)  | refine zJ ?_ | refine zB rfl ?_ | with_reducible (first | refine zC ?_ | refine zR ?_ | refine zF ?_ | refine zQ ?_) | ((with_reducible refine zA ?_ ?_); kernel_rfl))
    refine jx (by first | exact .inr rfl | exact .inl rfl) rfl rfl rfl ?_
    repeat' (first | exact trivial | exact Ren.v _ | exact Ren.sl _ _ | exact Ren.ep _ | exact Ren.ptr _ _ _ _ rfl | exact Ren.bs _ _ _ _ _ rfl | exact Ren.nil _ | exact Ren.own _ _ _ _ ⟨_, rfl⟩ | refine zn ?_ | refine zz ?_ | refine yG ?_ | refine ⟨?_, ?_⟩)
  rw [if_neg (by simpa using h)]
  repeat (first | ((with_reducible refine zE ?_); refine zD rfl ?_)  | refine zJ ?_ | refine zB rfl ?_ | with_reducible (first | refine zC ?_ | refine zF ?_ | refine zU ?_ | refine zN ?_) | ((with_reducible refine zA ?_ ?_); kernel_rfl))
  refine yL (ι := Nat) (fun i => i ≤ L.length ∧ keyB (L.take i) k.k = false) (fun i => L.length - i) (fun v i => [(1, .sl 3 (L.map Lk.av)), (3, .ptr 3 (v 3) 0), (5, .ptr 5 (v 5) 0), (10, .v (.int .i64 i))]) (fun v i => [(3, .box [.sl 3 (N.map Nd.av), .sl 5 (V.map Dv.av)]), (5, .box [.v (.int .i64 k.d), .v (.int .i64 k.p), .v (.int .i64 k.k)])]) ?_ ?_
  · exact ⟨0, ⟨Nat.zero_le _, rfl⟩, trivial, ⟨rfl, rfl, rfl, rfl, trivial⟩, ⟨rfl, rfl, trivial⟩⟩
  rintro v i ⟨hi, hu⟩
  repeat (first | ((with_reducible refine zI ?_); refine zH rfl ?_) | ((with_reducible refine zp ?_); refine yU tbOk rfl rfl ?_) | ((with_reducible refine zP ?_); refine zS rfl rfl rfl ?_)  | refine zJ ?_ | refine zB rfl ?_ | with_reducible (first | refine zC ?_ | refine zF ?_) | ((with_reducible refine zA ?_ ?_); kernel_rfl))
  refine zX rfl (fun h => ?_) (fun h => ?_)
  · have hlt : i < L.length := by simpa using h
    obtain ⟨x, hx⟩ := zT hlt
    have hy := cO hx
    repeat (first | ((with_reducible refine zI ?_); refine zH rfl ?_) | ((with_reducible refine zK ?_); (first | refine zG tbOk rfl rfl rfl rfl ?_ | refine yX tbOk rfl rfl rfl rfl ?_)) | ((with_reducible refine zO ?_); (first | refine zL tbOk rfl rfl rfl rfl rfl ?_ | refine zm tbOk rfl rfl rfl ?_)) | ((with_reducible refine zW ?_); refine zb tbOk rfl rfl rfl rfl (by assumption) ?_) | ((with_reducible refine zP ?_); refine zS rfl rfl rfl ?_)  | refine jD (by kernel_rfl) ?_ | refine zB rfl ?_ | with_reducible (first | refine zC ?_ | refine zF ?_ | refine zU ?_ | refine zN ?_) | ((with_reducible refine yz mixd ?_ ?_); kernel_rfl))
    refine zX rfl (fun h => ?_) (fun h => ?_)
    · rw [if_pos (sY (i := L.length) hx hlt (by simpa using h) |> fun e => by rwa [List.take_length] at e)]
      repeat (first | ((with_reducible refine zE ?_); refine zD rfl ?_)  | refine zJ ?_ | refine zB rfl ?_ | with_reducible (first | refine zC ?_ | refine zR ?_ | refine zV ?_ | refine zF ?_ | refine zQ ?_) | ((with_reducible refine zA ?_ ?_); kernel_rfl))
      refine jx (by first | exact .inr rfl | exact .inl rfl) rfl rfl rfl ?_
      repeat' (first | exact trivial | exact Ren.v _ | exact Ren.sl _ _ | exact Ren.ep _ | exact Ren.ptr _ _ _ _ rfl | exact Ren.bs _ _ _ _ _ rfl | exact Ren.nil _ | exact Ren.own _ _ _ _ ⟨_, rfl⟩ | refine zn ?_ | refine zz ?_ | refine yG ?_ | refine ⟨?_, ?_⟩)
    · have c1' : ¬ x.k = k.k := by simpa using h
      repeat (first | ((with_reducible refine zI ?_); refine zH rfl ?_) | ((with_reducible refine zE ?_); refine zD rfl ?_) | ((with_reducible refine zP ?_); refine zY rfl rfl (by omega) ?_)  | refine zJ ?_ | refine zB rfl ?_ | with_reducible (first | refine zC ?_ | refine zd ?_ | refine zN ?_) | ((with_reducible refine zA ?_ ?_); kernel_rfl))
      exact ⟨i + 1, ⟨by omega, by rw [nS hx, hu, decide_eq_false c1']; rfl⟩, by omega, ⟨rfl, rfl, rfl, rfl, trivial⟩, ⟨rfl, rfl, trivial⟩⟩
  obtain rfl : i = L.length := by simp at h; omega
  rw [List.take_length] at hu
  rw [if_neg (by rw [hu]; decide)]
  repeat (first | ((with_reducible refine zI ?_); refine zH rfl ?_) | ((with_reducible refine zK ?_); refine zG tbOk rfl rfl rfl rfl ?_) | ((with_reducible refine zO ?_); refine zL tbOk rfl rfl rfl rfl rfl ?_)  | refine zB rfl ?_ | with_reducible (first | refine zC ?_ | refine ze ?_ | refine zF ?_ | refine zr ?_) | ((with_reducible refine za ?_ ?_); rfl) | ((with_reducible refine zA ?_ ?_); kernel_rfl))
  refine zl (locked_A L k.d h3) (by repeat' (first | exact trivial | exact Ren.v _ | exact Ren.sl _ _ | exact Ren.ep _ | exact Ren.ptr _ _ _ _ rfl | exact Ren.bs _ _ _ _ _ rfl | exact Ren.nil _ | exact Ren.own _ _ _ _ ⟨_, rfl⟩ | refine zn ?_ | refine zz ?_ | refine yG ?_ | refine ⟨?_, ?_⟩)) (by repeat' (first | exact trivial | exact RenB.v _ | exact RenB.sl _ _ | exact RenB.ep _ | exact RenB.ptr _ _ _ _ rfl | refine yi ?_ | refine yM ?_ | refine ⟨?_, ?_⟩)) ?_
  repeat (first | ((with_reducible refine zI ?_); refine zH rfl ?_) | ((with_reducible refine zE ?_); refine zD rfl ?_) | ((with_reducible refine jP ?_); refine jN rfl rfl ?_)  | refine zJ ?_ | refine zB rfl ?_ | with_reducible (first | refine zC ?_ | refine zF ?_) | ((with_reducible refine zA ?_ ?_); kernel_rfl))
  refine yD rfl rfl (fun b1 => ?_) (fun b1 => ?_)
  repeat (first | ((with_reducible refine zI ?_); refine zH rfl ?_) | ((with_reducible refine zK ?_); refine zG tbOk rfl rfl rfl rfl ?_) | ((with_reducible refine zO ?_); refine zL tbOk rfl rfl rfl rfl rfl ?_) | ((with_reducible refine zZ ?_); refine zh rfl (by first | rfl | assumption) rfl ?_) | ((with_reducible refine zP ?_); refine zS rfl rfl rfl ?_)  | refine zJ ?_ | refine zB rfl ?_ | refine zq rfl rfl (by first | rfl | assumption) ?_ | with_reducible refine zC ?_ )
  refine zX rfl (fun h => ?_) (fun h => ?_)
  · rw [if_pos ⟨b1, by simpa using h⟩]
    repeat (first | ((with_reducible refine zE ?_); refine zD rfl ?_)  | refine zJ ?_ | refine zB rfl ?_ | with_reducible (first | refine zC ?_ | refine zR ?_ | refine zF ?_ | refine zQ ?_) | ((with_reducible refine zA ?_ ?_); kernel_rfl))
    refine jx (by first | exact .inr rfl | exact .inl rfl) rfl rfl rfl ?_
    repeat' (first | exact trivial | exact Ren.v _ | exact Ren.sl _ _ | exact Ren.ep _ | exact Ren.ptr _ _ _ _ rfl | exact Ren.bs _ _ _ _ _ rfl | exact Ren.nil _ | exact Ren.own _ _ _ _ ⟨_, rfl⟩ | refine zn ?_ | refine zz ?_ | refine yG ?_ | refine ⟨?_, ?_⟩)
  have hB : ¬((yZ L k.d).2 = true ∧ (yZ L k.d).1 ≠ k.p) := fun e => e.2 (by simpa using h)
  rotate_left
  have hB : ¬((yZ L k.d).2 = true ∧ (yZ L k.d).1 ≠ k.p) := fun e => by rw [b1] at e; cases e.1
  all_goals
    rw [if_neg hB]
    repeat (first | ((with_reducible refine zI ?_); refine zH rfl ?_) | ((with_reducible refine zZ ?_); refine zi rfl (by first | rfl | assumption) rfl ?_) | ((with_reducible refine zp ?_); refine yU tbOk rfl rfl ?_) | ((with_reducible refine zP ?_); refine zS rfl rfl rfl ?_)  | refine zJ ?_ | refine zB rfl ?_ | refine yH rfl rfl (by first | rfl | assumption) ?_ | with_reducible (first | refine zC ?_ | refine zF ?_ | refine zN ?_) | ((with_reducible refine zA ?_ ?_); kernel_rfl) | refine zy rfl (by first | rfl | assumption) ?_)
    refine zX rfl (fun h => ?_) (fun h => ?_)
    · rw [if_pos (by simp at h; omega)]
      repeat (first | ((with_reducible refine zE ?_); refine zD rfl ?_)  | refine zJ ?_ | refine zB rfl ?_ | with_reducible (first | refine zC ?_ | refine zR ?_ | refine zF ?_ | refine zQ ?_) | ((with_reducible refine zA ?_ ?_); kernel_rfl))
      refine jx (by first | exact .inr rfl | exact .inl rfl) rfl rfl rfl ?_
      repeat' (first | exact trivial | exact Ren.v _ | exact Ren.sl _ _ | exact Ren.ep _ | exact Ren.ptr _ _ _ _ rfl | exact Ren.bs _ _ _ _ _ rfl | exact Ren.nil _ | exact Ren.own _ _ _ _ ⟨_, rfl⟩ | refine zn ?_ | refine zz ?_ | refine yG ?_ | refine ⟨?_, ?_⟩)
    have h128 : L.length < 128 := by simp at h; omega
    rw [if_neg (by omega)]
    repeat (first | ((with_reducible refine zE ?_); refine zD rfl ?_)  | refine zJ ?_ | refine zB rfl ?_ | with_reducible (first | refine zC ?_ | refine zF ?_ | refine zU ?_ | refine zN ?_) | ((with_reducible refine zA ?_ ?_); kernel_rfl))
    refine yL (ι := Nat) (fun a => a ≤ L.length ∧ lowK k (L.drop a) + a = lowK k L) (fun a => L.length - a) (fun v a => [(1, .sl 3 (L.map Lk.av)), (5, .ptr 5 (v 5) 0), (13, .v (.int .i64 a))]) (fun v a => [(5, .box [.v (.int .i64 k.d), .v (.int .i64 k.p), .v (.int .i64 k.k)])]) ?_ ?_
    · exact ⟨0, ⟨Nat.zero_le _, rfl⟩, trivial, ⟨rfl, rfl, rfl, trivial⟩, ⟨rfl, trivial⟩⟩
    rintro v a ⟨ha, hlo⟩
    repeat (first | ((with_reducible refine zI ?_); refine zH rfl ?_) | ((with_reducible refine zp ?_); refine yU tbOk rfl rfl ?_) | ((with_reducible refine zP ?_); refine zS rfl rfl rfl ?_)  | refine zB rfl ?_ | with_reducible refine zF ?_ | ((with_reducible refine yz mixd ?_ ?_); kernel_rfl))
    refine yD rfl rfl (fun b2 => ?_) (fun b2 => ?_)
    have hlt : a < L.length := by simpa using b2
    obtain ⟨x, hx⟩ := zT hlt
    have hy := cO hx
    rw [lowK_at hx] at hlo
    repeat (first | ((with_reducible refine zI ?_); refine zH rfl ?_) | ((with_reducible refine zO ?_); (first | refine zk tbOk rfl rfl rfl rfl (Nat.le_of_ble_eq_true rfl) ?_ | refine yQ tbOk rfl rfl (Nat.le_of_ble_eq_true rfl) ?_)) | ((with_reducible refine zW ?_); refine zb tbOk rfl rfl rfl rfl (by assumption) ?_)  | refine zq rfl rfl (by first | rfl | assumption) ?_  )
    refine zl (rH x k) (by repeat' (first | exact trivial | exact Ren.v _ | exact Ren.sl _ _ | exact Ren.ep _ | exact Ren.ptr _ _ _ _ rfl | exact Ren.bs _ _ _ _ _ rfl | exact Ren.nil _ | exact Ren.own _ _ _ _ ⟨_, rfl⟩ | refine zn ?_ | refine zz ?_ | refine yG ?_ | refine ⟨?_, ?_⟩)) (by repeat' (first | exact trivial | exact RenB.v _ | exact RenB.sl _ _ | exact RenB.ep _ | exact RenB.ptr _ _ _ _ rfl | refine yi ?_ | refine yM ?_ | refine ⟨?_, ?_⟩)) ?_
    repeat (first | ((with_reducible refine zZ ?_); refine zh rfl (by first | rfl | assumption) rfl ?_)  | refine jD (by kernel_rfl) ?_ | refine zB rfl ?_ | with_reducible refine zC ?_ )
    refine zX rfl (fun h => ?_) (fun h => ?_)
    · rw [if_pos h] at hlo
      repeat (first | ((with_reducible refine zI ?_); refine zH rfl ?_) | ((with_reducible refine zE ?_); refine zD rfl ?_) | ((with_reducible refine zP ?_); refine zY rfl rfl (by omega) ?_)  | refine zJ ?_ | refine zB rfl ?_ | with_reducible (first | refine zC ?_ | refine zd ?_ | refine zU ?_ | refine zN ?_) | ((with_reducible refine zA ?_ ?_); kernel_rfl))
      exact ⟨a + 1, ⟨by omega, by omega⟩, by omega, ⟨rfl, rfl, rfl, trivial⟩, ⟨rfl, trivial⟩⟩
    rw [if_neg (by rw [h]; decide)] at hlo
    have hA : a = lowK k L := by omega
    rotate_left
    have hlt : ¬ a < L.length := by simpa using b2
    rw [List.drop_of_length_le (by omega)] at hlo
    have hA : a = lowK k L := by simp only [lowK] at hlo; omega
    all_goals
      rw [← hA]
      have e1 : ((L.map Lk.av).take ((a : Int)).toNat).drop (0 : Int).toNat = (L.take a).map Lk.av := by rw [List.map_take]; rfl
      have e2 : ((L.map Lk.av).take (((L.map Lk.av).length : Int)).toNat).drop ((a : Int)).toNat = (L.drop a).map Lk.av := by
        show ((L.map Lk.av).take (L.map Lk.av).length).drop a = _
        rw [List.take_length, List.map_drop]
      have e3 : (L.take a ++ k :: L.drop a).map Lk.av = (L.take a).map Lk.av ++ [k.av] ++ (L.drop a).map Lk.av := by simp
      rw [e3]
      repeat (first | ((with_reducible refine zI ?_); refine zH rfl ?_) | ((with_reducible refine zZ ?_); refine zi rfl (by first | rfl | assumption) rfl ?_) | ((with_reducible refine dM ?_); refine kM tbOk rfl rfl rfl rfl rfl (by refine ⟨?_, ?_, ?_⟩ <;> omega) ?_)  | refine jD (by kernel_rfl) ?_ | refine zB rfl ?_ | refine yH rfl rfl (by first | rfl | assumption) ?_ | with_reducible (first | refine zC ?_ | refine ze ?_ | refine zF ?_ | refine zr ?_) | ((with_reducible refine za ?_ ?_); rfl) | ((with_reducible refine yz mixd ?_ ?_); kernel_rfl) | refine zy rfl (by first | rfl | assumption) ?_)
      refine oX (N := (L.take a).map Lk.av) tbOk rfl rfl rfl rfl rfl (by decide) rfl (congrArg (AV.sl 3) e1) rfl (tN _) (by simp only [List.length_map, List.length_take]; omega) ?_
      repeat (first | ((with_reducible refine zO ?_); refine zk tbOk rfl rfl rfl rfl (Nat.le_of_ble_eq_true rfl) ?_) | ((with_reducible refine yP ?_); refine yO tbOk rfl rfl rfl rfl rfl (by omega) rfl rfl rfl ?_) | refine zB rfl ?_  )
      refine ye (N := [k.av]) tbOk rfl rfl rfl rfl rfl (by decide) rfl rfl rfl rfl rfl (tN [k]) (by simp only [List.length_map, List.length_take, List.length_cons, List.length_nil]; omega) (by simp only [List.length_map, List.length_take, List.length_cons, List.length_nil]; omega) ?_
      repeat (first | ((with_reducible refine zI ?_); refine zH rfl ?_) | ((with_reducible refine zE ?_); refine zD rfl ?_) | ((with_reducible refine dM ?_); refine kM tbOk rfl rfl rfl rfl rfl (by refine ⟨?_, ?_, ?_⟩ <;> omega) ?_)  | refine jD (by kernel_rfl) ?_ | refine zB rfl ?_ | with_reducible (first | refine zC ?_ | refine zF ?_) | ((with_reducible refine zA ?_ ?_); kernel_rfl))
      refine ye (N := (L.drop a).map Lk.av) tbOk rfl rfl rfl rfl rfl (by decide) rfl rfl rfl (congrArg (AV.sl 3) e2) rfl (tN _) (by simp only [List.length_map, List.length_take, List.length_drop, List.length_append, List.length_cons, List.length_nil]; omega) (by simp only [List.length_map, List.length_take, List.length_drop, List.length_append, List.length_cons, List.length_nil]; omega) ?_
      repeat (first | ((with_reducible refine zE ?_); refine zD rfl ?_)  | refine zJ ?_ | refine zB rfl ?_ | with_reducible (first | refine zC ?_ | refine zQ ?_) )
      refine jx (by first | exact .inr rfl | exact .inl rfl) rfl rfl rfl ?_
      repeat' (first | exact trivial | exact Ren.v _ | exact Ren.sl _ _ | exact Ren.ep _ | exact Ren.ptr _ _ _ _ rfl | exact Ren.bs _ _ _ _ _ rfl | exact Ren.nil _ | exact Ren.own _ _ _ _ ⟨_, rfl⟩ | refine zn ?_ | refine zz ?_ | refine yG ?_ | refine ⟨?_, ?_⟩)
theorem eB {TB : Tabs} {σ : AS} {fn : Func} {r : AV} {e : Exit} {t1 k : Nat} {y : AV} {c c' : List AV} (he : e = .normal ∨ e = .ret) (hfn : fn.results = #[.tmp t1]) (h1 : vf (σ.T t1) = some y) (hr : Ren (bufs σ) (yy 1 []) r y) (hH : σ.H (refB + 0) = ⟨k, .box c'⟩) (hk : k = 0) (hc : RenL (bufs σ) (yy 1 []) c c') : RetQ TB fn 1 r [c] e σ := by
  refine ret1 he (xs := [σ.T t1]) ?_ (by rw [qe h1]; exact hr) hH hk hc
  rw [hfn]
  exact ⟨.tmp t1, trivial⟩
def posS (S : List Int) (d : Int) : Int := match S[d.toNat]? with
  | some p => p
  | none => 1
def lkN (S : List Int) (i : Nat) (D : Dk) (n : Int) : Lk := ⟨D.next.val n, posS S (D.next.val n), 10 + 3 * (i : Int) + D.next.next.val 3⟩
def aK (N : List Nd) (V : List Dv) (S : List Int) (i : Nat) (D : Dk) (L : List Lk) : Dk × List Lk :=
  if D.val 3 = 0 then (D.next, L) else (D.next.next.next, if (addK N V L (lkN S i D V.length)).2 = 0 then (addK N V L (lkN S i D V.length)).1 else L)
def jg (N : List Nd) (V : List Dv) (S : List Int) : Nat → Nat → Dk → List Lk → Dk × List Lk
  | 0, _, D, L => (D, L)
  | m + 1, i, D, L => jg N V S m (i + 1) (aK N V S i D L).1 (aK N V S i D L).2
theorem sH (N : List Nd) (V : List Dv) (L : List Lk) (k : Lk) : (addK N V L k).1.length ≤ L.length + 1 := by
  unfold addK
  split
  · simp
  split
  · simp
  split
  · simp
  split
  · simp
  split
  · simp
  · have := vP k L
    simp; omega
theorem lockS_ok {N : List Nd} {V : List Dv} {S : List Int} {i : Nat} {D : Dk} {L : List Lk} (h : LkOk V L) : LkOk V (aK N V S i D L).2 ∧ (aK N V S i D L).2.length ≤ L.length + 1 := by
  unfold aK
  split
  · exact ⟨h, by show L.length ≤ _; omega⟩
  · dsimp only
    split
    · rename_i c
      exact ⟨(addK_ok h c).1, sH _ _ _ _⟩
    · exact ⟨h, by omega⟩
theorem nT {N : List Nd} {V : List Dv} {S : List Int} : ∀ (m i : Nat) (D : Dk) (L : List Lk), LkOk V L → LkOk V (jg N V S m i D L).2 ∧ (jg N V S m i D L).2.length ≤ L.length + m
  | 0, _, _, L, h => ⟨h, Nat.le_refl _⟩
  | m + 1, i, D, L, h => by
    obtain ⟨a, b⟩ := lockS_ok (N := N) (S := S) (i := i) (D := D) h
    obtain ⟨c, d⟩ := nT (N := N) (S := S) m (i + 1) (aK N V S i D L).1 _ a
    exact ⟨c, by show (jg N V S m (i + 1) (aK N V S i D L).1 (aK N V S i D L).2).2.length ≤ _; omega⟩
end Go.Proofs.YtnafokinifbfhaaGreatDoor
