/- A callee that gives back a new map of its own; conditions: none / network.Trail and Way, by the abstract machine; conditions: a valid network, as many truth values as devices, nodes of the network. -/
import Derived.Test.YtnafokinifbfhaaGreatDoorAbsU
import Derived.Test.YtnafokinifbfhaaGreatDoorDiA
set_option linter.unusedVariables false
set_option linter.unusedSimpArgs false
namespace Go.Proofs.YtnafokinifbfhaaGreatDoor
open Go Go.RowKit
section
variable {X : Ctx} {n : Nat} {M : Nat → Option (Array Value)} {ρ : Nat → Nat → Option Value} {σ : AS} {a : Act} {w : World}
end
section
variable {P : Program} {TB : Tabs} {G : Nat → Option (List Value)} {f : FuncId} {args : List AV} {L : List (Value × Value)}
end
section
variable {P : Program} {X : Ctx} {n : Nat} {ops : Array Oper} {os : List Oper} {acc : List Rule} {σ : AS} {K : List Rule → AS → Prop} {gt : List (Nat × AV)} {ty : TypeId} {ps : String} {af : Array Edge} {g : Option (Nat × Bool)}
end
/-- Ends with three and with four results. -/
theorem ret0_3 {TB : Tabs} {σ : AS} {fn : Func} {r : AV} {e : Exit} {t1 t2 t3 : Nat} {y1 y2 y3 : AV} (he : e = .normal ∨ e = .ret) (hfn : fn.results = #[.tmp t1, .tmp t2, .tmp t3]) (h1 : vf (σ.T t1) = some y1) (h2 : vf (σ.T t2) = some y2) (h3 : vf (σ.T t3) = some y3) (hr : Ren (bufs σ) (yy 0 []) r (.tu [y1, y2, y3])) : RetQ TB fn 0 r [] e σ := by
  refine ret0 he (xs := [σ.T t1, σ.T t2, σ.T t3]) ?_ (by rw [qe h1, qe h2, qe h3]; exact hr)
  rw [hfn]
  exact ⟨.tmp t1, .tmp t2, .tmp t3, trivial⟩
end Go.Proofs.YtnafokinifbfhaaGreatDoor
namespace Go.Proofs.YtnafokinifbfhaaGreatDoor
open Go Go.RowKit
set_option maxRecDepth 10000
variable {G : Nat → Option (List Value)}
set_option maxHeartbeats 8000000 in
theorem trail_A (N : List Nd) (V : List Dv) (us : List Bool) (U : Nat → Bool) (L : List Int) (x0 k0 : Nat) (hV : ∀ d ∈ V, yY d N.length = true) (hu : ∀ i, i < V.length → us[i]? = some (U i)) (hL : ∀ v ∈ L, 0 ≤ v ∧ v < N.length) (hn : N.length ≤ 32) (hv : V.length ≤ 64) (hx0 : (flood U V N.length L)[x0]? = some (k0 : Int)) :
    zu Tryz.prog G 69 [qE N V, .sl 1 (bsv us), .ag (ivs (pad (flood U V N.length L))), .v (.int .i64 (x0 : Nat))] [] (.tu [.sl 1 ((qm U V (flood U V N.length L) k0 x0).1.map iv), .v (.int .i64 (qm U V (flood U V N.length L) k0 x0).2)]) [] := by
  have hvl : (V.map Dv.av).length = V.length := by simp
  have hOl : (flood U V N.length L).length = N.length := (jn (U := U) hV hL).ok.len
  have hk0 := rO (U := U) hV hL hx0
  have hnext := fun {x k : Nat} => lB (U := U) (x := x) (k := k) hV hL
  obtain ⟨O, hO⟩ : ∃ O, O = flood U V N.length L := ⟨_, rfl⟩
  rw [← hO] at hOl hx0 hnext ⊢
  refine zf tbOk (zM Tryz.func69 (by kernel_rfl) rfl) Tryz.func69 rfl _ Tryz.ntmps69 (Nat.le_of_ble_eq_true rfl) fun X hX => ?_
  subst hX
  repeat (first | ((with_reducible refine yw ?_); refine yv rfl rfl rfl ?_)  | refine zB rfl ?_ | with_reducible refine zF ?_ | ((with_reducible refine zA ?_ ?_); kernel_rfl))
  with_reducible refine yw ?_
  refine yv rfl (kO _) rfl ?_
  repeat (first | ((with_reducible refine zE ?_); refine zD rfl ?_)  | refine zJ ?_ | refine zB rfl ?_ | with_reducible (first | refine zC ?_ | refine zF ?_ | refine zU ?_) | ((with_reducible refine zA ?_ ?_); kernel_rfl))
  refine kN (t := 10) (s := 50) 3 1 rfl rfl ?_
  refine yL (ι := Nat × Nat × List Int) (fun i => O[i.1]? = some (i.2.1 : Int) ∧ i.2.2.length + i.2.1 = k0 ∧ i.2.2 ++ (qm U V O i.2.1 i.1).1 = (qm U V O k0 x0).1 ∧ (qm U V O i.2.1 i.1).2 = (qm U V O k0 x0).2) (fun i => i.2.1) (fun v i => [(1, .sl 1 (bsv us)), (3, .v (.int .i64 (i.1 : Nat))), (4, .ptr 4 (v 4) 0), (6, .ptr 6 (v 6) 0), (10, .own 50 (v 50))]) (fun v i => [(4, .box [.sl 3 (N.map Nd.av), .sl 5 (V.map Dv.av)]), (6, .box (ivs (pad O))), (50, .buf 3 1 (i.2.2.map iv))]) ?_ ?_
  · exact ⟨(x0, k0, []), ⟨hx0, by simp, rfl, rfl⟩, trivial, ⟨rfl, rfl, rfl, rfl, rfl, trivial⟩, ⟨rfl, rfl, rfl, trivial⟩⟩
  rintro v ⟨x, k, E⟩ ⟨hx, hk, ht1, ht2⟩
  dsimp only at hx hk ht1 ht2 ⊢
  have hxn : x < N.length := by rw [← hOl]; exact zo hx
  have hgx : O.getD (x : Int).toNat 0 = k := by rw [Int.toNat_natCast]; exact getD_some hx
  have hml : (E.map iv).length = E.length := by simp
  repeat (first | ((with_reducible refine zI ?_); refine zH rfl ?_)  | refine zB rfl ?_ | with_reducible refine zF ?_ | ((with_reducible refine zA ?_ ?_); kernel_rfl))
  (with_reducible refine zW ?_); refine yj tbOk fG rfl rfl rfl (by constructor <;> omega) ?_
  repeat (first   | refine zB rfl ?_  )
  (with_reducible refine zO ?_); refine zL tbOk rfl rfl rfl rfl (iL (by rw [Int.toNat_natCast]; omega)) ?_
  repeat (first | ((with_reducible refine zP ?_); refine zS rfl rfl rfl ?_)  | refine zJ ?_ | refine zB rfl ?_ | with_reducible refine zC ?_ )
  refine zX rfl (fun h => ?_) (fun h => ?_)
  · have hk1 : 0 < k := by rw [hgx] at h; simpa using h
    obtain ⟨k, rfl⟩ : ∃ k', k = k' + 1 := ⟨k - 1, by omega⟩
    obtain ⟨i0, w0, d0, n1, n2, n3, n4, n5, n6⟩ := hnext hx
    rw [qm, n2] at ht1 ht2
    dsimp only at ht1 ht2
    repeat (first | ((with_reducible refine zI ?_); refine zH rfl ?_) | ((with_reducible refine zK ?_); refine zG tbOk rfl rfl rfl rfl ?_) | ((with_reducible refine zO ?_); refine zL tbOk rfl rfl rfl rfl rfl ?_) | ((with_reducible refine zp ?_); refine yU tbOk rfl rfl ?_)  | refine zJ ?_ | refine zB rfl ?_ | with_reducible (first | refine zC ?_ | refine zF ?_ | refine zU ?_ | refine zN ?_) | ((with_reducible refine zA ?_ ?_); kernel_rfl))
    refine yL (ι := Nat) (fun j => j ≤ V.length ∧ cK U O x j (V.drop j) = some (i0, (w0 : Int))) (fun j => V.length - j) (fun v j => [(1, .sl 1 (bsv us)), (3, .v (.int .i64 (x : Nat))), (4, .ptr 4 (v 4) 0), (6, .ptr 6 (v 6) 0), (10, .own 50 (v 50)), (19, .sl 5 (V.map Dv.av)), (20, .v (.int .i64 (V.map Dv.av).length)), (21, .v (.int .i64 (j : Nat)))]) (fun v j => [(4, .box [.sl 3 (N.map Nd.av), .sl 5 (V.map Dv.av)]), (6, .box (ivs (pad O))), (50, .buf 3 1 (E.map iv))]) ?_ ?_
    · exact ⟨0, ⟨Nat.zero_le _, n2⟩, trivial, ⟨rfl, rfl, rfl, rfl, rfl, rfl, rfl, rfl, trivial⟩, ⟨rfl, rfl, rfl, trivial⟩⟩
    clear v h
    rintro v j ⟨hj, hnr⟩
    repeat (first | ((with_reducible refine zP ?_); refine zS rfl rfl rfl ?_)  | refine zJ ?_ | refine zB rfl ?_ | with_reducible (first | refine zC ?_ | refine zF ?_) | ((with_reducible refine zA ?_ ?_); kernel_rfl))
    refine zX rfl (fun h => ?_) (fun h => ?_)
    · have hlt : j < V.length := by simpa using h
      obtain ⟨d, hd⟩ := zT hlt
      have hy := fW hd
      have huy : (bsv us)[j]? = some (.v (.bool (U j))) := oK (hu j hlt)
      rw [yq hd, cK] at hnr
      obtain ⟨w, hw⟩ : ∃ w, w = acr d x := ⟨_, rfl⟩
      rw [← hw] at hnr
      repeat (first | ((with_reducible refine zI ?_); refine zH rfl ?_) | ((with_reducible refine zE ?_); refine zD rfl ?_) | ((with_reducible refine zO ?_); (first | refine zk tbOk rfl rfl rfl rfl (Nat.le_of_ble_eq_true rfl) ?_ | refine yQ tbOk rfl rfl (Nat.le_of_ble_eq_true rfl) ?_)) | ((with_reducible refine yN ?_); refine yT tbOk rfl rfl rfl rfl rfl rfl rfl (Nat.le_of_ble_eq_true rfl) rfl ?_) | ((with_reducible refine jB ?_); refine jA tbOk rfl rfl ?_) | ((with_reducible refine zW ?_); refine zb tbOk rfl rfl rfl rfl (by assumption) ?_)  | refine zJ ?_ | refine zB rfl ?_ | with_reducible (first | refine zC ?_ | refine zF ?_ | refine zU ?_ | refine zN ?_) | ((with_reducible refine zA ?_ ?_); kernel_rfl))
      refine zl (kY d x) (by repeat' (first | exact trivial | exact Ren.v _ | refine zn ?_ | refine ⟨?_, ?_⟩)) (by repeat' exact RenB.v _) ?_
      rw [← hw]
      repeat (first | ((with_reducible refine zI ?_); refine zH rfl ?_) | ((with_reducible refine zE ?_); refine zD rfl ?_) | ((with_reducible refine zP ?_); refine zS rfl rfl rfl ?_)  | refine zJ ?_ | refine zB rfl ?_ | with_reducible (first | refine zC ?_ | refine zF ?_) | ((with_reducible refine yz mixd ?_ ?_); kernel_rfl))
      by_cases c1 : 0 ≤ w
      · have d1 : decide (w ≥ 0) = true := decide_eq_true c1
        have hwn : w < N.length := (eF (hV d (List.mem_of_getElem? hd)) hw.symm c1).1
        cases c2 : U j with
        | false =>
          rw [c2, if_neg (by simp)] at hnr
          rw [c2] at huy
          repeat (first | ((with_reducible refine zI ?_); refine zH rfl ?_) | ((with_reducible refine zO ?_); refine zm tbOk rfl rfl rfl ?_) | ((with_reducible refine zZ ?_); (first | refine zh rfl (by first | rfl | assumption) rfl ?_ | refine zi rfl (by first | rfl | assumption) rfl ?_)) | ((with_reducible refine zW ?_); refine zb tbOk rfl rfl rfl rfl (by assumption) ?_) | ((with_reducible refine zP ?_); refine zY rfl rfl (by omega) ?_)  | refine zJ ?_ | refine jD (by kernel_rfl) ?_ | refine zB rfl ?_ | refine zq rfl rfl (by first | rfl | assumption) ?_ | refine yH rfl rfl (by first | rfl | assumption) ?_ | with_reducible (first | refine zC ?_ | refine zd ?_ | refine zN ?_) | ((with_reducible refine zA ?_ ?_); kernel_rfl) | refine zy rfl (by first | rfl | assumption) ?_)
          exact ⟨j + 1, ⟨hlt, hnr⟩, by omega, ⟨rfl, rfl, rfl, rfl, rfl, rfl, rfl, rfl, trivial⟩, ⟨rfl, rfl, rfl, trivial⟩⟩
        | true =>
          rw [c2] at huy
          repeat (first | ((with_reducible refine zI ?_); refine zH rfl ?_) | ((with_reducible refine zO ?_); refine zm tbOk rfl rfl rfl ?_) | ((with_reducible refine zZ ?_); refine zh rfl (by first | rfl | assumption) rfl ?_) | ((with_reducible refine zW ?_); refine zb tbOk rfl rfl rfl rfl (by assumption) ?_)  | refine zB rfl ?_ | refine zq rfl rfl (by first | rfl | assumption) ?_  )
          (with_reducible refine zW ?_); refine yj tbOk fG rfl rfl rfl (by constructor <;> omega) ?_
          repeat (first   | refine zq rfl rfl (by first | rfl | assumption) ?_  )
          (with_reducible refine zO ?_); refine zL tbOk rfl rfl rfl rfl (iL (by omega)) ?_
          repeat (first | ((with_reducible refine zI ?_); refine zH rfl ?_)  | refine zq rfl rfl (by first | rfl | assumption) ?_  )
          (with_reducible refine zW ?_); refine yj tbOk fG rfl rfl rfl (by constructor <;> omega) ?_
          repeat (first   | refine zq rfl rfl (by first | rfl | assumption) ?_  )
          (with_reducible refine zO ?_); refine zL tbOk rfl rfl rfl rfl (iL (by rw [Int.toNat_natCast]; omega)) ?_
          repeat (first | ((with_reducible refine zZ ?_); refine zh rfl (by first | rfl | assumption) rfl ?_) | ((with_reducible refine zP ?_); (first | refine jb rfl rfl (by omega) ?_ | refine zS rfl rfl rfl ?_))  | refine jD (by kernel_rfl) ?_ | refine zB rfl ?_ | refine zq rfl rfl (by first | rfl | assumption) ?_ | with_reducible refine zC ?_ )
          refine zX rfl (fun c3 => ?_) (fun c3 => ?_)
          · have c3' : O.getD w.toNat 0 = O.getD (x : Int).toNat 0 - 1 := by simpa using c3
            rw [if_pos ⟨c1, c2, c3'⟩] at hnr
            injection hnr with hnr
            injection hnr with e1 e2
            subst e1
            rw [e2]
            repeat (first | ((with_reducible refine zI ?_); refine zH rfl ?_) | ((with_reducible refine yP ?_); refine yO tbOk rfl rfl rfl rfl rfl (by omega) rfl rfl rfl ?_) | refine zB rfl ?_ | with_reducible refine zF ?_ | ((with_reducible refine zA ?_ ?_); kernel_rfl))
            refine ye tbOk rfl rfl rfl rfl rfl (by decide) rfl rfl rfl rfl rfl (fun x hx => by simp at hx; subst hx; rfl) (by simp only [List.length_map, List.length_cons, List.length_nil]; omega) (by simp only [List.length_map, List.length_cons, List.length_nil]; omega) ?_
            repeat (first | ((with_reducible refine zI ?_); refine zH rfl ?_) | ((with_reducible refine zE ?_); refine zD rfl ?_)  | refine zJ ?_ | refine zB rfl ?_ | with_reducible (first | refine zC ?_ | refine ze ?_ | refine zd ?_ | refine zr ?_) | ((with_reducible refine za ?_ ?_); rfl) | ((with_reducible refine sD ?_ ?_); rfl) )
            exact ⟨(w0, k, E ++ [(j : Int)]), ⟨n4, by simp; omega, by rw [← ht1]; simp, ht2⟩, by show k < k + 1; omega, ⟨rfl, rfl, rfl, rfl, rfl, trivial⟩, ⟨rfl, rfl, jV (by rw [List.map_append]; rfl), trivial⟩⟩
          · have c3' : ¬ O.getD w.toNat 0 = O.getD (x : Int).toNat 0 - 1 := by simpa using c3
            rw [if_neg (fun h => c3' h.2.2)] at hnr
            repeat (first | ((with_reducible refine zI ?_); refine zH rfl ?_) | ((with_reducible refine zP ?_); refine zY rfl rfl (by omega) ?_)  | refine zJ ?_ | refine zB rfl ?_ | with_reducible (first | refine zC ?_ | refine zd ?_ | refine zN ?_) | ((with_reducible refine zA ?_ ?_); kernel_rfl))
            exact ⟨j + 1, ⟨hlt, hnr⟩, by omega, ⟨rfl, rfl, rfl, rfl, rfl, rfl, rfl, rfl, trivial⟩, ⟨rfl, rfl, rfl, trivial⟩⟩
      · have d1 : decide (w ≥ 0) = false := decide_eq_false (by omega)
        rw [if_neg (fun h => c1 h.1)] at hnr
        repeat (first | ((with_reducible refine zI ?_); refine zH rfl ?_) | ((with_reducible refine zZ ?_); refine zi rfl (by first | rfl | assumption) rfl ?_) | ((with_reducible refine zP ?_); refine zY rfl rfl (by omega) ?_)  | refine zJ ?_ | refine jD (by kernel_rfl) ?_ | refine zB rfl ?_ | refine yH rfl rfl (by first | rfl | assumption) ?_ | with_reducible (first | refine zC ?_ | refine zd ?_ | refine zN ?_) | ((with_reducible refine zA ?_ ?_); kernel_rfl) | refine zy rfl (by first | rfl | assumption) ?_)
        exact ⟨j + 1, ⟨hlt, hnr⟩, by omega, ⟨rfl, rfl, rfl, rfl, rfl, rfl, rfl, rfl, trivial⟩, ⟨rfl, rfl, rfl, trivial⟩⟩
    · have hge : ¬ j < V.length := by simpa using h
      rw [List.drop_of_length_le (by omega)] at hnr
      cases hnr
  · obtain rfl : k = 0 := by rw [hgx] at h; simpa using h
    rw [← ht1, ← ht2]
    have e1 : E ++ (qm U V O 0 x).1 = E := by simp [qm]
    rw [e1]
    repeat (first | ((with_reducible refine zI ?_); refine zH rfl ?_) | ((with_reducible refine zE ?_); refine zD rfl ?_)  | refine zJ ?_ | refine zB rfl ?_ | with_reducible (first | refine zC ?_ | refine ze ?_ | refine zF ?_ | refine zr ?_ | refine zQ ?_) | ((with_reducible refine za ?_ ?_); rfl) | ((with_reducible refine zA ?_ ?_); kernel_rfl))
    refine jx (by first | exact .inr rfl | exact .inl rfl) rfl rfl rfl ?_
    repeat' (first | exact trivial | exact Ren.v _ | exact Ren.own _ _ _ _ ⟨_, rfl⟩ | refine zz ?_ | refine ⟨?_, ?_⟩)
def wayP (U : Nat → Bool) (V : List Dv) (n : Nat) (x y : Int) : List Int × Bool :=
  if (flood U V n [y]).getD x.toNat 0 < 0 then ([], false) else ((qm U V (flood U V n [y]) ((flood U V n [y]).getD x.toNat 0).toNat x).1, true)
set_option maxHeartbeats 8000000 in
theorem way_A (N : List Nd) (V : List Dv) (us : List Bool) (U : Nat → Bool) (x y : Nat) (hG : GCls G) (hN : ∀ x ∈ N, x.n.size ≤ maxLen) (hVs : ∀ x ∈ V, x.n.size ≤ maxLen) (he : netE N V = 0) (hV : ∀ d ∈ V, yY d N.length = true) (hu : ∀ i, i < V.length → us[i]? = some (U i)) (hul : us.length = V.length) (hn : N.length ≤ 32) (hv : V.length ≤ 64) (hx : x < N.length) (hy : y < N.length) :
    zu Tryz.prog G 32 [qE N V, .sl 1 (bsv us), .v (.int .i64 (x : Nat)), .v (.int .i64 (y : Nat))] [] (.tu [.sl 1 ((wayP U V N.length x y).1.map iv), .v (.bool (wayP U V N.length x y).2), .v (.int .i64 0)]) [] := by
  have hvl : (V.map Dv.av).length = V.length := by simp
  have hbl : (bsv us).length = us.length := yr us
  have hL : ∀ v ∈ [(y : Int)], 0 ≤ v ∧ v < N.length := fun v hv => by simp at hv; subst hv; omega
  have hOl : (flood U V N.length [(y : Int)]).length = N.length := (jn (U := U) hV hL).ok.len
  have hnc := eG N V hG hN hVs (by unfold maxLen; omega) (by unfold maxLen; omega)
  rw [he] at hnc
  have hex := rE (G := G) N V x
  have hey := rE (G := G) N V y
  have t1 : (decide ((0 : Int) ≤ (x : Nat)) && decide (((x : Nat) : Int) < (N.length : Int))) = true := by simp; omega
  have t2 : (decide ((0 : Int) ≤ (y : Nat)) && decide (((y : Nat) : Int) < (N.length : Int))) = true := by simp; omega
  rw [t1] at hex
  rw [t2] at hey
  have hdi := dist_A (G := G) N V us U [(y : Int)] hV hu hL (by simp) (by simp) hn hv
  have htr := fun (k : Nat) => trail_A (G := G) N V us U [(y : Int)] x k hV hu hL hn hv
  unfold wayP
  have hlow : ∀ (z : Int), (flood U V N.length [(y : Int)])[x]? = some z → -1 ≤ z := fun z hz => (jn (U := U) hV hL).ok.low x z hz
  obtain ⟨O, hO⟩ : ∃ O, O = flood U V N.length [(y : Int)] := ⟨_, rfl⟩
  rw [← hO] at hOl hdi htr hlow ⊢
  refine zf tbOk (zM Tryz.func32 (by kernel_rfl) rfl) Tryz.func32 rfl _ Tryz.ntmps32 (Nat.le_of_ble_eq_true rfl) fun X hX => ?_
  subst hX
  repeat (first | ((with_reducible refine zE ?_); refine zD rfl ?_) | ((with_reducible refine zO ?_); refine zk tbOk rfl rfl rfl rfl (Nat.le_of_ble_eq_true rfl) ?_) | ((with_reducible refine yw ?_); refine yv rfl rfl rfl ?_)  | refine zJ ?_ | refine zB rfl ?_ | with_reducible (first | refine zC ?_ | refine zF ?_) | ((with_reducible refine zA ?_ ?_); kernel_rfl))
  refine zl (hnc) (by repeat' (first | exact trivial | exact Ren.sl _ _ | refine zn ?_ | refine ⟨?_, ?_⟩)) (by repeat' exact RenB.v _) ?_
  repeat (first | ((with_reducible refine zI ?_); refine zH rfl ?_) | ((with_reducible refine zE ?_); refine zD rfl ?_) | ((with_reducible refine zK ?_); refine zG tbOk rfl rfl rfl rfl ?_) | ((with_reducible refine zO ?_); refine zL tbOk rfl rfl rfl rfl rfl ?_) | ((with_reducible refine zp ?_); refine yU tbOk rfl rfl ?_) | ((with_reducible refine zP ?_); refine zS rfl rfl rfl ?_)  | refine zJ ?_ | refine zB rfl ?_ | with_reducible (first | refine zC ?_ | refine zF ?_ | refine zU ?_ | refine zN ?_) | ((with_reducible refine zA ?_ ?_); kernel_rfl) | refine zy rfl (by first | rfl | assumption) ?_)
  refine zX rfl (fun h => ?_) (fun h => ?_)
  · exfalso; rw [hbl, hvl, hul] at h; simp at h
  repeat (first | ((with_reducible refine zI ?_); refine zH rfl ?_) | ((with_reducible refine zO ?_); refine zk tbOk rfl rfl rfl rfl (Nat.le_of_ble_eq_true rfl) ?_)  | refine zB rfl ?_ | with_reducible refine zF ?_ | ((with_reducible refine zA ?_ ?_); kernel_rfl))
  refine zl (hex) (by repeat' (first | exact trivial | exact Ren.v _ | exact Ren.sl _ _ | refine zn ?_ | refine ⟨?_, ?_⟩)) (by repeat' exact RenB.v _) ?_
  repeat (first | ((with_reducible refine zI ?_); refine zH rfl ?_) | ((with_reducible refine zO ?_); refine zk tbOk rfl rfl rfl rfl (Nat.le_of_ble_eq_true rfl) ?_) | ((with_reducible refine k_un ?_); refine jL rfl ?_)  | refine zB rfl ?_ | refine zt rfl rfl (by first | rfl | assumption) ?_  )
  refine zl (hey) (by repeat' (first | exact trivial | exact Ren.v _ | exact Ren.sl _ _ | refine zn ?_ | refine ⟨?_, ?_⟩)) (by repeat' exact RenB.v _) ?_
  repeat (first | ((with_reducible refine zI ?_); refine zH rfl ?_) | ((with_reducible refine zE ?_); refine zD rfl ?_) | ((with_reducible refine zO ?_); refine zk tbOk rfl rfl rfl rfl (Nat.le_of_ble_eq_true rfl) ?_) | ((with_reducible refine k_un ?_); refine jL rfl ?_) | ((with_reducible refine zZ ?_); refine zi rfl (by first | rfl | assumption) rfl ?_) | ((with_reducible refine yP ?_); refine yO tbOk rfl rfl rfl rfl rfl (by omega) rfl rfl rfl ?_) | refine zJ ?_ | refine zB rfl ?_ | refine zt rfl rfl (by first | rfl | assumption) ?_ | with_reducible (first | refine zC ?_ | refine zd ?_ | refine zF ?_ | refine zN ?_) | ((with_reducible refine zA ?_ ?_); kernel_rfl) | refine zy rfl (by first | rfl | assumption) ?_)
  refine zl hdi (by repeat' (first | exact trivial | exact Ren.sl _ _ | refine zn ?_ | refine ⟨?_, ?_⟩)) (yi (fD (gE _))) ?_
  repeat (first | ((with_reducible refine jB ?_); refine jA tbOk rfl rfl ?_)  | refine zB rfl ?_  )
  with_reducible refine yN ?_
  refine iQ tbOk rfl rfl rfl rfl rfl (by rw [je, jz (by omega)]) (by rfl) (kO _) ?_
  repeat (first | ((with_reducible refine zI ?_); refine zH rfl ?_)  | refine zJ ?_ | refine zB rfl ?_ | with_reducible (first | refine zC ?_ | refine zF ?_) | ((with_reducible refine zA ?_ ?_); kernel_rfl))
  (with_reducible refine zW ?_); refine yj tbOk fG rfl rfl rfl (by constructor <;> omega) ?_
  repeat (first   | refine zB rfl ?_  )
  (with_reducible refine zO ?_); refine zL tbOk rfl rfl rfl rfl (iL (by rw [Int.toNat_natCast]; omega)) ?_
  repeat (first | ((with_reducible refine zP ?_); refine zS rfl rfl rfl ?_)  | refine zJ ?_ | refine zB rfl ?_ | with_reducible refine zC ?_ )
  refine zX rfl (fun h => ?_) (fun h => ?_)
  · rw [if_pos (by simpa using h)]
    repeat (first | ((with_reducible refine zE ?_); refine zD rfl ?_)  | refine zJ ?_ | refine zB rfl ?_ | with_reducible (first | refine zC ?_ | refine zR ?_ | refine zF ?_ | refine zQ ?_) | ((with_reducible refine zA ?_ ?_); kernel_rfl))
    refine ret0_3 (by first | exact .inr rfl | exact .inl rfl) rfl rfl rfl rfl ?_
    repeat' (first | exact trivial | exact Ren.v _ | exact Ren.nil _ | refine zz ?_ | refine ⟨?_, ?_⟩)
  · have h' : ¬ O.getD (x : Int).toNat 0 < 0 := by simpa using h
    rw [if_neg h']
    obtain ⟨z, hz⟩ := zT (L := O) (k := x) (by omega)
    have hgz : O.getD (x : Int).toNat 0 = z := by rw [Int.toNat_natCast]; exact getD_some hz
    obtain ⟨k, rfl⟩ := Int.eq_ofNat_of_zero_le (show 0 ≤ z by omega)
    have hT := htr k hz
    rw [hgz, Int.toNat_natCast]
    repeat (first | ((with_reducible refine zI ?_); refine zH rfl ?_) | ((with_reducible refine zO ?_); refine zk tbOk rfl rfl rfl rfl (Nat.le_of_ble_eq_true rfl) ?_)  | refine zB rfl ?_ | with_reducible (first | refine zC ?_ | refine zF ?_ | refine zN ?_) | ((with_reducible refine zA ?_ ?_); kernel_rfl))
    with_reducible refine zO ?_
    refine kU tbOk rfl rfl rfl rfl (by rw [je, jz (by omega)]) ?_
    repeat (first | ((with_reducible refine zI ?_); refine zH rfl ?_)  | refine zB rfl ?_  )
    refine zl hT ⟨by repeat' (first | exact trivial | exact Ren.sl _ _ | refine zn ?_ | refine ⟨?_, ?_⟩), by repeat' exact Ren.sl _ _, zn (jZ (gE _)), by repeat' exact Ren.v _, trivial⟩ (by repeat' (first | exact trivial | exact RenB.v _ | exact RenB.sl _ _ | refine yM ?_ | refine ⟨?_, ?_⟩)) ?_
    repeat (first | ((with_reducible refine zI ?_); refine zH rfl ?_) | ((with_reducible refine zE ?_); refine zD rfl ?_) | ((with_reducible refine jP ?_); refine jN rfl rfl ?_)  | refine zJ ?_ | refine zB rfl ?_ | with_reducible (first | refine zC ?_ | refine zF ?_ | refine zQ ?_) | ((with_reducible refine zA ?_ ?_); kernel_rfl))
    refine ret0_3 (by first | exact .inr rfl | exact .inl rfl) rfl rfl rfl rfl ?_
    repeat' (first | exact trivial | exact Ren.v _ | exact Ren.sl _ _ | refine zz ?_ | refine ⟨?_, ?_⟩)
end Go.Proofs.YtnafokinifbfhaaGreatDoor
