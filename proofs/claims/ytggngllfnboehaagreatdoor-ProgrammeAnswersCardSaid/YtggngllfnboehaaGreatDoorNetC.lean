/- network.Check and what it calls, by the abstract machine; conditions: the table of classes stands / network.Check, by the abstract machine; conditions: the table of classes stands / The reference's Check of networks (permitofficeref03), by the abstract machine: it says what network.Check says; conditions: none. -/
import Derived.Test.YtggngllfnboehaaGreatDoorAbsU
import Derived.Test.YtggngllfnboehaaGreatDoorLexA
import Derived.Test.YtggngllfnboehaaGreatDoorNetP
import Derived.Test.YtggngllfnboehaaGreatDoorAbsX
set_option linter.unusedVariables false
set_option linter.unusedSimpArgs false
namespace Go.Proofs.YtggngllfnboehaaGreatDoor
open Go Go.RowKit
set_option maxRecDepth 10000
variable {G : Nat → Option (List Value)}
def Nd.av (x : Nd) : AV := .ag [.v (.string x.n), .v (.int .i64 x.cu), .v (.int .i64 x.co)]
def Dv.av (d : Dv) : AV := .ag [.v (.string d.n), .v (.int .i64 d.k), .v (.int .i64 d.a), .v (.int .i64 d.b), .v (.int .i64 d.co)]
theorem bytes_beq (s n : ByteArray) : (s == n) = decide (s = n) := by
  obtain ⟨a⟩ := s
  obtain ⟨b⟩ := n
  show (a == b) = _
  by_cases h : a = b
  · subst h; simp
  · simp [h]
theorem qH (s : ByteArray) : ∀ U : List ByteArray, findL .string (.string s) (usedL U) = some (if jg U s = true then some (.bool true) else none)
  | [] => rfl
  | n :: U => by
    have ih := qH s U
    unfold usedL at ih ⊢
    rw [List.map_cons, findL]
    simp only [Instr.sameNow]
    by_cases h : s = n
    · subst h
      rw [bytes_beq]
      simp [jg]
    · rw [bytes_beq, decide_eq_false h]
      simp only [ih, jg, List.any_cons, decide_eq_false h, Bool.false_or]
      rfl
theorem comp_A (n : Int) : yF Tryz.prog G 50 [.v (.int .i64 n)] [] (.v (.bool (qA n))) [] := by
  refine zj tbOk (zn Tryz.func50 (by kernel_rfl) rfl) Tryz.func50 rfl _ Tryz.ntmps50 (Nat.le_of_ble_eq_true rfl) fun X hX => ?_
  subst hX
  repeat' (first | ((with_reducible refine zI ?_); refine zH rfl ?_) | ((with_reducible refine zE ?_); refine zD rfl ?_) | ((with_reducible refine zb ?_); refine zt rfl (by first | rfl | assumption) rfl ?_) | ((with_reducible refine zb ?_); refine zq rfl (by first | rfl | assumption) rfl ?_) | ((with_reducible refine zM ?_); refine zV rfl rfl rfl ?_)  | refine zJ ?_ | refine zB rfl ?_ | refine yK rfl rfl (by first | rfl | assumption) ?_ | refine yQ rfl rfl (by first | rfl | assumption) ?_ | with_reducible refine zC ?_ | with_reducible refine zF ?_ | with_reducible refine zU ?_ | ((with_reducible refine zA ?_ ?_); kernel_rfl) | refine yI rfl rfl (fun _ => ?_) (fun _ => ?_) | refine zm rfl (fun _ => ?_) (fun _ => ?_))
  all_goals refine yC (by first | exact .inr rfl | exact .inl rfl) rfl rfl ?_
  all_goals simp_all [qA]
  all_goals (intros; omega)
theorem joins_A (n : Int) : yF Tryz.prog G 66 [.v (.int .i64 n)] [] (.v (.bool (qo n))) [] := by
  refine zj tbOk (zn Tryz.func66 (by kernel_rfl) rfl) Tryz.func66 rfl _ Tryz.ntmps66 (Nat.le_of_ble_eq_true rfl) fun X hX => ?_
  subst hX
  repeat' (first | ((with_reducible refine zI ?_); refine zH rfl ?_) | ((with_reducible refine zE ?_); refine zD rfl ?_) | ((with_reducible refine zb ?_); refine zt rfl (by first | rfl | assumption) rfl ?_) | ((with_reducible refine zb ?_); refine zq rfl (by first | rfl | assumption) rfl ?_) | ((with_reducible refine zM ?_); refine zV rfl rfl rfl ?_)  | refine zJ ?_ | refine zB rfl ?_ | refine yK rfl rfl (by first | rfl | assumption) ?_ | refine yQ rfl rfl (by first | rfl | assumption) ?_ | with_reducible refine zC ?_ | with_reducible refine zF ?_ | with_reducible refine zU ?_ | ((with_reducible refine zA ?_ ?_); kernel_rfl) | refine yI rfl rfl (fun _ => ?_) (fun _ => ?_) | refine zm rfl (fun _ => ?_) (fun _ => ?_))
  all_goals refine yC (by first | exact .inr rfl | exact .inl rfl) rfl rfl ?_
  all_goals simp_all [qo]
  all_goals (intros; omega)
set_option maxHeartbeats 1000000 in
theorem ends_A (d : Dv) (m : Int) : yF Tryz.prog G 51 [d.av, .v (.int .i64 m)] [] (.v (.bool (qK d m))) [] := by
  refine zj tbOk (zn Tryz.func51 (by kernel_rfl) rfl) Tryz.func51 rfl _ Tryz.ntmps51 (Nat.le_of_ble_eq_true rfl) fun X hX => ?_
  subst hX
  repeat' (first | ((with_reducible refine zI ?_); refine zH rfl ?_) | ((with_reducible refine zE ?_); refine zD rfl ?_) | ((with_reducible refine zK ?_); refine zG tbOk rfl rfl rfl rfl ?_) | ((with_reducible refine zL ?_); refine zN tbOk rfl rfl rfl rfl rfl ?_) | ((with_reducible refine yj ?_); refine yi rfl rfl rfl ?_) | ((with_reducible refine zb ?_); refine zt rfl (by first | rfl | assumption) rfl ?_) | ((with_reducible refine zb ?_); refine zq rfl (by first | rfl | assumption) rfl ?_) | ((with_reducible refine zM ?_); refine zV rfl rfl rfl ?_)  | refine zJ ?_ | refine zB rfl ?_ | refine zv rfl rfl (by first | rfl | assumption) ?_ | refine yL rfl rfl (by first | rfl | assumption) ?_ | with_reducible refine zC ?_ | with_reducible refine zS ?_ | with_reducible refine zh ?_ | with_reducible refine zF ?_ | with_reducible refine zY ?_ | with_reducible refine zU ?_ | ((with_reducible refine zA ?_ ?_); kernel_rfl) | refine zg rfl (by first | rfl | assumption) ?_ | refine yI rfl rfl (fun _ => ?_) (fun _ => ?_) | refine zm rfl (fun _ => ?_) (fun _ => ?_))
  all_goals first
    | (fail_if_success with_reducible refine zu ?_
       skip)
    | (refine zo (joins_A d.k) (by repeat' (first | exact trivial | exact Ren.v _ | exact Ren.sl _ _ | exact Ren.ep _ | exact Ren.ptr _ _ _ _ rfl | exact Ren.bs _ _ _ _ _ rfl | exact Ren.nil _ | exact Ren.own _ _ _ _ ⟨_, rfl⟩ | refine zO ?_ | refine zQ ?_ | refine zP ?_ | refine ⟨?_, ?_⟩)) (by repeat' (first | exact trivial | exact RenB.v _ | exact RenB.sl _ _ | exact RenB.ep _ | exact RenB.ptr _ _ _ _ rfl | refine zW ?_ | refine zX ?_ | refine ⟨?_, ?_⟩)) ?_
       skip)
  all_goals repeat' (first | ((with_reducible refine zI ?_); refine zH rfl ?_) | ((with_reducible refine zE ?_); refine zD rfl ?_) | ((with_reducible refine zK ?_); refine zG tbOk rfl rfl rfl rfl ?_) | ((with_reducible refine zL ?_); refine zN tbOk rfl rfl rfl rfl rfl ?_) | ((with_reducible refine k_un ?_); refine yr rfl ?_) | ((with_reducible refine zb ?_); refine zt rfl (by first | rfl | assumption) rfl ?_) | ((with_reducible refine zb ?_); refine zq rfl (by first | rfl | assumption) rfl ?_) | ((with_reducible refine zM ?_); refine zV rfl rfl rfl ?_)  | refine zJ ?_ | refine zB rfl ?_ | refine yK rfl rfl (by first | rfl | assumption) ?_ | refine yQ rfl rfl (by first | rfl | assumption) ?_ | with_reducible refine zC ?_ | with_reducible refine zS ?_ | with_reducible refine zk ?_ | with_reducible refine zh ?_ | with_reducible refine zF ?_ | with_reducible refine zR ?_ | with_reducible refine zU ?_ | ((with_reducible refine zA ?_ ?_); kernel_rfl) | refine yI rfl rfl (fun _ => ?_) (fun _ => ?_) | refine zm rfl (fun _ => ?_) (fun _ => ?_))
  all_goals refine yC (by first | exact .inr rfl | exact .inl rfl) rfl rfl ?_
  all_goals refine congrArg (fun b => AV.v (.bool b)) ?_
  all_goals simp_all [qK]
  all_goals first
    | (intros; omega)
    | (rw [decide_eq_false (show ¬ d.a < 0 by omega), decide_eq_false (show ¬ m ≤ d.a by omega)]
       by_cases h9 : d.b = d.a <;> by_cases h10 : d.b = -1 <;> simp_all)
end Go.Proofs.YtggngllfnboehaaGreatDoor
namespace Go.Proofs.YtggngllfnboehaaGreatDoor
open Go Go.RowKit
set_option maxRecDepth 10000
variable {G : Nat → Option (List Value)}
theorem usedL_app (U : List ByteArray) (n : ByteArray) : usedL (U ++ [n]) = usedL U ++ [(.string n, .bool true)] := by
  unfold usedL
  rw [List.map_append]
  rfl
theorem zBool (w : World) : (zeroValue 4).run Tryz.prog w = .ok (.bool false) w := by
  kernel_rfl
theorem ndGo_at {U : List ByteArray} {N : List Nd} {k : Nat} {x : Nd} (h : N[k]? = some x) : ndGo U (N.drop k) = if je x.n.data.toList = false then 3 else if jg U x.n = true then 4 else if x.cu < 0 ∨ 1048576 < x.cu ∨ qA x.co = false then 5 else ndGo (U ++ [x.n]) (N.drop (k + 1)) := by
  rw [jE h]; rfl
theorem dvGo_at {m : Int} {U : List ByteArray} {V : List Dv} {k : Nat} {d : Dv} (h : V[k]? = some d) : dvGo m U (V.drop k) = if je d.n.data.toList = false then 3 else if jg U d.n = true then 4 else if d.k < 1 ∨ 6 < d.k then 6 else if qK d m = false then 7 else if qA d.co = false then 5 else dvGo m (U ++ [d.n]) (V.drop (k + 1)) := by
  rw [jE h]; rfl
def namesV (V : List Dv) (k : Nat) : List ByteArray := (V.take k).map Dv.n
theorem namesV_next {V : List Dv} {k : Nat} {x : Dv} (h : V[k]? = some x) : namesV V (k + 1) = namesV V k ++ [x.n] := by
  unfold namesV
  rw [List.take_add_one, h]
  simp
def qG (N : List Nd) (k : Nat) : List ByteArray := (N.take k).map Nd.n
theorem namesTo_next {N : List Nd} {k : Nat} {x : Nd} (h : N[k]? = some x) : qG N (k + 1) = qG N k ++ [x.n] := by
  unfold qG
  rw [List.take_add_one, h]
  simp
set_option maxHeartbeats 4000000 in
theorem netcheck_A (N : List Nd) (V : List Dv) (hG : GCls G) (hN : ∀ x ∈ N, x.n.size ≤ maxLen) (hV : ∀ x ∈ V, x.n.size ≤ maxLen) (h1 : N.length ≤ maxLen) (h2 : V.length ≤ maxLen) : yF Tryz.prog G 33 [.ag [.sl 3 (N.map Nd.av), .sl 5 (V.map Dv.av)]] [] (.v (.int .i64 (netE N V))) [] := by
  refine zj tbOk (zn Tryz.func33 (by kernel_rfl) rfl) Tryz.func33 rfl _ Tryz.ntmps33 (Nat.le_of_ble_eq_true rfl) fun X hX => ?_
  subst hX
  repeat (first | ((with_reducible refine zI ?_); refine zH rfl ?_) | ((with_reducible refine zE ?_); refine zD rfl ?_) | ((with_reducible refine zK ?_); refine zG tbOk rfl rfl rfl rfl ?_) | ((with_reducible refine zL ?_); refine zN tbOk rfl rfl rfl rfl rfl ?_) | ((with_reducible refine yj ?_); refine yi rfl rfl rfl ?_) | ((with_reducible refine zu ?_); refine yR tbOk rfl rfl ?_) | ((with_reducible refine zM ?_); refine zV rfl rfl rfl ?_)  | refine zJ ?_ | refine zB rfl ?_ | with_reducible refine zC ?_ | with_reducible refine zF ?_ | ((with_reducible refine zA ?_ ?_); kernel_rfl))
  refine yI rfl rfl (fun h => ?_) (fun h => ?_)
  · have h32 : 32 < N.length := by simp at h; omega
    repeat (first | ((with_reducible refine zE ?_); refine zD rfl ?_) | ((with_reducible refine zb ?_); refine zt rfl (by first | rfl | assumption) rfl ?_)  | refine zJ ?_ | refine zB rfl ?_ | refine yL rfl rfl (by first | rfl | assumption) ?_ | with_reducible refine zC ?_ | with_reducible refine zS ?_ | with_reducible refine zF ?_ | with_reducible refine zU ?_ | ((with_reducible refine zA ?_ ?_); kernel_rfl) | refine zg rfl (by first | rfl | assumption) ?_)
    refine yC (by first | exact .inr rfl | exact .inl rfl) rfl rfl ?_
    unfold netE
    rw [if_pos (.inl h32)]
  have h32 : ¬ 32 < N.length := by simp at h; omega
  repeat (first | ((with_reducible refine zK ?_); refine zG tbOk rfl rfl rfl rfl ?_) | ((with_reducible refine zL ?_); refine zN tbOk rfl rfl rfl rfl rfl ?_) | ((with_reducible refine zb ?_); refine zq rfl (by first | rfl | assumption) rfl ?_) | ((with_reducible refine zu ?_); refine yR tbOk rfl rfl ?_) | ((with_reducible refine zM ?_); refine zV rfl rfl rfl ?_)  | refine zJ ?_ | refine zB rfl ?_ | refine zv rfl rfl (by first | rfl | assumption) ?_ | with_reducible refine zC ?_ )
  refine zm rfl (fun h => ?_) (fun h => ?_)
  · have h64 : 64 < V.length := by simp at h; omega
    repeat (first | ((with_reducible refine zE ?_); refine zD rfl ?_)  | refine zJ ?_ | refine zB rfl ?_ | with_reducible refine zC ?_ | with_reducible refine zS ?_ | with_reducible refine zF ?_ | with_reducible refine zU ?_ | ((with_reducible refine zA ?_ ?_); kernel_rfl))
    refine yC (by first | exact .inr rfl | exact .inl rfl) rfl rfl ?_
    unfold netE
    rw [if_pos (.inr h64)]
  · have h64 : ¬ 64 < V.length := by simp at h; omega
    repeat (first   | refine zB rfl ?_ | with_reducible refine zC ?_ | with_reducible refine zF ?_ | with_reducible refine zR ?_ | ((with_reducible refine zA ?_ ?_); kernel_rfl))
    refine x_makeMap rfl ?_
    repeat (first | ((with_reducible refine zI ?_); refine zH rfl ?_) | ((with_reducible refine zE ?_); refine zD rfl ?_) | ((with_reducible refine zK ?_); refine zG tbOk rfl rfl rfl rfl ?_) | ((with_reducible refine zL ?_); refine zN tbOk rfl rfl rfl rfl rfl ?_) | ((with_reducible refine zu ?_); refine yR tbOk rfl rfl ?_)  | refine zJ ?_ | refine zB rfl ?_ | with_reducible refine zC ?_ | with_reducible refine zF ?_ | with_reducible refine zY ?_ | ((with_reducible refine zA ?_ ?_); kernel_rfl))
    refine yU (ι := Nat) (fun k => k ≤ N.length ∧ ndGo (qG N k) (N.drop k) = ndGo [] N) (fun k => N.length - k) (fun v k => [(1, .ptr 1 (v 1) 0), (3, .own 18 (v 18)), (20, .sl 3 (N.map Nd.av)), (21, .v (.int .i64 (N.map Nd.av).length)), (22, .v (.int .i64 k))]) (fun v k => [(1, .box [.sl 3 (N.map Nd.av), .sl 5 (V.map Dv.av)]), (18, .mp (usedL (qG N k)))]) ?_ ?_
    · exact ⟨0, ⟨Nat.zero_le _, rfl⟩, trivial, ⟨rfl, rfl, rfl, rfl, rfl, trivial⟩, ⟨rfl, rfl, trivial⟩⟩
    · rintro v k ⟨hk, hf⟩
      repeat (first | ((with_reducible refine zM ?_); refine zV rfl rfl rfl ?_)  | refine zJ ?_ | refine zB rfl ?_ | with_reducible refine zC ?_ | with_reducible refine zF ?_ | ((with_reducible refine zA ?_ ?_); kernel_rfl))
      refine zm rfl (fun h => ?_) (fun h => ?_)
      · have hlt : k < N.length := by simpa using h
        obtain ⟨x, hx⟩ := zl hlt
        have hy : (N.map Nd.av)[k]? = some x.av := by rw [List.getElem?_map, hx]; rfl
        rw [ndGo_at hx] at hf
        repeat (first | ((with_reducible refine zK ?_); refine zG tbOk rfl rfl rfl rfl ?_) | ((with_reducible refine zL ?_); refine zN tbOk rfl rfl rfl rfl rfl ?_) | ((with_reducible refine zL ?_); refine yT tbOk rfl rfl (Nat.le_of_ble_eq_true rfl) ?_) | ((with_reducible refine zd ?_); refine zf tbOk rfl rfl rfl rfl rfl rfl rfl (Nat.le_of_ble_eq_true rfl) rfl ?_) | ((with_reducible refine yA ?_); refine yB tbOk rfl rfl ?_) | ((with_reducible refine zT ?_); refine zZ tbOk rfl rfl rfl rfl (by assumption) ?_)  | refine zJ ?_ | refine zB rfl ?_ | with_reducible refine zC ?_ | with_reducible refine zF ?_ | with_reducible refine zY ?_ | with_reducible refine zR ?_ | ((with_reducible refine zA ?_ ?_); kernel_rfl))
        refine zo (name_A x.n hG (hN x (List.mem_of_getElem? hx))) (by repeat' (first | exact trivial | exact Ren.v _ | exact Ren.sl _ _ | exact Ren.ep _ | exact Ren.ptr _ _ _ _ rfl | exact Ren.bs _ _ _ _ _ rfl | exact Ren.nil _ | exact Ren.own _ _ _ _ ⟨_, rfl⟩ | refine zO ?_ | refine zQ ?_ | refine zP ?_ | refine ⟨?_, ?_⟩)) (by repeat' (first | exact trivial | exact RenB.v _ | exact RenB.sl _ _ | exact RenB.ep _ | exact RenB.ptr _ _ _ _ rfl | refine zW ?_ | refine zX ?_ | refine ⟨?_, ?_⟩)) ?_
        repeat (first | ((with_reducible refine zE ?_); refine zD rfl ?_) | ((with_reducible refine k_un ?_); refine yr rfl ?_)  | refine zJ ?_ | refine zB rfl ?_ | with_reducible refine zC ?_ )
        refine zm rfl (fun hE => ?_) (fun hE => ?_)
        · repeat (first | ((with_reducible refine zE ?_); refine zD rfl ?_)  | refine zJ ?_ | refine zB rfl ?_ | with_reducible refine zC ?_ | with_reducible refine zS ?_ | with_reducible refine zh ?_ | with_reducible refine zF ?_ | with_reducible refine zU ?_ | ((with_reducible refine zA ?_ ?_); kernel_rfl))
          refine yC (by first | exact .inr rfl | exact .inl rfl) rfl rfl ?_
          rw [if_pos (by simpa using hE)] at hf
          unfold netE
          rw [if_neg (by omega), if_pos (by rw [← hf]; decide), ← hf]
        · rw [if_neg (by simpa using hE)] at hf
          repeat (first | ((with_reducible refine zI ?_); refine zH rfl ?_) | ((with_reducible refine zK ?_); refine zG tbOk rfl rfl rfl rfl ?_) | ((with_reducible refine zL ?_); refine zN tbOk rfl rfl rfl rfl rfl ?_)  | refine zB rfl ?_ | with_reducible refine zF ?_ | ((with_reducible refine zA ?_ ?_); kernel_rfl))
          by_cases hU : jg (qG N k) x.n = true
          · refine x_lookup Tryz.underlying101 Tryz.underlying9 (by simp [MapKept.IsKey]) zBool rfl rfl rfl rfl ((qH x.n (qG N k)).trans (congrArg some (if_pos hU))) ?_
            repeat (first | ((with_reducible refine zE ?_); refine zD rfl ?_)  | refine zJ ?_ | refine zB rfl ?_ | with_reducible refine zC ?_ | with_reducible refine zS ?_ | with_reducible refine zh ?_ | with_reducible refine zF ?_ | with_reducible refine zU ?_ | ((with_reducible refine zA ?_ ?_); kernel_rfl) | refine zg rfl (by first | rfl | assumption) ?_)
            refine yC (by first | exact .inr rfl | exact .inl rfl) rfl rfl ?_
            rw [if_pos hU] at hf
            unfold netE
            rw [if_neg (by omega), if_pos (by rw [← hf]; decide), ← hf]
          · rw [if_neg hU] at hf
            refine x_lookup Tryz.underlying101 Tryz.underlying9 (by simp [MapKept.IsKey]) zBool rfl rfl rfl rfl ((qH x.n (qG N k)).trans (congrArg some (if_neg hU))) ?_
            repeat (first | ((with_reducible refine zI ?_); refine zH rfl ?_) | ((with_reducible refine zE ?_); refine zD rfl ?_) | ((with_reducible refine zK ?_); refine zG tbOk rfl rfl rfl rfl ?_) | ((with_reducible refine zL ?_); refine zN tbOk rfl rfl rfl rfl rfl ?_) | ((with_reducible refine zM ?_); refine zV rfl rfl rfl ?_)  | refine zJ ?_ | refine zB rfl ?_ | with_reducible refine zC ?_ | with_reducible refine zF ?_ | ((with_reducible refine zA ?_ ?_); kernel_rfl) | refine zp rfl (by first | rfl | assumption) ?_)
            refine yI rfl rfl (fun c1 => ?_) (fun c1 => ?_)
            · repeat (first | ((with_reducible refine zI ?_); refine zH rfl ?_) | ((with_reducible refine zE ?_); refine zD rfl ?_) | ((with_reducible refine zb ?_); refine zt rfl (by first | rfl | assumption) rfl ?_)  | refine zJ ?_ | refine zB rfl ?_ | refine yL rfl rfl (by first | rfl | assumption) ?_ | with_reducible refine zC ?_ | with_reducible refine zS ?_ | with_reducible refine zh ?_ | with_reducible refine zF ?_ | with_reducible refine zU ?_ | ((with_reducible refine zA ?_ ?_); kernel_rfl) | refine zg rfl (by first | rfl | assumption) ?_)
              refine yC (by first | exact .inr rfl | exact .inl rfl) rfl rfl ?_
              rw [if_pos (.inl (by simpa using c1))] at hf
              unfold netE
              rw [if_neg (by omega), if_pos (by rw [← hf]; decide), ← hf]
            · repeat (first | ((with_reducible refine zI ?_); refine zH rfl ?_) | ((with_reducible refine zK ?_); refine zG tbOk rfl rfl rfl rfl ?_) | ((with_reducible refine zL ?_); refine zN tbOk rfl rfl rfl rfl rfl ?_) | ((with_reducible refine zb ?_); refine zq rfl (by first | rfl | assumption) rfl ?_) | ((with_reducible refine zM ?_); refine zV rfl rfl rfl ?_)  | refine zB rfl ?_ | refine zv rfl rfl (by first | rfl | assumption) ?_  )
              refine yI rfl rfl (fun c2 => ?_) (fun c2 => ?_)
              · repeat (first | ((with_reducible refine zE ?_); refine zD rfl ?_) | ((with_reducible refine zb ?_); refine zt rfl (by first | rfl | assumption) rfl ?_)  | refine zJ ?_ | refine zB rfl ?_ | refine yL rfl rfl (by first | rfl | assumption) ?_ | with_reducible refine zC ?_ | with_reducible refine zS ?_ | with_reducible refine zh ?_ | with_reducible refine zF ?_ | with_reducible refine zU ?_ | ((with_reducible refine zA ?_ ?_); kernel_rfl) | refine zg rfl (by first | rfl | assumption) ?_)
                refine yC (by first | exact .inr rfl | exact .inl rfl) rfl rfl ?_
                rw [if_pos (.inr (.inl (by simpa using c2)))] at hf
                unfold netE
                rw [if_neg (by omega), if_pos (by rw [← hf]; decide), ← hf]
              · repeat (first | ((with_reducible refine zK ?_); refine zG tbOk rfl rfl rfl rfl ?_) | ((with_reducible refine zL ?_); refine zN tbOk rfl rfl rfl rfl rfl ?_)  | refine zv rfl rfl (by first | rfl | assumption) ?_  )
                refine zo (comp_A x.co) (by repeat' (first | exact trivial | exact Ren.v _ | exact Ren.sl _ _ | exact Ren.ep _ | exact Ren.ptr _ _ _ _ rfl | exact Ren.bs _ _ _ _ _ rfl | exact Ren.nil _ | exact Ren.own _ _ _ _ ⟨_, rfl⟩ | refine zO ?_ | refine zQ ?_ | refine zP ?_ | refine ⟨?_, ?_⟩)) (by repeat' (first | exact trivial | exact RenB.v _ | exact RenB.sl _ _ | exact RenB.ep _ | exact RenB.ptr _ _ _ _ rfl | refine zW ?_ | refine zX ?_ | refine ⟨?_, ?_⟩)) ?_
                repeat (first | ((with_reducible refine zE ?_); refine zD rfl ?_) | ((with_reducible refine k_un ?_); refine yr rfl ?_) | ((with_reducible refine zb ?_); refine zq rfl (by first | rfl | assumption) rfl ?_)  | refine zJ ?_ | refine zB rfl ?_ | refine zv rfl rfl (by first | rfl | assumption) ?_ | with_reducible refine zC ?_ )
                refine zm rfl (fun c3 => ?_) (fun c3 => ?_)
                · repeat (first | ((with_reducible refine zE ?_); refine zD rfl ?_)  | refine zJ ?_ | refine zB rfl ?_ | with_reducible refine zC ?_ | with_reducible refine zS ?_ | with_reducible refine zh ?_ | with_reducible refine zF ?_ | with_reducible refine zU ?_ | ((with_reducible refine zA ?_ ?_); kernel_rfl))
                  refine yC (by first | exact .inr rfl | exact .inl rfl) rfl rfl ?_
                  rw [if_pos (.inr (.inr (by simpa using c3)))] at hf
                  unfold netE
                  rw [if_neg (by omega), if_pos (by rw [← hf]; decide), ← hf]
                · have c1' : ¬ x.cu < 0 := by simpa using c1
                  have c2' : ¬ 1048576 < x.cu := by simpa using c2
                  have c3' : ¬ qA x.co = false := by simpa using c3
                  rw [if_neg (by rintro (h | h | h) <;> contradiction)] at hf
                  repeat (first | ((with_reducible refine zI ?_); refine zH rfl ?_) | ((with_reducible refine zK ?_); refine zG tbOk rfl rfl rfl rfl ?_) | ((with_reducible refine zL ?_); refine zN tbOk rfl rfl rfl rfl rfl ?_)  | refine zB rfl ?_ | with_reducible refine zC ?_ | with_reducible refine zk ?_ | with_reducible refine zR ?_ | ((with_reducible refine zA ?_ ?_); kernel_rfl))
                  refine x_mapPush Tryz.underlying101 Tryz.underlying9 (by simp [MapKept.IsKey]) rfl rfl rfl rfl rfl ((qH x.n (qG N k)).trans (congrArg some (if_neg hU))) ?_
                  repeat (first | ((with_reducible refine zI ?_); refine zH rfl ?_) | ((with_reducible refine zM ?_); refine ze rfl rfl (by omega) ?_)  | refine zJ ?_ | refine zB rfl ?_ | with_reducible refine zC ?_ | with_reducible refine zk ?_ | ((with_reducible refine zA ?_ ?_); kernel_rfl))
                  refine ⟨k + 1, ⟨by omega, by rw [namesTo_next hx]; exact hf⟩, by omega, ⟨rfl, rfl, rfl, rfl, rfl, trivial⟩, ⟨rfl, ?_, trivial⟩⟩
                  rw [namesTo_next hx, usedL_app]
                  rfl
      · have hlt : ¬ k < N.length := by simpa using h
        have hk' : k = N.length := by omega
        subst hk'
        have hn0 : ndGo [] N = 0 := by rw [← hf, List.drop_of_length_le (Nat.le_refl _)]; rfl
        have eV : netE N V = dvGo N.length (N.map Nd.n) V := by
          unfold netE
          rw [if_neg (by omega), if_neg (by simp [hn0])]
        rw [eV, show N.map Nd.n = qG N N.length by unfold qG; rw [List.take_length]]
        generalize qG N N.length = U
        repeat (first | ((with_reducible refine zI ?_); refine zH rfl ?_) | ((with_reducible refine zK ?_); refine zG tbOk rfl rfl rfl rfl ?_) | ((with_reducible refine zL ?_); refine zN tbOk rfl rfl rfl rfl rfl ?_) | ((with_reducible refine zu ?_); refine yR tbOk rfl rfl ?_)  | refine zJ ?_ | refine zB rfl ?_ | with_reducible refine zC ?_ | with_reducible refine zw ?_ | with_reducible refine zF ?_ | with_reducible refine zY ?_ | with_reducible refine yJ ?_ | ((with_reducible refine zr ?_ ?_); rfl) | ((with_reducible refine zA ?_ ?_); kernel_rfl))
        refine yU (ι := Nat) (fun k => k ≤ V.length ∧ dvGo N.length (U ++ namesV V k) (V.drop k) = dvGo N.length U V) (fun k => V.length - k) (fun v k => [(1, .ptr 1 (v 1) 0), (3, .own 18 (v 18)), (56, .sl 5 (V.map Dv.av)), (57, .v (.int .i64 (V.map Dv.av).length)), (58, .v (.int .i64 k))]) (fun v k => [(1, .box [.sl 3 (N.map Nd.av), .sl 5 (V.map Dv.av)]), (18, .mp (usedL (U ++ namesV V k)))]) ?_ ?_
        · exact ⟨0, ⟨Nat.zero_le _, by simp [namesV]⟩, trivial, ⟨rfl, rfl, rfl, rfl, rfl, trivial⟩, ⟨rfl, by rw [show U ++ namesV V 0 = U by simp [namesV]]; rfl, trivial⟩⟩
        · rintro v k ⟨hk, hg⟩
          repeat (first | ((with_reducible refine zM ?_); refine zV rfl rfl rfl ?_)  | refine zJ ?_ | refine zB rfl ?_ | with_reducible refine zC ?_ | with_reducible refine zF ?_ | ((with_reducible refine zA ?_ ?_); kernel_rfl))
          refine zm rfl (fun h => ?_) (fun h => ?_)
          · have hlt : k < V.length := by simpa using h
            obtain ⟨d, hx⟩ := zl hlt
            have hy : (V.map Dv.av)[k]? = some d.av := by rw [List.getElem?_map, hx]; rfl
            rw [dvGo_at hx] at hg
            repeat (first | ((with_reducible refine zK ?_); refine zG tbOk rfl rfl rfl rfl ?_) | ((with_reducible refine zL ?_); refine zN tbOk rfl rfl rfl rfl rfl ?_) | ((with_reducible refine zL ?_); refine yT tbOk rfl rfl (Nat.le_of_ble_eq_true rfl) ?_) | ((with_reducible refine zd ?_); refine zf tbOk rfl rfl rfl rfl rfl rfl rfl (Nat.le_of_ble_eq_true rfl) rfl ?_) | ((with_reducible refine yA ?_); refine yB tbOk rfl rfl ?_) | ((with_reducible refine zT ?_); refine zZ tbOk rfl rfl rfl rfl (by assumption) ?_)  | refine zJ ?_ | refine zB rfl ?_ | with_reducible refine zC ?_ | with_reducible refine zF ?_ | with_reducible refine zY ?_ | with_reducible refine zR ?_ | ((with_reducible refine zA ?_ ?_); kernel_rfl))
            refine zo (name_A d.n hG (hV d (List.mem_of_getElem? hx))) (by repeat' (first | exact trivial | exact Ren.v _ | exact Ren.sl _ _ | exact Ren.ep _ | exact Ren.ptr _ _ _ _ rfl | exact Ren.bs _ _ _ _ _ rfl | exact Ren.nil _ | exact Ren.own _ _ _ _ ⟨_, rfl⟩ | refine zO ?_ | refine zQ ?_ | refine zP ?_ | refine ⟨?_, ?_⟩)) (by repeat' (first | exact trivial | exact RenB.v _ | exact RenB.sl _ _ | exact RenB.ep _ | exact RenB.ptr _ _ _ _ rfl | refine zW ?_ | refine zX ?_ | refine ⟨?_, ?_⟩)) ?_
            repeat (first | ((with_reducible refine zE ?_); refine zD rfl ?_) | ((with_reducible refine k_un ?_); refine yr rfl ?_)  | refine zJ ?_ | refine zB rfl ?_ | with_reducible refine zC ?_ )
            refine zm rfl (fun hE => ?_) (fun hE => ?_)
            · repeat (first | ((with_reducible refine zE ?_); refine zD rfl ?_)  | refine zJ ?_ | refine zB rfl ?_ | with_reducible refine zC ?_ | with_reducible refine zS ?_ | with_reducible refine zh ?_ | with_reducible refine zF ?_ | with_reducible refine zU ?_ | ((with_reducible refine zA ?_ ?_); kernel_rfl))
              refine yC (by first | exact .inr rfl | exact .inl rfl) rfl rfl ?_
              rw [if_pos (by simpa using hE)] at hg
              rw [← hg]
            · rw [if_neg (by simpa using hE)] at hg
              repeat (first | ((with_reducible refine zI ?_); refine zH rfl ?_) | ((with_reducible refine zK ?_); refine zG tbOk rfl rfl rfl rfl ?_) | ((with_reducible refine zL ?_); refine zN tbOk rfl rfl rfl rfl rfl ?_)  | refine zB rfl ?_ | with_reducible refine zF ?_ | ((with_reducible refine zA ?_ ?_); kernel_rfl))
              by_cases hU : jg (U ++ namesV V k) d.n = true
              · refine x_lookup Tryz.underlying101 Tryz.underlying9 (by simp [MapKept.IsKey]) zBool rfl rfl rfl rfl ((qH d.n _).trans (congrArg some (if_pos hU))) ?_
                repeat (first | ((with_reducible refine zE ?_); refine zD rfl ?_)  | refine zJ ?_ | refine zB rfl ?_ | with_reducible refine zC ?_ | with_reducible refine zS ?_ | with_reducible refine zh ?_ | with_reducible refine zF ?_ | with_reducible refine zU ?_ | ((with_reducible refine zA ?_ ?_); kernel_rfl) | refine zg rfl (by first | rfl | assumption) ?_)
                refine yC (by first | exact .inr rfl | exact .inl rfl) rfl rfl ?_
                rw [if_pos hU] at hg
                rw [← hg]
              · rw [if_neg hU] at hg
                refine x_lookup Tryz.underlying101 Tryz.underlying9 (by simp [MapKept.IsKey]) zBool rfl rfl rfl rfl ((qH d.n _).trans (congrArg some (if_neg hU))) ?_
                repeat (first | ((with_reducible refine zI ?_); refine zH rfl ?_) | ((with_reducible refine zE ?_); refine zD rfl ?_) | ((with_reducible refine zK ?_); refine zG tbOk rfl rfl rfl rfl ?_) | ((with_reducible refine zL ?_); refine zN tbOk rfl rfl rfl rfl rfl ?_) | ((with_reducible refine zM ?_); refine zV rfl rfl rfl ?_)  | refine zJ ?_ | refine zB rfl ?_ | with_reducible refine zC ?_ | with_reducible refine zF ?_ | ((with_reducible refine zA ?_ ?_); kernel_rfl) | refine zp rfl (by first | rfl | assumption) ?_)
                refine yI rfl rfl (fun c1 => ?_) (fun c1 => ?_)
                · repeat (first | ((with_reducible refine zE ?_); refine zD rfl ?_) | ((with_reducible refine zb ?_); refine zt rfl (by first | rfl | assumption) rfl ?_)  | refine zJ ?_ | refine zB rfl ?_ | refine yL rfl rfl (by first | rfl | assumption) ?_ | with_reducible refine zC ?_ | with_reducible refine zS ?_ | with_reducible refine zh ?_ | with_reducible refine zF ?_ | with_reducible refine zU ?_ | ((with_reducible refine zA ?_ ?_); kernel_rfl) | refine zg rfl (by first | rfl | assumption) ?_)
                  refine yC (by first | exact .inr rfl | exact .inl rfl) rfl rfl ?_
                  rw [if_pos (.inl (by simpa using c1))] at hg
                  rw [← hg]
                · repeat (first | ((with_reducible refine zE ?_); refine zD rfl ?_) | ((with_reducible refine zK ?_); refine zG tbOk rfl rfl rfl rfl ?_) | ((with_reducible refine zL ?_); refine zN tbOk rfl rfl rfl rfl rfl ?_) | ((with_reducible refine zb ?_); refine zq rfl (by first | rfl | assumption) rfl ?_) | ((with_reducible refine zM ?_); refine zV rfl rfl rfl ?_)  | refine zJ ?_ | refine zB rfl ?_ | refine zv rfl rfl (by first | rfl | assumption) ?_ | with_reducible refine zC ?_ )
                  refine zm rfl (fun c2 => ?_) (fun c2 => ?_)
                  · repeat (first | ((with_reducible refine zE ?_); refine zD rfl ?_)  | refine zJ ?_ | refine zB rfl ?_ | with_reducible refine zC ?_ | with_reducible refine zS ?_ | with_reducible refine zh ?_ | with_reducible refine zF ?_ | with_reducible refine zU ?_ | ((with_reducible refine zA ?_ ?_); kernel_rfl))
                    refine yC (by first | exact .inr rfl | exact .inl rfl) rfl rfl ?_
                    rw [if_pos (.inr (by simpa using c2))] at hg
                    rw [← hg]
                  · have c1' : ¬ d.k < 1 := by simpa using c1
                    have c2' : ¬ 6 < d.k := by simpa using c2
                    rw [if_neg (by omega)] at hg
                    repeat (first | ((with_reducible refine zK ?_); refine zG tbOk rfl rfl rfl rfl ?_) | ((with_reducible refine zL ?_); refine zN tbOk rfl rfl rfl rfl rfl ?_) | ((with_reducible refine zL ?_); refine zc tbOk rfl rfl rfl rfl (Nat.le_of_ble_eq_true rfl) ?_) | ((with_reducible refine zu ?_); refine yR tbOk rfl rfl ?_)  | refine zB rfl ?_ | with_reducible refine zF ?_ | ((with_reducible refine zA ?_ ?_); kernel_rfl))
                    have hln : ((N.map Nd.av).length : Int) = N.length := by simp
                    have hE2 := ends_A (G := X.G) d ((N.map Nd.av).length : Int)
                    rw [hln] at hE2
                    refine zo (ends_A d ((N.map Nd.av).length : Int)) (by repeat' (first | exact trivial | exact Ren.v _ | exact Ren.sl _ _ | exact Ren.ep _ | exact Ren.ptr _ _ _ _ rfl | exact Ren.bs _ _ _ _ _ rfl | exact Ren.nil _ | exact Ren.own _ _ _ _ ⟨_, rfl⟩ | refine zO ?_ | refine zQ ?_ | refine zP ?_ | refine ⟨?_, ?_⟩)) (by repeat' (first | exact trivial | exact RenB.v _ | exact RenB.sl _ _ | exact RenB.ep _ | exact RenB.ptr _ _ _ _ rfl | refine zW ?_ | refine zX ?_ | refine ⟨?_, ?_⟩)) ?_
                    repeat (first | ((with_reducible refine zE ?_); refine zD rfl ?_) | ((with_reducible refine k_un ?_); refine yr rfl ?_)  | refine zJ ?_ | refine zB rfl ?_ | with_reducible refine zC ?_ )
                    refine zm rfl (fun c3 => ?_) (fun c3 => ?_)
                    · repeat (first | ((with_reducible refine zE ?_); refine zD rfl ?_)  | refine zJ ?_ | refine zB rfl ?_ | with_reducible refine zC ?_ | with_reducible refine zS ?_ | with_reducible refine zh ?_ | with_reducible refine zF ?_ | with_reducible refine zU ?_ | ((with_reducible refine zA ?_ ?_); kernel_rfl))
                      refine yC (by first | exact .inr rfl | exact .inl rfl) rfl rfl ?_
                      rw [if_pos (by simpa using c3)] at hg
                      rw [← hg]
                    · rw [if_neg (by simpa using c3)] at hg
                      repeat (first | ((with_reducible refine zK ?_); refine zG tbOk rfl rfl rfl rfl ?_) | ((with_reducible refine zL ?_); refine zN tbOk rfl rfl rfl rfl rfl ?_)  | refine zB rfl ?_ | with_reducible refine zF ?_ | ((with_reducible refine zA ?_ ?_); kernel_rfl))
                      refine zo (comp_A d.co) (by repeat' (first | exact trivial | exact Ren.v _ | exact Ren.sl _ _ | exact Ren.ep _ | exact Ren.ptr _ _ _ _ rfl | exact Ren.bs _ _ _ _ _ rfl | exact Ren.nil _ | exact Ren.own _ _ _ _ ⟨_, rfl⟩ | refine zO ?_ | refine zQ ?_ | refine zP ?_ | refine ⟨?_, ?_⟩)) (by repeat' (first | exact trivial | exact RenB.v _ | exact RenB.sl _ _ | exact RenB.ep _ | exact RenB.ptr _ _ _ _ rfl | refine zW ?_ | refine zX ?_ | refine ⟨?_, ?_⟩)) ?_
                      repeat (first | ((with_reducible refine zE ?_); refine zD rfl ?_) | ((with_reducible refine k_un ?_); refine yr rfl ?_)  | refine zJ ?_ | refine zB rfl ?_ | with_reducible refine zC ?_ )
                      refine zm rfl (fun c4 => ?_) (fun c4 => ?_)
                      · repeat (first | ((with_reducible refine zE ?_); refine zD rfl ?_)  | refine zJ ?_ | refine zB rfl ?_ | with_reducible refine zC ?_ | with_reducible refine zS ?_ | with_reducible refine zh ?_ | with_reducible refine zF ?_ | with_reducible refine zU ?_ | ((with_reducible refine zA ?_ ?_); kernel_rfl))
                        refine yC (by first | exact .inr rfl | exact .inl rfl) rfl rfl ?_
                        rw [if_pos (by simpa using c4)] at hg
                        rw [← hg]
                      · rw [if_neg (by simpa using c4)] at hg
                        repeat (first | ((with_reducible refine zI ?_); refine zH rfl ?_) | ((with_reducible refine zK ?_); refine zG tbOk rfl rfl rfl rfl ?_) | ((with_reducible refine zL ?_); refine zN tbOk rfl rfl rfl rfl rfl ?_)  | refine zB rfl ?_ | with_reducible refine zC ?_ | with_reducible refine zk ?_ | with_reducible refine zR ?_ | ((with_reducible refine zA ?_ ?_); kernel_rfl))
                        refine x_mapPush Tryz.underlying101 Tryz.underlying9 (by simp [MapKept.IsKey]) rfl rfl rfl rfl rfl ((qH d.n _).trans (congrArg some (if_neg hU))) ?_
                        repeat (first | ((with_reducible refine zI ?_); refine zH rfl ?_) | ((with_reducible refine zM ?_); refine ze rfl rfl (by omega) ?_)  | refine zJ ?_ | refine zB rfl ?_ | with_reducible refine zC ?_ | with_reducible refine zk ?_ | ((with_reducible refine zA ?_ ?_); kernel_rfl))
                        refine ⟨k + 1, ⟨by omega, by rw [namesV_next hx, ← List.append_assoc]; exact hg⟩, by omega, ⟨rfl, rfl, rfl, rfl, rfl, trivial⟩, ⟨rfl, ?_, trivial⟩⟩
                        rw [namesV_next hx, ← List.append_assoc, usedL_app]
                        rfl
          · have hlt : ¬ k < V.length := by simpa using h
            repeat (first | ((with_reducible refine zE ?_); refine zD rfl ?_)  | refine zJ ?_ | refine zB rfl ?_ | with_reducible refine zC ?_ | with_reducible refine zw ?_ | with_reducible refine zF ?_ | with_reducible refine yJ ?_ | with_reducible refine zU ?_ | ((with_reducible refine zr ?_ ?_); rfl) | ((with_reducible refine zA ?_ ?_); kernel_rfl))
            refine yC (by first | exact .inr rfl | exact .inl rfl) rfl rfl ?_
            rw [List.drop_of_length_le (by omega)] at hg
            rw [← hg]; rfl
end Go.Proofs.YtggngllfnboehaaGreatDoor
namespace Go.Proofs.YtggngllfnboehaaGreatDoor
open Go Go.RowKit
set_option maxRecDepth 10000
variable {G : Nat → Option (List Value)}
theorem rndGo_at {U : List ByteArray} {N : List Nd} {k : Nat} {x : Nd} (h : N[k]? = some x) : ndGo U (N.drop k) = if je x.n.data.toList = false then 3 else if jg U x.n = true then 4 else if x.cu < 0 ∨ 1048576 < x.cu ∨ qA x.co = false then 5 else ndGo (U ++ [x.n]) (N.drop (k + 1)) := by
  rw [jE h]; rfl
theorem rdvGo_at {m : Int} {U : List ByteArray} {V : List Dv} {k : Nat} {d : Dv} (h : V[k]? = some d) : dvGo m U (V.drop k) = if je d.n.data.toList = false then 3 else if jg U d.n = true then 4 else if d.k < 1 ∨ 6 < d.k then 6 else if qK d m = false then 7 else if qA d.co = false then 5 else dvGo m (U ++ [d.n]) (V.drop (k + 1)) := by
  rw [jE h]; rfl
def vNames (V : List Dv) (k : Nat) : List ByteArray := (V.take k).map Dv.n
theorem vNames_next {V : List Dv} {k : Nat} {x : Dv} (h : V[k]? = some x) : vNames V (k + 1) = vNames V k ++ [x.n] := by
  unfold vNames
  rw [List.take_add_one, h]
  simp
def qp (N : List Nd) (k : Nat) : List ByteArray := (N.take k).map Nd.n
theorem nNames_next {N : List Nd} {k : Nat} {x : Nd} (h : N[k]? = some x) : qp N (k + 1) = qp N k ++ [x.n] := by
  unfold qp
  rw [List.take_add_one, h]
  simp
theorem usedB_app (U W : List ByteArray) (s : ByteArray) : jg (U ++ W) s = (jg U s || jg W s) := by unfold jg; rw [List.any_append]
theorem usedB_one (n s : ByteArray) : jg [n] s = decide (s = n) := by unfold jg; simp
theorem strEq_dec' (a b : ByteArray) : yh a b = decide (a = b) := by
  cases h : yh a b
  · exact (decide_eq_false (fun e => by rw [jh.2 e] at h; cases h)).symm
  · exact (decide_eq_true (jh.1 h)).symm
theorem usedN {N : List Nd} {i k : Nat} (hki : k ≤ i) {s : ByteArray} {y : Nd} (hy : N[k]? = some y) (h : s = y.n) (hk : k < i) : jg (qp N i) s = true := by
  unfold jg qp
  rw [List.any_map, List.any_eq_true]
  refine ⟨y, ?_, by simpa using h⟩
  exact List.mem_of_getElem? (show (N.take i)[k]? = some y by rw [List.getElem?_take, if_pos hk]; exact hy)
theorem usedV {V : List Dv} {i k : Nat} {s : ByteArray} {y : Dv} (hy : V[k]? = some y) (h : s = y.n) (hk : k < i) : jg (vNames V i) s = true := by
  unfold jg vNames
  rw [List.any_map, List.any_eq_true]
  refine ⟨y, ?_, by simpa using h⟩
  exact List.mem_of_getElem? (show (V.take i)[k]? = some y by rw [List.getElem?_take, if_pos hk]; exact hy)
theorem joinsB_or (n : Int) : qo n = (decide (n = 1) || decide (n = 2) || decide (n = 3)) := by
  unfold qo
  by_cases h1 : n = 1
  · subst h1; rfl
  by_cases h2 : n = 2
  · subst h2; rfl
  by_cases h3 : n = 3
  · subst h3; rfl
  rw [decide_eq_false h1, decide_eq_false h2, decide_eq_false h3]
  by_cases h : 1 ≤ n
  · rw [decide_eq_false (show ¬ n ≤ 3 by omega), Bool.and_false]; rfl
  · rw [decide_eq_false h]; rfl
theorem rjoins_A (n : Int) : yF Tryz.prog G 45 [.v (.int .i64 n)] [] (.v (.bool (qo n))) [] := by
  rw [joinsB_or]
  refine zj tbOk (zn Tryz.func45 (by kernel_rfl) rfl) Tryz.func45 rfl _ Tryz.ntmps45 (Nat.le_of_ble_eq_true rfl) fun X hX => ?_
  subst hX
  repeat' (first | ((with_reducible refine zI ?_); refine zH rfl ?_) | ((with_reducible refine zE ?_); refine zD rfl ?_) | ((with_reducible refine zb ?_); refine zt rfl (by first | rfl | assumption) rfl ?_) | ((with_reducible refine zb ?_); refine zq rfl (by first | rfl | assumption) rfl ?_) | ((with_reducible refine zM ?_); refine zV rfl rfl rfl ?_)  | refine zJ ?_ | refine zB rfl ?_ | refine zv rfl rfl (by first | rfl | assumption) ?_ | refine yL rfl rfl (by first | rfl | assumption) ?_ | with_reducible refine zC ?_ | with_reducible refine zF ?_ | with_reducible refine zU ?_ | ((with_reducible refine zA ?_ ?_); kernel_rfl) | refine yI rfl rfl (fun _ => ?_) (fun _ => ?_) | refine zm rfl (fun _ => ?_) (fun _ => ?_))
  all_goals refine yC (by first | exact .inr rfl | exact .inl rfl) rfl rfl ?_
  all_goals simp_all
  all_goals (by_cases h : n = 3 <;> simp [h])
theorem ends_no {d : Dv} {m : Int} (h : d.a < 0 ∨ m ≤ d.a ∨ (qo d.k = true ∧ (d.b < 0 ∨ m ≤ d.b ∨ d.b = d.a)) ∨ (qo d.k = false ∧ d.b ≠ -1)) : qK d m = false := by
  unfold qK
  by_cases h0 : d.a < 0 ∨ m ≤ d.a
  · rw [if_pos h0]
  rw [if_neg h0]
  rcases h with h | h | ⟨h, h'⟩ | ⟨h, h'⟩
  · exact absurd (.inl h) h0
  · exact absurd (.inr h) h0
  · rw [if_neg (by rw [h]; decide)]
    rcases h' with h' | h' | h'
    · rw [decide_eq_false (show ¬ 0 ≤ d.b by omega)]; rfl
    · rw [decide_eq_false (show ¬ d.b < m by omega), Bool.and_false]; rfl
    · simp [h']
  · rw [if_pos h]; simpa using h'
theorem ends_yes {d : Dv} {m : Int} (h0 : ¬ d.a < 0) (h1 : ¬ m ≤ d.a) (h : (qo d.k = true ∧ ¬ d.b < 0 ∧ ¬ m ≤ d.b ∧ ¬ d.b = d.a) ∨ (qo d.k = false ∧ d.b = -1)) : qK d m = true := by
  unfold qK
  rw [if_neg (by omega)]
  rcases h with ⟨h, a, b, c⟩ | ⟨h, a⟩
  · rw [if_neg (by rw [h]; decide), decide_eq_true (show 0 ≤ d.b by omega), decide_eq_true (show d.b < m by omega), decide_eq_true c]; rfl
  · rw [if_pos h]; simpa using a
set_option maxHeartbeats 8000000 in
theorem rnet_A (N : List Nd) (V : List Dv) (hN : ∀ x ∈ N, x.n.size ≤ maxLen) (hV : ∀ x ∈ V, x.n.size ≤ maxLen) (h1 : N.length ≤ maxLen) (h2 : V.length ≤ maxLen) : yF Tryz.prog G 22 [.ag [.sl 3 (N.map Nd.av), .sl 5 (V.map Dv.av)]] [] (.v (.int .i64 (netE N V))) [] := by
  refine zj tbOk (zn Tryz.func22 (by kernel_rfl) rfl) Tryz.func22 rfl _ Tryz.ntmps22 (Nat.le_of_ble_eq_true rfl) fun X hX => ?_
  subst hX
  repeat (first | ((with_reducible refine zI ?_); refine zH rfl ?_) | ((with_reducible refine zE ?_); refine zD rfl ?_) | ((with_reducible refine zK ?_); refine zG tbOk rfl rfl rfl rfl ?_) | ((with_reducible refine zL ?_); refine zN tbOk rfl rfl rfl rfl rfl ?_) | ((with_reducible refine yj ?_); refine yi rfl rfl rfl ?_) | ((with_reducible refine zu ?_); refine yR tbOk rfl rfl ?_) | ((with_reducible refine zM ?_); refine zV rfl rfl rfl ?_)  | refine zJ ?_ | refine zB rfl ?_ | with_reducible refine zC ?_ | with_reducible refine zF ?_ | ((with_reducible refine zA ?_ ?_); kernel_rfl))
  refine yI rfl rfl (fun h => ?_) (fun h => ?_)
  · have h32 : 32 < N.length := by simp at h; omega
    repeat (first | ((with_reducible refine zE ?_); refine zD rfl ?_) | ((with_reducible refine zb ?_); refine zt rfl (by first | rfl | assumption) rfl ?_)  | refine zJ ?_ | refine zB rfl ?_ | refine yL rfl rfl (by first | rfl | assumption) ?_ | with_reducible refine zC ?_ | with_reducible refine zS ?_ | with_reducible refine zF ?_ | with_reducible refine zU ?_ | ((with_reducible refine zA ?_ ?_); kernel_rfl) | refine zg rfl (by first | rfl | assumption) ?_)
    refine yC (by first | exact .inr rfl | exact .inl rfl) rfl rfl ?_
    unfold netE
    rw [if_pos (.inl h32)]
  have h32 : ¬ 32 < N.length := by simp at h; omega
  repeat (first | ((with_reducible refine zK ?_); refine zG tbOk rfl rfl rfl rfl ?_) | ((with_reducible refine zL ?_); refine zN tbOk rfl rfl rfl rfl rfl ?_) | ((with_reducible refine zb ?_); refine zq rfl (by first | rfl | assumption) rfl ?_) | ((with_reducible refine zu ?_); refine yR tbOk rfl rfl ?_) | ((with_reducible refine zM ?_); refine zV rfl rfl rfl ?_)  | refine zJ ?_ | refine zB rfl ?_ | refine zv rfl rfl (by first | rfl | assumption) ?_ | with_reducible refine zC ?_ )
  refine zm rfl (fun h => ?_) (fun h => ?_)
  · have h64 : 64 < V.length := by simp at h; omega
    repeat (first | ((with_reducible refine zE ?_); refine zD rfl ?_)  | refine zJ ?_ | refine zB rfl ?_ | with_reducible refine zC ?_ | with_reducible refine zS ?_ | with_reducible refine zF ?_ | with_reducible refine zU ?_ | ((with_reducible refine zA ?_ ?_); kernel_rfl))
    refine yC (by first | exact .inr rfl | exact .inl rfl) rfl rfl ?_
    unfold netE
    rw [if_pos (.inr h64)]
  have h64 : ¬ 64 < V.length := by simp at h; omega
  repeat (first | ((with_reducible refine zE ?_); refine zD rfl ?_)  | refine zJ ?_ | refine zB rfl ?_ | with_reducible refine zC ?_ | with_reducible refine zF ?_ | with_reducible refine zY ?_ | with_reducible refine zR ?_ | ((with_reducible refine zA ?_ ?_); kernel_rfl))
  refine yU (ι := Nat) (fun k => k ≤ N.length ∧ ndGo (qp N k) (N.drop k) = ndGo [] N) (fun k => N.length - k) (fun v k => [(1, .ptr 1 (v 1) 0), (3, .v (.int .i64 k))]) (fun v k => [(1, .box [.sl 3 (N.map Nd.av), .sl 5 (V.map Dv.av)])]) ?_ ?_
  · exact ⟨0, ⟨Nat.zero_le _, rfl⟩, trivial, ⟨rfl, rfl, trivial⟩, ⟨rfl, trivial⟩⟩
  · rintro v k ⟨hk, hf⟩
    repeat (first | ((with_reducible refine zI ?_); refine zH rfl ?_) | ((with_reducible refine zK ?_); refine zG tbOk rfl rfl rfl rfl ?_) | ((with_reducible refine zL ?_); refine zN tbOk rfl rfl rfl rfl rfl ?_) | ((with_reducible refine zu ?_); refine yR tbOk rfl rfl ?_) | ((with_reducible refine zM ?_); refine zV rfl rfl rfl ?_)  | refine zJ ?_ | refine zB rfl ?_ | with_reducible refine zC ?_ | with_reducible refine zF ?_ | ((with_reducible refine zA ?_ ?_); kernel_rfl))
    refine zm rfl (fun h => ?_) (fun h => ?_)
    · have hlt : k < N.length := by simpa using h
      obtain ⟨x, hx⟩ := zl hlt
      have hy : (N.map Nd.av)[k]? = some x.av := by rw [List.getElem?_map, hx]; rfl
      rw [rndGo_at hx] at hf
      repeat (first | ((with_reducible refine zI ?_); refine zH rfl ?_) | ((with_reducible refine zK ?_); refine zG tbOk rfl rfl rfl rfl ?_) | ((with_reducible refine zL ?_); refine zN tbOk rfl rfl rfl rfl rfl ?_) | ((with_reducible refine zL ?_); refine yT tbOk rfl rfl (Nat.le_of_ble_eq_true rfl) ?_) | ((with_reducible refine zd ?_); refine zf tbOk rfl rfl rfl rfl rfl rfl rfl (Nat.le_of_ble_eq_true rfl) rfl ?_) | ((with_reducible refine yA ?_); refine yB tbOk rfl rfl ?_) | ((with_reducible refine zT ?_); refine zZ tbOk rfl rfl rfl rfl (by assumption) ?_)  | refine zJ ?_ | refine zB rfl ?_ | with_reducible refine zC ?_ | with_reducible refine zF ?_ | with_reducible refine zY ?_ | with_reducible refine zR ?_ | ((with_reducible refine zA ?_ ?_); kernel_rfl))
      refine zo (rname_A x.n (hN x (List.mem_of_getElem? hx))) (by repeat' (first | exact trivial | exact Ren.v _ | exact Ren.sl _ _ | exact Ren.ep _ | exact Ren.ptr _ _ _ _ rfl | exact Ren.bs _ _ _ _ _ rfl | exact Ren.nil _ | exact Ren.own _ _ _ _ ⟨_, rfl⟩ | refine zO ?_ | refine zQ ?_ | refine zP ?_ | refine ⟨?_, ?_⟩)) (by repeat' (first | exact trivial | exact RenB.v _ | exact RenB.sl _ _ | exact RenB.ep _ | exact RenB.ptr _ _ _ _ rfl | refine zW ?_ | refine zX ?_ | refine ⟨?_, ?_⟩)) ?_
      repeat (first | ((with_reducible refine k_un ?_); refine yr rfl ?_)  | refine zJ ?_ | refine zB rfl ?_ | with_reducible refine zC ?_ )
      refine zm rfl (fun hE => ?_) (fun hE => ?_)
      · repeat (first | ((with_reducible refine zE ?_); refine zD rfl ?_)  | refine zJ ?_ | refine zB rfl ?_ | with_reducible refine zC ?_ | with_reducible refine zS ?_ | with_reducible refine zh ?_ | with_reducible refine zF ?_ | with_reducible refine zU ?_ | ((with_reducible refine zA ?_ ?_); kernel_rfl))
        refine yC (by first | exact .inr rfl | exact .inl rfl) rfl rfl ?_
        rw [if_pos (by simpa using hE)] at hf
        unfold netE
        rw [if_neg (by omega), if_pos (by rw [← hf]; decide), ← hf]
      · rw [if_neg (by simpa using hE)] at hf
        repeat (first | ((with_reducible refine zE ?_); refine zD rfl ?_)  | refine zJ ?_ | refine zB rfl ?_ | with_reducible refine zC ?_ | with_reducible refine zF ?_ | with_reducible refine zY ?_ | with_reducible refine zR ?_ | ((with_reducible refine zA ?_ ?_); kernel_rfl))
        refine yU (ι := Nat) (fun j => j ≤ k ∧ jg (qp N j) x.n = false) (fun j => k - j) (fun v j => [(1, .ptr 1 (v 1) 0), (3, .v (.int .i64 k)), (4, .ptr 4 (v 4) 0), (5, .v (.int .i64 j))]) (fun v j => [(1, .box [.sl 3 (N.map Nd.av), .sl 5 (V.map Dv.av)]), (4, .box x.av.cells)]) ?_ ?_
        · exact ⟨0, ⟨Nat.zero_le _, rfl⟩, trivial, ⟨rfl, rfl, rfl, rfl, trivial⟩, ⟨rfl, rfl, trivial⟩⟩
        · rintro v j ⟨hj, hu⟩
          repeat (first | ((with_reducible refine zI ?_); refine zH rfl ?_) | ((with_reducible refine zM ?_); refine zV rfl rfl rfl ?_)  | refine zJ ?_ | refine zB rfl ?_ | with_reducible refine zC ?_ | with_reducible refine zF ?_ | ((with_reducible refine zA ?_ ?_); kernel_rfl))
          refine zm rfl (fun h => ?_) (fun h => ?_)
          · have hjk : j < k := by simpa using h
            obtain ⟨y, hjy⟩ := zl (L := N) (k := j) (by omega)
            have hz : (N.map Nd.av)[j]? = some y.av := by rw [List.getElem?_map, hjy]; rfl
            repeat (first | ((with_reducible refine zI ?_); refine zH rfl ?_) | ((with_reducible refine zK ?_); refine zG tbOk rfl rfl rfl rfl ?_) | ((with_reducible refine zK ?_); refine ya tbOk rfl rfl rfl rfl ?_) | ((with_reducible refine zL ?_); refine zN tbOk rfl rfl rfl rfl rfl ?_) | ((with_reducible refine zL ?_); refine za tbOk rfl rfl rfl ?_) | ((with_reducible refine zT ?_); refine zZ tbOk rfl rfl rfl rfl (by assumption) ?_) | ((with_reducible refine zM ?_); refine yp rfl rfl rfl ?_)  | refine jM (by kernel_rfl) ?_ | refine zB rfl ?_ | with_reducible refine zC ?_ | with_reducible refine zF ?_ | with_reducible refine zY ?_ | with_reducible refine zR ?_ | ((with_reducible refine yx mixd ?_ ?_); kernel_rfl))
            refine zm rfl (fun he => ?_) (fun he => ?_)
            · repeat (first | ((with_reducible refine zE ?_); refine zD rfl ?_)  | refine zJ ?_ | refine zB rfl ?_ | with_reducible refine zC ?_ | with_reducible refine zS ?_ | with_reducible refine zh ?_ | with_reducible refine zF ?_ | with_reducible refine zU ?_ | ((with_reducible refine zA ?_ ?_); kernel_rfl))
              refine yC (by first | exact .inr rfl | exact .inl rfl) rfl rfl ?_
              have he' : x.n = y.n := (jh.1 he).symm
              rw [if_pos (usedN (by omega) hjy he' hjk)] at hf
              unfold netE
              rw [if_neg (by omega), if_pos (by rw [← hf]; decide), ← hf]
            · repeat (first | ((with_reducible refine zI ?_); refine zH rfl ?_) | ((with_reducible refine zE ?_); refine zD rfl ?_) | ((with_reducible refine zM ?_); refine ze rfl rfl (by omega) ?_)  | refine zJ ?_ | refine zB rfl ?_ | with_reducible refine zC ?_ | with_reducible refine zk ?_ | with_reducible refine zR ?_ | ((with_reducible refine zA ?_ ?_); kernel_rfl))
              refine ⟨j + 1, ⟨by omega, ?_⟩, by omega, ⟨rfl, rfl, rfl, rfl, trivial⟩, ⟨rfl, rfl, trivial⟩⟩
              rw [nNames_next hjy, usedB_app, hu, usedB_one, Bool.false_or]
              rw [strEq_dec'] at he
              exact decide_eq_false fun e => by rw [e] at he; simp at he
          · obtain rfl : j = k := by simp at h; omega
            rw [if_neg (by rw [hu]; decide)] at hf
            repeat (first | ((with_reducible refine zI ?_); refine zH rfl ?_) | ((with_reducible refine zK ?_); refine zG tbOk rfl rfl rfl rfl ?_) | ((with_reducible refine zL ?_); refine zN tbOk rfl rfl rfl rfl rfl ?_) | ((with_reducible refine zM ?_); refine zV rfl rfl rfl ?_)  | refine zB rfl ?_ | with_reducible refine zC ?_ | with_reducible refine zw ?_ | with_reducible refine zF ?_ | with_reducible refine yJ ?_ | ((with_reducible refine zr ?_ ?_); rfl) | ((with_reducible refine zA ?_ ?_); kernel_rfl))
            refine yI rfl rfl (fun c1 => ?_) (fun c1 => ?_)
            · repeat (first | ((with_reducible refine zI ?_); refine zH rfl ?_) | ((with_reducible refine zE ?_); refine zD rfl ?_) | ((with_reducible refine zb ?_); refine zt rfl (by first | rfl | assumption) rfl ?_)  | refine zJ ?_ | refine zB rfl ?_ | refine yL rfl rfl (by first | rfl | assumption) ?_ | with_reducible refine zC ?_ | with_reducible refine zS ?_ | with_reducible refine zh ?_ | with_reducible refine zF ?_ | with_reducible refine zU ?_ | ((with_reducible refine zA ?_ ?_); kernel_rfl) | refine zg rfl (by first | rfl | assumption) ?_)
              refine yC (by first | exact .inr rfl | exact .inl rfl) rfl rfl ?_
              rw [if_pos (.inl (by simpa using c1))] at hf
              unfold netE
              rw [if_neg (by omega), if_pos (by rw [← hf]; decide), ← hf]
            · repeat (first | ((with_reducible refine zI ?_); refine zH rfl ?_) | ((with_reducible refine zK ?_); refine zG tbOk rfl rfl rfl rfl ?_) | ((with_reducible refine zL ?_); refine zN tbOk rfl rfl rfl rfl rfl ?_) | ((with_reducible refine zb ?_); refine zq rfl (by first | rfl | assumption) rfl ?_) | ((with_reducible refine zM ?_); refine zV rfl rfl rfl ?_)  | refine zB rfl ?_ | refine zv rfl rfl (by first | rfl | assumption) ?_  )
              refine yI rfl rfl (fun c2 => ?_) (fun c2 => ?_)
              · repeat (first | ((with_reducible refine zI ?_); refine zH rfl ?_) | ((with_reducible refine zE ?_); refine zD rfl ?_) | ((with_reducible refine zb ?_); refine zt rfl (by first | rfl | assumption) rfl ?_)  | refine zJ ?_ | refine zB rfl ?_ | refine yL rfl rfl (by first | rfl | assumption) ?_ | with_reducible refine zC ?_ | with_reducible refine zS ?_ | with_reducible refine zh ?_ | with_reducible refine zF ?_ | with_reducible refine zU ?_ | ((with_reducible refine zA ?_ ?_); kernel_rfl) | refine zg rfl (by first | rfl | assumption) ?_)
                refine yC (by first | exact .inr rfl | exact .inl rfl) rfl rfl ?_
                rw [if_pos (.inr (.inl (by simpa using c2)))] at hf
                unfold netE
                rw [if_neg (by omega), if_pos (by rw [← hf]; decide), ← hf]
              · repeat (first | ((with_reducible refine zI ?_); refine zH rfl ?_) | ((with_reducible refine zK ?_); refine zG tbOk rfl rfl rfl rfl ?_) | ((with_reducible refine zL ?_); refine zN tbOk rfl rfl rfl rfl rfl ?_) | ((with_reducible refine zb ?_); refine zq rfl (by first | rfl | assumption) rfl ?_) | ((with_reducible refine zM ?_); refine zV rfl rfl rfl ?_)  | refine zB rfl ?_ | refine zv rfl rfl (by first | rfl | assumption) ?_  )
                refine yI rfl rfl (fun c3 => ?_) (fun c3 => ?_)
                · repeat (first | ((with_reducible refine zE ?_); refine zD rfl ?_) | ((with_reducible refine zb ?_); refine zt rfl (by first | rfl | assumption) rfl ?_)  | refine zJ ?_ | refine zB rfl ?_ | refine yL rfl rfl (by first | rfl | assumption) ?_ | with_reducible refine zC ?_ | with_reducible refine zS ?_ | with_reducible refine zh ?_ | with_reducible refine zF ?_ | with_reducible refine zU ?_ | ((with_reducible refine zA ?_ ?_); kernel_rfl) | refine zg rfl (by first | rfl | assumption) ?_)
                  refine yC (by first | exact .inr rfl | exact .inl rfl) rfl rfl ?_
                  have c3' : x.co < 0 := by simpa using c3
                  rw [if_pos (.inr (.inr (by unfold qA; rw [decide_eq_false (by omega)]; rfl)))] at hf
                  unfold netE
                  rw [if_neg (by omega), if_pos (by rw [← hf]; decide), ← hf]
                · repeat (first | ((with_reducible refine zK ?_); refine zG tbOk rfl rfl rfl rfl ?_) | ((with_reducible refine zL ?_); refine zN tbOk rfl rfl rfl rfl rfl ?_) | ((with_reducible refine zb ?_); refine zq rfl (by first | rfl | assumption) rfl ?_) | ((with_reducible refine zM ?_); refine zV rfl rfl rfl ?_)  | refine zJ ?_ | refine zB rfl ?_ | refine zv rfl rfl (by first | rfl | assumption) ?_ | with_reducible refine zC ?_ )
                  have c1' : ¬ x.cu < 0 := by simpa using c1
                  have c2' : ¬ 1048576 < x.cu := by simpa using c2
                  have c3' : ¬ x.co < 0 := by simpa using c3
                  refine zm rfl (fun c4 => ?_) (fun c4 => ?_)
                  · repeat (first | ((with_reducible refine zE ?_); refine zD rfl ?_)  | refine zJ ?_ | refine zB rfl ?_ | with_reducible refine zC ?_ | with_reducible refine zS ?_ | with_reducible refine zh ?_ | with_reducible refine zF ?_ | with_reducible refine zU ?_ | ((with_reducible refine zA ?_ ?_); kernel_rfl))
                    refine yC (by first | exact .inr rfl | exact .inl rfl) rfl rfl ?_
                    have c4' : 7 < x.co := by simpa using c4
                    rw [if_pos (.inr (.inr (by unfold qA; rw [decide_eq_false (show ¬ x.co ≤ 7 by omega), Bool.and_false])))] at hf
                    unfold netE
                    rw [if_neg (by omega), if_pos (by rw [← hf]; decide), ← hf]
                  · have c4' : ¬ 7 < x.co := by simpa using c4
                    rw [if_neg (by
                      rintro (h | h | h)
                      · contradiction
                      · contradiction
                      · unfold qA at h; simp at h; omega)] at hf
                    repeat (first | ((with_reducible refine zI ?_); refine zH rfl ?_) | ((with_reducible refine zE ?_); refine zD rfl ?_) | ((with_reducible refine zM ?_); refine ze rfl rfl (by omega) ?_)  | refine zJ ?_ | refine zB rfl ?_ | with_reducible refine zC ?_ | with_reducible refine zk ?_ | with_reducible refine zR ?_ | ((with_reducible refine zA ?_ ?_); kernel_rfl))
                    exact ⟨j + 1, ⟨by omega, by rw [nNames_next hx]; exact hf⟩, by omega, ⟨rfl, rfl, trivial⟩, ⟨rfl, trivial⟩⟩
    · obtain rfl : k = N.length := by simp at h; omega
      have hn0 : ndGo [] N = 0 := by rw [← hf, List.drop_of_length_le (Nat.le_refl _)]; rfl
      have eV : netE N V = dvGo N.length (N.map Nd.n) V := by
        unfold netE
        rw [if_neg (by omega), if_neg (by simp [hn0])]
      have eN : N.map Nd.n = qp N N.length := by unfold qp; rw [List.take_length]
      rw [eV, eN]
      repeat (first | ((with_reducible refine zE ?_); refine zD rfl ?_)  | refine zJ ?_ | refine zB rfl ?_ | with_reducible refine zC ?_ | with_reducible refine zw ?_ | with_reducible refine zF ?_ | with_reducible refine zY ?_ | with_reducible refine yJ ?_ | ((with_reducible refine zr ?_ ?_); rfl) | ((with_reducible refine zA ?_ ?_); kernel_rfl))
      refine yU (ι := Nat) (fun k => k ≤ V.length ∧ dvGo N.length (qp N N.length ++ vNames V k) (V.drop k) = dvGo N.length (qp N N.length) V) (fun k => V.length - k) (fun v k => [(1, .ptr 1 (v 1) 0), (6, .v (.int .i64 k))]) (fun v k => [(1, .box [.sl 3 (N.map Nd.av), .sl 5 (V.map Dv.av)])]) ?_ ?_
      · exact ⟨0, ⟨Nat.zero_le _, by simp [vNames]⟩, trivial, ⟨rfl, rfl, trivial⟩, ⟨rfl, trivial⟩⟩
      · rintro v k ⟨hk, hf⟩
        repeat (first | ((with_reducible refine zI ?_); refine zH rfl ?_) | ((with_reducible refine zK ?_); refine zG tbOk rfl rfl rfl rfl ?_) | ((with_reducible refine zL ?_); refine zN tbOk rfl rfl rfl rfl rfl ?_) | ((with_reducible refine zu ?_); refine yR tbOk rfl rfl ?_) | ((with_reducible refine zM ?_); refine zV rfl rfl rfl ?_)  | refine zJ ?_ | refine zB rfl ?_ | with_reducible refine zC ?_ | with_reducible refine zF ?_ | ((with_reducible refine zA ?_ ?_); kernel_rfl))
        refine zm rfl (fun h => ?_) (fun h => ?_)
        · have hlt : k < V.length := by simpa using h
          obtain ⟨d, hx⟩ := zl hlt
          have hy : (V.map Dv.av)[k]? = some d.av := by rw [List.getElem?_map, hx]; rfl
          rw [rdvGo_at hx] at hf
          repeat (first | ((with_reducible refine zI ?_); refine zH rfl ?_) | ((with_reducible refine zK ?_); refine zG tbOk rfl rfl rfl rfl ?_) | ((with_reducible refine zL ?_); refine zN tbOk rfl rfl rfl rfl rfl ?_) | ((with_reducible refine zL ?_); refine yT tbOk rfl rfl (Nat.le_of_ble_eq_true rfl) ?_) | ((with_reducible refine zd ?_); refine zf tbOk rfl rfl rfl rfl rfl rfl rfl (Nat.le_of_ble_eq_true rfl) rfl ?_) | ((with_reducible refine yA ?_); refine yB tbOk rfl rfl ?_) | ((with_reducible refine zT ?_); refine zZ tbOk rfl rfl rfl rfl (by assumption) ?_)  | refine zJ ?_ | refine zB rfl ?_ | with_reducible refine zC ?_ | with_reducible refine zF ?_ | with_reducible refine zY ?_ | with_reducible refine zR ?_ | ((with_reducible refine zA ?_ ?_); kernel_rfl))
          refine zo (rname_A d.n (hV d (List.mem_of_getElem? hx))) (by repeat' (first | exact trivial | exact Ren.v _ | exact Ren.sl _ _ | exact Ren.ep _ | exact Ren.ptr _ _ _ _ rfl | exact Ren.bs _ _ _ _ _ rfl | exact Ren.nil _ | exact Ren.own _ _ _ _ ⟨_, rfl⟩ | refine zO ?_ | refine zQ ?_ | refine zP ?_ | refine ⟨?_, ?_⟩)) (by repeat' (first | exact trivial | exact RenB.v _ | exact RenB.sl _ _ | exact RenB.ep _ | exact RenB.ptr _ _ _ _ rfl | refine zW ?_ | refine zX ?_ | refine ⟨?_, ?_⟩)) ?_
          repeat (first | ((with_reducible refine k_un ?_); refine yr rfl ?_)  | refine zJ ?_ | refine zB rfl ?_ | with_reducible refine zC ?_ )
          refine zm rfl (fun hE => ?_) (fun hE => ?_)
          · repeat (first | ((with_reducible refine zE ?_); refine zD rfl ?_)  | refine zJ ?_ | refine zB rfl ?_ | with_reducible refine zC ?_ | with_reducible refine zS ?_ | with_reducible refine zh ?_ | with_reducible refine zF ?_ | with_reducible refine zU ?_ | ((with_reducible refine zA ?_ ?_); kernel_rfl))
            refine yC (by first | exact .inr rfl | exact .inl rfl) rfl rfl ?_
            rw [if_pos (by simpa using hE)] at hf
            rw [← hf]
          · rw [if_neg (by simpa using hE)] at hf
            repeat (first | ((with_reducible refine zE ?_); refine zD rfl ?_)  | refine zJ ?_ | refine zB rfl ?_ | with_reducible refine zC ?_ | with_reducible refine zF ?_ | with_reducible refine zY ?_ | with_reducible refine zR ?_ | ((with_reducible refine zA ?_ ?_); kernel_rfl))
            refine yU (ι := Nat) (fun j => j ≤ N.length ∧ jg (qp N j) d.n = false) (fun j => N.length - j) (fun v j => [(1, .ptr 1 (v 1) 0), (6, .v (.int .i64 k)), (7, .ptr 7 (v 7) 0), (8, .v (.int .i64 j))]) (fun v j => [(1, .box [.sl 3 (N.map Nd.av), .sl 5 (V.map Dv.av)]), (7, .box d.av.cells)]) ?_ ?_
            · exact ⟨0, ⟨Nat.zero_le _, rfl⟩, trivial, ⟨rfl, rfl, rfl, rfl, trivial⟩, ⟨rfl, rfl, trivial⟩⟩
            · rintro v j ⟨hj, hu⟩
              repeat (first | ((with_reducible refine zI ?_); refine zH rfl ?_) | ((with_reducible refine zK ?_); refine zG tbOk rfl rfl rfl rfl ?_) | ((with_reducible refine zL ?_); refine zN tbOk rfl rfl rfl rfl rfl ?_) | ((with_reducible refine zu ?_); refine yR tbOk rfl rfl ?_) | ((with_reducible refine zM ?_); refine zV rfl rfl rfl ?_)  | refine zJ ?_ | refine zB rfl ?_ | with_reducible refine zC ?_ | with_reducible refine zF ?_ | ((with_reducible refine zA ?_ ?_); kernel_rfl))
              refine zm rfl (fun h => ?_) (fun h => ?_)
              · have hjk : j < N.length := by simpa using h
                obtain ⟨y, hjy⟩ := zl (L := N) (k := j) (by omega)
                have hz : (N.map Nd.av)[j]? = some y.av := by rw [List.getElem?_map, hjy]; rfl
                repeat (first | ((with_reducible refine zI ?_); refine zH rfl ?_) | ((with_reducible refine zK ?_); refine zG tbOk rfl rfl rfl rfl ?_) | ((with_reducible refine zK ?_); refine ya tbOk rfl rfl rfl rfl ?_) | ((with_reducible refine zL ?_); refine zN tbOk rfl rfl rfl rfl rfl ?_) | ((with_reducible refine zL ?_); refine za tbOk rfl rfl rfl ?_) | ((with_reducible refine zT ?_); refine zZ tbOk rfl rfl rfl rfl (by assumption) ?_) | ((with_reducible refine zM ?_); refine yp rfl rfl rfl ?_)  | refine jM (by kernel_rfl) ?_ | refine zB rfl ?_ | with_reducible refine zC ?_ | with_reducible refine zF ?_ | with_reducible refine zY ?_ | with_reducible refine zR ?_ | ((with_reducible refine yx mixd ?_ ?_); kernel_rfl))
                refine zm rfl (fun he => ?_) (fun he => ?_)
                · repeat (first | ((with_reducible refine zE ?_); refine zD rfl ?_)  | refine zJ ?_ | refine zB rfl ?_ | with_reducible refine zC ?_ | with_reducible refine zS ?_ | with_reducible refine zh ?_ | with_reducible refine zF ?_ | with_reducible refine zU ?_ | ((with_reducible refine zA ?_ ?_); kernel_rfl))
                  refine yC (by first | exact .inr rfl | exact .inl rfl) rfl rfl ?_
                  have he' : d.n = y.n := (jh.1 he).symm
                  rw [if_pos (by rw [usedB_app, usedN (by omega) hjy he' hjk]; rfl)] at hf
                  rw [← hf]
                · repeat (first | ((with_reducible refine zI ?_); refine zH rfl ?_) | ((with_reducible refine zE ?_); refine zD rfl ?_) | ((with_reducible refine zM ?_); refine ze rfl rfl (by omega) ?_)  | refine zJ ?_ | refine zB rfl ?_ | with_reducible refine zC ?_ | with_reducible refine zk ?_ | with_reducible refine zR ?_ | ((with_reducible refine zA ?_ ?_); kernel_rfl))
                  refine ⟨j + 1, ⟨by omega, ?_⟩, by omega, ⟨rfl, rfl, rfl, rfl, trivial⟩, ⟨rfl, rfl, trivial⟩⟩
                  rw [nNames_next hjy, usedB_app, hu, usedB_one, Bool.false_or]
                  rw [strEq_dec'] at he
                  exact decide_eq_false fun e => by rw [e] at he; simp at he
              · obtain rfl : j = N.length := by simp at h; omega
                rw [usedB_app, hu, Bool.false_or] at hf
                repeat (first | ((with_reducible refine zE ?_); refine zD rfl ?_)  | refine zJ ?_ | refine zB rfl ?_ | with_reducible refine zC ?_ | with_reducible refine zw ?_ | with_reducible refine zF ?_ | with_reducible refine zY ?_ | with_reducible refine yJ ?_ | ((with_reducible refine zr ?_ ?_); rfl) | ((with_reducible refine zA ?_ ?_); kernel_rfl))
                refine yU (ι := Nat) (fun j => j ≤ k ∧ jg (vNames V j) d.n = false) (fun j => k - j) (fun v j => [(1, .ptr 1 (v 1) 0), (6, .v (.int .i64 k)), (7, .ptr 7 (v 7) 0), (9, .v (.int .i64 j))]) (fun v j => [(1, .box [.sl 3 (N.map Nd.av), .sl 5 (V.map Dv.av)]), (7, .box d.av.cells)]) ?_ ?_
                · exact ⟨0, ⟨Nat.zero_le _, rfl⟩, trivial, ⟨rfl, rfl, rfl, rfl, trivial⟩, ⟨rfl, rfl, trivial⟩⟩
                · rintro v j ⟨hj, hu⟩
                  repeat (first | ((with_reducible refine zI ?_); refine zH rfl ?_) | ((with_reducible refine zM ?_); refine zV rfl rfl rfl ?_)  | refine zJ ?_ | refine zB rfl ?_ | with_reducible refine zC ?_ | with_reducible refine zF ?_ | ((with_reducible refine zA ?_ ?_); kernel_rfl))
                  refine zm rfl (fun h => ?_) (fun h => ?_)
                  · have hjk : j < k := by simpa using h
                    obtain ⟨y, hjy⟩ := zl (L := V) (k := j) (by omega)
                    have hz : (V.map Dv.av)[j]? = some y.av := by rw [List.getElem?_map, hjy]; rfl
                    repeat (first | ((with_reducible refine zI ?_); refine zH rfl ?_) | ((with_reducible refine zK ?_); refine zG tbOk rfl rfl rfl rfl ?_) | ((with_reducible refine zK ?_); refine ya tbOk rfl rfl rfl rfl ?_) | ((with_reducible refine zL ?_); refine zN tbOk rfl rfl rfl rfl rfl ?_) | ((with_reducible refine zL ?_); refine za tbOk rfl rfl rfl ?_) | ((with_reducible refine zT ?_); refine zZ tbOk rfl rfl rfl rfl (by assumption) ?_) | ((with_reducible refine zM ?_); refine yp rfl rfl rfl ?_)  | refine jM (by kernel_rfl) ?_ | refine zB rfl ?_ | with_reducible refine zC ?_ | with_reducible refine zF ?_ | with_reducible refine zY ?_ | with_reducible refine zR ?_ | ((with_reducible refine yx mixd ?_ ?_); kernel_rfl))
                    refine zm rfl (fun he => ?_) (fun he => ?_)
                    · repeat (first | ((with_reducible refine zE ?_); refine zD rfl ?_)  | refine zJ ?_ | refine zB rfl ?_ | with_reducible refine zC ?_ | with_reducible refine zS ?_ | with_reducible refine zh ?_ | with_reducible refine zF ?_ | with_reducible refine zU ?_ | ((with_reducible refine zA ?_ ?_); kernel_rfl))
                      refine yC (by first | exact .inr rfl | exact .inl rfl) rfl rfl ?_
                      have he' : d.n = y.n := (jh.1 he).symm
                      rw [if_pos (usedV hjy he' hjk)] at hf
                      rw [← hf]
                    · repeat (first | ((with_reducible refine zI ?_); refine zH rfl ?_) | ((with_reducible refine zE ?_); refine zD rfl ?_) | ((with_reducible refine zM ?_); refine ze rfl rfl (by omega) ?_)  | refine zJ ?_ | refine zB rfl ?_ | with_reducible refine zC ?_ | with_reducible refine zk ?_ | with_reducible refine zR ?_ | ((with_reducible refine zA ?_ ?_); kernel_rfl))
                      refine ⟨j + 1, ⟨by omega, ?_⟩, by omega, ⟨rfl, rfl, rfl, rfl, trivial⟩, ⟨rfl, rfl, trivial⟩⟩
                      rw [vNames_next hjy, usedB_app, hu, usedB_one, Bool.false_or]
                      rw [strEq_dec'] at he
                      exact decide_eq_false fun e => by rw [e] at he; simp at he
                  · obtain rfl : j = k := by simp at h; omega
                    rw [if_neg (by rw [hu]; decide)] at hf
                    repeat (first | ((with_reducible refine zI ?_); refine zH rfl ?_) | ((with_reducible refine zK ?_); refine zG tbOk rfl rfl rfl rfl ?_) | ((with_reducible refine zL ?_); refine zN tbOk rfl rfl rfl rfl rfl ?_) | ((with_reducible refine zM ?_); refine zV rfl rfl rfl ?_)  | refine zB rfl ?_ | with_reducible refine zC ?_ | with_reducible refine zw ?_ | with_reducible refine zF ?_ | with_reducible refine yJ ?_ | ((with_reducible refine zr ?_ ?_); rfl) | ((with_reducible refine zA ?_ ?_); kernel_rfl))
                    refine yI rfl rfl (fun c1 => ?_) (fun c1 => ?_)
                    · repeat (first | ((with_reducible refine zE ?_); refine zD rfl ?_) | ((with_reducible refine zb ?_); refine zt rfl (by first | rfl | assumption) rfl ?_)  | refine zJ ?_ | refine zB rfl ?_ | refine yL rfl rfl (by first | rfl | assumption) ?_ | with_reducible refine zC ?_ | with_reducible refine zS ?_ | with_reducible refine zh ?_ | with_reducible refine zF ?_ | with_reducible refine zU ?_ | ((with_reducible refine zA ?_ ?_); kernel_rfl) | refine zg rfl (by first | rfl | assumption) ?_)
                      refine yC (by first | exact .inr rfl | exact .inl rfl) rfl rfl ?_
                      rw [if_pos (.inl (by simpa using c1))] at hf
                      rw [← hf]
                    · repeat (first | ((with_reducible refine zK ?_); refine zG tbOk rfl rfl rfl rfl ?_) | ((with_reducible refine zL ?_); refine zN tbOk rfl rfl rfl rfl rfl ?_) | ((with_reducible refine zb ?_); refine zq rfl (by first | rfl | assumption) rfl ?_) | ((with_reducible refine zM ?_); refine zV rfl rfl rfl ?_)  | refine zJ ?_ | refine zB rfl ?_ | refine zv rfl rfl (by first | rfl | assumption) ?_ | with_reducible refine zC ?_ )
                      refine zm rfl (fun c2 => ?_) (fun c2 => ?_)
                      · repeat (first | ((with_reducible refine zE ?_); refine zD rfl ?_)  | refine zJ ?_ | refine zB rfl ?_ | with_reducible refine zC ?_ | with_reducible refine zS ?_ | with_reducible refine zh ?_ | with_reducible refine zF ?_ | with_reducible refine zU ?_ | ((with_reducible refine zA ?_ ?_); kernel_rfl))
                        refine yC (by first | exact .inr rfl | exact .inl rfl) rfl rfl ?_
                        rw [if_pos (.inr (by simpa using c2))] at hf
                        rw [← hf]
                      · have c1' : ¬ d.k < 1 := by simpa using c1
                        have c2' : ¬ 6 < d.k := by simpa using c2
                        rw [if_neg (by omega)] at hf
                        repeat (first | ((with_reducible refine zI ?_); refine zH rfl ?_) | ((with_reducible refine zK ?_); refine zG tbOk rfl rfl rfl rfl ?_) | ((with_reducible refine zL ?_); refine zN tbOk rfl rfl rfl rfl rfl ?_) | ((with_reducible refine zM ?_); refine zV rfl rfl rfl ?_)  | refine zB rfl ?_ | with_reducible refine zC ?_ | with_reducible refine zF ?_ | with_reducible refine zR ?_ | ((with_reducible refine zA ?_ ?_); kernel_rfl))
                        repeat (first | fail   )
                        refine yI rfl rfl (fun a1 => ?_) (fun a1 => ?_)
                        · have a1' : d.a < 0 := by simpa using a1
                          have e7 : qK d N.length = false := ends_no (.inl a1')
                          repeat (first | ((with_reducible refine zI ?_); refine zH rfl ?_) | ((with_reducible refine zE ?_); refine zD rfl ?_) | ((with_reducible refine zb ?_); refine zt rfl (by first | rfl | assumption) rfl ?_)  | refine zJ ?_ | refine zB rfl ?_ | refine yL rfl rfl (by first | rfl | assumption) ?_ | refine jG rfl rfl rfl ?_ | with_reducible refine zC ?_ | with_reducible refine zS ?_ | with_reducible refine zh ?_ | with_reducible refine zF ?_ | with_reducible refine zU ?_ | ((with_reducible refine zA ?_ ?_); kernel_rfl) | refine zg rfl (by first | rfl | assumption) ?_)
                          refine yC (by first | exact .inr rfl | exact .inl rfl) rfl rfl ?_
                          rw [if_pos e7] at hf
                          rw [← hf]
                        have a1' : ¬ d.a < 0 := by simpa using a1
                        repeat (first | ((with_reducible refine zI ?_); refine zH rfl ?_) | ((with_reducible refine zK ?_); refine zG tbOk rfl rfl rfl rfl ?_) | ((with_reducible refine zL ?_); refine zN tbOk rfl rfl rfl rfl rfl ?_) | ((with_reducible refine zb ?_); refine zq rfl (by first | rfl | assumption) rfl ?_) | ((with_reducible refine zu ?_); refine yR tbOk rfl rfl ?_) | ((with_reducible refine zM ?_); refine zV rfl rfl rfl ?_)  | refine zB rfl ?_ | refine zv rfl rfl (by first | rfl | assumption) ?_ )
                        refine yI rfl rfl (fun a2 => ?_) (fun a2 => ?_)
                        · have a2' : (N.length : Int) ≤ d.a := by simpa using a2
                          have e7 : qK d N.length = false := ends_no (.inr (.inl a2'))
                          repeat (first | ((with_reducible refine zI ?_); refine zH rfl ?_) | ((with_reducible refine zE ?_); refine zD rfl ?_) | ((with_reducible refine zb ?_); refine zt rfl (by first | rfl | assumption) rfl ?_)  | refine zJ ?_ | refine zB rfl ?_ | refine yL rfl rfl (by first | rfl | assumption) ?_ | refine jG rfl rfl rfl ?_ | with_reducible refine zC ?_ | with_reducible refine zS ?_ | with_reducible refine zh ?_ | with_reducible refine zF ?_ | with_reducible refine zU ?_ | ((with_reducible refine zA ?_ ?_); kernel_rfl) | refine zg rfl (by first | rfl | assumption) ?_)
                          refine yC (by first | exact .inr rfl | exact .inl rfl) rfl rfl ?_
                          rw [if_pos e7] at hf
                          rw [← hf]
                        have a2' : ¬ (N.length : Int) ≤ d.a := by simpa using a2
                        repeat (first | ((with_reducible refine zK ?_); refine zG tbOk rfl rfl rfl rfl ?_) | ((with_reducible refine zL ?_); refine zN tbOk rfl rfl rfl rfl rfl ?_)  | refine zv rfl rfl (by first | rfl | assumption) ?_ )
                        have hJ0 := rjoins_A (G := X.G) d.k
                        cases hJ : qo d.k with
                        | true =>
                          rw [hJ] at hJ0
                          refine zo (hJ0) (by repeat' (first | exact trivial | exact Ren.v _ | exact Ren.sl _ _ | exact Ren.ep _ | exact Ren.ptr _ _ _ _ rfl | exact Ren.bs _ _ _ _ _ rfl | exact Ren.nil _ | exact Ren.own _ _ _ _ ⟨_, rfl⟩ | refine zO ?_ | refine zQ ?_ | refine zP ?_ | refine ⟨?_, ?_⟩)) (by repeat' (first | exact trivial | exact RenB.v _ | exact RenB.sl _ _ | exact RenB.ep _ | exact RenB.ptr _ _ _ _ rfl | refine zW ?_ | refine zX ?_ | refine ⟨?_, ?_⟩)) ?_
                          repeat (first | ((with_reducible refine zI ?_); refine zH rfl ?_) | ((with_reducible refine zK ?_); refine zG tbOk rfl rfl rfl rfl ?_) | ((with_reducible refine zL ?_); refine zN tbOk rfl rfl rfl rfl rfl ?_) | ((with_reducible refine zM ?_); refine zV rfl rfl rfl ?_)  | refine yK rfl rfl (by first | rfl | assumption) ?_ | refine zv rfl rfl (by first | rfl | assumption) ?_ )
                          refine yI rfl rfl (fun a3 => ?_) (fun a3 => ?_)
                          · have a3' : d.b < 0 := by simpa using a3
                            have e7 : qK d N.length = false := ends_no (.inr (.inr (.inl ⟨hJ, .inl a3'⟩)))
                            repeat (first | ((with_reducible refine zI ?_); refine zH rfl ?_) | ((with_reducible refine zE ?_); refine zD rfl ?_) | ((with_reducible refine zb ?_); refine zt rfl (by first | rfl | assumption) rfl ?_) | ((with_reducible refine zb ?_); refine zq rfl (by first | rfl | assumption) rfl ?_)  | refine zJ ?_ | refine zB rfl ?_ | refine yK rfl rfl (by first | rfl | assumption) ?_ | refine zv rfl rfl (by first | rfl | assumption) ?_ | refine yL rfl rfl (by first | rfl | assumption) ?_ | refine jG rfl rfl rfl ?_ | with_reducible refine zC ?_ | with_reducible refine zS ?_ | with_reducible refine zh ?_ | with_reducible refine zF ?_ | with_reducible refine zU ?_ | ((with_reducible refine zA ?_ ?_); kernel_rfl) | refine zg rfl (by first | rfl | assumption) ?_)
                            refine yC (by first | exact .inr rfl | exact .inl rfl) rfl rfl ?_
                            rw [if_pos e7] at hf
                            rw [← hf]
                          have a3' : ¬ d.b < 0 := by simpa using a3
                          repeat (first | ((with_reducible refine zI ?_); refine zH rfl ?_) | ((with_reducible refine zK ?_); refine zG tbOk rfl rfl rfl rfl ?_) | ((with_reducible refine zL ?_); refine zN tbOk rfl rfl rfl rfl rfl ?_) | ((with_reducible refine zb ?_); refine zq rfl (by first | rfl | assumption) rfl ?_) | ((with_reducible refine zu ?_); refine yR tbOk rfl rfl ?_) | ((with_reducible refine zM ?_); refine zV rfl rfl rfl ?_)  | refine yK rfl rfl (by first | rfl | assumption) ?_ | refine zv rfl rfl (by first | rfl | assumption) ?_ )
                          refine yI rfl rfl (fun a4 => ?_) (fun a4 => ?_)
                          · have a4' : (N.length : Int) ≤ d.b := by simpa using a4
                            have e7 : qK d N.length = false := ends_no (.inr (.inr (.inl ⟨hJ, .inr (.inl a4')⟩)))
                            repeat (first | ((with_reducible refine zI ?_); refine zH rfl ?_) | ((with_reducible refine zE ?_); refine zD rfl ?_) | ((with_reducible refine zb ?_); refine zt rfl (by first | rfl | assumption) rfl ?_) | ((with_reducible refine zb ?_); refine zq rfl (by first | rfl | assumption) rfl ?_)  | refine zJ ?_ | refine zB rfl ?_ | refine yK rfl rfl (by first | rfl | assumption) ?_ | refine zv rfl rfl (by first | rfl | assumption) ?_ | refine yL rfl rfl (by first | rfl | assumption) ?_ | refine jG rfl rfl rfl ?_ | with_reducible refine zC ?_ | with_reducible refine zS ?_ | with_reducible refine zh ?_ | with_reducible refine zF ?_ | with_reducible refine zU ?_ | ((with_reducible refine zA ?_ ?_); kernel_rfl) | refine zg rfl (by first | rfl | assumption) ?_)
                            refine yC (by first | exact .inr rfl | exact .inl rfl) rfl rfl ?_
                            rw [if_pos e7] at hf
                            rw [← hf]
                          have a4' : ¬ (N.length : Int) ≤ d.b := by simpa using a4
                          repeat (first | ((with_reducible refine zI ?_); refine zH rfl ?_) | ((with_reducible refine zK ?_); refine zG tbOk rfl rfl rfl rfl ?_) | ((with_reducible refine zL ?_); refine zN tbOk rfl rfl rfl rfl rfl ?_) | ((with_reducible refine zb ?_); refine zt rfl (by first | rfl | assumption) rfl ?_) | ((with_reducible refine zb ?_); refine zq rfl (by first | rfl | assumption) rfl ?_) | ((with_reducible refine zM ?_); refine zV rfl rfl rfl ?_)  | refine zB rfl ?_ | refine yK rfl rfl (by first | rfl | assumption) ?_ | refine zv rfl rfl (by first | rfl | assumption) ?_ )
                          refine yI rfl rfl (fun a5 => ?_) (fun a5 => ?_)
                          · have a5' : d.b = d.a := by simpa using a5
                            have e7 : qK d N.length = false := ends_no (.inr (.inr (.inl ⟨hJ, .inr (.inr a5')⟩)))
                            repeat (first | ((with_reducible refine zE ?_); refine zD rfl ?_) | ((with_reducible refine zb ?_); refine zt rfl (by first | rfl | assumption) rfl ?_)  | refine zJ ?_ | refine zB rfl ?_ | refine yL rfl rfl (by first | rfl | assumption) ?_ | refine jG rfl rfl rfl ?_ | with_reducible refine zC ?_ | with_reducible refine zS ?_ | with_reducible refine zh ?_ | with_reducible refine zF ?_ | with_reducible refine zU ?_ | ((with_reducible refine zA ?_ ?_); kernel_rfl) | refine zg rfl (by first | rfl | assumption) ?_)
                            refine yC (by first | exact .inr rfl | exact .inl rfl) rfl rfl ?_
                            rw [if_pos e7] at hf
                            rw [← hf]
                          have a5' : ¬ d.b = d.a := by simpa using a5
                          repeat (first | ((with_reducible refine zK ?_); refine zG tbOk rfl rfl rfl rfl ?_) | ((with_reducible refine zL ?_); refine zN tbOk rfl rfl rfl rfl rfl ?_)  | refine zv rfl rfl (by first | rfl | assumption) ?_ )
                          refine zo (hJ0) (by repeat' (first | exact trivial | exact Ren.v _ | exact Ren.sl _ _ | exact Ren.ep _ | exact Ren.ptr _ _ _ _ rfl | exact Ren.bs _ _ _ _ _ rfl | exact Ren.nil _ | exact Ren.own _ _ _ _ ⟨_, rfl⟩ | refine zO ?_ | refine zQ ?_ | refine zP ?_ | refine ⟨?_, ?_⟩)) (by repeat' (first | exact trivial | exact RenB.v _ | exact RenB.sl _ _ | exact RenB.ep _ | exact RenB.ptr _ _ _ _ rfl | refine zW ?_ | refine zX ?_ | refine ⟨?_, ?_⟩)) ?_
                          repeat (first | ((with_reducible refine zI ?_); refine zH rfl ?_) | ((with_reducible refine zK ?_); refine zG tbOk rfl rfl rfl rfl ?_) | ((with_reducible refine zL ?_); refine zN tbOk rfl rfl rfl rfl rfl ?_) | ((with_reducible refine k_un ?_); refine yr rfl ?_) | ((with_reducible refine zb ?_); refine zq rfl (by first | rfl | assumption) rfl ?_) | ((with_reducible refine zM ?_); refine zV rfl rfl rfl ?_)  | refine zJ ?_ | refine zB rfl ?_ | refine yQ rfl rfl (by first | rfl | assumption) ?_ | refine zv rfl rfl (by first | rfl | assumption) ?_ | with_reducible refine zC ?_ | with_reducible refine zF ?_ | with_reducible refine zR ?_ | ((with_reducible refine zA ?_ ?_); kernel_rfl) | refine zp rfl (by first | rfl | assumption) ?_)
                          have e7 : qK d N.length = true := ends_yes a1' a2' (.inl ⟨hJ, a3', a4', a5'⟩)
                          rw [if_neg (by rw [e7]; decide)] at hf
                          repeat (first | fail    )
                          refine yI rfl rfl (fun d1 => ?_) (fun d1 => ?_)
                          · repeat (first | ((with_reducible refine zE ?_); refine zD rfl ?_) | ((with_reducible refine zb ?_); refine zt rfl (by first | rfl | assumption) rfl ?_)  | refine zJ ?_ | refine zB rfl ?_ | refine yL rfl rfl (by first | rfl | assumption) ?_ | with_reducible refine zC ?_ | with_reducible refine zS ?_ | with_reducible refine zh ?_ | with_reducible refine zF ?_ | with_reducible refine zU ?_ | ((with_reducible refine zA ?_ ?_); kernel_rfl) | refine zg rfl (by first | rfl | assumption) ?_)
                            refine yC (by first | exact .inr rfl | exact .inl rfl) rfl rfl ?_
                            have d1' : d.co < 0 := by simpa using d1
                            rw [if_pos (by unfold qA; rw [decide_eq_false (by omega)]; rfl)] at hf
                            rw [← hf]
                          · repeat (first | ((with_reducible refine zK ?_); refine zG tbOk rfl rfl rfl rfl ?_) | ((with_reducible refine zL ?_); refine zN tbOk rfl rfl rfl rfl rfl ?_) | ((with_reducible refine zb ?_); refine zq rfl (by first | rfl | assumption) rfl ?_) | ((with_reducible refine zM ?_); refine zV rfl rfl rfl ?_)  | refine zJ ?_ | refine zB rfl ?_ | refine zv rfl rfl (by first | rfl | assumption) ?_ | with_reducible refine zC ?_ )
                            have d1' : ¬ d.co < 0 := by simpa using d1
                            refine zm rfl (fun d2 => ?_) (fun d2 => ?_)
                            · repeat (first | ((with_reducible refine zE ?_); refine zD rfl ?_)  | refine zJ ?_ | refine zB rfl ?_ | with_reducible refine zC ?_ | with_reducible refine zS ?_ | with_reducible refine zh ?_ | with_reducible refine zF ?_ | with_reducible refine zU ?_ | ((with_reducible refine zA ?_ ?_); kernel_rfl))
                              refine yC (by first | exact .inr rfl | exact .inl rfl) rfl rfl ?_
                              have d2' : 7 < d.co := by simpa using d2
                              rw [if_pos (by unfold qA; rw [decide_eq_false (show ¬ d.co ≤ 7 by omega), Bool.and_false])] at hf
                              rw [← hf]
                            · have d2' : ¬ 7 < d.co := by simpa using d2
                              rw [if_neg (by intro h; unfold qA at h; simp at h; omega)] at hf
                              repeat (first | ((with_reducible refine zI ?_); refine zH rfl ?_) | ((with_reducible refine zE ?_); refine zD rfl ?_) | ((with_reducible refine zM ?_); refine ze rfl rfl (by omega) ?_)  | refine zJ ?_ | refine zB rfl ?_ | with_reducible refine zC ?_ | with_reducible refine zk ?_ | with_reducible refine zR ?_ | ((with_reducible refine zA ?_ ?_); kernel_rfl))
                              exact ⟨j + 1, ⟨by omega, by rw [vNames_next hx, ← List.append_assoc]; exact hf⟩, by omega, ⟨rfl, rfl, trivial⟩, ⟨rfl, trivial⟩⟩
                        | false =>
                          rw [hJ] at hJ0
                          refine zo (hJ0) (by repeat' (first | exact trivial | exact Ren.v _ | exact Ren.sl _ _ | exact Ren.ep _ | exact Ren.ptr _ _ _ _ rfl | exact Ren.bs _ _ _ _ _ rfl | exact Ren.nil _ | exact Ren.own _ _ _ _ ⟨_, rfl⟩ | refine zO ?_ | refine zQ ?_ | refine zP ?_ | refine ⟨?_, ?_⟩)) (by repeat' (first | exact trivial | exact RenB.v _ | exact RenB.sl _ _ | exact RenB.ep _ | exact RenB.ptr _ _ _ _ rfl | refine zW ?_ | refine zX ?_ | refine ⟨?_, ?_⟩)) ?_
                          repeat (first | ((with_reducible refine zI ?_); refine zH rfl ?_) | ((with_reducible refine zK ?_); refine zG tbOk rfl rfl rfl rfl ?_) | ((with_reducible refine zL ?_); refine zN tbOk rfl rfl rfl rfl rfl ?_) | ((with_reducible refine zb ?_); refine zq rfl (by first | rfl | assumption) rfl ?_)  | refine zB rfl ?_ | refine yQ rfl rfl (by first | rfl | assumption) ?_ | refine zv rfl rfl (by first | rfl | assumption) ?_ | refine jG rfl rfl rfl ?_ )
                          refine zo (hJ0) (by repeat' (first | exact trivial | exact Ren.v _ | exact Ren.sl _ _ | exact Ren.ep _ | exact Ren.ptr _ _ _ _ rfl | exact Ren.bs _ _ _ _ _ rfl | exact Ren.nil _ | exact Ren.own _ _ _ _ ⟨_, rfl⟩ | refine zO ?_ | refine zQ ?_ | refine zP ?_ | refine ⟨?_, ?_⟩)) (by repeat' (first | exact trivial | exact RenB.v _ | exact RenB.sl _ _ | exact RenB.ep _ | exact RenB.ptr _ _ _ _ rfl | refine zW ?_ | refine zX ?_ | refine ⟨?_, ?_⟩)) ?_
                          repeat (first | ((with_reducible refine zI ?_); refine zH rfl ?_) | ((with_reducible refine zK ?_); refine zG tbOk rfl rfl rfl rfl ?_) | ((with_reducible refine zL ?_); refine zN tbOk rfl rfl rfl rfl rfl ?_) | ((with_reducible refine k_un ?_); refine yr rfl ?_) | ((with_reducible refine zb ?_); refine zt rfl (by first | rfl | assumption) rfl ?_) | ((with_reducible refine zb ?_); refine zq rfl (by first | rfl | assumption) rfl ?_) | ((with_reducible refine zM ?_); refine zV rfl rfl rfl ?_)  | refine zJ ?_ | refine zB rfl ?_ | refine yK rfl rfl (by first | rfl | assumption) ?_ | refine zv rfl rfl (by first | rfl | assumption) ?_ | with_reducible refine zC ?_)
                          refine zm rfl (fun a6 => ?_) (fun a6 => ?_)
                          · have a6' : d.b ≠ -1 := by simpa using a6
                            have e7 : qK d N.length = false := ends_no (.inr (.inr (.inr ⟨hJ, a6'⟩)))
                            repeat (first | ((with_reducible refine zE ?_); refine zD rfl ?_)  | refine zJ ?_ | refine zB rfl ?_ | with_reducible refine zC ?_ | with_reducible refine zS ?_ | with_reducible refine zh ?_ | with_reducible refine zF ?_ | with_reducible refine zU ?_ | ((with_reducible refine zA ?_ ?_); kernel_rfl))
                            refine yC (by first | exact .inr rfl | exact .inl rfl) rfl rfl ?_
                            rw [if_pos e7] at hf
                            rw [← hf]
                          have a6' : d.b = -1 := by simpa using a6
                          have e7 : qK d N.length = true := ends_yes a1' a2' (.inr ⟨hJ, a6'⟩)
                          rw [if_neg (by rw [e7]; decide)] at hf
                          repeat (first | ((with_reducible refine zI ?_); refine zH rfl ?_) | ((with_reducible refine zK ?_); refine zG tbOk rfl rfl rfl rfl ?_) | ((with_reducible refine zL ?_); refine zN tbOk rfl rfl rfl rfl rfl ?_) | ((with_reducible refine zM ?_); refine zV rfl rfl rfl ?_)  | refine zB rfl ?_ | with_reducible refine zC ?_ | with_reducible refine zF ?_ | with_reducible refine zR ?_ | ((with_reducible refine zA ?_ ?_); kernel_rfl))
                          refine yI rfl rfl (fun d1 => ?_) (fun d1 => ?_)
                          · repeat (first | ((with_reducible refine zE ?_); refine zD rfl ?_) | ((with_reducible refine zb ?_); refine zt rfl (by first | rfl | assumption) rfl ?_)  | refine zJ ?_ | refine zB rfl ?_ | refine yL rfl rfl (by first | rfl | assumption) ?_ | with_reducible refine zC ?_ | with_reducible refine zS ?_ | with_reducible refine zh ?_ | with_reducible refine zF ?_ | with_reducible refine zU ?_ | ((with_reducible refine zA ?_ ?_); kernel_rfl) | refine zg rfl (by first | rfl | assumption) ?_)
                            refine yC (by first | exact .inr rfl | exact .inl rfl) rfl rfl ?_
                            have d1' : d.co < 0 := by simpa using d1
                            rw [if_pos (by unfold qA; rw [decide_eq_false (by omega)]; rfl)] at hf
                            rw [← hf]
                          · repeat (first | ((with_reducible refine zK ?_); refine zG tbOk rfl rfl rfl rfl ?_) | ((with_reducible refine zL ?_); refine zN tbOk rfl rfl rfl rfl rfl ?_) | ((with_reducible refine zb ?_); refine zq rfl (by first | rfl | assumption) rfl ?_) | ((with_reducible refine zM ?_); refine zV rfl rfl rfl ?_)  | refine zJ ?_ | refine zB rfl ?_ | refine zv rfl rfl (by first | rfl | assumption) ?_ | with_reducible refine zC ?_ )
                            have d1' : ¬ d.co < 0 := by simpa using d1
                            refine zm rfl (fun d2 => ?_) (fun d2 => ?_)
                            · repeat (first | ((with_reducible refine zE ?_); refine zD rfl ?_)  | refine zJ ?_ | refine zB rfl ?_ | with_reducible refine zC ?_ | with_reducible refine zS ?_ | with_reducible refine zh ?_ | with_reducible refine zF ?_ | with_reducible refine zU ?_ | ((with_reducible refine zA ?_ ?_); kernel_rfl))
                              refine yC (by first | exact .inr rfl | exact .inl rfl) rfl rfl ?_
                              have d2' : 7 < d.co := by simpa using d2
                              rw [if_pos (by unfold qA; rw [decide_eq_false (show ¬ d.co ≤ 7 by omega), Bool.and_false])] at hf
                              rw [← hf]
                            · have d2' : ¬ 7 < d.co := by simpa using d2
                              rw [if_neg (by intro h; unfold qA at h; simp at h; omega)] at hf
                              repeat (first | ((with_reducible refine zI ?_); refine zH rfl ?_) | ((with_reducible refine zE ?_); refine zD rfl ?_) | ((with_reducible refine zM ?_); refine ze rfl rfl (by omega) ?_)  | refine zJ ?_ | refine zB rfl ?_ | with_reducible refine zC ?_ | with_reducible refine zk ?_ | with_reducible refine zR ?_ | ((with_reducible refine zA ?_ ?_); kernel_rfl))
                              exact ⟨j + 1, ⟨by omega, by rw [vNames_next hx, ← List.append_assoc]; exact hf⟩, by omega, ⟨rfl, rfl, trivial⟩, ⟨rfl, trivial⟩⟩
        · have hlt : ¬ k < V.length := by simpa using h
          repeat (first | ((with_reducible refine zE ?_); refine zD rfl ?_)  | refine zJ ?_ | refine zB rfl ?_ | with_reducible refine zC ?_ | with_reducible refine zw ?_ | with_reducible refine zF ?_ | with_reducible refine yJ ?_ | with_reducible refine zU ?_ | ((with_reducible refine zr ?_ ?_); rfl) | ((with_reducible refine zA ?_ ?_); kernel_rfl))
          refine yC (by first | exact .inr rfl | exact .inl rfl) rfl rfl ?_
          rw [List.drop_of_length_le (by omega)] at hf
          rw [← hf]; rfl
end Go.Proofs.YtggngllfnboehaaGreatDoor
