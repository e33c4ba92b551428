/- network.Check, by the abstract machine; conditions: the table of classes stands. -/
import Derived.Test.YtjamibeffalhaaaGreatDoorNetA
set_option linter.unusedVariables false
set_option linter.unusedSimpArgs false
namespace Go.Proofs.YtjamibeffalhaaaGreatDoor
open Go Go.RowKit
set_option maxRecDepth 10000
variable {G : Nat → Option (List Value)}
theorem mT (U : List ByteArray) (n : ByteArray) : iU (U ++ [n]) = iU U ++ [(.string n, .bool true)] := by
  unfold iU
  rw [List.map_append]
  rfl
theorem uC (w : World) : (zeroValue 4).run Tryz.prog w = .ok (.bool false) w := by
  kernel_rfl
theorem ndGo_at {U : List ByteArray} {N : List Nd} {k : Nat} {x : Nd} (h : N[k]? = some x) : ndGo U (N.drop k) = if jd x.n.data.toList = false then 3 else if jc U x.n = true then 4 else if x.cu < 0 ∨ 1048576 < x.cu ∨ qF x.co = false then 5 else ndGo (U ++ [x.n]) (N.drop (k + 1)) := by
  rw [yT h]; rfl
theorem dvGo_at {m : Int} {U : List ByteArray} {V : List Dv} {k : Nat} {d : Dv} (h : V[k]? = some d) : dvGo m U (V.drop k) = if jd d.n.data.toList = false then 3 else if jc U d.n = true then 4 else if d.k < 1 ∨ 6 < d.k then 6 else if qb d m = false then 7 else if qF d.co = false then 5 else dvGo m (U ++ [d.n]) (V.drop (k + 1)) := by
  rw [yT h]; rfl
def bT (V : List Dv) (k : Nat) : List ByteArray := (V.take k).map Dv.n
theorem hI {V : List Dv} {k : Nat} {x : Dv} (h : V[k]? = some x) : bT V (k + 1) = bT V k ++ [x.n] := by
  unfold bT
  rw [List.take_add_one, h]
  simp
def qG (N : List Nd) (k : Nat) : List ByteArray := (N.take k).map Nd.n
theorem fZ {N : List Nd} {k : Nat} {x : Nd} (h : N[k]? = some x) : qG N (k + 1) = qG N k ++ [x.n] := by
  unfold qG
  rw [List.take_add_one, h]
  simp
set_option maxHeartbeats 4000000 in
theorem jx (N : List Nd) (V : List Dv) (hG : GCls G) (hN : ∀ x ∈ N, x.n.size ≤ maxLen) (hV : ∀ x ∈ V, x.n.size ≤ maxLen) (h1 : N.length ≤ maxLen) (h2 : V.length ≤ maxLen) : zz Tryz.prog G 38 [.ag [.sl 3 (N.map Nd.av), .sl 5 (V.map Dv.av)]] [] (.v (.int .i64 (netE N V))) [] := by
  refine zb tbOk (zc Tryz.func38 (by kernel_rfl) rfl) Tryz.func38 rfl _ Tryz.ntmps38 (Nat.le_of_ble_eq_true rfl) fun X hX => ?_
  subst hX
  repeat (first | ((with_reducible refine zK ?_); refine zJ rfl ?_) | ((with_reducible refine zE ?_); refine zF rfl ?_) | ((with_reducible refine zM ?_); refine zI tbOk rfl rfl rfl rfl ?_) | ((with_reducible refine zR ?_); refine zP tbOk rfl rfl rfl rfl rfl ?_) | ((with_reducible refine yr ?_); refine yu rfl rfl rfl ?_) | ((with_reducible refine zt ?_); refine yH tbOk rfl rfl ?_) | ((with_reducible refine zQ ?_); refine zT rfl rfl rfl ?_)  | refine zL ?_ | refine zB rfl ?_ | with_reducible (first | refine zG ?_ | refine zH ?_) | ((with_reducible refine zA ?_ ?_); kernel_rfl))
  refine zv rfl rfl (fun h => ?_) (fun h => ?_)
  · have h32 : 32 < N.length := by simp at h; omega
    repeat (first | ((with_reducible refine zE ?_); refine zF rfl ?_) | ((with_reducible refine za ?_); refine zh rfl (by first | rfl | assumption) rfl ?_)  | refine zL ?_ | refine zB rfl ?_ | refine yA rfl rfl (by first | rfl | assumption) ?_ | with_reducible (first | refine zG ?_ | refine zO ?_ | refine zH ?_ | refine zN ?_) | ((with_reducible refine zA ?_ ?_); kernel_rfl) | refine zn rfl (by first | rfl | assumption) ?_)
    refine zm (by first | exact .inr rfl | exact .inl rfl) rfl rfl ?_
    unfold netE
    rw [if_pos (.inl h32)]
  have h32 : ¬ 32 < N.length := by simp at h; omega
  repeat (first | ((with_reducible refine zM ?_); refine zI tbOk rfl rfl rfl rfl ?_) | ((with_reducible refine zR ?_); refine zP tbOk rfl rfl rfl rfl rfl ?_) | ((with_reducible refine za ?_); refine zf rfl (by first | rfl | assumption) rfl ?_) | ((with_reducible refine zt ?_); refine yH tbOk rfl rfl ?_) | ((with_reducible refine zQ ?_); refine zT rfl rfl rfl ?_)  | refine zL ?_ | refine zB rfl ?_ | refine zw rfl rfl (by first | rfl | assumption) ?_ | with_reducible refine zG ?_ )
  refine zZ rfl (fun h => ?_) (fun h => ?_)
  · have h64 : 64 < V.length := by simp at h; omega
    repeat (first | ((with_reducible refine zE ?_); refine zF rfl ?_)  | refine zL ?_ | refine zB rfl ?_ | with_reducible (first | refine zG ?_ | refine zO ?_ | refine zH ?_ | refine zN ?_) | ((with_reducible refine zA ?_ ?_); kernel_rfl))
    refine zm (by first | exact .inr rfl | exact .inl rfl) rfl rfl ?_
    unfold netE
    rw [if_pos (.inr h64)]
  · have h64 : ¬ 64 < V.length := by simp at h; omega
    repeat (first   | refine zB rfl ?_ | with_reducible (first | refine zG ?_ | refine zH ?_ | refine zS ?_) | ((with_reducible refine zA ?_ ?_); kernel_rfl))
    refine uH rfl ?_
    repeat (first | ((with_reducible refine zK ?_); refine zJ rfl ?_) | ((with_reducible refine zE ?_); refine zF rfl ?_) | ((with_reducible refine zM ?_); refine zI tbOk rfl rfl rfl rfl ?_) | ((with_reducible refine zR ?_); refine zP tbOk rfl rfl rfl rfl rfl ?_) | ((with_reducible refine zt ?_); refine yH tbOk rfl rfl ?_)  | refine zL ?_ | refine zB rfl ?_ | with_reducible (first | refine zG ?_ | refine zH ?_ | refine zY ?_) | ((with_reducible refine zA ?_ ?_); kernel_rfl))
    refine yL (ι := Nat) (fun k => k ≤ N.length ∧ ndGo (qG N k) (N.drop k) = ndGo [] N) (fun k => N.length - k) (fun v k => [(1, .ptr 1 (v 1) 0), (3, .own 18 (v 18)), (20, .sl 3 (N.map Nd.av)), (21, .v (.int .i64 (N.map Nd.av).length)), (22, .v (.int .i64 k))]) (fun v k => [(1, .box [.sl 3 (N.map Nd.av), .sl 5 (V.map Dv.av)]), (18, .mp (iU (qG N k)))]) ?_ ?_
    · exact ⟨0, ⟨Nat.zero_le _, rfl⟩, trivial, ⟨rfl, rfl, rfl, rfl, rfl, trivial⟩, ⟨rfl, rfl, trivial⟩⟩
    · rintro v k ⟨hk, hf⟩
      repeat (first | ((with_reducible refine zQ ?_); refine zT rfl rfl rfl ?_)  | refine zL ?_ | refine zB rfl ?_ | with_reducible (first | refine zG ?_ | refine zH ?_) | ((with_reducible refine zA ?_ ?_); kernel_rfl))
      refine zZ rfl (fun h => ?_) (fun h => ?_)
      · have hlt : k < N.length := by simpa using h
        obtain ⟨x, hx⟩ := zd hlt
        have hy : (N.map Nd.av)[k]? = some x.av := by rw [List.getElem?_map, hx]; rfl
        rw [ndGo_at hx] at hf
        repeat (first | ((with_reducible refine zM ?_); refine zI tbOk rfl rfl rfl rfl ?_) | ((with_reducible refine zR ?_); (first | refine zP tbOk rfl rfl rfl rfl rfl ?_ | refine yj tbOk rfl rfl (Nat.le_of_ble_eq_true rfl) ?_)) | ((with_reducible refine zp ?_); refine zq tbOk rfl rfl rfl rfl rfl rfl rfl (Nat.le_of_ble_eq_true rfl) rfl ?_) | ((with_reducible refine yR ?_); refine yQ tbOk rfl rfl ?_) | ((with_reducible refine zU ?_); refine zX tbOk rfl rfl rfl rfl (by assumption) ?_)  | refine zL ?_ | refine zB rfl ?_ | with_reducible (first | refine zG ?_ | refine zH ?_ | refine zY ?_ | refine zS ?_) | ((with_reducible refine zA ?_ ?_); kernel_rfl))
        refine zC (nJ x.n hG (hN x (List.mem_of_getElem? hx))) ?_
        repeat (first | ((with_reducible refine zE ?_); refine zF rfl ?_) | ((with_reducible refine k_un ?_); refine jF rfl ?_)  | refine zL ?_ | refine zB rfl ?_ | with_reducible refine zG ?_ )
        refine zZ rfl (fun hE => ?_) (fun hE => ?_)
        · repeat (first | ((with_reducible refine zE ?_); refine zF rfl ?_)  | refine zL ?_ | refine zB rfl ?_ | with_reducible (first | refine zG ?_ | refine zO ?_ | refine zV ?_ | refine zH ?_ | refine zN ?_) | ((with_reducible refine zA ?_ ?_); kernel_rfl))
          refine zm (by first | exact .inr rfl | exact .inl rfl) rfl rfl ?_
          rw [if_pos (by simpa using hE)] at hf
          unfold netE
          rw [if_neg (by omega), if_pos (by rw [← hf]; decide), ← hf]
        · rw [if_neg (by simpa using hE)] at hf
          repeat (first | ((with_reducible refine zK ?_); refine zJ rfl ?_) | ((with_reducible refine zM ?_); refine zI tbOk rfl rfl rfl rfl ?_) | ((with_reducible refine zR ?_); refine zP tbOk rfl rfl rfl rfl rfl ?_)  | refine zB rfl ?_ | with_reducible refine zH ?_ | ((with_reducible refine zA ?_ ?_); kernel_rfl))
          by_cases hU : jc (qG N k) x.n = true
          · refine fT Tryz.underlying104 Tryz.underlying9 (by simp [MapKept.IsKey]) uC rfl rfl rfl rfl ((qI x.n (qG N k)).trans (congrArg some (if_pos hU))) ?_
            repeat (first | ((with_reducible refine zE ?_); refine zF rfl ?_)  | refine zL ?_ | refine zB rfl ?_ | with_reducible (first | refine zG ?_ | refine zO ?_ | refine zV ?_ | refine zH ?_ | refine zN ?_) | ((with_reducible refine zA ?_ ?_); kernel_rfl) | refine zn rfl (by first | rfl | assumption) ?_)
            refine zm (by first | exact .inr rfl | exact .inl rfl) rfl rfl ?_
            rw [if_pos hU] at hf
            unfold netE
            rw [if_neg (by omega), if_pos (by rw [← hf]; decide), ← hf]
          · rw [if_neg hU] at hf
            refine fT Tryz.underlying104 Tryz.underlying9 (by simp [MapKept.IsKey]) uC rfl rfl rfl rfl ((qI x.n (qG N k)).trans (congrArg some (if_neg hU))) ?_
            repeat (first | ((with_reducible refine zK ?_); refine zJ rfl ?_) | ((with_reducible refine zE ?_); refine zF rfl ?_) | ((with_reducible refine zM ?_); refine zI tbOk rfl rfl rfl rfl ?_) | ((with_reducible refine zR ?_); refine zP tbOk rfl rfl rfl rfl rfl ?_) | ((with_reducible refine zQ ?_); refine zT rfl rfl rfl ?_)  | refine zL ?_ | refine zB rfl ?_ | with_reducible (first | refine zG ?_ | refine zH ?_) | ((with_reducible refine zA ?_ ?_); kernel_rfl) | refine yF rfl (by first | rfl | assumption) ?_)
            refine zv rfl rfl (fun c1 => ?_) (fun c1 => ?_)
            · repeat (first | ((with_reducible refine zK ?_); refine zJ rfl ?_) | ((with_reducible refine zE ?_); refine zF rfl ?_) | ((with_reducible refine za ?_); refine zh rfl (by first | rfl | assumption) rfl ?_)  | refine zL ?_ | refine zB rfl ?_ | refine yA rfl rfl (by first | rfl | assumption) ?_ | with_reducible (first | refine zG ?_ | refine zO ?_ | refine zV ?_ | refine zH ?_ | refine zN ?_) | ((with_reducible refine zA ?_ ?_); kernel_rfl) | refine zn rfl (by first | rfl | assumption) ?_)
              refine zm (by first | exact .inr rfl | exact .inl rfl) rfl rfl ?_
              rw [if_pos (.inl (by simpa using c1))] at hf
              unfold netE
              rw [if_neg (by omega), if_pos (by rw [← hf]; decide), ← hf]
            · repeat (first | ((with_reducible refine zK ?_); refine zJ rfl ?_) | ((with_reducible refine zM ?_); refine zI tbOk rfl rfl rfl rfl ?_) | ((with_reducible refine zR ?_); refine zP tbOk rfl rfl rfl rfl rfl ?_) | ((with_reducible refine za ?_); refine zf rfl (by first | rfl | assumption) rfl ?_) | ((with_reducible refine zQ ?_); refine zT rfl rfl rfl ?_)  | refine zB rfl ?_ | refine zw rfl rfl (by first | rfl | assumption) ?_  )
              refine zv rfl rfl (fun c2 => ?_) (fun c2 => ?_)
              · repeat (first | ((with_reducible refine zE ?_); refine zF rfl ?_) | ((with_reducible refine za ?_); refine zh rfl (by first | rfl | assumption) rfl ?_)  | refine zL ?_ | refine zB rfl ?_ | refine yA rfl rfl (by first | rfl | assumption) ?_ | with_reducible (first | refine zG ?_ | refine zO ?_ | refine zV ?_ | refine zH ?_ | refine zN ?_) | ((with_reducible refine zA ?_ ?_); kernel_rfl) | refine zn rfl (by first | rfl | assumption) ?_)
                refine zm (by first | exact .inr rfl | exact .inl rfl) rfl rfl ?_
                rw [if_pos (.inr (.inl (by simpa using c2)))] at hf
                unfold netE
                rw [if_neg (by omega), if_pos (by rw [← hf]; decide), ← hf]
              · repeat (first | ((with_reducible refine zM ?_); refine zI tbOk rfl rfl rfl rfl ?_) | ((with_reducible refine zR ?_); refine zP tbOk rfl rfl rfl rfl rfl ?_)  | refine zw rfl rfl (by first | rfl | assumption) ?_  )
                refine zC (xX x.co) ?_
                repeat (first | ((with_reducible refine zE ?_); refine zF rfl ?_) | ((with_reducible refine k_un ?_); refine jF rfl ?_) | ((with_reducible refine za ?_); refine zf rfl (by first | rfl | assumption) rfl ?_)  | refine zL ?_ | refine zB rfl ?_ | refine zw rfl rfl (by first | rfl | assumption) ?_ | with_reducible refine zG ?_ )
                refine zZ rfl (fun c3 => ?_) (fun c3 => ?_)
                · repeat (first | ((with_reducible refine zE ?_); refine zF rfl ?_)  | refine zL ?_ | refine zB rfl ?_ | with_reducible (first | refine zG ?_ | refine zO ?_ | refine zV ?_ | refine zH ?_ | refine zN ?_) | ((with_reducible refine zA ?_ ?_); kernel_rfl))
                  refine zm (by first | exact .inr rfl | exact .inl rfl) rfl rfl ?_
                  rw [if_pos (.inr (.inr (by simpa using c3)))] at hf
                  unfold netE
                  rw [if_neg (by omega), if_pos (by rw [← hf]; decide), ← hf]
                · have c1' : ¬ x.cu < 0 := by simpa using c1
                  have c2' : ¬ 1048576 < x.cu := by simpa using c2
                  have c3' : ¬ qF x.co = false := by simpa using c3
                  rw [if_neg (by rintro (h | h | h) <;> contradiction)] at hf
                  repeat (first | ((with_reducible refine zK ?_); refine zJ rfl ?_) | ((with_reducible refine zM ?_); refine zI tbOk rfl rfl rfl rfl ?_) | ((with_reducible refine zR ?_); refine zP tbOk rfl rfl rfl rfl rfl ?_)  | refine zB rfl ?_ | with_reducible (first | refine zG ?_ | refine zu ?_ | refine zS ?_) | ((with_reducible refine zA ?_ ?_); kernel_rfl))
                  refine lD Tryz.underlying104 Tryz.underlying9 (by simp [MapKept.IsKey]) rfl rfl rfl rfl rfl ((qI x.n (qG N k)).trans (congrArg some (if_neg hU))) ?_
                  repeat (first | ((with_reducible refine zK ?_); refine zJ rfl ?_) | ((with_reducible refine zQ ?_); refine zg rfl rfl (by omega) ?_)  | refine zL ?_ | refine zB rfl ?_ | with_reducible (first | refine zG ?_ | refine zu ?_) | ((with_reducible refine zA ?_ ?_); kernel_rfl))
                  refine ⟨k + 1, ⟨by omega, by rw [fZ hx]; exact hf⟩, by omega, ⟨rfl, rfl, rfl, rfl, rfl, trivial⟩, ⟨rfl, ?_, trivial⟩⟩
                  rw [fZ hx, mT]
                  rfl
      · have hlt : ¬ k < N.length := by simpa using h
        have hk' : k = N.length := by omega
        subst hk'
        have hn0 : ndGo [] N = 0 := by rw [← hf, List.drop_of_length_le (Nat.le_refl _)]; rfl
        have eV : netE N V = dvGo N.length (N.map Nd.n) V := by
          unfold netE
          rw [if_neg (by omega), if_neg (by simp [hn0])]
        rw [eV, show N.map Nd.n = qG N N.length by unfold qG; rw [List.take_length]]
        generalize qG N N.length = U
        repeat (first | ((with_reducible refine zK ?_); refine zJ rfl ?_) | ((with_reducible refine zM ?_); refine zI tbOk rfl rfl rfl rfl ?_) | ((with_reducible refine zR ?_); refine zP tbOk rfl rfl rfl rfl rfl ?_) | ((with_reducible refine zt ?_); refine yH tbOk rfl rfl ?_)  | refine zL ?_ | refine zB rfl ?_ | with_reducible (first | refine zG ?_ | refine zo ?_ | refine zH ?_ | refine zY ?_ | refine yB ?_) | ((with_reducible refine ze ?_ ?_); rfl) | ((with_reducible refine zA ?_ ?_); kernel_rfl))
        refine yL (ι := Nat) (fun k => k ≤ V.length ∧ dvGo N.length (U ++ bT V k) (V.drop k) = dvGo N.length U V) (fun k => V.length - k) (fun v k => [(1, .ptr 1 (v 1) 0), (3, .own 18 (v 18)), (56, .sl 5 (V.map Dv.av)), (57, .v (.int .i64 (V.map Dv.av).length)), (58, .v (.int .i64 k))]) (fun v k => [(1, .box [.sl 3 (N.map Nd.av), .sl 5 (V.map Dv.av)]), (18, .mp (iU (U ++ bT V k)))]) ?_ ?_
        · exact ⟨0, ⟨Nat.zero_le _, by simp [bT]⟩, trivial, ⟨rfl, rfl, rfl, rfl, rfl, trivial⟩, ⟨rfl, by rw [show U ++ bT V 0 = U by simp [bT]]; rfl, trivial⟩⟩
        · rintro v k ⟨hk, hg⟩
          repeat (first | ((with_reducible refine zQ ?_); refine zT rfl rfl rfl ?_)  | refine zL ?_ | refine zB rfl ?_ | with_reducible (first | refine zG ?_ | refine zH ?_) | ((with_reducible refine zA ?_ ?_); kernel_rfl))
          refine zZ rfl (fun h => ?_) (fun h => ?_)
          · have hlt : k < V.length := by simpa using h
            obtain ⟨d, hx⟩ := zd hlt
            have hy : (V.map Dv.av)[k]? = some d.av := by rw [List.getElem?_map, hx]; rfl
            rw [dvGo_at hx] at hg
            repeat (first | ((with_reducible refine zM ?_); refine zI tbOk rfl rfl rfl rfl ?_) | ((with_reducible refine zR ?_); (first | refine zP tbOk rfl rfl rfl rfl rfl ?_ | refine yj tbOk rfl rfl (Nat.le_of_ble_eq_true rfl) ?_)) | ((with_reducible refine zp ?_); refine zq tbOk rfl rfl rfl rfl rfl rfl rfl (Nat.le_of_ble_eq_true rfl) rfl ?_) | ((with_reducible refine yR ?_); refine yQ tbOk rfl rfl ?_) | ((with_reducible refine zU ?_); refine zX tbOk rfl rfl rfl rfl (by assumption) ?_)  | refine zL ?_ | refine zB rfl ?_ | with_reducible (first | refine zG ?_ | refine zH ?_ | refine zY ?_ | refine zS ?_) | ((with_reducible refine zA ?_ ?_); kernel_rfl))
            refine zC (nJ d.n hG (hV d (List.mem_of_getElem? hx))) ?_
            repeat (first | ((with_reducible refine zE ?_); refine zF rfl ?_) | ((with_reducible refine k_un ?_); refine jF rfl ?_)  | refine zL ?_ | refine zB rfl ?_ | with_reducible refine zG ?_ )
            refine zZ rfl (fun hE => ?_) (fun hE => ?_)
            · repeat (first | ((with_reducible refine zE ?_); refine zF rfl ?_)  | refine zL ?_ | refine zB rfl ?_ | with_reducible (first | refine zG ?_ | refine zO ?_ | refine zV ?_ | refine zH ?_ | refine zN ?_) | ((with_reducible refine zA ?_ ?_); kernel_rfl))
              refine zm (by first | exact .inr rfl | exact .inl rfl) rfl rfl ?_
              rw [if_pos (by simpa using hE)] at hg
              rw [← hg]
            · rw [if_neg (by simpa using hE)] at hg
              repeat (first | ((with_reducible refine zK ?_); refine zJ rfl ?_) | ((with_reducible refine zM ?_); refine zI tbOk rfl rfl rfl rfl ?_) | ((with_reducible refine zR ?_); refine zP tbOk rfl rfl rfl rfl rfl ?_)  | refine zB rfl ?_ | with_reducible refine zH ?_ | ((with_reducible refine zA ?_ ?_); kernel_rfl))
              by_cases hU : jc (U ++ bT V k) d.n = true
              · refine fT Tryz.underlying104 Tryz.underlying9 (by simp [MapKept.IsKey]) uC rfl rfl rfl rfl ((qI d.n _).trans (congrArg some (if_pos hU))) ?_
                repeat (first | ((with_reducible refine zE ?_); refine zF rfl ?_)  | refine zL ?_ | refine zB rfl ?_ | with_reducible (first | refine zG ?_ | refine zO ?_ | refine zV ?_ | refine zH ?_ | refine zN ?_) | ((with_reducible refine zA ?_ ?_); kernel_rfl) | refine zn rfl (by first | rfl | assumption) ?_)
                refine zm (by first | exact .inr rfl | exact .inl rfl) rfl rfl ?_
                rw [if_pos hU] at hg
                rw [← hg]
              · rw [if_neg hU] at hg
                refine fT Tryz.underlying104 Tryz.underlying9 (by simp [MapKept.IsKey]) uC rfl rfl rfl rfl ((qI d.n _).trans (congrArg some (if_neg hU))) ?_
                repeat (first | ((with_reducible refine zK ?_); refine zJ rfl ?_) | ((with_reducible refine zE ?_); refine zF rfl ?_) | ((with_reducible refine zM ?_); refine zI tbOk rfl rfl rfl rfl ?_) | ((with_reducible refine zR ?_); refine zP tbOk rfl rfl rfl rfl rfl ?_) | ((with_reducible refine zQ ?_); refine zT rfl rfl rfl ?_)  | refine zL ?_ | refine zB rfl ?_ | with_reducible (first | refine zG ?_ | refine zH ?_) | ((with_reducible refine zA ?_ ?_); kernel_rfl) | refine yF rfl (by first | rfl | assumption) ?_)
                refine zv rfl rfl (fun c1 => ?_) (fun c1 => ?_)
                · repeat (first | ((with_reducible refine zE ?_); refine zF rfl ?_) | ((with_reducible refine za ?_); refine zh rfl (by first | rfl | assumption) rfl ?_)  | refine zL ?_ | refine zB rfl ?_ | refine yA rfl rfl (by first | rfl | assumption) ?_ | with_reducible (first | refine zG ?_ | refine zO ?_ | refine zV ?_ | refine zH ?_ | refine zN ?_) | ((with_reducible refine zA ?_ ?_); kernel_rfl) | refine zn rfl (by first | rfl | assumption) ?_)
                  refine zm (by first | exact .inr rfl | exact .inl rfl) rfl rfl ?_
                  rw [if_pos (.inl (by simpa using c1))] at hg
                  rw [← hg]
                · repeat (first | ((with_reducible refine zE ?_); refine zF rfl ?_) | ((with_reducible refine zM ?_); refine zI tbOk rfl rfl rfl rfl ?_) | ((with_reducible refine zR ?_); refine zP tbOk rfl rfl rfl rfl rfl ?_) | ((with_reducible refine za ?_); refine zf rfl (by first | rfl | assumption) rfl ?_) | ((with_reducible refine zQ ?_); refine zT rfl rfl rfl ?_)  | refine zL ?_ | refine zB rfl ?_ | refine zw rfl rfl (by first | rfl | assumption) ?_ | with_reducible refine zG ?_ )
                  refine zZ rfl (fun c2 => ?_) (fun c2 => ?_)
                  · repeat (first | ((with_reducible refine zE ?_); refine zF rfl ?_)  | refine zL ?_ | refine zB rfl ?_ | with_reducible (first | refine zG ?_ | refine zO ?_ | refine zV ?_ | refine zH ?_ | refine zN ?_) | ((with_reducible refine zA ?_ ?_); kernel_rfl))
                    refine zm (by first | exact .inr rfl | exact .inl rfl) rfl rfl ?_
                    rw [if_pos (.inr (by simpa using c2))] at hg
                    rw [← hg]
                  · have c1' : ¬ d.k < 1 := by simpa using c1
                    have c2' : ¬ 6 < d.k := by simpa using c2
                    rw [if_neg (by omega)] at hg
                    repeat (first | ((with_reducible refine zM ?_); refine zI tbOk rfl rfl rfl rfl ?_) | ((with_reducible refine zR ?_); (first | refine zP tbOk rfl rfl rfl rfl rfl ?_ | refine zk tbOk rfl rfl rfl rfl (Nat.le_of_ble_eq_true rfl) ?_)) | ((with_reducible refine zt ?_); refine yH tbOk rfl rfl ?_)  | refine zB rfl ?_ | with_reducible refine zH ?_ | ((with_reducible refine zA ?_ ?_); kernel_rfl))
                    have hln : ((N.map Nd.av).length : Int) = N.length := by simp
                    have hE2 := vZ (G := X.G) d ((N.map Nd.av).length : Int)
                    rw [hln] at hE2
                    refine zC (vZ d ((N.map Nd.av).length : Int)) ?_
                    repeat (first | ((with_reducible refine zE ?_); refine zF rfl ?_) | ((with_reducible refine k_un ?_); refine jF rfl ?_)  | refine zL ?_ | refine zB rfl ?_ | with_reducible refine zG ?_ )
                    refine zZ rfl (fun c3 => ?_) (fun c3 => ?_)
                    · repeat (first | ((with_reducible refine zE ?_); refine zF rfl ?_)  | refine zL ?_ | refine zB rfl ?_ | with_reducible (first | refine zG ?_ | refine zO ?_ | refine zV ?_ | refine zH ?_ | refine zN ?_) | ((with_reducible refine zA ?_ ?_); kernel_rfl))
                      refine zm (by first | exact .inr rfl | exact .inl rfl) rfl rfl ?_
                      rw [if_pos (by simpa using c3)] at hg
                      rw [← hg]
                    · rw [if_neg (by simpa using c3)] at hg
                      repeat (first | ((with_reducible refine zM ?_); refine zI tbOk rfl rfl rfl rfl ?_) | ((with_reducible refine zR ?_); refine zP tbOk rfl rfl rfl rfl rfl ?_)  | refine zB rfl ?_ | with_reducible refine zH ?_ | ((with_reducible refine zA ?_ ?_); kernel_rfl))
                      refine zC (xX d.co) ?_
                      repeat (first | ((with_reducible refine zE ?_); refine zF rfl ?_) | ((with_reducible refine k_un ?_); refine jF rfl ?_)  | refine zL ?_ | refine zB rfl ?_ | with_reducible refine zG ?_ )
                      refine zZ rfl (fun c4 => ?_) (fun c4 => ?_)
                      · repeat (first | ((with_reducible refine zE ?_); refine zF rfl ?_)  | refine zL ?_ | refine zB rfl ?_ | with_reducible (first | refine zG ?_ | refine zO ?_ | refine zV ?_ | refine zH ?_ | refine zN ?_) | ((with_reducible refine zA ?_ ?_); kernel_rfl))
                        refine zm (by first | exact .inr rfl | exact .inl rfl) rfl rfl ?_
                        rw [if_pos (by simpa using c4)] at hg
                        rw [← hg]
                      · rw [if_neg (by simpa using c4)] at hg
                        repeat (first | ((with_reducible refine zK ?_); refine zJ rfl ?_) | ((with_reducible refine zM ?_); refine zI tbOk rfl rfl rfl rfl ?_) | ((with_reducible refine zR ?_); refine zP tbOk rfl rfl rfl rfl rfl ?_)  | refine zB rfl ?_ | with_reducible (first | refine zG ?_ | refine zu ?_ | refine zS ?_) | ((with_reducible refine zA ?_ ?_); kernel_rfl))
                        refine lD Tryz.underlying104 Tryz.underlying9 (by simp [MapKept.IsKey]) rfl rfl rfl rfl rfl ((qI d.n _).trans (congrArg some (if_neg hU))) ?_
                        repeat (first | ((with_reducible refine zK ?_); refine zJ rfl ?_) | ((with_reducible refine zQ ?_); refine zg rfl rfl (by omega) ?_)  | refine zL ?_ | refine zB rfl ?_ | with_reducible (first | refine zG ?_ | refine zu ?_) | ((with_reducible refine zA ?_ ?_); kernel_rfl))
                        refine ⟨k + 1, ⟨by omega, by rw [hI hx, ← List.append_assoc]; exact hg⟩, by omega, ⟨rfl, rfl, rfl, rfl, rfl, trivial⟩, ⟨rfl, ?_, trivial⟩⟩
                        rw [hI hx, ← List.append_assoc, mT]
                        rfl
          · have hlt : ¬ k < V.length := by simpa using h
            repeat (first | ((with_reducible refine zE ?_); refine zF rfl ?_)  | refine zL ?_ | refine zB rfl ?_ | with_reducible (first | refine zG ?_ | refine zo ?_ | refine zH ?_ | refine yB ?_ | refine zN ?_) | ((with_reducible refine ze ?_ ?_); rfl) | ((with_reducible refine zA ?_ ?_); kernel_rfl))
            refine zm (by first | exact .inr rfl | exact .inl rfl) rfl rfl ?_
            rw [List.drop_of_length_le (by omega)] at hg
            rw [← hg]; rfl
end Go.Proofs.YtjamibeffalhaaaGreatDoor
