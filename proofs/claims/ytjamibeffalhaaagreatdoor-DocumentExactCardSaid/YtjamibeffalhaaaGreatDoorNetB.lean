/- network.Check, by the abstract machine; conditions: the table of classes stands. -/
import Derived.Test.YtjamibeffalhaaaGreatDoorLxA
set_option linter.unusedVariables false
set_option linter.unusedSimpArgs false
namespace Go.Proofs.YtjamibeffalhaaaGreatDoor
open Go Go.RowKit
set_option maxRecDepth 10000
variable {G : Nat → Option (List Value)}
theorem kJ (U : List ByteArray) (n : ByteArray) : iE (U ++ [n]) = iE U ++ [(.string n, .bool true)] := by
  unfold iE
  rw [List.map_append]
  rfl
theorem sP (w : World) : (zeroValue 4).run Tryz.prog w = .ok (.bool false) w := by
  kernel_rfl
theorem ndGo_at {U : List ByteArray} {N : List Nd} {k : Nat} {x : Nd} (h : N[k]? = some x) : ndGo U (N.drop k) = if jT x.n.data.toList = false then 3 else if jS U x.n = true then 4 else if x.cu < 0 ∨ 1048576 < x.cu ∨ ju x.co = false then 5 else ndGo (U ++ [x.n]) (N.drop (k + 1)) := by
  rw [yV h]; rfl
theorem dvGo_at {m : Int} {U : List ByteArray} {V : List Dv} {k : Nat} {d : Dv} (h : V[k]? = some d) : dvGo m U (V.drop k) = if jT d.n.data.toList = false then 3 else if jS U d.n = true then 4 else if d.k < 1 ∨ 6 < d.k then 6 else if qQ d m = false then 7 else if ju d.co = false then 5 else dvGo m (U ++ [d.n]) (V.drop (k + 1)) := by
  rw [yV h]; rfl
def bM (V : List Dv) (k : Nat) : List ByteArray := (V.take k).map Dv.n
theorem fV {V : List Dv} {k : Nat} {x : Dv} (h : V[k]? = some x) : bM V (k + 1) = bM V k ++ [x.n] := by
  unfold bM
  rw [List.take_add_one, h]
  simp
def jy (N : List Nd) (k : Nat) : List ByteArray := (N.take k).map Nd.n
theorem eJ {N : List Nd} {k : Nat} {x : Nd} (h : N[k]? = some x) : jy N (k + 1) = jy N k ++ [x.n] := by
  unfold jy
  rw [List.take_add_one, h]
  simp
set_option maxHeartbeats 4000000 in
theorem jZ (N : List Nd) (V : List Dv) (hG : GCls G) (hN : ∀ x ∈ N, x.n.size ≤ maxLen) (hV : ∀ x ∈ V, x.n.size ≤ maxLen) (h1 : N.length ≤ maxLen) (h2 : V.length ≤ maxLen) : zy Tryz.prog G 38 [.ag [.sl 3 (N.map Nd.av), .sl 5 (V.map Dv.av)]] [] (.v (.int .i64 (netE N V))) [] := by
  refine zd tbOk (zf Tryz.func38 (by kernel_rfl) rfl) Tryz.func38 rfl _ Tryz.ntmps38 (Nat.le_of_ble_eq_true rfl) fun X hX => ?_
  subst hX
  repeat (first | ((with_reducible refine zJ ?_); refine zK rfl ?_) | ((with_reducible refine zF ?_); refine zE rfl ?_) | ((with_reducible refine zM ?_); refine zI tbOk rfl rfl rfl rfl ?_) | ((with_reducible refine zQ ?_); refine zO tbOk rfl rfl rfl rfl rfl ?_) | ((with_reducible refine yl ?_); refine yj rfl rfl rfl ?_) | ((with_reducible refine zq ?_); refine yI tbOk rfl rfl ?_) | ((with_reducible refine zR ?_); refine zS rfl rfl rfl ?_)  | refine zL ?_ | refine zB rfl ?_ | with_reducible (first | refine zG ?_ | refine zH ?_) | ((with_reducible refine zA ?_ ?_); kernel_rfl))
  refine zn rfl rfl (fun h => ?_) (fun h => ?_)
  · have h32 : 32 < N.length := by simp at h; omega
    repeat (first | ((with_reducible refine zF ?_); refine zE rfl ?_) | ((with_reducible refine zW ?_); refine zi rfl (by first | rfl | assumption) rfl ?_)  | refine zL ?_ | refine zB rfl ?_ | refine yC rfl rfl (by first | rfl | assumption) ?_ | with_reducible (first | refine zG ?_ | refine zP ?_ | refine zH ?_ | refine zN ?_) | ((with_reducible refine zA ?_ ?_); kernel_rfl) | refine zr rfl (by first | rfl | assumption) ?_)
    refine ze (by first | exact .inr rfl | exact .inl rfl) rfl rfl ?_
    unfold netE
    rw [if_pos (.inl h32)]
  have h32 : ¬ 32 < N.length := by simp at h; omega
  repeat (first | ((with_reducible refine zM ?_); refine zI tbOk rfl rfl rfl rfl ?_) | ((with_reducible refine zQ ?_); refine zO tbOk rfl rfl rfl rfl rfl ?_) | ((with_reducible refine zW ?_); refine zh rfl (by first | rfl | assumption) rfl ?_) | ((with_reducible refine zq ?_); refine yI tbOk rfl rfl ?_) | ((with_reducible refine zR ?_); refine zS rfl rfl rfl ?_)  | refine zL ?_ | refine zB rfl ?_ | refine zm rfl rfl (by first | rfl | assumption) ?_ | with_reducible refine zG ?_ )
  refine zX rfl (fun h => ?_) (fun h => ?_)
  · have h64 : 64 < V.length := by simp at h; omega
    repeat (first | ((with_reducible refine zF ?_); refine zE rfl ?_)  | refine zL ?_ | refine zB rfl ?_ | with_reducible (first | refine zG ?_ | refine zP ?_ | refine zH ?_ | refine zN ?_) | ((with_reducible refine zA ?_ ?_); kernel_rfl))
    refine ze (by first | exact .inr rfl | exact .inl rfl) rfl rfl ?_
    unfold netE
    rw [if_pos (.inr h64)]
  · have h64 : ¬ 64 < V.length := by simp at h; omega
    repeat (first   | refine zB rfl ?_ | with_reducible (first | refine zG ?_ | refine zH ?_ | refine zT ?_) | ((with_reducible refine zA ?_ ?_); kernel_rfl))
    refine uE rfl ?_
    repeat (first | ((with_reducible refine zJ ?_); refine zK rfl ?_) | ((with_reducible refine zF ?_); refine zE rfl ?_) | ((with_reducible refine zM ?_); refine zI tbOk rfl rfl rfl rfl ?_) | ((with_reducible refine zQ ?_); refine zO tbOk rfl rfl rfl rfl rfl ?_) | ((with_reducible refine zq ?_); refine yI tbOk rfl rfl ?_)  | refine zL ?_ | refine zB rfl ?_ | with_reducible (first | refine zG ?_ | refine zH ?_ | refine zV ?_) | ((with_reducible refine zA ?_ ?_); kernel_rfl))
    refine yJ (ι := Nat) (fun k => k ≤ N.length ∧ ndGo (jy N k) (N.drop k) = ndGo [] N) (fun k => N.length - k) (fun v k => [(1, .ptr 1 (v 1) 0), (3, .own 18 (v 18)), (20, .sl 3 (N.map Nd.av)), (21, .v (.int .i64 (N.map Nd.av).length)), (22, .v (.int .i64 k))]) (fun v k => [(1, .box [.sl 3 (N.map Nd.av), .sl 5 (V.map Dv.av)]), (18, .mp (iE (jy N k)))]) ?_ ?_
    · exact ⟨0, ⟨Nat.zero_le _, rfl⟩, trivial, ⟨rfl, rfl, rfl, rfl, rfl, trivial⟩, ⟨rfl, rfl, trivial⟩⟩
    · rintro v k ⟨hk, hf⟩
      repeat (first | ((with_reducible refine zR ?_); refine zS rfl rfl rfl ?_)  | refine zL ?_ | refine zB rfl ?_ | with_reducible (first | refine zG ?_ | refine zH ?_) | ((with_reducible refine zA ?_ ?_); kernel_rfl))
      refine zX rfl (fun h => ?_) (fun h => ?_)
      · have hlt : k < N.length := by simpa using h
        obtain ⟨x, hx⟩ := zc hlt
        have hy : (N.map Nd.av)[k]? = some x.av := by rw [List.getElem?_map, hx]; rfl
        rw [ndGo_at hx] at hf
        repeat (first | ((with_reducible refine zM ?_); refine zI tbOk rfl rfl rfl rfl ?_) | ((with_reducible refine zQ ?_); (first | refine zO tbOk rfl rfl rfl rfl rfl ?_ | refine yK tbOk rfl rfl (Nat.le_of_ble_eq_true rfl) ?_)) | ((with_reducible refine yD ?_); refine yE tbOk rfl rfl rfl rfl rfl rfl rfl (Nat.le_of_ble_eq_true rfl) rfl ?_) | ((with_reducible refine yc ?_); refine ya tbOk rfl rfl ?_) | ((with_reducible refine zY ?_); refine zZ tbOk rfl rfl rfl rfl (by assumption) ?_)  | refine zL ?_ | refine zB rfl ?_ | with_reducible (first | refine zG ?_ | refine zH ?_ | refine zV ?_ | refine zT ?_) | ((with_reducible refine zA ?_ ?_); kernel_rfl))
        refine zC (nA x.n hG (hN x (List.mem_of_getElem? hx))) ?_
        repeat (first | ((with_reducible refine zF ?_); refine zE rfl ?_) | ((with_reducible refine k_un ?_); refine yz rfl ?_)  | refine zL ?_ | refine zB rfl ?_ | with_reducible refine zG ?_ )
        refine zX rfl (fun hE => ?_) (fun hE => ?_)
        · repeat (first | ((with_reducible refine zF ?_); refine zE rfl ?_)  | refine zL ?_ | refine zB rfl ?_ | with_reducible (first | refine zG ?_ | refine zP ?_ | refine zU ?_ | refine zH ?_ | refine zN ?_) | ((with_reducible refine zA ?_ ?_); kernel_rfl))
          refine ze (by first | exact .inr rfl | exact .inl rfl) rfl rfl ?_
          rw [if_pos (by simpa using hE)] at hf
          unfold netE
          rw [if_neg (by omega), if_pos (by rw [← hf]; decide), ← hf]
        · rw [if_neg (by simpa using hE)] at hf
          repeat (first | ((with_reducible refine zJ ?_); refine zK rfl ?_) | ((with_reducible refine zM ?_); refine zI tbOk rfl rfl rfl rfl ?_) | ((with_reducible refine zQ ?_); refine zO tbOk rfl rfl rfl rfl rfl ?_)  | refine zB rfl ?_ | with_reducible refine zH ?_ | ((with_reducible refine zA ?_ ?_); kernel_rfl))
          by_cases hU : jS (jy N k) x.n = true
          · refine eR Tryz.underlying104 Tryz.underlying9 (by simp [MapKept.IsKey]) sP rfl rfl rfl rfl ((qB x.n (jy N k)).trans (congrArg some (if_pos hU))) ?_
            repeat (first | ((with_reducible refine zF ?_); refine zE rfl ?_)  | refine zL ?_ | refine zB rfl ?_ | with_reducible (first | refine zG ?_ | refine zP ?_ | refine zU ?_ | refine zH ?_ | refine zN ?_) | ((with_reducible refine zA ?_ ?_); kernel_rfl) | refine zr rfl (by first | rfl | assumption) ?_)
            refine ze (by first | exact .inr rfl | exact .inl rfl) rfl rfl ?_
            rw [if_pos hU] at hf
            unfold netE
            rw [if_neg (by omega), if_pos (by rw [← hf]; decide), ← hf]
          · rw [if_neg hU] at hf
            refine eR Tryz.underlying104 Tryz.underlying9 (by simp [MapKept.IsKey]) sP rfl rfl rfl rfl ((qB x.n (jy N k)).trans (congrArg some (if_neg hU))) ?_
            repeat (first | ((with_reducible refine zJ ?_); refine zK rfl ?_) | ((with_reducible refine zF ?_); refine zE rfl ?_) | ((with_reducible refine zM ?_); refine zI tbOk rfl rfl rfl rfl ?_) | ((with_reducible refine zQ ?_); refine zO tbOk rfl rfl rfl rfl rfl ?_) | ((with_reducible refine zR ?_); refine zS rfl rfl rfl ?_)  | refine zL ?_ | refine zB rfl ?_ | with_reducible (first | refine zG ?_ | refine zH ?_) | ((with_reducible refine zA ?_ ?_); kernel_rfl) | refine yH rfl (by first | rfl | assumption) ?_)
            refine zn rfl rfl (fun c1 => ?_) (fun c1 => ?_)
            · repeat (first | ((with_reducible refine zJ ?_); refine zK rfl ?_) | ((with_reducible refine zF ?_); refine zE rfl ?_) | ((with_reducible refine zW ?_); refine zi rfl (by first | rfl | assumption) rfl ?_)  | refine zL ?_ | refine zB rfl ?_ | refine yC rfl rfl (by first | rfl | assumption) ?_ | with_reducible (first | refine zG ?_ | refine zP ?_ | refine zU ?_ | refine zH ?_ | refine zN ?_) | ((with_reducible refine zA ?_ ?_); kernel_rfl) | refine zr rfl (by first | rfl | assumption) ?_)
              refine ze (by first | exact .inr rfl | exact .inl rfl) rfl rfl ?_
              rw [if_pos (.inl (by simpa using c1))] at hf
              unfold netE
              rw [if_neg (by omega), if_pos (by rw [← hf]; decide), ← hf]
            · repeat (first | ((with_reducible refine zJ ?_); refine zK rfl ?_) | ((with_reducible refine zM ?_); refine zI tbOk rfl rfl rfl rfl ?_) | ((with_reducible refine zQ ?_); refine zO tbOk rfl rfl rfl rfl rfl ?_) | ((with_reducible refine zW ?_); refine zh rfl (by first | rfl | assumption) rfl ?_) | ((with_reducible refine zR ?_); refine zS rfl rfl rfl ?_)  | refine zB rfl ?_ | refine zm rfl rfl (by first | rfl | assumption) ?_  )
              refine zn rfl rfl (fun c2 => ?_) (fun c2 => ?_)
              · repeat (first | ((with_reducible refine zF ?_); refine zE rfl ?_) | ((with_reducible refine zW ?_); refine zi rfl (by first | rfl | assumption) rfl ?_)  | refine zL ?_ | refine zB rfl ?_ | refine yC rfl rfl (by first | rfl | assumption) ?_ | with_reducible (first | refine zG ?_ | refine zP ?_ | refine zU ?_ | refine zH ?_ | refine zN ?_) | ((with_reducible refine zA ?_ ?_); kernel_rfl) | refine zr rfl (by first | rfl | assumption) ?_)
                refine ze (by first | exact .inr rfl | exact .inl rfl) rfl rfl ?_
                rw [if_pos (.inr (.inl (by simpa using c2)))] at hf
                unfold netE
                rw [if_neg (by omega), if_pos (by rw [← hf]; decide), ← hf]
              · repeat (first | ((with_reducible refine zM ?_); refine zI tbOk rfl rfl rfl rfl ?_) | ((with_reducible refine zQ ?_); refine zO tbOk rfl rfl rfl rfl rfl ?_)  | refine zm rfl rfl (by first | rfl | assumption) ?_  )
                refine zC (wO x.co) ?_
                repeat (first | ((with_reducible refine zF ?_); refine zE rfl ?_) | ((with_reducible refine k_un ?_); refine yz rfl ?_) | ((with_reducible refine zW ?_); refine zh rfl (by first | rfl | assumption) rfl ?_)  | refine zL ?_ | refine zB rfl ?_ | refine zm rfl rfl (by first | rfl | assumption) ?_ | with_reducible refine zG ?_ )
                refine zX rfl (fun c3 => ?_) (fun c3 => ?_)
                · repeat (first | ((with_reducible refine zF ?_); refine zE rfl ?_)  | refine zL ?_ | refine zB rfl ?_ | with_reducible (first | refine zG ?_ | refine zP ?_ | refine zU ?_ | refine zH ?_ | refine zN ?_) | ((with_reducible refine zA ?_ ?_); kernel_rfl))
                  refine ze (by first | exact .inr rfl | exact .inl rfl) rfl rfl ?_
                  rw [if_pos (.inr (.inr (by simpa using c3)))] at hf
                  unfold netE
                  rw [if_neg (by omega), if_pos (by rw [← hf]; decide), ← hf]
                · have c1' : ¬ x.cu < 0 := by simpa using c1
                  have c2' : ¬ 1048576 < x.cu := by simpa using c2
                  have c3' : ¬ ju x.co = false := by simpa using c3
                  rw [if_neg (by rintro (h | h | h) <;> contradiction)] at hf
                  repeat (first | ((with_reducible refine zJ ?_); refine zK rfl ?_) | ((with_reducible refine zM ?_); refine zI tbOk rfl rfl rfl rfl ?_) | ((with_reducible refine zQ ?_); refine zO tbOk rfl rfl rfl rfl rfl ?_)  | refine zB rfl ?_ | with_reducible (first | refine zG ?_ | refine zo ?_ | refine zT ?_) | ((with_reducible refine zA ?_ ?_); kernel_rfl))
                  refine lL Tryz.underlying104 Tryz.underlying9 (by simp [MapKept.IsKey]) rfl rfl rfl rfl rfl ((qB x.n (jy N k)).trans (congrArg some (if_neg hU))) ?_
                  repeat (first | ((with_reducible refine zJ ?_); refine zK rfl ?_) | ((with_reducible refine zR ?_); refine zk rfl rfl (by omega) ?_)  | refine zL ?_ | refine zB rfl ?_ | with_reducible (first | refine zG ?_ | refine zo ?_) | ((with_reducible refine zA ?_ ?_); kernel_rfl))
                  refine ⟨k + 1, ⟨by omega, by rw [eJ hx]; exact hf⟩, by omega, ⟨rfl, rfl, rfl, rfl, rfl, trivial⟩, ⟨rfl, ?_, trivial⟩⟩
                  rw [eJ hx, kJ]
                  rfl
      · have hlt : ¬ k < N.length := by simpa using h
        have hk' : k = N.length := by omega
        subst hk'
        have hn0 : ndGo [] N = 0 := by rw [← hf, List.drop_of_length_le (Nat.le_refl _)]; rfl
        have eV : netE N V = dvGo N.length (N.map Nd.n) V := by
          unfold netE
          rw [if_neg (by omega), if_neg (by simp [hn0])]
        rw [eV, show N.map Nd.n = jy N N.length by unfold jy; rw [List.take_length]]
        generalize jy N N.length = U
        repeat (first | ((with_reducible refine zJ ?_); refine zK rfl ?_) | ((with_reducible refine zM ?_); refine zI tbOk rfl rfl rfl rfl ?_) | ((with_reducible refine zQ ?_); refine zO tbOk rfl rfl rfl rfl rfl ?_) | ((with_reducible refine zq ?_); refine yI tbOk rfl rfl ?_)  | refine zL ?_ | refine zB rfl ?_ | with_reducible (first | refine zG ?_ | refine zj ?_ | refine zH ?_ | refine zV ?_ | refine zz ?_) | ((with_reducible refine zg ?_ ?_); rfl) | ((with_reducible refine zA ?_ ?_); kernel_rfl))
        refine yJ (ι := Nat) (fun k => k ≤ V.length ∧ dvGo N.length (U ++ bM V k) (V.drop k) = dvGo N.length U V) (fun k => V.length - k) (fun v k => [(1, .ptr 1 (v 1) 0), (3, .own 18 (v 18)), (56, .sl 5 (V.map Dv.av)), (57, .v (.int .i64 (V.map Dv.av).length)), (58, .v (.int .i64 k))]) (fun v k => [(1, .box [.sl 3 (N.map Nd.av), .sl 5 (V.map Dv.av)]), (18, .mp (iE (U ++ bM V k)))]) ?_ ?_
        · exact ⟨0, ⟨Nat.zero_le _, by simp [bM]⟩, trivial, ⟨rfl, rfl, rfl, rfl, rfl, trivial⟩, ⟨rfl, by rw [show U ++ bM V 0 = U by simp [bM]]; rfl, trivial⟩⟩
        · rintro v k ⟨hk, hg⟩
          repeat (first | ((with_reducible refine zR ?_); refine zS rfl rfl rfl ?_)  | refine zL ?_ | refine zB rfl ?_ | with_reducible (first | refine zG ?_ | refine zH ?_) | ((with_reducible refine zA ?_ ?_); kernel_rfl))
          refine zX rfl (fun h => ?_) (fun h => ?_)
          · have hlt : k < V.length := by simpa using h
            obtain ⟨d, hx⟩ := zc hlt
            have hy : (V.map Dv.av)[k]? = some d.av := by rw [List.getElem?_map, hx]; rfl
            rw [dvGo_at hx] at hg
            repeat (first | ((with_reducible refine zM ?_); refine zI tbOk rfl rfl rfl rfl ?_) | ((with_reducible refine zQ ?_); (first | refine zO tbOk rfl rfl rfl rfl rfl ?_ | refine yK tbOk rfl rfl (Nat.le_of_ble_eq_true rfl) ?_)) | ((with_reducible refine yD ?_); refine yE tbOk rfl rfl rfl rfl rfl rfl rfl (Nat.le_of_ble_eq_true rfl) rfl ?_) | ((with_reducible refine yc ?_); refine ya tbOk rfl rfl ?_) | ((with_reducible refine zY ?_); refine zZ tbOk rfl rfl rfl rfl (by assumption) ?_)  | refine zL ?_ | refine zB rfl ?_ | with_reducible (first | refine zG ?_ | refine zH ?_ | refine zV ?_ | refine zT ?_) | ((with_reducible refine zA ?_ ?_); kernel_rfl))
            refine zC (nA d.n hG (hV d (List.mem_of_getElem? hx))) ?_
            repeat (first | ((with_reducible refine zF ?_); refine zE rfl ?_) | ((with_reducible refine k_un ?_); refine yz rfl ?_)  | refine zL ?_ | refine zB rfl ?_ | with_reducible refine zG ?_ )
            refine zX rfl (fun hE => ?_) (fun hE => ?_)
            · repeat (first | ((with_reducible refine zF ?_); refine zE rfl ?_)  | refine zL ?_ | refine zB rfl ?_ | with_reducible (first | refine zG ?_ | refine zP ?_ | refine zU ?_ | refine zH ?_ | refine zN ?_) | ((with_reducible refine zA ?_ ?_); kernel_rfl))
              refine ze (by first | exact .inr rfl | exact .inl rfl) rfl rfl ?_
              rw [if_pos (by simpa using hE)] at hg
              rw [← hg]
            · rw [if_neg (by simpa using hE)] at hg
              repeat (first | ((with_reducible refine zJ ?_); refine zK rfl ?_) | ((with_reducible refine zM ?_); refine zI tbOk rfl rfl rfl rfl ?_) | ((with_reducible refine zQ ?_); refine zO tbOk rfl rfl rfl rfl rfl ?_)  | refine zB rfl ?_ | with_reducible refine zH ?_ | ((with_reducible refine zA ?_ ?_); kernel_rfl))
              by_cases hU : jS (U ++ bM V k) d.n = true
              · refine eR Tryz.underlying104 Tryz.underlying9 (by simp [MapKept.IsKey]) sP rfl rfl rfl rfl ((qB d.n _).trans (congrArg some (if_pos hU))) ?_
                repeat (first | ((with_reducible refine zF ?_); refine zE rfl ?_)  | refine zL ?_ | refine zB rfl ?_ | with_reducible (first | refine zG ?_ | refine zP ?_ | refine zU ?_ | refine zH ?_ | refine zN ?_) | ((with_reducible refine zA ?_ ?_); kernel_rfl) | refine zr rfl (by first | rfl | assumption) ?_)
                refine ze (by first | exact .inr rfl | exact .inl rfl) rfl rfl ?_
                rw [if_pos hU] at hg
                rw [← hg]
              · rw [if_neg hU] at hg
                refine eR Tryz.underlying104 Tryz.underlying9 (by simp [MapKept.IsKey]) sP rfl rfl rfl rfl ((qB d.n _).trans (congrArg some (if_neg hU))) ?_
                repeat (first | ((with_reducible refine zJ ?_); refine zK rfl ?_) | ((with_reducible refine zF ?_); refine zE rfl ?_) | ((with_reducible refine zM ?_); refine zI tbOk rfl rfl rfl rfl ?_) | ((with_reducible refine zQ ?_); refine zO tbOk rfl rfl rfl rfl rfl ?_) | ((with_reducible refine zR ?_); refine zS rfl rfl rfl ?_)  | refine zL ?_ | refine zB rfl ?_ | with_reducible (first | refine zG ?_ | refine zH ?_) | ((with_reducible refine zA ?_ ?_); kernel_rfl) | refine yH rfl (by first | rfl | assumption) ?_)
                refine zn rfl rfl (fun c1 => ?_) (fun c1 => ?_)
                · repeat (first | ((with_reducible refine zF ?_); refine zE rfl ?_) | ((with_reducible refine zW ?_); refine zi rfl (by first | rfl | assumption) rfl ?_)  | refine zL ?_ | refine zB rfl ?_ | refine yC rfl rfl (by first | rfl | assumption) ?_ | with_reducible (first | refine zG ?_ | refine zP ?_ | refine zU ?_ | refine zH ?_ | refine zN ?_) | ((with_reducible refine zA ?_ ?_); kernel_rfl) | refine zr rfl (by first | rfl | assumption) ?_)
                  refine ze (by first | exact .inr rfl | exact .inl rfl) rfl rfl ?_
                  rw [if_pos (.inl (by simpa using c1))] at hg
                  rw [← hg]
                · repeat (first | ((with_reducible refine zF ?_); refine zE rfl ?_) | ((with_reducible refine zM ?_); refine zI tbOk rfl rfl rfl rfl ?_) | ((with_reducible refine zQ ?_); refine zO tbOk rfl rfl rfl rfl rfl ?_) | ((with_reducible refine zW ?_); refine zh rfl (by first | rfl | assumption) rfl ?_) | ((with_reducible refine zR ?_); refine zS rfl rfl rfl ?_)  | refine zL ?_ | refine zB rfl ?_ | refine zm rfl rfl (by first | rfl | assumption) ?_ | with_reducible refine zG ?_ )
                  refine zX rfl (fun c2 => ?_) (fun c2 => ?_)
                  · repeat (first | ((with_reducible refine zF ?_); refine zE rfl ?_)  | refine zL ?_ | refine zB rfl ?_ | with_reducible (first | refine zG ?_ | refine zP ?_ | refine zU ?_ | refine zH ?_ | refine zN ?_) | ((with_reducible refine zA ?_ ?_); kernel_rfl))
                    refine ze (by first | exact .inr rfl | exact .inl rfl) rfl rfl ?_
                    rw [if_pos (.inr (by simpa using c2))] at hg
                    rw [← hg]
                  · have c1' : ¬ d.k < 1 := by simpa using c1
                    have c2' : ¬ 6 < d.k := by simpa using c2
                    rw [if_neg (by omega)] at hg
                    repeat (first | ((with_reducible refine zM ?_); refine zI tbOk rfl rfl rfl rfl ?_) | ((with_reducible refine zQ ?_); (first | refine zO tbOk rfl rfl rfl rfl rfl ?_ | refine za tbOk rfl rfl rfl rfl (Nat.le_of_ble_eq_true rfl) ?_)) | ((with_reducible refine zq ?_); refine yI tbOk rfl rfl ?_)  | refine zB rfl ?_ | with_reducible refine zH ?_ | ((with_reducible refine zA ?_ ?_); kernel_rfl))
                    have hln : ((N.map Nd.av).length : Int) = N.length := by simp
                    have hE2 := vL (G := X.G) d ((N.map Nd.av).length : Int)
                    rw [hln] at hE2
                    refine zC (vL d ((N.map Nd.av).length : Int)) ?_
                    repeat (first | ((with_reducible refine zF ?_); refine zE rfl ?_) | ((with_reducible refine k_un ?_); refine yz rfl ?_)  | refine zL ?_ | refine zB rfl ?_ | with_reducible refine zG ?_ )
                    refine zX rfl (fun c3 => ?_) (fun c3 => ?_)
                    · repeat (first | ((with_reducible refine zF ?_); refine zE rfl ?_)  | refine zL ?_ | refine zB rfl ?_ | with_reducible (first | refine zG ?_ | refine zP ?_ | refine zU ?_ | refine zH ?_ | refine zN ?_) | ((with_reducible refine zA ?_ ?_); kernel_rfl))
                      refine ze (by first | exact .inr rfl | exact .inl rfl) rfl rfl ?_
                      rw [if_pos (by simpa using c3)] at hg
                      rw [← hg]
                    · rw [if_neg (by simpa using c3)] at hg
                      repeat (first | ((with_reducible refine zM ?_); refine zI tbOk rfl rfl rfl rfl ?_) | ((with_reducible refine zQ ?_); refine zO tbOk rfl rfl rfl rfl rfl ?_)  | refine zB rfl ?_ | with_reducible refine zH ?_ | ((with_reducible refine zA ?_ ?_); kernel_rfl))
                      refine zC (wO d.co) ?_
                      repeat (first | ((with_reducible refine zF ?_); refine zE rfl ?_) | ((with_reducible refine k_un ?_); refine yz rfl ?_)  | refine zL ?_ | refine zB rfl ?_ | with_reducible refine zG ?_ )
                      refine zX rfl (fun c4 => ?_) (fun c4 => ?_)
                      · repeat (first | ((with_reducible refine zF ?_); refine zE rfl ?_)  | refine zL ?_ | refine zB rfl ?_ | with_reducible (first | refine zG ?_ | refine zP ?_ | refine zU ?_ | refine zH ?_ | refine zN ?_) | ((with_reducible refine zA ?_ ?_); kernel_rfl))
                        refine ze (by first | exact .inr rfl | exact .inl rfl) rfl rfl ?_
                        rw [if_pos (by simpa using c4)] at hg
                        rw [← hg]
                      · rw [if_neg (by simpa using c4)] at hg
                        repeat (first | ((with_reducible refine zJ ?_); refine zK rfl ?_) | ((with_reducible refine zM ?_); refine zI tbOk rfl rfl rfl rfl ?_) | ((with_reducible refine zQ ?_); refine zO tbOk rfl rfl rfl rfl rfl ?_)  | refine zB rfl ?_ | with_reducible (first | refine zG ?_ | refine zo ?_ | refine zT ?_) | ((with_reducible refine zA ?_ ?_); kernel_rfl))
                        refine lL Tryz.underlying104 Tryz.underlying9 (by simp [MapKept.IsKey]) rfl rfl rfl rfl rfl ((qB d.n _).trans (congrArg some (if_neg hU))) ?_
                        repeat (first | ((with_reducible refine zJ ?_); refine zK rfl ?_) | ((with_reducible refine zR ?_); refine zk rfl rfl (by omega) ?_)  | refine zL ?_ | refine zB rfl ?_ | with_reducible (first | refine zG ?_ | refine zo ?_) | ((with_reducible refine zA ?_ ?_); kernel_rfl))
                        refine ⟨k + 1, ⟨by omega, by rw [fV hx, ← List.append_assoc]; exact hg⟩, by omega, ⟨rfl, rfl, rfl, rfl, rfl, trivial⟩, ⟨rfl, ?_, trivial⟩⟩
                        rw [fV hx, ← List.append_assoc, kJ]
                        rfl
          · have hlt : ¬ k < V.length := by simpa using h
            repeat (first | ((with_reducible refine zF ?_); refine zE rfl ?_)  | refine zL ?_ | refine zB rfl ?_ | with_reducible (first | refine zG ?_ | refine zj ?_ | refine zH ?_ | refine zz ?_ | refine zN ?_) | ((with_reducible refine zg ?_ ?_); rfl) | ((with_reducible refine zA ?_ ?_); kernel_rfl))
            refine ze (by first | exact .inr rfl | exact .inl rfl) rfl rfl ?_
            rw [List.drop_of_length_le (by omega)] at hg
            rw [← hg]; rfl
end Go.Proofs.YtjamibeffalhaaaGreatDoor
