/- The reference's Check of networks (permitofficeref03), by the abstract machine: it says what network.Check says; conditions: none. -/
import Derived.Test.YtjamibeffalhaaaGreatDoorNetA
import Derived.Test.YtjamibeffalhaaaGreatDoorAbsX
set_option linter.unusedVariables false
set_option linter.unusedSimpArgs false
namespace Go.Proofs.YtjamibeffalhaaaGreatDoor
open Go Go.RowKit
set_option maxRecDepth 10000
variable {G : Nat → Option (List Value)}
theorem wA {U : List ByteArray} {N : List Nd} {k : Nat} {x : Nd} (h : N[k]? = some x) : ndGo U (N.drop k) = if jd x.n.data.toList = false then 3 else if jc U x.n = true then 4 else if x.cu < 0 ∨ 1048576 < x.cu ∨ qF x.co = false then 5 else ndGo (U ++ [x.n]) (N.drop (k + 1)) := by
  rw [yT h]; rfl
theorem xQ {m : Int} {U : List ByteArray} {V : List Dv} {k : Nat} {d : Dv} (h : V[k]? = some d) : dvGo m U (V.drop k) = if jd d.n.data.toList = false then 3 else if jc U d.n = true then 4 else if d.k < 1 ∨ 6 < d.k then 6 else if qb d m = false then 7 else if qF d.co = false then 5 else dvGo m (U ++ [d.n]) (V.drop (k + 1)) := by
  rw [yT h]; rfl
def dA (V : List Dv) (k : Nat) : List ByteArray := (V.take k).map Dv.n
theorem dD {V : List Dv} {k : Nat} {x : Dv} (h : V[k]? = some x) : dA V (k + 1) = dA V k ++ [x.n] := by
  unfold dA
  rw [List.take_add_one, h]
  simp
def qu (N : List Nd) (k : Nat) : List ByteArray := (N.take k).map Nd.n
theorem cT {N : List Nd} {k : Nat} {x : Nd} (h : N[k]? = some x) : qu N (k + 1) = qu N k ++ [x.n] := by
  unfold qu
  rw [List.take_add_one, h]
  simp
theorem bA (U W : List ByteArray) (s : ByteArray) : jc (U ++ W) s = (jc U s || jc W s) := by unfold jc; rw [List.any_append]
theorem gD (n s : ByteArray) : jc [n] s = decide (s = n) := by unfold jc; simp
theorem eZ (a b : ByteArray) : yI a b = decide (a = b) := by
  cases h : yI a b
  · exact (decide_eq_false (fun e => by rw [yz.2 e] at h; cases h)).symm
  · exact (decide_eq_true (yz.1 h)).symm
theorem usedN {N : List Nd} {i k : Nat} (hki : k ≤ i) {s : ByteArray} {y : Nd} (hy : N[k]? = some y) (h : s = y.n) (hk : k < i) : jc (qu N i) s = true := by
  unfold jc qu
  rw [List.any_map, List.any_eq_true]
  refine ⟨y, ?_, by simpa using h⟩
  exact List.mem_of_getElem? (show (N.take i)[k]? = some y by rw [List.getElem?_take, if_pos hk]; exact hy)
theorem usedV {V : List Dv} {i k : Nat} {s : ByteArray} {y : Dv} (hy : V[k]? = some y) (h : s = y.n) (hk : k < i) : jc (dA V i) s = true := by
  unfold jc dA
  rw [List.any_map, List.any_eq_true]
  refine ⟨y, ?_, by simpa using h⟩
  exact List.mem_of_getElem? (show (V.take i)[k]? = some y by rw [List.getElem?_take, if_pos hk]; exact hy)
theorem vA (n : Int) : qt n = (decide (n = 1) || decide (n = 2) || decide (n = 3)) := by
  unfold qt
  by_cases h1 : n = 1
  · subst h1; rfl
  by_cases h2 : n = 2
  · subst h2; rfl
  by_cases h3 : n = 3
  · subst h3; rfl
  rw [decide_eq_false h1, decide_eq_false h2, decide_eq_false h3]
  by_cases h : 1 ≤ n
  · rw [decide_eq_false (show ¬ n ≤ 3 by omega), Bool.and_false]; rfl
  · rw [decide_eq_false h]; rfl
theorem xE (n : Int) : zz Tryz.prog G 85 [.v (.int .i64 n)] [] (.v (.bool (qt n))) [] := by
  rw [vA]
  refine zb tbOk (zc Tryz.func85 (by kernel_rfl) rfl) Tryz.func85 rfl _ Tryz.ntmps85 (Nat.le_of_ble_eq_true rfl) fun X hX => ?_
  subst hX
  repeat' (first | ((with_reducible refine zK ?_); refine zJ rfl ?_) | ((with_reducible refine zE ?_); refine zF rfl ?_) | ((with_reducible refine za ?_); (first | refine zh rfl (by first | rfl | assumption) rfl ?_ | refine zf rfl (by first | rfl | assumption) rfl ?_)) | ((with_reducible refine zQ ?_); refine zT rfl rfl rfl ?_)  | refine zL ?_ | refine zB rfl ?_ | refine zw rfl rfl (by first | rfl | assumption) ?_ | refine yA rfl rfl (by first | rfl | assumption) ?_ | with_reducible (first | refine zG ?_ | refine zH ?_ | refine zN ?_) | ((with_reducible refine zA ?_ ?_); kernel_rfl) | refine zv rfl rfl (fun _ => ?_) (fun _ => ?_) | refine zZ rfl (fun _ => ?_) (fun _ => ?_))
  all_goals refine zm (by first | exact .inr rfl | exact .inl rfl) rfl rfl ?_
  all_goals simp_all
  all_goals (by_cases h : n = 3 <;> simp [h])
theorem dL {d : Dv} {m : Int} (h : d.a < 0 ∨ m ≤ d.a ∨ (qt d.k = true ∧ (d.b < 0 ∨ m ≤ d.b ∨ d.b = d.a)) ∨ (qt d.k = false ∧ d.b ≠ -1)) : qb d m = false := by
  unfold qb
  by_cases h0 : d.a < 0 ∨ m ≤ d.a
  · rw [if_pos h0]
  rw [if_neg h0]
  rcases h with h | h | ⟨h, h'⟩ | ⟨h, h'⟩
  · exact absurd (.inl h) h0
  · exact absurd (.inr h) h0
  · rw [if_neg (by rw [h]; decide)]
    rcases h' with h' | h' | h'
    · rw [decide_eq_false (show ¬ 0 ≤ d.b by omega)]; rfl
    · rw [decide_eq_false (show ¬ d.b < m by omega), Bool.and_false]; rfl
    · simp [h']
  · rw [if_pos h]; simpa using h'
theorem oN {d : Dv} {m : Int} (h0 : ¬ d.a < 0) (h1 : ¬ m ≤ d.a) (h : (qt d.k = true ∧ ¬ d.b < 0 ∧ ¬ m ≤ d.b ∧ ¬ d.b = d.a) ∨ (qt d.k = false ∧ d.b = -1)) : qb d m = true := by
  unfold qb
  rw [if_neg (by omega)]
  rcases h with ⟨h, a, b, c⟩ | ⟨h, a⟩
  · rw [if_neg (by rw [h]; decide), decide_eq_true (show 0 ≤ d.b by omega), decide_eq_true (show d.b < m by omega), decide_eq_true c]; rfl
  · rw [if_pos h]; simpa using a
set_option maxHeartbeats 8000000 in
theorem cP (N : List Nd) (V : List Dv) (hN : ∀ x ∈ N, x.n.size ≤ maxLen) (hV : ∀ x ∈ V, x.n.size ≤ maxLen) (h1 : N.length ≤ maxLen) (h2 : V.length ≤ maxLen) : zz Tryz.prog G 42 [.ag [.sl 3 (N.map Nd.av), .sl 5 (V.map Dv.av)]] [] (.v (.int .i64 (netE N V))) [] := by
  refine zb tbOk (zc Tryz.func42 (by kernel_rfl) rfl) Tryz.func42 rfl _ Tryz.ntmps42 (Nat.le_of_ble_eq_true rfl) fun X hX => ?_
  subst hX
  repeat (first | ((with_reducible refine zK ?_); refine zJ rfl ?_) | ((with_reducible refine zE ?_); refine zF rfl ?_) | ((with_reducible refine zM ?_); refine zI tbOk rfl rfl rfl rfl ?_) | ((with_reducible refine zR ?_); refine zP tbOk rfl rfl rfl rfl rfl ?_) | ((with_reducible refine yr ?_); refine yu rfl rfl rfl ?_) | ((with_reducible refine zt ?_); refine yH tbOk rfl rfl ?_) | ((with_reducible refine zQ ?_); refine zT rfl rfl rfl ?_)  | refine zL ?_ | refine zB rfl ?_ | with_reducible (first | refine zG ?_ | refine zH ?_) | ((with_reducible refine zA ?_ ?_); kernel_rfl))
  refine zv rfl rfl (fun h => ?_) (fun h => ?_)
  · have h32 : 32 < N.length := by simp at h; omega
    repeat (first | ((with_reducible refine zE ?_); refine zF rfl ?_) | ((with_reducible refine za ?_); refine zh rfl (by first | rfl | assumption) rfl ?_)  | refine zL ?_ | refine zB rfl ?_ | refine yA rfl rfl (by first | rfl | assumption) ?_ | with_reducible (first | refine zG ?_ | refine zO ?_ | refine zH ?_ | refine zN ?_) | ((with_reducible refine zA ?_ ?_); kernel_rfl) | refine zn rfl (by first | rfl | assumption) ?_)
    refine zm (by first | exact .inr rfl | exact .inl rfl) rfl rfl ?_
    unfold netE
    rw [if_pos (.inl h32)]
  have h32 : ¬ 32 < N.length := by simp at h; omega
  repeat (first | ((with_reducible refine zM ?_); refine zI tbOk rfl rfl rfl rfl ?_) | ((with_reducible refine zR ?_); refine zP tbOk rfl rfl rfl rfl rfl ?_) | ((with_reducible refine za ?_); refine zf rfl (by first | rfl | assumption) rfl ?_) | ((with_reducible refine zt ?_); refine yH tbOk rfl rfl ?_) | ((with_reducible refine zQ ?_); refine zT rfl rfl rfl ?_)  | refine zL ?_ | refine zB rfl ?_ | refine zw rfl rfl (by first | rfl | assumption) ?_ | with_reducible refine zG ?_ )
  refine zZ rfl (fun h => ?_) (fun h => ?_)
  · have h64 : 64 < V.length := by simp at h; omega
    repeat (first | ((with_reducible refine zE ?_); refine zF rfl ?_)  | refine zL ?_ | refine zB rfl ?_ | with_reducible (first | refine zG ?_ | refine zO ?_ | refine zH ?_ | refine zN ?_) | ((with_reducible refine zA ?_ ?_); kernel_rfl))
    refine zm (by first | exact .inr rfl | exact .inl rfl) rfl rfl ?_
    unfold netE
    rw [if_pos (.inr h64)]
  have h64 : ¬ 64 < V.length := by simp at h; omega
  repeat (first | ((with_reducible refine zE ?_); refine zF rfl ?_)  | refine zL ?_ | refine zB rfl ?_ | with_reducible (first | refine zG ?_ | refine zH ?_ | refine zY ?_ | refine zS ?_) | ((with_reducible refine zA ?_ ?_); kernel_rfl))
  refine yL (ι := Nat) (fun k => k ≤ N.length ∧ ndGo (qu N k) (N.drop k) = ndGo [] N) (fun k => N.length - k) (fun v k => [(1, .ptr 1 (v 1) 0), (3, .v (.int .i64 k))]) (fun v k => [(1, .box [.sl 3 (N.map Nd.av), .sl 5 (V.map Dv.av)])]) ?_ ?_
  · exact ⟨0, ⟨Nat.zero_le _, rfl⟩, trivial, ⟨rfl, rfl, trivial⟩, ⟨rfl, trivial⟩⟩
  · rintro v k ⟨hk, hf⟩
    repeat (first | ((with_reducible refine zK ?_); refine zJ rfl ?_) | ((with_reducible refine zM ?_); refine zI tbOk rfl rfl rfl rfl ?_) | ((with_reducible refine zR ?_); refine zP tbOk rfl rfl rfl rfl rfl ?_) | ((with_reducible refine zt ?_); refine yH tbOk rfl rfl ?_) | ((with_reducible refine zQ ?_); refine zT rfl rfl rfl ?_)  | refine zL ?_ | refine zB rfl ?_ | with_reducible (first | refine zG ?_ | refine zH ?_) | ((with_reducible refine zA ?_ ?_); kernel_rfl))
    refine zZ rfl (fun h => ?_) (fun h => ?_)
    · have hlt : k < N.length := by simpa using h
      obtain ⟨x, hx⟩ := zd hlt
      have hy : (N.map Nd.av)[k]? = some x.av := by rw [List.getElem?_map, hx]; rfl
      rw [wA hx] at hf
      repeat (first | ((with_reducible refine zK ?_); refine zJ rfl ?_) | ((with_reducible refine zM ?_); refine zI tbOk rfl rfl rfl rfl ?_) | ((with_reducible refine zR ?_); (first | refine zP tbOk rfl rfl rfl rfl rfl ?_ | refine yj tbOk rfl rfl (Nat.le_of_ble_eq_true rfl) ?_)) | ((with_reducible refine zp ?_); refine zq tbOk rfl rfl rfl rfl rfl rfl rfl (Nat.le_of_ble_eq_true rfl) rfl ?_) | ((with_reducible refine yR ?_); refine yQ tbOk rfl rfl ?_) | ((with_reducible refine zU ?_); refine zX tbOk rfl rfl rfl rfl (by assumption) ?_)  | refine zL ?_ | refine zB rfl ?_ | with_reducible (first | refine zG ?_ | refine zH ?_ | refine zY ?_ | refine zS ?_) | ((with_reducible refine zA ?_ ?_); kernel_rfl))
      refine zC (iD x.n (hN x (List.mem_of_getElem? hx))) ?_
      repeat (first | ((with_reducible refine k_un ?_); refine jF rfl ?_)  | refine zL ?_ | refine zB rfl ?_ | with_reducible refine zG ?_ )
      refine zZ rfl (fun hE => ?_) (fun hE => ?_)
      · repeat (first | ((with_reducible refine zE ?_); refine zF rfl ?_)  | refine zL ?_ | refine zB rfl ?_ | with_reducible (first | refine zG ?_ | refine zO ?_ | refine zV ?_ | refine zH ?_ | refine zN ?_) | ((with_reducible refine zA ?_ ?_); kernel_rfl))
        refine zm (by first | exact .inr rfl | exact .inl rfl) rfl rfl ?_
        rw [if_pos (by simpa using hE)] at hf
        unfold netE
        rw [if_neg (by omega), if_pos (by rw [← hf]; decide), ← hf]
      · rw [if_neg (by simpa using hE)] at hf
        repeat (first | ((with_reducible refine zE ?_); refine zF rfl ?_)  | refine zL ?_ | refine zB rfl ?_ | with_reducible (first | refine zG ?_ | refine zH ?_ | refine zY ?_ | refine zS ?_) | ((with_reducible refine zA ?_ ?_); kernel_rfl))
        refine yL (ι := Nat) (fun j => j ≤ k ∧ jc (qu N j) x.n = false) (fun j => k - j) (fun v j => [(1, .ptr 1 (v 1) 0), (3, .v (.int .i64 k)), (4, .ptr 4 (v 4) 0), (5, .v (.int .i64 j))]) (fun v j => [(1, .box [.sl 3 (N.map Nd.av), .sl 5 (V.map Dv.av)]), (4, .box x.av.cells)]) ?_ ?_
        · exact ⟨0, ⟨Nat.zero_le _, rfl⟩, trivial, ⟨rfl, rfl, rfl, rfl, trivial⟩, ⟨rfl, rfl, trivial⟩⟩
        · rintro v j ⟨hj, hu⟩
          repeat (first | ((with_reducible refine zK ?_); refine zJ rfl ?_) | ((with_reducible refine zQ ?_); refine zT rfl rfl rfl ?_)  | refine zL ?_ | refine zB rfl ?_ | with_reducible (first | refine zG ?_ | refine zH ?_) | ((with_reducible refine zA ?_ ?_); kernel_rfl))
          refine zZ rfl (fun h => ?_) (fun h => ?_)
          · have hjk : j < k := by simpa using h
            obtain ⟨y, hjy⟩ := zd (L := N) (k := j) (by omega)
            have hz : (N.map Nd.av)[j]? = some y.av := by rw [List.getElem?_map, hjy]; rfl
            repeat (first | ((with_reducible refine zK ?_); refine zJ rfl ?_) | ((with_reducible refine zM ?_); (first | refine zI tbOk rfl rfl rfl rfl ?_ | refine yW tbOk rfl rfl rfl rfl ?_)) | ((with_reducible refine zR ?_); (first | refine zP tbOk rfl rfl rfl rfl rfl ?_ | refine zW tbOk rfl rfl rfl ?_)) | ((with_reducible refine zU ?_); refine zX tbOk rfl rfl rfl rfl (by assumption) ?_) | ((with_reducible refine zQ ?_); refine yh rfl rfl rfl ?_)  | refine yf (by kernel_rfl) ?_ | refine zB rfl ?_ | with_reducible (first | refine zG ?_ | refine zH ?_ | refine zY ?_ | refine zS ?_) | ((with_reducible refine yZ mixd ?_ ?_); kernel_rfl))
            refine zZ rfl (fun he => ?_) (fun he => ?_)
            · repeat (first | ((with_reducible refine zE ?_); refine zF rfl ?_)  | refine zL ?_ | refine zB rfl ?_ | with_reducible (first | refine zG ?_ | refine zO ?_ | refine zV ?_ | refine zH ?_ | refine zN ?_) | ((with_reducible refine zA ?_ ?_); kernel_rfl))
              refine zm (by first | exact .inr rfl | exact .inl rfl) rfl rfl ?_
              have he' : x.n = y.n := (yz.1 he).symm
              rw [if_pos (usedN (by omega) hjy he' hjk)] at hf
              unfold netE
              rw [if_neg (by omega), if_pos (by rw [← hf]; decide), ← hf]
            · repeat (first | ((with_reducible refine zK ?_); refine zJ rfl ?_) | ((with_reducible refine zE ?_); refine zF rfl ?_) | ((with_reducible refine zQ ?_); refine zg rfl rfl (by omega) ?_)  | refine zL ?_ | refine zB rfl ?_ | with_reducible (first | refine zG ?_ | refine zu ?_ | refine zS ?_) | ((with_reducible refine zA ?_ ?_); kernel_rfl))
              refine ⟨j + 1, ⟨by omega, ?_⟩, by omega, ⟨rfl, rfl, rfl, rfl, trivial⟩, ⟨rfl, rfl, trivial⟩⟩
              rw [cT hjy, bA, hu, gD, Bool.false_or]
              rw [eZ] at he
              exact decide_eq_false fun e => by rw [e] at he; simp at he
          · obtain rfl : j = k := by simp at h; omega
            rw [if_neg (by rw [hu]; decide)] at hf
            repeat (first | ((with_reducible refine zK ?_); refine zJ rfl ?_) | ((with_reducible refine zM ?_); refine zI tbOk rfl rfl rfl rfl ?_) | ((with_reducible refine zR ?_); refine zP tbOk rfl rfl rfl rfl rfl ?_) | ((with_reducible refine zQ ?_); refine zT rfl rfl rfl ?_)  | refine zB rfl ?_ | with_reducible (first | refine zG ?_ | refine zo ?_ | refine zH ?_ | refine yB ?_) | ((with_reducible refine ze ?_ ?_); rfl) | ((with_reducible refine zA ?_ ?_); kernel_rfl))
            refine zv rfl rfl (fun c1 => ?_) (fun c1 => ?_)
            · repeat (first | ((with_reducible refine zK ?_); refine zJ rfl ?_) | ((with_reducible refine zE ?_); refine zF rfl ?_) | ((with_reducible refine za ?_); refine zh rfl (by first | rfl | assumption) rfl ?_)  | refine zL ?_ | refine zB rfl ?_ | refine yA rfl rfl (by first | rfl | assumption) ?_ | with_reducible (first | refine zG ?_ | refine zO ?_ | refine zV ?_ | refine zH ?_ | refine zN ?_) | ((with_reducible refine zA ?_ ?_); kernel_rfl) | refine zn rfl (by first | rfl | assumption) ?_)
              refine zm (by first | exact .inr rfl | exact .inl rfl) rfl rfl ?_
              rw [if_pos (.inl (by simpa using c1))] at hf
              unfold netE
              rw [if_neg (by omega), if_pos (by rw [← hf]; decide), ← hf]
            · repeat (first | ((with_reducible refine zK ?_); refine zJ rfl ?_) | ((with_reducible refine zM ?_); refine zI tbOk rfl rfl rfl rfl ?_) | ((with_reducible refine zR ?_); refine zP tbOk rfl rfl rfl rfl rfl ?_) | ((with_reducible refine za ?_); refine zf rfl (by first | rfl | assumption) rfl ?_) | ((with_reducible refine zQ ?_); refine zT rfl rfl rfl ?_)  | refine zB rfl ?_ | refine zw rfl rfl (by first | rfl | assumption) ?_  )
              refine zv rfl rfl (fun c2 => ?_) (fun c2 => ?_)
              · repeat (first | ((with_reducible refine zK ?_); refine zJ rfl ?_) | ((with_reducible refine zE ?_); refine zF rfl ?_) | ((with_reducible refine za ?_); refine zh rfl (by first | rfl | assumption) rfl ?_)  | refine zL ?_ | refine zB rfl ?_ | refine yA rfl rfl (by first | rfl | assumption) ?_ | with_reducible (first | refine zG ?_ | refine zO ?_ | refine zV ?_ | refine zH ?_ | refine zN ?_) | ((with_reducible refine zA ?_ ?_); kernel_rfl) | refine zn rfl (by first | rfl | assumption) ?_)
                refine zm (by first | exact .inr rfl | exact .inl rfl) rfl rfl ?_
                rw [if_pos (.inr (.inl (by simpa using c2)))] at hf
                unfold netE
                rw [if_neg (by omega), if_pos (by rw [← hf]; decide), ← hf]
              · repeat (first | ((with_reducible refine zK ?_); refine zJ rfl ?_) | ((with_reducible refine zM ?_); refine zI tbOk rfl rfl rfl rfl ?_) | ((with_reducible refine zR ?_); refine zP tbOk rfl rfl rfl rfl rfl ?_) | ((with_reducible refine za ?_); refine zf rfl (by first | rfl | assumption) rfl ?_) | ((with_reducible refine zQ ?_); refine zT rfl rfl rfl ?_)  | refine zB rfl ?_ | refine zw rfl rfl (by first | rfl | assumption) ?_  )
                refine zv rfl rfl (fun c3 => ?_) (fun c3 => ?_)
                · repeat (first | ((with_reducible refine zE ?_); refine zF rfl ?_) | ((with_reducible refine za ?_); refine zh rfl (by first | rfl | assumption) rfl ?_)  | refine zL ?_ | refine zB rfl ?_ | refine yA rfl rfl (by first | rfl | assumption) ?_ | with_reducible (first | refine zG ?_ | refine zO ?_ | refine zV ?_ | refine zH ?_ | refine zN ?_) | ((with_reducible refine zA ?_ ?_); kernel_rfl) | refine zn rfl (by first | rfl | assumption) ?_)
                  refine zm (by first | exact .inr rfl | exact .inl rfl) rfl rfl ?_
                  have c3' : x.co < 0 := by simpa using c3
                  rw [if_pos (.inr (.inr (by unfold qF; rw [decide_eq_false (by omega)]; rfl)))] at hf
                  unfold netE
                  rw [if_neg (by omega), if_pos (by rw [← hf]; decide), ← hf]
                · repeat (first | ((with_reducible refine zM ?_); refine zI tbOk rfl rfl rfl rfl ?_) | ((with_reducible refine zR ?_); refine zP tbOk rfl rfl rfl rfl rfl ?_) | ((with_reducible refine za ?_); refine zf rfl (by first | rfl | assumption) rfl ?_) | ((with_reducible refine zQ ?_); refine zT rfl rfl rfl ?_)  | refine zL ?_ | refine zB rfl ?_ | refine zw rfl rfl (by first | rfl | assumption) ?_ | with_reducible refine zG ?_ )
                  have c1' : ¬ x.cu < 0 := by simpa using c1
                  have c2' : ¬ 1048576 < x.cu := by simpa using c2
                  have c3' : ¬ x.co < 0 := by simpa using c3
                  refine zZ rfl (fun c4 => ?_) (fun c4 => ?_)
                  · repeat (first | ((with_reducible refine zE ?_); refine zF rfl ?_)  | refine zL ?_ | refine zB rfl ?_ | with_reducible (first | refine zG ?_ | refine zO ?_ | refine zV ?_ | refine zH ?_ | refine zN ?_) | ((with_reducible refine zA ?_ ?_); kernel_rfl))
                    refine zm (by first | exact .inr rfl | exact .inl rfl) rfl rfl ?_
                    have c4' : 7 < x.co := by simpa using c4
                    rw [if_pos (.inr (.inr (by unfold qF; rw [decide_eq_false (show ¬ x.co ≤ 7 by omega), Bool.and_false])))] at hf
                    unfold netE
                    rw [if_neg (by omega), if_pos (by rw [← hf]; decide), ← hf]
                  · have c4' : ¬ 7 < x.co := by simpa using c4
                    rw [if_neg (by
                      rintro (h | h | h)
                      · contradiction
                      · contradiction
                      · unfold qF at h; simp at h; omega)] at hf
                    repeat (first | ((with_reducible refine zK ?_); refine zJ rfl ?_) | ((with_reducible refine zE ?_); refine zF rfl ?_) | ((with_reducible refine zQ ?_); refine zg rfl rfl (by omega) ?_)  | refine zL ?_ | refine zB rfl ?_ | with_reducible (first | refine zG ?_ | refine zu ?_ | refine zS ?_) | ((with_reducible refine zA ?_ ?_); kernel_rfl))
                    exact ⟨j + 1, ⟨by omega, by rw [cT hx]; exact hf⟩, by omega, ⟨rfl, rfl, trivial⟩, ⟨rfl, trivial⟩⟩
    · obtain rfl : k = N.length := by simp at h; omega
      have hn0 : ndGo [] N = 0 := by rw [← hf, List.drop_of_length_le (Nat.le_refl _)]; rfl
      have eV : netE N V = dvGo N.length (N.map Nd.n) V := by
        unfold netE
        rw [if_neg (by omega), if_neg (by simp [hn0])]
      have eN : N.map Nd.n = qu N N.length := by unfold qu; rw [List.take_length]
      rw [eV, eN]
      repeat (first | ((with_reducible refine zE ?_); refine zF rfl ?_)  | refine zL ?_ | refine zB rfl ?_ | with_reducible (first | refine zG ?_ | refine zo ?_ | refine zH ?_ | refine zY ?_ | refine yB ?_) | ((with_reducible refine ze ?_ ?_); rfl) | ((with_reducible refine zA ?_ ?_); kernel_rfl))
      refine yL (ι := Nat) (fun k => k ≤ V.length ∧ dvGo N.length (qu N N.length ++ dA V k) (V.drop k) = dvGo N.length (qu N N.length) V) (fun k => V.length - k) (fun v k => [(1, .ptr 1 (v 1) 0), (6, .v (.int .i64 k))]) (fun v k => [(1, .box [.sl 3 (N.map Nd.av), .sl 5 (V.map Dv.av)])]) ?_ ?_
      · exact ⟨0, ⟨Nat.zero_le _, by simp [dA]⟩, trivial, ⟨rfl, rfl, trivial⟩, ⟨rfl, trivial⟩⟩
      · rintro v k ⟨hk, hf⟩
        repeat (first | ((with_reducible refine zK ?_); refine zJ rfl ?_) | ((with_reducible refine zM ?_); refine zI tbOk rfl rfl rfl rfl ?_) | ((with_reducible refine zR ?_); refine zP tbOk rfl rfl rfl rfl rfl ?_) | ((with_reducible refine zt ?_); refine yH tbOk rfl rfl ?_) | ((with_reducible refine zQ ?_); refine zT rfl rfl rfl ?_)  | refine zL ?_ | refine zB rfl ?_ | with_reducible (first | refine zG ?_ | refine zH ?_) | ((with_reducible refine zA ?_ ?_); kernel_rfl))
        refine zZ rfl (fun h => ?_) (fun h => ?_)
        · have hlt : k < V.length := by simpa using h
          obtain ⟨d, hx⟩ := zd hlt
          have hy : (V.map Dv.av)[k]? = some d.av := by rw [List.getElem?_map, hx]; rfl
          rw [xQ hx] at hf
          repeat (first | ((with_reducible refine zK ?_); refine zJ rfl ?_) | ((with_reducible refine zM ?_); refine zI tbOk rfl rfl rfl rfl ?_) | ((with_reducible refine zR ?_); (first | refine zP tbOk rfl rfl rfl rfl rfl ?_ | refine yj tbOk rfl rfl (Nat.le_of_ble_eq_true rfl) ?_)) | ((with_reducible refine zp ?_); refine zq tbOk rfl rfl rfl rfl rfl rfl rfl (Nat.le_of_ble_eq_true rfl) rfl ?_) | ((with_reducible refine yR ?_); refine yQ tbOk rfl rfl ?_) | ((with_reducible refine zU ?_); refine zX tbOk rfl rfl rfl rfl (by assumption) ?_)  | refine zL ?_ | refine zB rfl ?_ | with_reducible (first | refine zG ?_ | refine zH ?_ | refine zY ?_ | refine zS ?_) | ((with_reducible refine zA ?_ ?_); kernel_rfl))
          refine zC (iD d.n (hV d (List.mem_of_getElem? hx))) ?_
          repeat (first | ((with_reducible refine k_un ?_); refine jF rfl ?_)  | refine zL ?_ | refine zB rfl ?_ | with_reducible refine zG ?_ )
          refine zZ rfl (fun hE => ?_) (fun hE => ?_)
          · repeat (first | ((with_reducible refine zE ?_); refine zF rfl ?_)  | refine zL ?_ | refine zB rfl ?_ | with_reducible (first | refine zG ?_ | refine zO ?_ | refine zV ?_ | refine zH ?_ | refine zN ?_) | ((with_reducible refine zA ?_ ?_); kernel_rfl))
            refine zm (by first | exact .inr rfl | exact .inl rfl) rfl rfl ?_
            rw [if_pos (by simpa using hE)] at hf
            rw [← hf]
          · rw [if_neg (by simpa using hE)] at hf
            repeat (first | ((with_reducible refine zE ?_); refine zF rfl ?_)  | refine zL ?_ | refine zB rfl ?_ | with_reducible (first | refine zG ?_ | refine zH ?_ | refine zY ?_ | refine zS ?_) | ((with_reducible refine zA ?_ ?_); kernel_rfl))
            refine yL (ι := Nat) (fun j => j ≤ N.length ∧ jc (qu N j) d.n = false) (fun j => N.length - j) (fun v j => [(1, .ptr 1 (v 1) 0), (6, .v (.int .i64 k)), (7, .ptr 7 (v 7) 0), (8, .v (.int .i64 j))]) (fun v j => [(1, .box [.sl 3 (N.map Nd.av), .sl 5 (V.map Dv.av)]), (7, .box d.av.cells)]) ?_ ?_
            · exact ⟨0, ⟨Nat.zero_le _, rfl⟩, trivial, ⟨rfl, rfl, rfl, rfl, trivial⟩, ⟨rfl, rfl, trivial⟩⟩
            · rintro v j ⟨hj, hu⟩
              repeat (first | ((with_reducible refine zK ?_); refine zJ rfl ?_) | ((with_reducible refine zM ?_); refine zI tbOk rfl rfl rfl rfl ?_) | ((with_reducible refine zR ?_); refine zP tbOk rfl rfl rfl rfl rfl ?_) | ((with_reducible refine zt ?_); refine yH tbOk rfl rfl ?_) | ((with_reducible refine zQ ?_); refine zT rfl rfl rfl ?_)  | refine zL ?_ | refine zB rfl ?_ | with_reducible (first | refine zG ?_ | refine zH ?_) | ((with_reducible refine zA ?_ ?_); kernel_rfl))
              refine zZ rfl (fun h => ?_) (fun h => ?_)
              · have hjk : j < N.length := by simpa using h
                obtain ⟨y, hjy⟩ := zd (L := N) (k := j) (by omega)
                have hz : (N.map Nd.av)[j]? = some y.av := by rw [List.getElem?_map, hjy]; rfl
                repeat (first | ((with_reducible refine zK ?_); refine zJ rfl ?_) | ((with_reducible refine zM ?_); (first | refine zI tbOk rfl rfl rfl rfl ?_ | refine yW tbOk rfl rfl rfl rfl ?_)) | ((with_reducible refine zR ?_); (first | refine zP tbOk rfl rfl rfl rfl rfl ?_ | refine zW tbOk rfl rfl rfl ?_)) | ((with_reducible refine zU ?_); refine zX tbOk rfl rfl rfl rfl (by assumption) ?_) | ((with_reducible refine zQ ?_); refine yh rfl rfl rfl ?_)  | refine yf (by kernel_rfl) ?_ | refine zB rfl ?_ | with_reducible (first | refine zG ?_ | refine zH ?_ | refine zY ?_ | refine zS ?_) | ((with_reducible refine yZ mixd ?_ ?_); kernel_rfl))
                refine zZ rfl (fun he => ?_) (fun he => ?_)
                · repeat (first | ((with_reducible refine zE ?_); refine zF rfl ?_)  | refine zL ?_ | refine zB rfl ?_ | with_reducible (first | refine zG ?_ | refine zO ?_ | refine zV ?_ | refine zH ?_ | refine zN ?_) | ((with_reducible refine zA ?_ ?_); kernel_rfl))
                  refine zm (by first | exact .inr rfl | exact .inl rfl) rfl rfl ?_
                  have he' : d.n = y.n := (yz.1 he).symm
                  rw [if_pos (by rw [bA, usedN (by omega) hjy he' hjk]; rfl)] at hf
                  rw [← hf]
                · repeat (first | ((with_reducible refine zK ?_); refine zJ rfl ?_) | ((with_reducible refine zE ?_); refine zF rfl ?_) | ((with_reducible refine zQ ?_); refine zg rfl rfl (by omega) ?_)  | refine zL ?_ | refine zB rfl ?_ | with_reducible (first | refine zG ?_ | refine zu ?_ | refine zS ?_) | ((with_reducible refine zA ?_ ?_); kernel_rfl))
                  refine ⟨j + 1, ⟨by omega, ?_⟩, by omega, ⟨rfl, rfl, rfl, rfl, trivial⟩, ⟨rfl, rfl, trivial⟩⟩
                  rw [cT hjy, bA, hu, gD, Bool.false_or]
                  rw [eZ] at he
                  exact decide_eq_false fun e => by rw [e] at he; simp at he
              · obtain rfl : j = N.length := by simp at h; omega
                rw [bA, hu, Bool.false_or] at hf
                repeat (first | ((with_reducible refine zE ?_); refine zF rfl ?_)  | refine zL ?_ | refine zB rfl ?_ | with_reducible (first | refine zG ?_ | refine zo ?_ | refine zH ?_ | refine zY ?_ | refine yB ?_) | ((with_reducible refine ze ?_ ?_); rfl) | ((with_reducible refine zA ?_ ?_); kernel_rfl))
                refine yL (ι := Nat) (fun j => j ≤ k ∧ jc (dA V j) d.n = false) (fun j => k - j) (fun v j => [(1, .ptr 1 (v 1) 0), (6, .v (.int .i64 k)), (7, .ptr 7 (v 7) 0), (9, .v (.int .i64 j))]) (fun v j => [(1, .box [.sl 3 (N.map Nd.av), .sl 5 (V.map Dv.av)]), (7, .box d.av.cells)]) ?_ ?_
                · exact ⟨0, ⟨Nat.zero_le _, rfl⟩, trivial, ⟨rfl, rfl, rfl, rfl, trivial⟩, ⟨rfl, rfl, trivial⟩⟩
                · rintro v j ⟨hj, hu⟩
                  repeat (first | ((with_reducible refine zK ?_); refine zJ rfl ?_) | ((with_reducible refine zQ ?_); refine zT rfl rfl rfl ?_)  | refine zL ?_ | refine zB rfl ?_ | with_reducible (first | refine zG ?_ | refine zH ?_) | ((with_reducible refine zA ?_ ?_); kernel_rfl))
                  refine zZ rfl (fun h => ?_) (fun h => ?_)
                  · have hjk : j < k := by simpa using h
                    obtain ⟨y, hjy⟩ := zd (L := V) (k := j) (by omega)
                    have hz : (V.map Dv.av)[j]? = some y.av := by rw [List.getElem?_map, hjy]; rfl
                    repeat (first | ((with_reducible refine zK ?_); refine zJ rfl ?_) | ((with_reducible refine zM ?_); (first | refine zI tbOk rfl rfl rfl rfl ?_ | refine yW tbOk rfl rfl rfl rfl ?_)) | ((with_reducible refine zR ?_); (first | refine zP tbOk rfl rfl rfl rfl rfl ?_ | refine zW tbOk rfl rfl rfl ?_)) | ((with_reducible refine zU ?_); refine zX tbOk rfl rfl rfl rfl (by assumption) ?_) | ((with_reducible refine zQ ?_); refine yh rfl rfl rfl ?_)  | refine yf (by kernel_rfl) ?_ | refine zB rfl ?_ | with_reducible (first | refine zG ?_ | refine zH ?_ | refine zY ?_ | refine zS ?_) | ((with_reducible refine yZ mixd ?_ ?_); kernel_rfl))
                    refine zZ rfl (fun he => ?_) (fun he => ?_)
                    · repeat (first | ((with_reducible refine zE ?_); refine zF rfl ?_)  | refine zL ?_ | refine zB rfl ?_ | with_reducible (first | refine zG ?_ | refine zO ?_ | refine zV ?_ | refine zH ?_ | refine zN ?_) | ((with_reducible refine zA ?_ ?_); kernel_rfl))
                      refine zm (by first | exact .inr rfl | exact .inl rfl) rfl rfl ?_
                      have he' : d.n = y.n := (yz.1 he).symm
                      rw [if_pos (usedV hjy he' hjk)] at hf
                      rw [← hf]
                    · repeat (first | ((with_reducible refine zK ?_); refine zJ rfl ?_) | ((with_reducible refine zE ?_); refine zF rfl ?_) | ((with_reducible refine zQ ?_); refine zg rfl rfl (by omega) ?_)  | refine zL ?_ | refine zB rfl ?_ | with_reducible (first | refine zG ?_ | refine zu ?_ | refine zS ?_) | ((with_reducible refine zA ?_ ?_); kernel_rfl))
                      refine ⟨j + 1, ⟨by omega, ?_⟩, by omega, ⟨rfl, rfl, rfl, rfl, trivial⟩, ⟨rfl, rfl, trivial⟩⟩
                      rw [dD hjy, bA, hu, gD, Bool.false_or]
                      rw [eZ] at he
                      exact decide_eq_false fun e => by rw [e] at he; simp at he
                  · obtain rfl : j = k := by simp at h; omega
                    rw [if_neg (by rw [hu]; decide)] at hf
                    repeat (first | ((with_reducible refine zK ?_); refine zJ rfl ?_) | ((with_reducible refine zM ?_); refine zI tbOk rfl rfl rfl rfl ?_) | ((with_reducible refine zR ?_); refine zP tbOk rfl rfl rfl rfl rfl ?_) | ((with_reducible refine zQ ?_); refine zT rfl rfl rfl ?_)  | refine zB rfl ?_ | with_reducible (first | refine zG ?_ | refine zo ?_ | refine zH ?_ | refine yB ?_) | ((with_reducible refine ze ?_ ?_); rfl) | ((with_reducible refine zA ?_ ?_); kernel_rfl))
                    refine zv rfl rfl (fun c1 => ?_) (fun c1 => ?_)
                    · repeat (first | ((with_reducible refine zE ?_); refine zF rfl ?_) | ((with_reducible refine za ?_); refine zh rfl (by first | rfl | assumption) rfl ?_)  | refine zL ?_ | refine zB rfl ?_ | refine yA rfl rfl (by first | rfl | assumption) ?_ | with_reducible (first | refine zG ?_ | refine zO ?_ | refine zV ?_ | refine zH ?_ | refine zN ?_) | ((with_reducible refine zA ?_ ?_); kernel_rfl) | refine zn rfl (by first | rfl | assumption) ?_)
                      refine zm (by first | exact .inr rfl | exact .inl rfl) rfl rfl ?_
                      rw [if_pos (.inl (by simpa using c1))] at hf
                      rw [← hf]
                    · repeat (first | ((with_reducible refine zM ?_); refine zI tbOk rfl rfl rfl rfl ?_) | ((with_reducible refine zR ?_); refine zP tbOk rfl rfl rfl rfl rfl ?_) | ((with_reducible refine za ?_); refine zf rfl (by first | rfl | assumption) rfl ?_) | ((with_reducible refine zQ ?_); refine zT rfl rfl rfl ?_)  | refine zL ?_ | refine zB rfl ?_ | refine zw rfl rfl (by first | rfl | assumption) ?_ | with_reducible refine zG ?_ )
                      refine zZ rfl (fun c2 => ?_) (fun c2 => ?_)
                      · repeat (first | ((with_reducible refine zE ?_); refine zF rfl ?_)  | refine zL ?_ | refine zB rfl ?_ | with_reducible (first | refine zG ?_ | refine zO ?_ | refine zV ?_ | refine zH ?_ | refine zN ?_) | ((with_reducible refine zA ?_ ?_); kernel_rfl))
                        refine zm (by first | exact .inr rfl | exact .inl rfl) rfl rfl ?_
                        rw [if_pos (.inr (by simpa using c2))] at hf
                        rw [← hf]
                      · have c1' : ¬ d.k < 1 := by simpa using c1
                        have c2' : ¬ 6 < d.k := by simpa using c2
                        rw [if_neg (by omega)] at hf
                        repeat (first | ((with_reducible refine zK ?_); refine zJ rfl ?_) | ((with_reducible refine zM ?_); refine zI tbOk rfl rfl rfl rfl ?_) | ((with_reducible refine zR ?_); refine zP tbOk rfl rfl rfl rfl rfl ?_) | ((with_reducible refine zQ ?_); refine zT rfl rfl rfl ?_)  | refine zB rfl ?_ | with_reducible (first | refine zG ?_ | refine zH ?_ | refine zS ?_) | ((with_reducible refine zA ?_ ?_); kernel_rfl))
                        repeat (first | fail   )
                        refine zv rfl rfl (fun a1 => ?_) (fun a1 => ?_)
                        · have a1' : d.a < 0 := by simpa using a1
                          have e7 : qb d N.length = false := dL (.inl a1')
                          repeat (first | ((with_reducible refine zK ?_); refine zJ rfl ?_) | ((with_reducible refine zE ?_); refine zF rfl ?_) | ((with_reducible refine za ?_); refine zh rfl (by first | rfl | assumption) rfl ?_)  | refine zL ?_ | refine zB rfl ?_ | refine yA rfl rfl (by first | rfl | assumption) ?_ | refine jT rfl rfl rfl ?_ | with_reducible (first | refine zG ?_ | refine zO ?_ | refine zV ?_ | refine zH ?_ | refine zN ?_) | ((with_reducible refine zA ?_ ?_); kernel_rfl) | refine zn rfl (by first | rfl | assumption) ?_)
                          refine zm (by first | exact .inr rfl | exact .inl rfl) rfl rfl ?_
                          rw [if_pos e7] at hf
                          rw [← hf]
                        have a1' : ¬ d.a < 0 := by simpa using a1
                        repeat (first | ((with_reducible refine zK ?_); refine zJ rfl ?_) | ((with_reducible refine zM ?_); refine zI tbOk rfl rfl rfl rfl ?_) | ((with_reducible refine zR ?_); refine zP tbOk rfl rfl rfl rfl rfl ?_) | ((with_reducible refine za ?_); refine zf rfl (by first | rfl | assumption) rfl ?_) | ((with_reducible refine zt ?_); refine yH tbOk rfl rfl ?_) | ((with_reducible refine zQ ?_); refine zT rfl rfl rfl ?_)  | refine zB rfl ?_ | refine zw rfl rfl (by first | rfl | assumption) ?_ )
                        refine zv rfl rfl (fun a2 => ?_) (fun a2 => ?_)
                        · have a2' : (N.length : Int) ≤ d.a := by simpa using a2
                          have e7 : qb d N.length = false := dL (.inr (.inl a2'))
                          repeat (first | ((with_reducible refine zK ?_); refine zJ rfl ?_) | ((with_reducible refine zE ?_); refine zF rfl ?_) | ((with_reducible refine za ?_); refine zh rfl (by first | rfl | assumption) rfl ?_)  | refine zL ?_ | refine zB rfl ?_ | refine yA rfl rfl (by first | rfl | assumption) ?_ | refine jT rfl rfl rfl ?_ | with_reducible (first | refine zG ?_ | refine zO ?_ | refine zV ?_ | refine zH ?_ | refine zN ?_) | ((with_reducible refine zA ?_ ?_); kernel_rfl) | refine zn rfl (by first | rfl | assumption) ?_)
                          refine zm (by first | exact .inr rfl | exact .inl rfl) rfl rfl ?_
                          rw [if_pos e7] at hf
                          rw [← hf]
                        have a2' : ¬ (N.length : Int) ≤ d.a := by simpa using a2
                        repeat (first | ((with_reducible refine zM ?_); refine zI tbOk rfl rfl rfl rfl ?_) | ((with_reducible refine zR ?_); refine zP tbOk rfl rfl rfl rfl rfl ?_)  | refine zw rfl rfl (by first | rfl | assumption) ?_ )
                        have hJ0 := xE (G := X.G) d.k
                        cases hJ : qt d.k with
                        | true =>
                          rw [hJ] at hJ0
                          refine zC (hJ0) ?_
                          repeat (first | ((with_reducible refine zK ?_); refine zJ rfl ?_) | ((with_reducible refine zM ?_); refine zI tbOk rfl rfl rfl rfl ?_) | ((with_reducible refine zR ?_); refine zP tbOk rfl rfl rfl rfl rfl ?_) | ((with_reducible refine zQ ?_); refine zT rfl rfl rfl ?_)  | refine yC rfl rfl (by first | rfl | assumption) ?_ | refine zw rfl rfl (by first | rfl | assumption) ?_ )
                          refine zv rfl rfl (fun a3 => ?_) (fun a3 => ?_)
                          · have a3' : d.b < 0 := by simpa using a3
                            have e7 : qb d N.length = false := dL (.inr (.inr (.inl ⟨hJ, .inl a3'⟩)))
                            repeat (first | ((with_reducible refine zK ?_); refine zJ rfl ?_) | ((with_reducible refine zE ?_); refine zF rfl ?_) | ((with_reducible refine za ?_); (first | refine zh rfl (by first | rfl | assumption) rfl ?_ | refine zf rfl (by first | rfl | assumption) rfl ?_))  | refine zL ?_ | refine zB rfl ?_ | refine yC rfl rfl (by first | rfl | assumption) ?_ | refine zw rfl rfl (by first | rfl | assumption) ?_ | refine yA rfl rfl (by first | rfl | assumption) ?_ | refine jT rfl rfl rfl ?_ | with_reducible (first | refine zG ?_ | refine zO ?_ | refine zV ?_ | refine zH ?_ | refine zN ?_) | ((with_reducible refine zA ?_ ?_); kernel_rfl) | refine zn rfl (by first | rfl | assumption) ?_)
                            refine zm (by first | exact .inr rfl | exact .inl rfl) rfl rfl ?_
                            rw [if_pos e7] at hf
                            rw [← hf]
                          have a3' : ¬ d.b < 0 := by simpa using a3
                          repeat (first | ((with_reducible refine zK ?_); refine zJ rfl ?_) | ((with_reducible refine zM ?_); refine zI tbOk rfl rfl rfl rfl ?_) | ((with_reducible refine zR ?_); refine zP tbOk rfl rfl rfl rfl rfl ?_) | ((with_reducible refine za ?_); refine zf rfl (by first | rfl | assumption) rfl ?_) | ((with_reducible refine zt ?_); refine yH tbOk rfl rfl ?_) | ((with_reducible refine zQ ?_); refine zT rfl rfl rfl ?_)  | refine yC rfl rfl (by first | rfl | assumption) ?_ | refine zw rfl rfl (by first | rfl | assumption) ?_ )
                          refine zv rfl rfl (fun a4 => ?_) (fun a4 => ?_)
                          · have a4' : (N.length : Int) ≤ d.b := by simpa using a4
                            have e7 : qb d N.length = false := dL (.inr (.inr (.inl ⟨hJ, .inr (.inl a4')⟩)))
                            repeat (first | ((with_reducible refine zK ?_); refine zJ rfl ?_) | ((with_reducible refine zE ?_); refine zF rfl ?_) | ((with_reducible refine za ?_); (first | refine zh rfl (by first | rfl | assumption) rfl ?_ | refine zf rfl (by first | rfl | assumption) rfl ?_))  | refine zL ?_ | refine zB rfl ?_ | refine yC rfl rfl (by first | rfl | assumption) ?_ | refine zw rfl rfl (by first | rfl | assumption) ?_ | refine yA rfl rfl (by first | rfl | assumption) ?_ | refine jT rfl rfl rfl ?_ | with_reducible (first | refine zG ?_ | refine zO ?_ | refine zV ?_ | refine zH ?_ | refine zN ?_) | ((with_reducible refine zA ?_ ?_); kernel_rfl) | refine zn rfl (by first | rfl | assumption) ?_)
                            refine zm (by first | exact .inr rfl | exact .inl rfl) rfl rfl ?_
                            rw [if_pos e7] at hf
                            rw [← hf]
                          have a4' : ¬ (N.length : Int) ≤ d.b := by simpa using a4
                          repeat (first | ((with_reducible refine zK ?_); refine zJ rfl ?_) | ((with_reducible refine zM ?_); refine zI tbOk rfl rfl rfl rfl ?_) | ((with_reducible refine zR ?_); refine zP tbOk rfl rfl rfl rfl rfl ?_) | ((with_reducible refine za ?_); (first | refine zh rfl (by first | rfl | assumption) rfl ?_ | refine zf rfl (by first | rfl | assumption) rfl ?_)) | ((with_reducible refine zQ ?_); refine zT rfl rfl rfl ?_)  | refine zB rfl ?_ | refine yC rfl rfl (by first | rfl | assumption) ?_ | refine zw rfl rfl (by first | rfl | assumption) ?_ )
                          refine zv rfl rfl (fun a5 => ?_) (fun a5 => ?_)
                          · have a5' : d.b = d.a := by simpa using a5
                            have e7 : qb d N.length = false := dL (.inr (.inr (.inl ⟨hJ, .inr (.inr a5')⟩)))
                            repeat (first | ((with_reducible refine zE ?_); refine zF rfl ?_) | ((with_reducible refine za ?_); refine zh rfl (by first | rfl | assumption) rfl ?_)  | refine zL ?_ | refine zB rfl ?_ | refine yA rfl rfl (by first | rfl | assumption) ?_ | refine jT rfl rfl rfl ?_ | with_reducible (first | refine zG ?_ | refine zO ?_ | refine zV ?_ | refine zH ?_ | refine zN ?_) | ((with_reducible refine zA ?_ ?_); kernel_rfl) | refine zn rfl (by first | rfl | assumption) ?_)
                            refine zm (by first | exact .inr rfl | exact .inl rfl) rfl rfl ?_
                            rw [if_pos e7] at hf
                            rw [← hf]
                          have a5' : ¬ d.b = d.a := by simpa using a5
                          repeat (first | ((with_reducible refine zM ?_); refine zI tbOk rfl rfl rfl rfl ?_) | ((with_reducible refine zR ?_); refine zP tbOk rfl rfl rfl rfl rfl ?_)  | refine zw rfl rfl (by first | rfl | assumption) ?_ )
                          refine zC (hJ0) ?_
                          repeat (first | ((with_reducible refine zK ?_); refine zJ rfl ?_) | ((with_reducible refine zM ?_); refine zI tbOk rfl rfl rfl rfl ?_) | ((with_reducible refine zR ?_); refine zP tbOk rfl rfl rfl rfl rfl ?_) | ((with_reducible refine k_un ?_); refine jF rfl ?_) | ((with_reducible refine za ?_); refine zf rfl (by first | rfl | assumption) rfl ?_) | ((with_reducible refine zQ ?_); refine zT rfl rfl rfl ?_)  | refine zL ?_ | refine zB rfl ?_ | refine yE rfl rfl (by first | rfl | assumption) ?_ | refine zw rfl rfl (by first | rfl | assumption) ?_ | with_reducible (first | refine zG ?_ | refine zH ?_ | refine zS ?_) | ((with_reducible refine zA ?_ ?_); kernel_rfl) | refine yF rfl (by first | rfl | assumption) ?_)
                          have e7 : qb d N.length = true := oN a1' a2' (.inl ⟨hJ, a3', a4', a5'⟩)
                          rw [if_neg (by rw [e7]; decide)] at hf
                          repeat (first | fail    )
                          refine zv rfl rfl (fun d1 => ?_) (fun d1 => ?_)
                          · repeat (first | ((with_reducible refine zE ?_); refine zF rfl ?_) | ((with_reducible refine za ?_); refine zh rfl (by first | rfl | assumption) rfl ?_)  | refine zL ?_ | refine zB rfl ?_ | refine yA rfl rfl (by first | rfl | assumption) ?_ | with_reducible (first | refine zG ?_ | refine zO ?_ | refine zV ?_ | refine zH ?_ | refine zN ?_) | ((with_reducible refine zA ?_ ?_); kernel_rfl) | refine zn rfl (by first | rfl | assumption) ?_)
                            refine zm (by first | exact .inr rfl | exact .inl rfl) rfl rfl ?_
                            have d1' : d.co < 0 := by simpa using d1
                            rw [if_pos (by unfold qF; rw [decide_eq_false (by omega)]; rfl)] at hf
                            rw [← hf]
                          · repeat (first | ((with_reducible refine zM ?_); refine zI tbOk rfl rfl rfl rfl ?_) | ((with_reducible refine zR ?_); refine zP tbOk rfl rfl rfl rfl rfl ?_) | ((with_reducible refine za ?_); refine zf rfl (by first | rfl | assumption) rfl ?_) | ((with_reducible refine zQ ?_); refine zT rfl rfl rfl ?_)  | refine zL ?_ | refine zB rfl ?_ | refine zw rfl rfl (by first | rfl | assumption) ?_ | with_reducible refine zG ?_ )
                            have d1' : ¬ d.co < 0 := by simpa using d1
                            refine zZ rfl (fun d2 => ?_) (fun d2 => ?_)
                            · repeat (first | ((with_reducible refine zE ?_); refine zF rfl ?_)  | refine zL ?_ | refine zB rfl ?_ | with_reducible (first | refine zG ?_ | refine zO ?_ | refine zV ?_ | refine zH ?_ | refine zN ?_) | ((with_reducible refine zA ?_ ?_); kernel_rfl))
                              refine zm (by first | exact .inr rfl | exact .inl rfl) rfl rfl ?_
                              have d2' : 7 < d.co := by simpa using d2
                              rw [if_pos (by unfold qF; rw [decide_eq_false (show ¬ d.co ≤ 7 by omega), Bool.and_false])] at hf
                              rw [← hf]
                            · have d2' : ¬ 7 < d.co := by simpa using d2
                              rw [if_neg (by intro h; unfold qF at h; simp at h; omega)] at hf
                              repeat (first | ((with_reducible refine zK ?_); refine zJ rfl ?_) | ((with_reducible refine zE ?_); refine zF rfl ?_) | ((with_reducible refine zQ ?_); refine zg rfl rfl (by omega) ?_)  | refine zL ?_ | refine zB rfl ?_ | with_reducible (first | refine zG ?_ | refine zu ?_ | refine zS ?_) | ((with_reducible refine zA ?_ ?_); kernel_rfl))
                              exact ⟨j + 1, ⟨by omega, by rw [dD hx, ← List.append_assoc]; exact hf⟩, by omega, ⟨rfl, rfl, trivial⟩, ⟨rfl, trivial⟩⟩
                        | false =>
                          rw [hJ] at hJ0
                          refine zC (hJ0) ?_
                          repeat (first | ((with_reducible refine zK ?_); refine zJ rfl ?_) | ((with_reducible refine zM ?_); refine zI tbOk rfl rfl rfl rfl ?_) | ((with_reducible refine zR ?_); refine zP tbOk rfl rfl rfl rfl rfl ?_) | ((with_reducible refine za ?_); refine zf rfl (by first | rfl | assumption) rfl ?_)  | refine zB rfl ?_ | refine yE rfl rfl (by first | rfl | assumption) ?_ | refine zw rfl rfl (by first | rfl | assumption) ?_ | refine jT rfl rfl rfl ?_ )
                          refine zC (hJ0) ?_
                          repeat (first | ((with_reducible refine zK ?_); refine zJ rfl ?_) | ((with_reducible refine zM ?_); refine zI tbOk rfl rfl rfl rfl ?_) | ((with_reducible refine zR ?_); refine zP tbOk rfl rfl rfl rfl rfl ?_) | ((with_reducible refine k_un ?_); refine jF rfl ?_) | ((with_reducible refine za ?_); (first | refine zh rfl (by first | rfl | assumption) rfl ?_ | refine zf rfl (by first | rfl | assumption) rfl ?_)) | ((with_reducible refine zQ ?_); refine zT rfl rfl rfl ?_)  | refine zL ?_ | refine zB rfl ?_ | refine yC rfl rfl (by first | rfl | assumption) ?_ | refine zw rfl rfl (by first | rfl | assumption) ?_ | with_reducible refine zG ?_)
                          refine zZ rfl (fun a6 => ?_) (fun a6 => ?_)
                          · have a6' : d.b ≠ -1 := by simpa using a6
                            have e7 : qb d N.length = false := dL (.inr (.inr (.inr ⟨hJ, a6'⟩)))
                            repeat (first | ((with_reducible refine zE ?_); refine zF rfl ?_)  | refine zL ?_ | refine zB rfl ?_ | with_reducible (first | refine zG ?_ | refine zO ?_ | refine zV ?_ | refine zH ?_ | refine zN ?_) | ((with_reducible refine zA ?_ ?_); kernel_rfl))
                            refine zm (by first | exact .inr rfl | exact .inl rfl) rfl rfl ?_
                            rw [if_pos e7] at hf
                            rw [← hf]
                          have a6' : d.b = -1 := by simpa using a6
                          have e7 : qb d N.length = true := oN a1' a2' (.inr ⟨hJ, a6'⟩)
                          rw [if_neg (by rw [e7]; decide)] at hf
                          repeat (first | ((with_reducible refine zK ?_); refine zJ rfl ?_) | ((with_reducible refine zM ?_); refine zI tbOk rfl rfl rfl rfl ?_) | ((with_reducible refine zR ?_); refine zP tbOk rfl rfl rfl rfl rfl ?_) | ((with_reducible refine zQ ?_); refine zT rfl rfl rfl ?_)  | refine zB rfl ?_ | with_reducible (first | refine zG ?_ | refine zH ?_ | refine zS ?_) | ((with_reducible refine zA ?_ ?_); kernel_rfl))
                          refine zv rfl rfl (fun d1 => ?_) (fun d1 => ?_)
                          · repeat (first | ((with_reducible refine zE ?_); refine zF rfl ?_) | ((with_reducible refine za ?_); refine zh rfl (by first | rfl | assumption) rfl ?_)  | refine zL ?_ | refine zB rfl ?_ | refine yA rfl rfl (by first | rfl | assumption) ?_ | with_reducible (first | refine zG ?_ | refine zO ?_ | refine zV ?_ | refine zH ?_ | refine zN ?_) | ((with_reducible refine zA ?_ ?_); kernel_rfl) | refine zn rfl (by first | rfl | assumption) ?_)
                            refine zm (by first | exact .inr rfl | exact .inl rfl) rfl rfl ?_
                            have d1' : d.co < 0 := by simpa using d1
                            rw [if_pos (by unfold qF; rw [decide_eq_false (by omega)]; rfl)] at hf
                            rw [← hf]
                          · repeat (first | ((with_reducible refine zM ?_); refine zI tbOk rfl rfl rfl rfl ?_) | ((with_reducible refine zR ?_); refine zP tbOk rfl rfl rfl rfl rfl ?_) | ((with_reducible refine za ?_); refine zf rfl (by first | rfl | assumption) rfl ?_) | ((with_reducible refine zQ ?_); refine zT rfl rfl rfl ?_)  | refine zL ?_ | refine zB rfl ?_ | refine zw rfl rfl (by first | rfl | assumption) ?_ | with_reducible refine zG ?_ )
                            have d1' : ¬ d.co < 0 := by simpa using d1
                            refine zZ rfl (fun d2 => ?_) (fun d2 => ?_)
                            · repeat (first | ((with_reducible refine zE ?_); refine zF rfl ?_)  | refine zL ?_ | refine zB rfl ?_ | with_reducible (first | refine zG ?_ | refine zO ?_ | refine zV ?_ | refine zH ?_ | refine zN ?_) | ((with_reducible refine zA ?_ ?_); kernel_rfl))
                              refine zm (by first | exact .inr rfl | exact .inl rfl) rfl rfl ?_
                              have d2' : 7 < d.co := by simpa using d2
                              rw [if_pos (by unfold qF; rw [decide_eq_false (show ¬ d.co ≤ 7 by omega), Bool.and_false])] at hf
                              rw [← hf]
                            · have d2' : ¬ 7 < d.co := by simpa using d2
                              rw [if_neg (by intro h; unfold qF at h; simp at h; omega)] at hf
                              repeat (first | ((with_reducible refine zK ?_); refine zJ rfl ?_) | ((with_reducible refine zE ?_); refine zF rfl ?_) | ((with_reducible refine zQ ?_); refine zg rfl rfl (by omega) ?_)  | refine zL ?_ | refine zB rfl ?_ | with_reducible (first | refine zG ?_ | refine zu ?_ | refine zS ?_) | ((with_reducible refine zA ?_ ?_); kernel_rfl))
                              exact ⟨j + 1, ⟨by omega, by rw [dD hx, ← List.append_assoc]; exact hf⟩, by omega, ⟨rfl, rfl, trivial⟩, ⟨rfl, trivial⟩⟩
        · have hlt : ¬ k < V.length := by simpa using h
          repeat (first | ((with_reducible refine zE ?_); refine zF rfl ?_)  | refine zL ?_ | refine zB rfl ?_ | with_reducible (first | refine zG ?_ | refine zo ?_ | refine zH ?_ | refine yB ?_ | refine zN ?_) | ((with_reducible refine ze ?_ ?_); rfl) | ((with_reducible refine zA ?_ ?_); kernel_rfl))
          refine zm (by first | exact .inr rfl | exact .inl rfl) rfl rfl ?_
          rw [List.drop_of_length_le (by omega)] at hf
          rw [← hf]; rfl
end Go.Proofs.YtjamibeffalhaaaGreatDoor
