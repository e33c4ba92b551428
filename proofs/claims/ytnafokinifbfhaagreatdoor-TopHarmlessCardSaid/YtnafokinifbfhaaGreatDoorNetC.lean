/- The reference's Check of networks (permitofficeref03), by the abstract machine: it says what network.Check says; conditions: none. -/
import Derived.Test.YtnafokinifbfhaaGreatDoorNetB
import Derived.Test.YtnafokinifbfhaaGreatDoorZg
set_option linter.unusedVariables false
set_option linter.unusedSimpArgs false
namespace Go.Proofs.YtnafokinifbfhaaGreatDoor
open Go Go.RowKit
set_option maxRecDepth 10000
variable {G : Nat → Option (List Value)}
theorem rndGo_at {U : List ByteArray} {N : List Nd} {k : Nat} {x : Nd} (h : N[k]? = some x) : ndGo U (N.drop k) = if qv x.n.data.toList = false then 3 else if jL U x.n = true then 4 else if x.cu < 0 ∨ 1048576 < x.cu ∨ jq x.co = false then 5 else ndGo (U ++ [x.n]) (N.drop (k + 1)) := by
  rw [zv h]; rfl
theorem rdvGo_at {m : Int} {U : List ByteArray} {V : List Dv} {k : Nat} {d : Dv} (h : V[k]? = some d) : dvGo m U (V.drop k) = if qv d.n.data.toList = false then 3 else if jL U d.n = true then 4 else if d.k < 1 ∨ 6 < d.k then 6 else if zj d m = false then 7 else if jq d.co = false then 5 else dvGo m (U ++ [d.n]) (V.drop (k + 1)) := by
  rw [zv h]; rfl
def dU (V : List Dv) (k : Nat) : List ByteArray := (V.take k).map Dv.n
theorem fK {V : List Dv} {k : Nat} {x : Dv} (h : V[k]? = some x) : dU V (k + 1) = dU V k ++ [x.n] := by
  unfold dU
  rw [List.take_add_one, h]
  simp
def qq (N : List Nd) (k : Nat) : List ByteArray := (N.take k).map Nd.n
theorem dS {N : List Nd} {k : Nat} {x : Nd} (h : N[k]? = some x) : qq N (k + 1) = qq N k ++ [x.n] := by
  unfold qq
  rw [List.take_add_one, h]
  simp
theorem bZ (U W : List ByteArray) (s : ByteArray) : jL (U ++ W) s = (jL U s || jL W s) := by unfold jL; rw [List.any_append]
theorem lC (n s : ByteArray) : jL [n] s = decide (s = n) := by unfold jL; simp
theorem iM (a b : ByteArray) : jD a b = decide (a = b) := by
  cases h : jD a b
  · exact (decide_eq_false (fun e => by rw [qT.2 e] at h; cases h)).symm
  · exact (decide_eq_true (qT.1 h)).symm
theorem usedN {N : List Nd} {i k : Nat} (hki : k ≤ i) {s : ByteArray} {y : Nd} (hy : N[k]? = some y) (h : s = y.n) (hk : k < i) : jL (qq N i) s = true := by
  unfold jL qq
  rw [List.any_map, List.any_eq_true]
  refine ⟨y, ?_, by simpa using h⟩
  exact List.mem_of_getElem? (show (N.take i)[k]? = some y by rw [List.getElem?_take, if_pos hk]; exact hy)
theorem usedV {V : List Dv} {i k : Nat} {s : ByteArray} {y : Dv} (hy : V[k]? = some y) (h : s = y.n) (hk : k < i) : jL (dU V i) s = true := by
  unfold jL dU
  rw [List.any_map, List.any_eq_true]
  refine ⟨y, ?_, by simpa using h⟩
  exact List.mem_of_getElem? (show (V.take i)[k]? = some y by rw [List.getElem?_take, if_pos hk]; exact hy)
theorem joinsB_or (n : Int) : yH n = (decide (n = 1) || decide (n = 2) || decide (n = 3)) := by
  unfold yH
  by_cases h1 : n = 1
  · subst h1; rfl
  by_cases h2 : n = 2
  · subst h2; rfl
  by_cases h3 : n = 3
  · subst h3; rfl
  rw [decide_eq_false h1, decide_eq_false h2, decide_eq_false h3]
  by_cases h : 1 ≤ n
  · rw [decide_eq_false (show ¬ n ≤ 3 by omega), Bool.and_false]; rfl
  · rw [decide_eq_false h]; rfl
theorem oV (n : Int) : zJ Tryz.prog G 96 [.v (.int .i64 n)] [] (.v (.bool (yH n))) [] := by
  rw [joinsB_or]
  refine zE tbOk (zA Tryz.func96 (by kernel_rfl) rfl) Tryz.func96 rfl _ Tryz.ntmps96 (Nat.le_of_ble_eq_true rfl) fun X hX => ?_
  subst hX
  repeat' (first | ((with_reducible refine yD ?_); refine yE rfl ?_) | ((with_reducible refine zi ?_); refine zh rfl ?_) | ((with_reducible refine yf ?_); (first | refine yj rfl (by first | rfl | assumption) rfl ?_ | refine yW rfl (by first | rfl | assumption) rfl ?_)) | ((with_reducible refine yZ ?_); refine yI rfl rfl rfl ?_)  | refine yh ?_ | refine zu rfl ?_ | refine yq rfl rfl (by first | rfl | assumption) ?_ | refine qd rfl rfl (by first | rfl | assumption) ?_ | with_reducible (first | refine zw ?_ | refine zp ?_ | refine yF ?_) | ((with_reducible refine zl ?_ ?_); kernel_rfl) | refine zX rfl rfl (fun _ => ?_) (fun _ => ?_) | refine zF rfl (fun _ => ?_) (fun _ => ?_))
  all_goals refine zL (by first | exact .inr rfl | exact .inl rfl) rfl rfl ?_
  all_goals simp_all
  all_goals (by_cases h : n = 3 <;> simp [h])
theorem fR {d : Dv} {m : Int} (h : d.a < 0 ∨ m ≤ d.a ∨ (yH d.k = true ∧ (d.b < 0 ∨ m ≤ d.b ∨ d.b = d.a)) ∨ (yH d.k = false ∧ d.b ≠ -1)) : zj d m = false := by
  unfold zj
  by_cases h0 : d.a < 0 ∨ m ≤ d.a
  · rw [if_pos h0]
  rw [if_neg h0]
  rcases h with h | h | ⟨h, h'⟩ | ⟨h, h'⟩
  · exact absurd (.inl h) h0
  · exact absurd (.inr h) h0
  · rw [if_neg (by rw [h]; decide)]
    rcases h' with h' | h' | h'
    · rw [decide_eq_false (show ¬ 0 ≤ d.b by omega)]; rfl
    · rw [decide_eq_false (show ¬ d.b < m by omega), Bool.and_false]; rfl
    · simp [h']
  · rw [if_pos h]; simpa using h'
theorem wB {d : Dv} {m : Int} (h0 : ¬ d.a < 0) (h1 : ¬ m ≤ d.a) (h : (yH d.k = true ∧ ¬ d.b < 0 ∧ ¬ m ≤ d.b ∧ ¬ d.b = d.a) ∨ (yH d.k = false ∧ d.b = -1)) : zj d m = true := by
  unfold zj
  rw [if_neg (by omega)]
  rcases h with ⟨h, a, b, c⟩ | ⟨h, a⟩
  · rw [if_neg (by rw [h]; decide), decide_eq_true (show 0 ≤ d.b by omega), decide_eq_true (show d.b < m by omega), decide_eq_true c]; rfl
  · rw [if_pos h]; simpa using a
set_option maxHeartbeats 8000000 in
theorem rnet_A (N : List Nd) (V : List Dv) (hN : ∀ x ∈ N, x.n.size ≤ maxLen) (hV : ∀ x ∈ V, x.n.size ≤ maxLen) (h1 : N.length ≤ maxLen) (h2 : V.length ≤ maxLen) : zJ Tryz.prog G 57 [.ag [.sl 3 (N.map Nd.av), .sl 5 (V.map Dv.av)]] [] (.v (.int .i64 (netE N V))) [] := by
  refine zE tbOk (zA Tryz.func57 (by kernel_rfl) rfl) Tryz.func57 rfl _ Tryz.ntmps57 (Nat.le_of_ble_eq_true rfl) fun X hX => ?_
  subst hX
  refine zg12 ?_
  refine zX rfl rfl (fun h => ?_) (fun h => ?_)
  · have h32 : 32 < N.length := by simp at h; omega
    refine zg6 ?_
    refine zL (by first | exact .inr rfl | exact .inl rfl) rfl rfl ?_
    unfold netE
    rw [if_pos (.inl h32)]
  have h32 : ¬ 32 < N.length := by simp at h; omega
  refine zg9 ?_
  refine zF rfl (fun h => ?_) (fun h => ?_)
  · have h64 : 64 < V.length := by simp at h; omega
    refine zg6 ?_
    refine zL (by first | exact .inr rfl | exact .inl rfl) rfl rfl ?_
    unfold netE
    rw [if_pos (.inr h64)]
  have h64 : ¬ 64 < V.length := by simp at h; omega
  refine zg0 ?_
  refine zQ (ι := Nat) (fun k => k ≤ N.length ∧ ndGo (qq N k) (N.drop k) = ndGo [] N) (fun k => N.length - k) (fun v k => [(1, .ptr 1 (v 1) 0), (3, .v (.int .i64 k))]) (fun v k => [(1, .box [.sl 3 (N.map Nd.av), .sl 5 (V.map Dv.av)])]) ?_ ?_
  · exact ⟨0, ⟨Nat.zero_le _, rfl⟩, trivial, ⟨rfl, rfl, trivial⟩, ⟨rfl, trivial⟩⟩
  · rintro v k ⟨hk, hf⟩
    refine zg6 ?_
    refine zF rfl (fun h => ?_) (fun h => ?_)
    · have hlt : k < N.length := by simpa using h
      obtain ⟨x, hx⟩ := zB hlt
      have hy : (N.map Nd.av)[k]? = some x.av := by rw [List.getElem?_map, hx]; rfl
      rw [rndGo_at hx] at hf
      refine zg14 ?_
      refine zG (rname_A x.n (hN x (List.mem_of_getElem? hx))) (by repeat' (first | exact trivial | exact Ren.v _ | refine ⟨?_, ?_⟩)) (by repeat' exact RenB.v _) ?_
      refine zg5 ?_
      refine zF rfl (fun hE => ?_) (fun hE => ?_)
      · refine zg6 ?_
        refine zL (by first | exact .inr rfl | exact .inl rfl) rfl rfl ?_
        rw [if_pos (by simpa using hE)] at hf
        unfold netE
        rw [if_neg (by omega), if_pos (by rw [← hf]; decide), ← hf]
      · rw [if_neg (by simpa using hE)] at hf
        refine zg0 ?_
        refine zQ (ι := Nat) (fun j => j ≤ k ∧ jL (qq N j) x.n = false) (fun j => k - j) (fun v j => [(1, .ptr 1 (v 1) 0), (3, .v (.int .i64 k)), (4, .ptr 4 (v 4) 0), (5, .v (.int .i64 j))]) (fun v j => [(1, .box [.sl 3 (N.map Nd.av), .sl 5 (V.map Dv.av)]), (4, .box x.av.cells)]) ?_ ?_
        · exact ⟨0, ⟨Nat.zero_le _, rfl⟩, trivial, ⟨rfl, rfl, rfl, rfl, trivial⟩, ⟨rfl, rfl, trivial⟩⟩
        · rintro v j ⟨hj, hu⟩
          refine zg1 ?_
          refine zF rfl (fun h => ?_) (fun h => ?_)
          · have hjk : j < k := by simpa using h
            obtain ⟨y, hjy⟩ := zB (L := N) (k := j) (by omega)
            have hz : (N.map Nd.av)[j]? = some y.av := by rw [List.getElem?_map, hjy]; rfl
            refine zg14 ?_
            refine zF rfl (fun he => ?_) (fun he => ?_)
            · refine zg6 ?_
              refine zL (by first | exact .inr rfl | exact .inl rfl) rfl rfl ?_
              have he' : x.n = y.n := (qT.1 he).symm
              rw [if_pos (usedN (by omega) hjy he' hjk)] at hf
              unfold netE
              rw [if_neg (by omega), if_pos (by rw [← hf]; decide), ← hf]
            · refine zg2 ?_
              refine ⟨j + 1, ⟨by omega, ?_⟩, by omega, ⟨rfl, rfl, rfl, rfl, trivial⟩, ⟨rfl, rfl, trivial⟩⟩
              rw [dS hjy, bZ, hu, lC, Bool.false_or]
              rw [iM] at he
              exact decide_eq_false fun e => by rw [e] at he; simp at he
          · obtain rfl : j = k := by simp at h; omega
            rw [if_neg (by rw [hu]; decide)] at hf
            refine zg13 ?_
            refine zX rfl rfl (fun c1 => ?_) (fun c1 => ?_)
            · refine zg7 ?_
              refine zL (by first | exact .inr rfl | exact .inl rfl) rfl rfl ?_
              rw [if_pos (.inl (by simpa using c1))] at hf
              unfold netE
              rw [if_neg (by omega), if_pos (by rw [← hf]; decide), ← hf]
            · refine zg8 ?_
              refine zX rfl rfl (fun c2 => ?_) (fun c2 => ?_)
              · refine zg7 ?_
                refine zL (by first | exact .inr rfl | exact .inl rfl) rfl rfl ?_
                rw [if_pos (.inr (.inl (by simpa using c2)))] at hf
                unfold netE
                rw [if_neg (by omega), if_pos (by rw [← hf]; decide), ← hf]
              · refine zg8 ?_
                refine zX rfl rfl (fun c3 => ?_) (fun c3 => ?_)
                · refine zg6 ?_
                  refine zL (by first | exact .inr rfl | exact .inl rfl) rfl rfl ?_
                  have c3' : x.co < 0 := by simpa using c3
                  rw [if_pos (.inr (.inr (by unfold jq; rw [decide_eq_false (by omega)]; rfl)))] at hf
                  unfold netE
                  rw [if_neg (by omega), if_pos (by rw [← hf]; decide), ← hf]
                · refine zg9 ?_
                  have c1' : ¬ x.cu < 0 := by simpa using c1
                  have c2' : ¬ 1048576 < x.cu := by simpa using c2
                  have c3' : ¬ x.co < 0 := by simpa using c3
                  refine zF rfl (fun c4 => ?_) (fun c4 => ?_)
                  · refine zg6 ?_
                    refine zL (by first | exact .inr rfl | exact .inl rfl) rfl rfl ?_
                    have c4' : 7 < x.co := by simpa using c4
                    rw [if_pos (.inr (.inr (by unfold jq; rw [decide_eq_false (show ¬ x.co ≤ 7 by omega), Bool.and_false])))] at hf
                    unfold netE
                    rw [if_neg (by omega), if_pos (by rw [← hf]; decide), ← hf]
                  · have c4' : ¬ 7 < x.co := by simpa using c4
                    rw [if_neg (by
                      rintro (h | h | h)
                      · contradiction
                      · contradiction
                      · unfold jq at h; simp at h; omega)] at hf
                    refine zg2 ?_
                    exact ⟨j + 1, ⟨by omega, by rw [dS hx]; exact hf⟩, by omega, ⟨rfl, rfl, trivial⟩, ⟨rfl, trivial⟩⟩
    · obtain rfl : k = N.length := by simp at h; omega
      have hn0 : ndGo [] N = 0 := by rw [← hf, List.drop_of_length_le (Nat.le_refl _)]; rfl
      have eV : netE N V = dvGo N.length (N.map Nd.n) V := by
        unfold netE
        rw [if_neg (by omega), if_neg (by simp [hn0])]
      have eN : N.map Nd.n = qq N N.length := by unfold qq; rw [List.take_length]
      rw [eV, eN]
      refine zg2 ?_
      refine zQ (ι := Nat) (fun k => k ≤ V.length ∧ dvGo N.length (qq N N.length ++ dU V k) (V.drop k) = dvGo N.length (qq N N.length) V) (fun k => V.length - k) (fun v k => [(1, .ptr 1 (v 1) 0), (6, .v (.int .i64 k))]) (fun v k => [(1, .box [.sl 3 (N.map Nd.av), .sl 5 (V.map Dv.av)])]) ?_ ?_
      · exact ⟨0, ⟨Nat.zero_le _, by simp [dU]⟩, trivial, ⟨rfl, rfl, trivial⟩, ⟨rfl, trivial⟩⟩
      · rintro v k ⟨hk, hf⟩
        refine zg6 ?_
        refine zF rfl (fun h => ?_) (fun h => ?_)
        · have hlt : k < V.length := by simpa using h
          obtain ⟨d, hx⟩ := zB hlt
          have hy : (V.map Dv.av)[k]? = some d.av := by rw [List.getElem?_map, hx]; rfl
          rw [rdvGo_at hx] at hf
          refine zg14 ?_
          refine zG (rname_A d.n (hV d (List.mem_of_getElem? hx))) (by repeat' (first | exact trivial | exact Ren.v _ | refine ⟨?_, ?_⟩)) (by repeat' exact RenB.v _) ?_
          refine zg5 ?_
          refine zF rfl (fun hE => ?_) (fun hE => ?_)
          · refine zg6 ?_
            refine zL (by first | exact .inr rfl | exact .inl rfl) rfl rfl ?_
            rw [if_pos (by simpa using hE)] at hf
            rw [← hf]
          · rw [if_neg (by simpa using hE)] at hf
            refine zg0 ?_
            refine zQ (ι := Nat) (fun j => j ≤ N.length ∧ jL (qq N j) d.n = false) (fun j => N.length - j) (fun v j => [(1, .ptr 1 (v 1) 0), (6, .v (.int .i64 k)), (7, .ptr 7 (v 7) 0), (8, .v (.int .i64 j))]) (fun v j => [(1, .box [.sl 3 (N.map Nd.av), .sl 5 (V.map Dv.av)]), (7, .box d.av.cells)]) ?_ ?_
            · exact ⟨0, ⟨Nat.zero_le _, rfl⟩, trivial, ⟨rfl, rfl, rfl, rfl, trivial⟩, ⟨rfl, rfl, trivial⟩⟩
            · rintro v j ⟨hj, hu⟩
              refine zg6 ?_
              refine zF rfl (fun h => ?_) (fun h => ?_)
              · have hjk : j < N.length := by simpa using h
                obtain ⟨y, hjy⟩ := zB (L := N) (k := j) (by omega)
                have hz : (N.map Nd.av)[j]? = some y.av := by rw [List.getElem?_map, hjy]; rfl
                refine zg14 ?_
                refine zF rfl (fun he => ?_) (fun he => ?_)
                · refine zg6 ?_
                  refine zL (by first | exact .inr rfl | exact .inl rfl) rfl rfl ?_
                  have he' : d.n = y.n := (qT.1 he).symm
                  rw [if_pos (by rw [bZ, usedN (by omega) hjy he' hjk]; rfl)] at hf
                  rw [← hf]
                · refine zg2 ?_
                  refine ⟨j + 1, ⟨by omega, ?_⟩, by omega, ⟨rfl, rfl, rfl, rfl, trivial⟩, ⟨rfl, rfl, trivial⟩⟩
                  rw [dS hjy, bZ, hu, lC, Bool.false_or]
                  rw [iM] at he
                  exact decide_eq_false fun e => by rw [e] at he; simp at he
              · obtain rfl : j = N.length := by simp at h; omega
                rw [bZ, hu, Bool.false_or] at hf
                refine zg2 ?_
                refine zQ (ι := Nat) (fun j => j ≤ k ∧ jL (dU V j) d.n = false) (fun j => k - j) (fun v j => [(1, .ptr 1 (v 1) 0), (6, .v (.int .i64 k)), (7, .ptr 7 (v 7) 0), (9, .v (.int .i64 j))]) (fun v j => [(1, .box [.sl 3 (N.map Nd.av), .sl 5 (V.map Dv.av)]), (7, .box d.av.cells)]) ?_ ?_
                · exact ⟨0, ⟨Nat.zero_le _, rfl⟩, trivial, ⟨rfl, rfl, rfl, rfl, trivial⟩, ⟨rfl, rfl, trivial⟩⟩
                · rintro v j ⟨hj, hu⟩
                  refine zg1 ?_
                  refine zF rfl (fun h => ?_) (fun h => ?_)
                  · have hjk : j < k := by simpa using h
                    obtain ⟨y, hjy⟩ := zB (L := V) (k := j) (by omega)
                    have hz : (V.map Dv.av)[j]? = some y.av := by rw [List.getElem?_map, hjy]; rfl
                    refine zg14 ?_
                    refine zF rfl (fun he => ?_) (fun he => ?_)
                    · refine zg6 ?_
                      refine zL (by first | exact .inr rfl | exact .inl rfl) rfl rfl ?_
                      have he' : d.n = y.n := (qT.1 he).symm
                      rw [if_pos (usedV hjy he' hjk)] at hf
                      rw [← hf]
                    · refine zg2 ?_
                      refine ⟨j + 1, ⟨by omega, ?_⟩, by omega, ⟨rfl, rfl, rfl, rfl, trivial⟩, ⟨rfl, rfl, trivial⟩⟩
                      rw [fK hjy, bZ, hu, lC, Bool.false_or]
                      rw [iM] at he
                      exact decide_eq_false fun e => by rw [e] at he; simp at he
                  · obtain rfl : j = k := by simp at h; omega
                    rw [if_neg (by rw [hu]; decide)] at hf
                    refine zg13 ?_
                    refine zX rfl rfl (fun c1 => ?_) (fun c1 => ?_)
                    · refine zg6 ?_
                      refine zL (by first | exact .inr rfl | exact .inl rfl) rfl rfl ?_
                      rw [if_pos (.inl (by simpa using c1))] at hf
                      rw [← hf]
                    · refine zg9 ?_
                      refine zF rfl (fun c2 => ?_) (fun c2 => ?_)
                      · refine zg6 ?_
                        refine zL (by first | exact .inr rfl | exact .inl rfl) rfl rfl ?_
                        rw [if_pos (.inr (by simpa using c2))] at hf
                        rw [← hf]
                      · have c1' : ¬ d.k < 1 := by simpa using c1
                        have c2' : ¬ 6 < d.k := by simpa using c2
                        rw [if_neg (by omega)] at hf
                        refine zg13 ?_
                        repeat (first | fail   )
                        refine zX rfl rfl (fun a1 => ?_) (fun a1 => ?_)
                        · have a1' : d.a < 0 := by simpa using a1
                          have e7 : zj d N.length = false := fR (.inl a1')
                          refine zg7 ?_
                          refine zL (by first | exact .inr rfl | exact .inl rfl) rfl rfl ?_
                          rw [if_pos e7] at hf
                          rw [← hf]
                        have a1' : ¬ d.a < 0 := by simpa using a1
                        repeat (first | ((with_reducible refine yD ?_); refine yE rfl ?_) | ((with_reducible refine zS ?_); refine zN tbOk rfl rfl rfl rfl ?_) | ((with_reducible refine ze ?_); refine zY tbOk rfl rfl rfl rfl rfl ?_) | ((with_reducible refine yf ?_); refine yW rfl (by first | rfl | assumption) rfl ?_) | ((with_reducible refine yV ?_); refine dT tbOk rfl rfl ?_) | ((with_reducible refine yZ ?_); refine yI rfl rfl rfl ?_)  | refine zu rfl ?_ | refine yq rfl rfl (by first | rfl | assumption) ?_ )
                        refine zX rfl rfl (fun a2 => ?_) (fun a2 => ?_)
                        · have a2' : (N.length : Int) ≤ d.a := by simpa using a2
                          have e7 : zj d N.length = false := fR (.inr (.inl a2'))
                          refine zg7 ?_
                          refine zL (by first | exact .inr rfl | exact .inl rfl) rfl rfl ?_
                          rw [if_pos e7] at hf
                          rw [← hf]
                        have a2' : ¬ (N.length : Int) ≤ d.a := by simpa using a2
                        repeat (first | ((with_reducible refine zS ?_); refine zN tbOk rfl rfl rfl rfl ?_) | ((with_reducible refine ze ?_); refine zY tbOk rfl rfl rfl rfl rfl ?_)  | refine yq rfl rfl (by first | rfl | assumption) ?_ )
                        have hJ0 := oV (G := X.G) d.k
                        cases hJ : yH d.k with
                        | true =>
                          rw [hJ] at hJ0
                          refine zG (hJ0) (by repeat' (first | exact trivial | exact Ren.v _ | refine ⟨?_, ?_⟩)) (by repeat' exact RenB.v _) ?_
                          repeat (first | ((with_reducible refine yD ?_); refine yE rfl ?_) | ((with_reducible refine zS ?_); refine zN tbOk rfl rfl rfl rfl ?_) | ((with_reducible refine ze ?_); refine zY tbOk rfl rfl rfl rfl rfl ?_) | ((with_reducible refine yZ ?_); refine yI rfl rfl rfl ?_)  | refine jA rfl rfl (by first | rfl | assumption) ?_ | refine yq rfl rfl (by first | rfl | assumption) ?_ )
                          refine zX rfl rfl (fun a3 => ?_) (fun a3 => ?_)
                          · have a3' : d.b < 0 := by simpa using a3
                            have e7 : zj d N.length = false := fR (.inr (.inr (.inl ⟨hJ, .inl a3'⟩)))
                            refine zg7 ?_
                            refine zL (by first | exact .inr rfl | exact .inl rfl) rfl rfl ?_
                            rw [if_pos e7] at hf
                            rw [← hf]
                          have a3' : ¬ d.b < 0 := by simpa using a3
                          repeat (first | ((with_reducible refine yD ?_); refine yE rfl ?_) | ((with_reducible refine zS ?_); refine zN tbOk rfl rfl rfl rfl ?_) | ((with_reducible refine ze ?_); refine zY tbOk rfl rfl rfl rfl rfl ?_) | ((with_reducible refine yf ?_); refine yW rfl (by first | rfl | assumption) rfl ?_) | ((with_reducible refine yV ?_); refine dT tbOk rfl rfl ?_) | ((with_reducible refine yZ ?_); refine yI rfl rfl rfl ?_)  | refine jA rfl rfl (by first | rfl | assumption) ?_ | refine yq rfl rfl (by first | rfl | assumption) ?_ )
                          refine zX rfl rfl (fun a4 => ?_) (fun a4 => ?_)
                          · have a4' : (N.length : Int) ≤ d.b := by simpa using a4
                            have e7 : zj d N.length = false := fR (.inr (.inr (.inl ⟨hJ, .inr (.inl a4')⟩)))
                            refine zg7 ?_
                            refine zL (by first | exact .inr rfl | exact .inl rfl) rfl rfl ?_
                            rw [if_pos e7] at hf
                            rw [← hf]
                          have a4' : ¬ (N.length : Int) ≤ d.b := by simpa using a4
                          repeat (first | ((with_reducible refine yD ?_); refine yE rfl ?_) | ((with_reducible refine zS ?_); refine zN tbOk rfl rfl rfl rfl ?_) | ((with_reducible refine ze ?_); refine zY tbOk rfl rfl rfl rfl rfl ?_) | ((with_reducible refine yf ?_); (first | refine yj rfl (by first | rfl | assumption) rfl ?_ | refine yW rfl (by first | rfl | assumption) rfl ?_)) | ((with_reducible refine yZ ?_); refine yI rfl rfl rfl ?_)  | refine zu rfl ?_ | refine jA rfl rfl (by first | rfl | assumption) ?_ | refine yq rfl rfl (by first | rfl | assumption) ?_ )
                          refine zX rfl rfl (fun a5 => ?_) (fun a5 => ?_)
                          · have a5' : d.b = d.a := by simpa using a5
                            have e7 : zj d N.length = false := fR (.inr (.inr (.inl ⟨hJ, .inr (.inr a5')⟩)))
                            refine zg7 ?_
                            refine zL (by first | exact .inr rfl | exact .inl rfl) rfl rfl ?_
                            rw [if_pos e7] at hf
                            rw [← hf]
                          have a5' : ¬ d.b = d.a := by simpa using a5
                          repeat (first | ((with_reducible refine zS ?_); refine zN tbOk rfl rfl rfl rfl ?_) | ((with_reducible refine ze ?_); refine zY tbOk rfl rfl rfl rfl rfl ?_)  | refine yq rfl rfl (by first | rfl | assumption) ?_ )
                          refine zG (hJ0) (by repeat' (first | exact trivial | exact Ren.v _ | refine ⟨?_, ?_⟩)) (by repeat' exact RenB.v _) ?_
                          refine zg4 ?_
                          have e7 : zj d N.length = true := wB a1' a2' (.inl ⟨hJ, a3', a4', a5'⟩)
                          rw [if_neg (by rw [e7]; decide)] at hf
                          skip
                          refine zX rfl rfl (fun d1 => ?_) (fun d1 => ?_)
                          · refine zg6 ?_
                            refine zL (by first | exact .inr rfl | exact .inl rfl) rfl rfl ?_
                            have d1' : d.co < 0 := by simpa using d1
                            rw [if_pos (by unfold jq; rw [decide_eq_false (by omega)]; rfl)] at hf
                            rw [← hf]
                          · refine zg9 ?_
                            have d1' : ¬ d.co < 0 := by simpa using d1
                            refine zF rfl (fun d2 => ?_) (fun d2 => ?_)
                            · refine zg6 ?_
                              refine zL (by first | exact .inr rfl | exact .inl rfl) rfl rfl ?_
                              have d2' : 7 < d.co := by simpa using d2
                              rw [if_pos (by unfold jq; rw [decide_eq_false (show ¬ d.co ≤ 7 by omega), Bool.and_false])] at hf
                              rw [← hf]
                            · have d2' : ¬ 7 < d.co := by simpa using d2
                              rw [if_neg (by intro h; unfold jq at h; simp at h; omega)] at hf
                              refine zg2 ?_
                              exact ⟨j + 1, ⟨by omega, by rw [fK hx, ← List.append_assoc]; exact hf⟩, by omega, ⟨rfl, rfl, trivial⟩, ⟨rfl, trivial⟩⟩
                        | false =>
                          rw [hJ] at hJ0
                          refine zG (hJ0) (by repeat' (first | exact trivial | exact Ren.v _ | refine ⟨?_, ?_⟩)) (by repeat' exact RenB.v _) ?_
                          repeat (first | ((with_reducible refine yD ?_); refine yE rfl ?_) | ((with_reducible refine zS ?_); refine zN tbOk rfl rfl rfl rfl ?_) | ((with_reducible refine ze ?_); refine zY tbOk rfl rfl rfl rfl rfl ?_) | ((with_reducible refine yf ?_); refine yW rfl (by first | rfl | assumption) rfl ?_)  | refine zu rfl ?_ | refine ym rfl rfl (by first | rfl | assumption) ?_ | refine yq rfl rfl (by first | rfl | assumption) ?_ | refine kI rfl rfl rfl ?_ )
                          refine zG (hJ0) (by repeat' (first | exact trivial | exact Ren.v _ | refine ⟨?_, ?_⟩)) (by repeat' exact RenB.v _) ?_
                          repeat (first | ((with_reducible refine yD ?_); refine yE rfl ?_) | ((with_reducible refine zS ?_); refine zN tbOk rfl rfl rfl rfl ?_) | ((with_reducible refine ze ?_); refine zY tbOk rfl rfl rfl rfl rfl ?_) | ((with_reducible refine k_un ?_); refine dM rfl ?_) | ((with_reducible refine yf ?_); (first | refine yj rfl (by first | rfl | assumption) rfl ?_ | refine yW rfl (by first | rfl | assumption) rfl ?_)) | ((with_reducible refine yZ ?_); refine yI rfl rfl rfl ?_)  | refine yh ?_ | refine zu rfl ?_ | refine jA rfl rfl (by first | rfl | assumption) ?_ | refine yq rfl rfl (by first | rfl | assumption) ?_ | with_reducible refine zw ?_)
                          refine zF rfl (fun a6 => ?_) (fun a6 => ?_)
                          · have a6' : d.b ≠ -1 := by simpa using a6
                            have e7 : zj d N.length = false := fR (.inr (.inr (.inr ⟨hJ, a6'⟩)))
                            refine zg6 ?_
                            refine zL (by first | exact .inr rfl | exact .inl rfl) rfl rfl ?_
                            rw [if_pos e7] at hf
                            rw [← hf]
                          have a6' : d.b = -1 := by simpa using a6
                          have e7 : zj d N.length = true := wB a1' a2' (.inr ⟨hJ, a6'⟩)
                          rw [if_neg (by rw [e7]; decide)] at hf
                          refine zg13 ?_
                          refine zX rfl rfl (fun d1 => ?_) (fun d1 => ?_)
                          · refine zg6 ?_
                            refine zL (by first | exact .inr rfl | exact .inl rfl) rfl rfl ?_
                            have d1' : d.co < 0 := by simpa using d1
                            rw [if_pos (by unfold jq; rw [decide_eq_false (by omega)]; rfl)] at hf
                            rw [← hf]
                          · refine zg9 ?_
                            have d1' : ¬ d.co < 0 := by simpa using d1
                            refine zF rfl (fun d2 => ?_) (fun d2 => ?_)
                            · refine zg6 ?_
                              refine zL (by first | exact .inr rfl | exact .inl rfl) rfl rfl ?_
                              have d2' : 7 < d.co := by simpa using d2
                              rw [if_pos (by unfold jq; rw [decide_eq_false (show ¬ d.co ≤ 7 by omega), Bool.and_false])] at hf
                              rw [← hf]
                            · have d2' : ¬ 7 < d.co := by simpa using d2
                              rw [if_neg (by intro h; unfold jq at h; simp at h; omega)] at hf
                              refine zg2 ?_
                              exact ⟨j + 1, ⟨by omega, by rw [fK hx, ← List.append_assoc]; exact hf⟩, by omega, ⟨rfl, rfl, trivial⟩, ⟨rfl, trivial⟩⟩
        · have hlt : ¬ k < V.length := by simpa using h
          refine zg2 ?_
          refine zL (by first | exact .inr rfl | exact .inl rfl) rfl rfl ?_
          rw [List.drop_of_length_le (by omega)] at hf
          rw [← hf]; rfl
end Go.Proofs.YtnafokinifbfhaaGreatDoor
