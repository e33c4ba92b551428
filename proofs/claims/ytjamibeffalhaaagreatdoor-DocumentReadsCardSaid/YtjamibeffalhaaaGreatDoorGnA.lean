/- network.Device, network.Node and their references, slices.Index of strings, by the abstract machine; conditions: the table of classes stands. -/
import Derived.Test.YtjamibeffalhaaaGreatDoorDcP
import Derived.Test.YtjamibeffalhaaaGreatDoorLcA
import Derived.Test.YtjamibeffalhaaaGreatDoorLexP
set_option linter.unusedVariables false
set_option linter.unusedSimpArgs false
namespace Go.Proofs.YtjamibeffalhaaaGreatDoor
open Go Go.RowKit
set_option maxRecDepth 10000
variable {G : Nat → Option (List Value)}
structure NwOk (N : List Nd) (V : List Dv) : Prop where
  n : ∀ x ∈ N, x.n.size ≤ maxLen
  v : ∀ x ∈ V, x.n.size ≤ maxLen
  l1 : N.length ≤ maxLen
  l2 : V.length ≤ maxLen
theorem nH {L : List Dv} {k : Nat} {x : Dv} (h : L[k]? = some x) : (L.map Dv.av)[k]? = some x.av := by rw [List.getElem?_map, h]; rfl
theorem nE {L : List Nd} {k : Nat} {x : Nd} (h : L[k]? = some x) : (L.map Nd.av)[k]? = some x.av := by rw [List.getElem?_map, h]; rfl
theorem fR (a b : ByteArray) : yI a b = true ↔ a.data.toList = b.data.toList := by rw [yz]; exact ⟨fun e => by rw [e], tN⟩
theorem mN {s : ByteArray} {V : List Dv} {k : Nat} {d : Dv} (h : V[k]? = some d) : devI s.data.toList k (V.drop k) = if yI d.n s = true then (k : Int) else devI s.data.toList (k + 1 : Nat) (V.drop (k + 1)) := by
  rw [yT h, devI]
  by_cases e : d.n.data.toList = s.data.toList
  · rw [if_pos e, if_pos ((fR _ _).2 e)]
  · rw [if_neg e, if_neg (fun h => e ((fR _ _).1 h))]; rfl
theorem dcl_A (x : Dv) (s : ByteArray) : zz Tryz.prog G 127 [x.av, .ptr (refB + 0) 0 0] [[.v (.string s)]] (.v (.bool (yI x.n s))) [[.v (.string s)]] := by
  refine zb tbOk (zc Tryz.func127 (by kernel_rfl) rfl) Tryz.func127 rfl _ Tryz.ntmps127 (Nat.le_of_ble_eq_true rfl) fun X hX => ?_
  subst hX
  repeat (first | ((with_reducible refine zE ?_); refine zF rfl ?_) | ((with_reducible refine zM ?_); refine zI tbOk rfl rfl rfl rfl ?_) | ((with_reducible refine zR ?_); refine zP tbOk rfl rfl rfl rfl rfl ?_) | ((with_reducible refine yr ?_); refine yu rfl rfl rfl ?_) | ((with_reducible refine zQ ?_); refine yh rfl rfl rfl ?_)  | refine zL ?_ | refine zB rfl ?_ | with_reducible (first | refine zG ?_ | refine zH ?_ | refine zN ?_) | ((with_reducible refine zA ?_ ?_); kernel_rfl))
  refine jG (by first | exact .inr rfl | exact .inl rfl) rfl rfl rfl (by first | rfl | assumption) ?_ ?_ (by repeat' (first | exact trivial | exact Ren.v _ | exact Ren.sl _ _ | exact Ren.ep _ | exact Ren.ptr _ _ _ _ rfl | exact Ren.bs _ _ _ _ _ rfl | exact Ren.nil _ | exact Ren.own _ _ _ _ ⟨_, rfl⟩ | refine zi ?_ | refine zj ?_ | refine zl ?_ | refine ⟨?_, ?_⟩)) <;> rfl
set_option maxRecDepth 100000 in
set_option maxHeartbeats 1000000 in
theorem difn_A (V : List Dv) (s : ByteArray) (hm : V.length ≤ 1000) :
    zz Tryz.prog G 126 [.sl 5 (V.map Dv.av), .fn 127 [.ptr (refB + 0) 0 0]] [[.v (.string s)]] (.v (.int .i64 (devI s.data.toList 0 V))) [[.v (.string s)]] := by
  refine zb tbOk (zc Tryz.func126 (by kernel_rfl) rfl) Tryz.func126 rfl _ Tryz.ntmps126 (Nat.le_of_ble_eq_true rfl) fun X hX => ?_
  subst hX
  repeat (first | ((with_reducible refine zK ?_); refine zJ rfl ?_) | ((with_reducible refine zE ?_); refine zF rfl ?_) | ((with_reducible refine zt ?_); refine yH tbOk rfl rfl ?_)  | refine zL ?_ | refine zB rfl ?_ | with_reducible (first | refine zG ?_ | refine zH ?_ | refine zY ?_) | ((with_reducible refine zA ?_ ?_); kernel_rfl))
  refine jg (ι := Nat) (fun v k => v (refB + 0) = 0 ∧ k ≤ V.length ∧ devI s.data.toList k (V.drop k) = devI s.data.toList 0 V) (fun k => V.length - k) (fun v k => [(0, .sl 5 (V.map Dv.av)), (1, .fn 127 [.ptr (refB + 0) (v (refB + 0)) 0]), (7, .v (.int .i64 (V.map Dv.av).length)), (8, .v (.int .i64 (k : Nat)))]) (fun v k => [(refB + 0, .box [.v (.string s)])]) ?_ ?_
  · exact ⟨0, ⟨rfl, Nat.zero_le _, rfl⟩, trivial, ⟨rfl, rfl, rfl, rfl, trivial⟩, ⟨rfl, trivial⟩⟩
  · rintro v k ⟨hv0, hk, hi⟩
    repeat (first | ((with_reducible refine zQ ?_); refine zT rfl rfl rfl ?_)  | refine zL ?_ | refine zB rfl ?_ | with_reducible (first | refine zG ?_ | refine zH ?_) | ((with_reducible refine zA ?_ ?_); kernel_rfl))
    refine zZ rfl (fun h => ?_) (fun h => ?_)
    · have hlt : k < V.length := by simpa using h
      obtain ⟨x, hx⟩ := zd hlt
      have hy := nH hx
      rw [mN hx] at hi
      repeat (first | ((with_reducible refine zK ?_); refine zJ rfl ?_) | ((with_reducible refine zE ?_); refine zF rfl ?_) | ((with_reducible refine zR ?_); refine yj tbOk rfl rfl (Nat.le_of_ble_eq_true rfl) ?_) | ((with_reducible refine zU ?_); refine zX tbOk rfl rfl rfl rfl (by assumption) ?_)  | refine zL ?_ | refine zB rfl ?_ | with_reducible (first | refine zG ?_ | refine zH ?_ | refine zY ?_ | refine zS ?_) | ((with_reducible refine zA ?_ ?_); kernel_rfl))
      with_reducible refine zt ?_
      refine nB (ss := [(refB + 0, v (refB + 0))]) (dcl_A x s) rfl (by repeat' (first | exact trivial | exact Ren.v _ | exact Ren.sl _ _ | exact Ren.ep _ | exact Ren.ptr _ _ _ _ rfl | exact Ren.bs _ _ _ _ _ rfl | exact Ren.nil _ | exact Ren.own _ _ _ _ ⟨_, rfl⟩ | refine zi ?_ | refine zj ?_ | refine zl ?_ | refine ⟨?_, ?_⟩)) (by simp) (in1 rfl rfl) rfl (ya rfl) (by repeat' (first | exact trivial | exact RenB.v _ | exact RenB.sl _ _ | exact RenB.ep _ | exact RenB.ptr _ _ _ _ rfl | refine jX ?_ | refine jW ?_ | refine ⟨?_, ?_⟩)) ?_
      repeat (first   | refine zL ?_ | with_reducible refine zG ?_ )
      refine zZ rfl (fun hq => ?_) (fun hq => ?_)
      · repeat (first | ((with_reducible refine zK ?_); refine zJ rfl ?_) | ((with_reducible refine zE ?_); refine zF rfl ?_)  | refine zL ?_ | refine zB rfl ?_ | with_reducible (first | refine zG ?_ | refine zO ?_ | refine zV ?_ | refine zH ?_ | refine zN ?_) | ((with_reducible refine zA ?_ ?_); kernel_rfl))
        refine jG (by first | exact .inr rfl | exact .inl rfl) rfl rfl rfl (by first | rfl | assumption) ?_ ?_ (je rfl)
        · rw [if_pos hq] at hi
          rw [← hi]
        · rfl
      · repeat (first | ((with_reducible refine zK ?_); refine zJ rfl ?_) | ((with_reducible refine zQ ?_); refine zg rfl rfl (by omega) ?_)  | refine zL ?_ | refine zB rfl ?_ | with_reducible (first | refine zG ?_ | refine zu ?_ | refine zS ?_) | ((with_reducible refine zA ?_ ?_); kernel_rfl))
        rw [if_neg (by simp [hq])] at hi
        exact ⟨k + 1, ⟨hv0, by omega, hi⟩, by omega, ⟨rfl, rfl, rfl, rfl, trivial⟩, ⟨rfl, trivial⟩⟩
    · have hlt : ¬ k < V.length := by simpa using h
      repeat (first | ((with_reducible refine zE ?_); refine zF rfl ?_)  | refine zL ?_ | refine zB rfl ?_ | with_reducible (first | refine zG ?_ | refine zo ?_ | refine zH ?_ | refine yB ?_ | refine zN ?_) | ((with_reducible refine ze ?_ ?_); rfl) | ((with_reducible refine zA ?_ ?_); kernel_rfl))
      refine jG (by first | exact .inr rfl | exact .inl rfl) rfl rfl rfl (by first | rfl | assumption) ?_ ?_ (je rfl)
      · rw [List.drop_of_length_le (by omega)] at hi
        rw [← hi]; rfl
      · rfl
theorem lA {s : ByteArray} {V : List Nd} {k : Nat} {d : Nd} (h : V[k]? = some d) : nodI s.data.toList k (V.drop k) = if yI d.n s = true then (k : Int) else nodI s.data.toList (k + 1 : Nat) (V.drop (k + 1)) := by
  rw [yT h, nodI]
  by_cases e : d.n.data.toList = s.data.toList
  · rw [if_pos e, if_pos ((fR _ _).2 e)]
  · rw [if_neg e, if_neg (fun h => e ((fR _ _).1 h))]; rfl
theorem ncl_A (x : Nd) (s : ByteArray) : zz Tryz.prog G 125 [x.av, .ptr (refB + 0) 0 0] [[.v (.string s)]] (.v (.bool (yI x.n s))) [[.v (.string s)]] := by
  refine zb tbOk (zc Tryz.func125 (by kernel_rfl) rfl) Tryz.func125 rfl _ Tryz.ntmps125 (Nat.le_of_ble_eq_true rfl) fun X hX => ?_
  subst hX
  repeat (first | ((with_reducible refine zE ?_); refine zF rfl ?_) | ((with_reducible refine zM ?_); refine zI tbOk rfl rfl rfl rfl ?_) | ((with_reducible refine zR ?_); refine zP tbOk rfl rfl rfl rfl rfl ?_) | ((with_reducible refine yr ?_); refine yu rfl rfl rfl ?_) | ((with_reducible refine zQ ?_); refine yh rfl rfl rfl ?_)  | refine zL ?_ | refine zB rfl ?_ | with_reducible (first | refine zG ?_ | refine zH ?_ | refine zN ?_) | ((with_reducible refine zA ?_ ?_); kernel_rfl))
  refine jG (by first | exact .inr rfl | exact .inl rfl) rfl rfl rfl (by first | rfl | assumption) ?_ ?_ (by repeat' (first | exact trivial | exact Ren.v _ | exact Ren.sl _ _ | exact Ren.ep _ | exact Ren.ptr _ _ _ _ rfl | exact Ren.bs _ _ _ _ _ rfl | exact Ren.nil _ | exact Ren.own _ _ _ _ ⟨_, rfl⟩ | refine zi ?_ | refine zj ?_ | refine zl ?_ | refine ⟨?_, ?_⟩)) <;> rfl
set_option maxRecDepth 100000 in
set_option maxHeartbeats 1000000 in
theorem nifn_A (V : List Nd) (s : ByteArray) (hm : V.length ≤ 1000) :
    zz Tryz.prog G 124 [.sl 3 (V.map Nd.av), .fn 125 [.ptr (refB + 0) 0 0]] [[.v (.string s)]] (.v (.int .i64 (nodI s.data.toList 0 V))) [[.v (.string s)]] := by
  refine zb tbOk (zc Tryz.func124 (by kernel_rfl) rfl) Tryz.func124 rfl _ Tryz.ntmps124 (Nat.le_of_ble_eq_true rfl) fun X hX => ?_
  subst hX
  repeat (first | ((with_reducible refine zK ?_); refine zJ rfl ?_) | ((with_reducible refine zE ?_); refine zF rfl ?_) | ((with_reducible refine zt ?_); refine yH tbOk rfl rfl ?_)  | refine zL ?_ | refine zB rfl ?_ | with_reducible (first | refine zG ?_ | refine zH ?_ | refine zY ?_) | ((with_reducible refine zA ?_ ?_); kernel_rfl))
  refine jg (ι := Nat) (fun v k => v (refB + 0) = 0 ∧ k ≤ V.length ∧ nodI s.data.toList k (V.drop k) = nodI s.data.toList 0 V) (fun k => V.length - k) (fun v k => [(0, .sl 3 (V.map Nd.av)), (1, .fn 125 [.ptr (refB + 0) (v (refB + 0)) 0]), (7, .v (.int .i64 (V.map Nd.av).length)), (8, .v (.int .i64 (k : Nat)))]) (fun v k => [(refB + 0, .box [.v (.string s)])]) ?_ ?_
  · exact ⟨0, ⟨rfl, Nat.zero_le _, rfl⟩, trivial, ⟨rfl, rfl, rfl, rfl, trivial⟩, ⟨rfl, trivial⟩⟩
  · rintro v k ⟨hv0, hk, hi⟩
    repeat (first | ((with_reducible refine zQ ?_); refine zT rfl rfl rfl ?_)  | refine zL ?_ | refine zB rfl ?_ | with_reducible (first | refine zG ?_ | refine zH ?_) | ((with_reducible refine zA ?_ ?_); kernel_rfl))
    refine zZ rfl (fun h => ?_) (fun h => ?_)
    · have hlt : k < V.length := by simpa using h
      obtain ⟨x, hx⟩ := zd hlt
      have hy := nE hx
      rw [lA hx] at hi
      repeat (first | ((with_reducible refine zK ?_); refine zJ rfl ?_) | ((with_reducible refine zE ?_); refine zF rfl ?_) | ((with_reducible refine zR ?_); refine yj tbOk rfl rfl (Nat.le_of_ble_eq_true rfl) ?_) | ((with_reducible refine zU ?_); refine zX tbOk rfl rfl rfl rfl (by assumption) ?_)  | refine zL ?_ | refine zB rfl ?_ | with_reducible (first | refine zG ?_ | refine zH ?_ | refine zY ?_ | refine zS ?_) | ((with_reducible refine zA ?_ ?_); kernel_rfl))
      with_reducible refine zt ?_
      refine nB (ss := [(refB + 0, v (refB + 0))]) (ncl_A x s) rfl (by repeat' (first | exact trivial | exact Ren.v _ | exact Ren.sl _ _ | exact Ren.ep _ | exact Ren.ptr _ _ _ _ rfl | exact Ren.bs _ _ _ _ _ rfl | exact Ren.nil _ | exact Ren.own _ _ _ _ ⟨_, rfl⟩ | refine zi ?_ | refine zj ?_ | refine zl ?_ | refine ⟨?_, ?_⟩)) (by simp) (in1 rfl rfl) rfl (ya rfl) (by repeat' (first | exact trivial | exact RenB.v _ | exact RenB.sl _ _ | exact RenB.ep _ | exact RenB.ptr _ _ _ _ rfl | refine jX ?_ | refine jW ?_ | refine ⟨?_, ?_⟩)) ?_
      repeat (first   | refine zL ?_ | with_reducible refine zG ?_ )
      refine zZ rfl (fun hq => ?_) (fun hq => ?_)
      · repeat (first | ((with_reducible refine zK ?_); refine zJ rfl ?_) | ((with_reducible refine zE ?_); refine zF rfl ?_)  | refine zL ?_ | refine zB rfl ?_ | with_reducible (first | refine zG ?_ | refine zO ?_ | refine zV ?_ | refine zH ?_ | refine zN ?_) | ((with_reducible refine zA ?_ ?_); kernel_rfl))
        refine jG (by first | exact .inr rfl | exact .inl rfl) rfl rfl rfl (by first | rfl | assumption) ?_ ?_ (je rfl)
        · rw [if_pos hq] at hi
          rw [← hi]
        · rfl
      · repeat (first | ((with_reducible refine zK ?_); refine zJ rfl ?_) | ((with_reducible refine zQ ?_); refine zg rfl rfl (by omega) ?_)  | refine zL ?_ | refine zB rfl ?_ | with_reducible (first | refine zG ?_ | refine zu ?_ | refine zS ?_) | ((with_reducible refine zA ?_ ?_); kernel_rfl))
        rw [if_neg (by simp [hq])] at hi
        exact ⟨k + 1, ⟨hv0, by omega, hi⟩, by omega, ⟨rfl, rfl, rfl, rfl, trivial⟩, ⟨rfl, trivial⟩⟩
    · have hlt : ¬ k < V.length := by simpa using h
      repeat (first | ((with_reducible refine zE ?_); refine zF rfl ?_)  | refine zL ?_ | refine zB rfl ?_ | with_reducible (first | refine zG ?_ | refine zo ?_ | refine zH ?_ | refine yB ?_ | refine zN ?_) | ((with_reducible refine ze ?_ ?_); rfl) | ((with_reducible refine zA ?_ ?_); kernel_rfl))
      refine jG (by first | exact .inr rfl | exact .inl rfl) rfl rfl rfl (by first | rfl | assumption) ?_ ?_ (je rfl)
      · rw [List.drop_of_length_le (by omega)] at hi
        rw [← hi]; rfl
      · rfl
theorem bN {N : List Nd} {V : List Dv} (h : netE N V = 0) : N.length ≤ 32 ∧ V.length ≤ 64 := by
  unfold netE at h
  split at h
  · cases h
  · omega
def devF (N : List Nd) (V : List Dv) (s : ByteArray) : Int := if netE N V ≠ 0 then -1 else devI s.data.toList 0 V
theorem ndev_A (N : List Nd) (V : List Dv) (s : ByteArray) (hG : GCls G) (ok : NwOk N V) : zz Tryz.prog G 110 [jo N V, .v (.string s)] [] (.v (.int .i64 (devF N V s))) [] := by
  unfold devF
  refine zb tbOk (zc Tryz.func110 (by kernel_rfl) rfl) Tryz.func110 rfl _ Tryz.ntmps110 (Nat.le_of_ble_eq_true rfl) fun X hX => ?_
  subst hX
  repeat (first | ((with_reducible refine zE ?_); refine zF rfl ?_) | ((with_reducible refine zR ?_); refine zk tbOk rfl rfl rfl rfl (Nat.le_of_ble_eq_true rfl) ?_) | ((with_reducible refine yr ?_); refine yu rfl rfl rfl ?_)  | refine zL ?_ | refine zB rfl ?_ | with_reducible (first | refine zG ?_ | refine zH ?_) | ((with_reducible refine zA ?_ ?_); kernel_rfl))
  refine zC (jx N V hG ok.n ok.v ok.l1 ok.l2) ?_
  repeat (first | ((with_reducible refine zQ ?_); refine zT rfl rfl rfl ?_)  | refine zL ?_ | refine zB rfl ?_ | with_reducible refine zG ?_ )
  refine zZ rfl (fun h => ?_) (fun h => ?_)
  · have h' : netE N V ≠ 0 := by simpa using h
    rw [if_pos h']
    repeat (first | ((with_reducible refine zE ?_); refine zF rfl ?_)  | refine zL ?_ | refine zB rfl ?_ | with_reducible (first | refine zG ?_ | refine zO ?_ | refine zH ?_ | refine zN ?_) | ((with_reducible refine zA ?_ ?_); kernel_rfl))
    refine zm (by first | exact .inr rfl | exact .inl rfl) rfl rfl ?_
    rfl
  have h' : netE N V = 0 := by simpa using h
  rw [if_neg (by simpa using h')]
  repeat (first | ((with_reducible refine zM ?_); refine zI tbOk rfl rfl rfl rfl ?_) | ((with_reducible refine zR ?_); refine zP tbOk rfl rfl rfl rfl rfl ?_) | ((with_reducible refine cB ?_); refine sO rfl ?_)  | refine zB rfl ?_ | with_reducible (first | refine zG ?_ | refine zH ?_ | refine zS ?_) | ((with_reducible refine zA ?_ ?_); kernel_rfl))
  refine zD (ss := [(3, 1)]) (difn_A V s (by have := bN h'; omega)) (by simp) (in1 rfl rfl) rfl (ya rfl) ?_
  repeat (first | ((with_reducible refine zE ?_); refine zF rfl ?_)  | refine zL ?_ | refine zB rfl ?_ | with_reducible (first | refine zG ?_ | refine zN ?_) )
  refine zm (by first | exact .inr rfl | exact .inl rfl) rfl rfl ?_
  rfl
def nodF (N : List Nd) (V : List Dv) (s : ByteArray) : Int := if netE N V ≠ 0 then -1 else nodI s.data.toList 0 N
theorem nnod_A (N : List Nd) (V : List Dv) (s : ByteArray) (hG : GCls G) (ok : NwOk N V) : zz Tryz.prog G 109 [jo N V, .v (.string s)] [] (.v (.int .i64 (nodF N V s))) [] := by
  unfold nodF
  refine zb tbOk (zc Tryz.func109 (by kernel_rfl) rfl) Tryz.func109 rfl _ Tryz.ntmps109 (Nat.le_of_ble_eq_true rfl) fun X hX => ?_
  subst hX
  repeat (first | ((with_reducible refine zE ?_); refine zF rfl ?_) | ((with_reducible refine zR ?_); refine zk tbOk rfl rfl rfl rfl (Nat.le_of_ble_eq_true rfl) ?_) | ((with_reducible refine yr ?_); refine yu rfl rfl rfl ?_)  | refine zL ?_ | refine zB rfl ?_ | with_reducible (first | refine zG ?_ | refine zH ?_) | ((with_reducible refine zA ?_ ?_); kernel_rfl))
  refine zC (jx N V hG ok.n ok.v ok.l1 ok.l2) ?_
  repeat (first | ((with_reducible refine zQ ?_); refine zT rfl rfl rfl ?_)  | refine zL ?_ | refine zB rfl ?_ | with_reducible refine zG ?_ )
  refine zZ rfl (fun h => ?_) (fun h => ?_)
  · have h' : netE N V ≠ 0 := by simpa using h
    rw [if_pos h']
    repeat (first | ((with_reducible refine zE ?_); refine zF rfl ?_)  | refine zL ?_ | refine zB rfl ?_ | with_reducible (first | refine zG ?_ | refine zO ?_ | refine zH ?_ | refine zN ?_) | ((with_reducible refine zA ?_ ?_); kernel_rfl))
    refine zm (by first | exact .inr rfl | exact .inl rfl) rfl rfl ?_
    rfl
  have h' : netE N V = 0 := by simpa using h
  rw [if_neg (by simpa using h')]
  repeat (first | ((with_reducible refine zM ?_); refine zI tbOk rfl rfl rfl rfl ?_) | ((with_reducible refine zR ?_); refine zP tbOk rfl rfl rfl rfl rfl ?_) | ((with_reducible refine cB ?_); refine sO rfl ?_)  | refine zB rfl ?_ | with_reducible (first | refine zG ?_ | refine zH ?_ | refine zS ?_) | ((with_reducible refine zA ?_ ?_); kernel_rfl))
  refine zD (ss := [(3, 1)]) (nifn_A N s (by have := bN h'; omega)) (by simp) (in1 rfl rfl) rfl (ya rfl) ?_
  repeat (first | ((with_reducible refine zE ?_); refine zF rfl ?_)  | refine zL ?_ | refine zB rfl ?_ | with_reducible (first | refine zG ?_ | refine zN ?_) )
  refine zm (by first | exact .inr rfl | exact .inl rfl) rfl rfl ?_
  rfl
theorem rdev_A (N : List Nd) (V : List Dv) (s : ByteArray) (ok : NwOk N V) : zz Tryz.prog G 87 [jo N V, .v (.string s)] [] (.v (.int .i64 (devF N V s))) [] := by
  unfold devF
  refine zb tbOk (zc Tryz.func87 (by kernel_rfl) rfl) Tryz.func87 rfl _ Tryz.ntmps87 (Nat.le_of_ble_eq_true rfl) fun X hX => ?_
  subst hX
  repeat (first | ((with_reducible refine zE ?_); refine zF rfl ?_) | ((with_reducible refine zR ?_); refine zk tbOk rfl rfl rfl rfl (Nat.le_of_ble_eq_true rfl) ?_) | ((with_reducible refine yr ?_); refine yu rfl rfl rfl ?_)  | refine zL ?_ | refine zB rfl ?_ | with_reducible (first | refine zG ?_ | refine zH ?_) | ((with_reducible refine zA ?_ ?_); kernel_rfl))
  refine zC (cP N V ok.n ok.v ok.l1 ok.l2) ?_
  repeat (first | ((with_reducible refine zQ ?_); refine zT rfl rfl rfl ?_)  | refine zL ?_ | refine zB rfl ?_ | with_reducible refine zG ?_ )
  refine zZ rfl (fun h => ?_) (fun h => ?_)
  · have h' : netE N V ≠ 0 := by simpa using h
    rw [if_pos h']
    repeat (first | ((with_reducible refine zE ?_); refine zF rfl ?_)  | refine zL ?_ | refine zB rfl ?_ | with_reducible (first | refine zG ?_ | refine zO ?_ | refine zH ?_ | refine zN ?_) | ((with_reducible refine zA ?_ ?_); kernel_rfl))
    refine zm (by first | exact .inr rfl | exact .inl rfl) rfl rfl ?_
    rfl
  have h' : netE N V = 0 := by simpa using h
  have hvl := bN h'
  rw [if_neg (by simpa using h')]
  repeat (first | ((with_reducible refine zE ?_); refine zF rfl ?_)  | refine zL ?_ | refine zB rfl ?_ | with_reducible (first | refine zG ?_ | refine zH ?_ | refine zY ?_ | refine zS ?_) | ((with_reducible refine zA ?_ ?_); kernel_rfl))
  refine yL (ι := Nat) (fun k => k ≤ V.length ∧ devI s.data.toList k (V.drop k) = devI s.data.toList 0 V) (fun k => V.length - k) (fun v k => [(1, .v (.string s)), (2, .ptr 2 (v 2) 0), (5, .v (.int .i64 (k : Nat)))]) (fun v k => [(2, .box [.sl 3 (N.map Nd.av), .sl 5 (V.map Dv.av)])]) ?_ ?_
  · exact ⟨0, ⟨Nat.zero_le _, rfl⟩, trivial, ⟨rfl, rfl, rfl, trivial⟩, ⟨rfl, trivial⟩⟩
  rintro v k ⟨hk, hi⟩
  repeat (first | ((with_reducible refine zK ?_); refine zJ rfl ?_) | ((with_reducible refine zM ?_); refine zI tbOk rfl rfl rfl rfl ?_) | ((with_reducible refine zR ?_); refine zP tbOk rfl rfl rfl rfl rfl ?_) | ((with_reducible refine zt ?_); refine yH tbOk rfl rfl ?_) | ((with_reducible refine zQ ?_); refine zT rfl rfl rfl ?_)  | refine zL ?_ | refine zB rfl ?_ | with_reducible (first | refine zG ?_ | refine zH ?_) | ((with_reducible refine zA ?_ ?_); kernel_rfl))
  refine zZ rfl (fun h => ?_) (fun h => ?_)
  · have hlt : k < V.length := by simpa using h
    obtain ⟨x, hx⟩ := zd hlt
    have hy := nH hx
    rw [mN hx] at hi
    repeat (first | ((with_reducible refine zK ?_); refine zJ rfl ?_) | ((with_reducible refine zM ?_); (first | refine zI tbOk rfl rfl rfl rfl ?_ | refine yW tbOk rfl rfl rfl rfl ?_)) | ((with_reducible refine zR ?_); (first | refine zP tbOk rfl rfl rfl rfl rfl ?_ | refine zW tbOk rfl rfl rfl ?_)) | ((with_reducible refine zU ?_); refine zX tbOk rfl rfl rfl rfl (by assumption) ?_) | ((with_reducible refine zQ ?_); refine yh rfl rfl rfl ?_)  | refine zL ?_ | refine zB rfl ?_ | with_reducible (first | refine zG ?_ | refine zH ?_ | refine zY ?_ | refine zS ?_) | ((with_reducible refine zA ?_ ?_); kernel_rfl))
    refine zZ rfl (fun hq => ?_) (fun hq => ?_)
    · repeat (first | ((with_reducible refine zK ?_); refine zJ rfl ?_) | ((with_reducible refine zE ?_); refine zF rfl ?_)  | refine zL ?_ | refine zB rfl ?_ | with_reducible (first | refine zG ?_ | refine zO ?_ | refine zV ?_ | refine zH ?_ | refine zN ?_) | ((with_reducible refine zA ?_ ?_); kernel_rfl))
      refine zm (by first | exact .inr rfl | exact .inl rfl) rfl rfl ?_
      have hq' : yI x.n s = true := hq
      rw [if_pos hq'] at hi
      rw [← hi]
    · repeat (first | ((with_reducible refine zK ?_); refine zJ rfl ?_) | ((with_reducible refine zE ?_); refine zF rfl ?_) | ((with_reducible refine zQ ?_); refine zg rfl rfl (by omega) ?_)  | refine zL ?_ | refine zB rfl ?_ | with_reducible (first | refine zG ?_ | refine zu ?_ | refine zS ?_) | ((with_reducible refine zA ?_ ?_); kernel_rfl))
      have hq' : ¬ yI x.n s = true := by
        have hq2 : yI x.n s = false := hq
        rw [hq2]; decide
      rw [if_neg hq'] at hi
      exact ⟨k + 1, ⟨by omega, hi⟩, by omega, ⟨rfl, rfl, rfl, trivial⟩, ⟨rfl, trivial⟩⟩
  · have hlt : ¬ k < V.length := by simpa using h
    repeat (first | ((with_reducible refine zE ?_); refine zF rfl ?_)  | refine zL ?_ | refine zB rfl ?_ | with_reducible (first | refine zG ?_ | refine zo ?_ | refine zH ?_ | refine yB ?_ | refine zN ?_) | ((with_reducible refine ze ?_ ?_); rfl) | ((with_reducible refine zA ?_ ?_); kernel_rfl))
    refine zm (by first | exact .inr rfl | exact .inl rfl) rfl rfl ?_
    rw [List.drop_of_length_le (by omega)] at hi
    rw [← hi]; rfl
theorem rnod_A (N : List Nd) (V : List Dv) (s : ByteArray) (ok : NwOk N V) : zz Tryz.prog G 46 [jo N V, .v (.string s)] [] (.v (.int .i64 (nodF N V s))) [] := by
  unfold nodF
  refine zb tbOk (zc Tryz.func46 (by kernel_rfl) rfl) Tryz.func46 rfl _ Tryz.ntmps46 (Nat.le_of_ble_eq_true rfl) fun X hX => ?_
  subst hX
  repeat (first | ((with_reducible refine zE ?_); refine zF rfl ?_) | ((with_reducible refine zR ?_); refine zk tbOk rfl rfl rfl rfl (Nat.le_of_ble_eq_true rfl) ?_) | ((with_reducible refine yr ?_); refine yu rfl rfl rfl ?_)  | refine zL ?_ | refine zB rfl ?_ | with_reducible (first | refine zG ?_ | refine zH ?_) | ((with_reducible refine zA ?_ ?_); kernel_rfl))
  refine zC (cP N V ok.n ok.v ok.l1 ok.l2) ?_
  repeat (first | ((with_reducible refine zQ ?_); refine zT rfl rfl rfl ?_)  | refine zL ?_ | refine zB rfl ?_ | with_reducible refine zG ?_ )
  refine zZ rfl (fun h => ?_) (fun h => ?_)
  · have h' : netE N V ≠ 0 := by simpa using h
    rw [if_pos h']
    repeat (first | ((with_reducible refine zE ?_); refine zF rfl ?_)  | refine zL ?_ | refine zB rfl ?_ | with_reducible (first | refine zG ?_ | refine zO ?_ | refine zH ?_ | refine zN ?_) | ((with_reducible refine zA ?_ ?_); kernel_rfl))
    refine zm (by first | exact .inr rfl | exact .inl rfl) rfl rfl ?_
    rfl
  have h' : netE N V = 0 := by simpa using h
  have hvl := bN h'
  rw [if_neg (by simpa using h')]
  repeat (first | ((with_reducible refine zE ?_); refine zF rfl ?_)  | refine zL ?_ | refine zB rfl ?_ | with_reducible (first | refine zG ?_ | refine zH ?_ | refine zY ?_ | refine zS ?_) | ((with_reducible refine zA ?_ ?_); kernel_rfl))
  refine yL (ι := Nat) (fun k => k ≤ N.length ∧ nodI s.data.toList k (N.drop k) = nodI s.data.toList 0 N) (fun k => N.length - k) (fun v k => [(1, .v (.string s)), (2, .ptr 2 (v 2) 0), (5, .v (.int .i64 (k : Nat)))]) (fun v k => [(2, .box [.sl 3 (N.map Nd.av), .sl 5 (V.map Dv.av)])]) ?_ ?_
  · exact ⟨0, ⟨Nat.zero_le _, rfl⟩, trivial, ⟨rfl, rfl, rfl, trivial⟩, ⟨rfl, trivial⟩⟩
  rintro v k ⟨hk, hi⟩
  repeat (first | ((with_reducible refine zK ?_); refine zJ rfl ?_) | ((with_reducible refine zM ?_); refine zI tbOk rfl rfl rfl rfl ?_) | ((with_reducible refine zR ?_); refine zP tbOk rfl rfl rfl rfl rfl ?_) | ((with_reducible refine zt ?_); refine yH tbOk rfl rfl ?_) | ((with_reducible refine zQ ?_); refine zT rfl rfl rfl ?_)  | refine zL ?_ | refine zB rfl ?_ | with_reducible (first | refine zG ?_ | refine zH ?_) | ((with_reducible refine zA ?_ ?_); kernel_rfl))
  refine zZ rfl (fun h => ?_) (fun h => ?_)
  · have hlt : k < N.length := by simpa using h
    obtain ⟨x, hx⟩ := zd hlt
    have hy := nE hx
    rw [lA hx] at hi
    repeat (first | ((with_reducible refine zK ?_); refine zJ rfl ?_) | ((with_reducible refine zM ?_); (first | refine zI tbOk rfl rfl rfl rfl ?_ | refine yW tbOk rfl rfl rfl rfl ?_)) | ((with_reducible refine zR ?_); (first | refine zP tbOk rfl rfl rfl rfl rfl ?_ | refine zW tbOk rfl rfl rfl ?_)) | ((with_reducible refine zU ?_); refine zX tbOk rfl rfl rfl rfl (by assumption) ?_) | ((with_reducible refine zQ ?_); refine yh rfl rfl rfl ?_)  | refine zL ?_ | refine zB rfl ?_ | with_reducible (first | refine zG ?_ | refine zH ?_ | refine zY ?_ | refine zS ?_) | ((with_reducible refine zA ?_ ?_); kernel_rfl))
    refine zZ rfl (fun hq => ?_) (fun hq => ?_)
    · repeat (first | ((with_reducible refine zK ?_); refine zJ rfl ?_) | ((with_reducible refine zE ?_); refine zF rfl ?_)  | refine zL ?_ | refine zB rfl ?_ | with_reducible (first | refine zG ?_ | refine zO ?_ | refine zV ?_ | refine zH ?_ | refine zN ?_) | ((with_reducible refine zA ?_ ?_); kernel_rfl))
      refine zm (by first | exact .inr rfl | exact .inl rfl) rfl rfl ?_
      have hq' : yI x.n s = true := hq
      rw [if_pos hq'] at hi
      rw [← hi]
    · repeat (first | ((with_reducible refine zK ?_); refine zJ rfl ?_) | ((with_reducible refine zE ?_); refine zF rfl ?_) | ((with_reducible refine zQ ?_); refine zg rfl rfl (by omega) ?_)  | refine zL ?_ | refine zB rfl ?_ | with_reducible (first | refine zG ?_ | refine zu ?_ | refine zS ?_) | ((with_reducible refine zA ?_ ?_); kernel_rfl))
      have hq' : ¬ yI x.n s = true := by
        have hq2 : yI x.n s = false := hq
        rw [hq2]; decide
      rw [if_neg hq'] at hi
      exact ⟨k + 1, ⟨by omega, hi⟩, by omega, ⟨rfl, rfl, rfl, trivial⟩, ⟨rfl, trivial⟩⟩
  · have hlt : ¬ k < N.length := by simpa using h
    repeat (first | ((with_reducible refine zE ?_); refine zF rfl ?_)  | refine zL ?_ | refine zB rfl ?_ | with_reducible (first | refine zG ?_ | refine zo ?_ | refine zH ?_ | refine yB ?_ | refine zN ?_) | ((with_reducible refine ze ?_ ?_); rfl) | ((with_reducible refine zA ?_ ?_); kernel_rfl))
    refine zm (by first | exact .inr rfl | exact .inl rfl) rfl rfl ?_
    rw [List.drop_of_length_le (by omega)] at hi
    rw [← hi]; rfl
theorem dY {W : List (List UInt8)} {k : Nat} {w : List UInt8} (h : W[k]? = some w) : (W.map svL)[k]? = some (svL w) := by rw [List.getElem?_map, h]; rfl
def idxL (s : List UInt8) : Int → List (List UInt8) → Int
  | _, [] => -1
  | i, d :: l => if s = d then i else idxL s (i + 1) l
theorem uL {s : List UInt8} {V : List (List UInt8)} {k : Nat} {d : List UInt8} (h : V[k]? = some d) : idxL s k (V.drop k) = if s = d then (k : Int) else idxL s (k + 1 : Nat) (V.drop (k + 1)) := by
  rw [yT h, idxL]; rfl
theorem jZ (a b : List UInt8) : yI (strL a) (strL b) = true ↔ a = b := by rw [fR, yy, yy]
theorem sidx_A (L : List (List UInt8)) (s : List UInt8) (hl : L.length ≤ 1000000) : zz Tryz.prog G 122 [.sl 1 (L.map svL), svL s] [] (.v (.int .i64 (idxL s 0 L))) [] := by
  refine zb tbOk (zc Tryz.func122 (by kernel_rfl) rfl) Tryz.func122 rfl _ Tryz.ntmps122 (Nat.le_of_ble_eq_true rfl) fun X hX => ?_
  subst hX
  repeat (first | ((with_reducible refine zK ?_); refine zJ rfl ?_) | ((with_reducible refine zE ?_); refine zF rfl ?_) | ((with_reducible refine zt ?_); refine yH tbOk rfl rfl ?_)  | refine zL ?_ | refine zB rfl ?_ | with_reducible (first | refine zG ?_ | refine zH ?_ | refine zY ?_) | ((with_reducible refine zA ?_ ?_); kernel_rfl))
  refine yL (ι := Nat) (fun k => k ≤ L.length ∧ idxL s k (L.drop k) = idxL s 0 L) (fun k => L.length - k) (fun v k => [(0, .sl 1 (L.map svL)), (1, svL s), (7, .v (.int .i64 (L.map svL).length)), (8, .v (.int .i64 (k : Nat)))]) (fun v k => []) ?_ ?_
  · exact ⟨0, ⟨Nat.zero_le _, rfl⟩, trivial, ⟨rfl, rfl, rfl, rfl, trivial⟩, trivial⟩
  rintro v k ⟨hk, hi⟩
  repeat (first | ((with_reducible refine zQ ?_); refine zT rfl rfl rfl ?_)  | refine zL ?_ | refine zB rfl ?_ | with_reducible (first | refine zG ?_ | refine zH ?_) | ((with_reducible refine zA ?_ ?_); kernel_rfl))
  refine zZ rfl (fun h => ?_) (fun h => ?_)
  · have hlt : k < L.length := by simpa using h
    obtain ⟨x, hx⟩ := zd hlt
    have hy := dY hx
    rw [uL hx] at hi
    repeat (first | ((with_reducible refine zK ?_); refine zJ rfl ?_) | ((with_reducible refine zE ?_); refine zF rfl ?_) | ((with_reducible refine zR ?_); refine zW tbOk rfl rfl rfl ?_) | ((with_reducible refine zU ?_); refine zX tbOk rfl rfl rfl rfl (by assumption) ?_) | ((with_reducible refine zQ ?_); refine yh rfl rfl rfl ?_)  | refine zL ?_ | refine zB rfl ?_ | with_reducible (first | refine zG ?_ | refine zH ?_ | refine zY ?_ | refine zS ?_) | ((with_reducible refine zA ?_ ?_); kernel_rfl))
    refine zZ rfl (fun q => ?_) (fun q => ?_)
    · repeat (first | ((with_reducible refine zK ?_); refine zJ rfl ?_) | ((with_reducible refine zE ?_); refine zF rfl ?_)  | refine zL ?_ | refine zB rfl ?_ | with_reducible (first | refine zG ?_ | refine zO ?_ | refine zV ?_ | refine zH ?_ | refine zN ?_) | ((with_reducible refine zA ?_ ?_); kernel_rfl))
      refine zm (by first | exact .inr rfl | exact .inl rfl) rfl rfl ?_
      have q' : s = x := (jZ s x).1 q
      rw [if_pos q'] at hi
      rw [← hi]
    · repeat (first | ((with_reducible refine zK ?_); refine zJ rfl ?_) | ((with_reducible refine zQ ?_); refine zg rfl rfl (by omega) ?_)  | refine zL ?_ | refine zB rfl ?_ | with_reducible (first | refine zG ?_ | refine zu ?_ | refine zS ?_) | ((with_reducible refine zA ?_ ?_); kernel_rfl))
      have q' : ¬ s = x := fun e => by
        have h2 := (jZ s x).2 e
        have q2 : yI (strL s) (strL x) = false := q
        rw [h2] at q2; cases q2
      rw [if_neg q'] at hi
      exact ⟨k + 1, ⟨by omega, hi⟩, by omega, ⟨rfl, rfl, rfl, rfl, trivial⟩, trivial⟩
  · have hge : L.length ≤ k := by simpa using h
    repeat (first | ((with_reducible refine zE ?_); refine zF rfl ?_)  | refine zL ?_ | refine zB rfl ?_ | with_reducible (first | refine zG ?_ | refine zo ?_ | refine zH ?_ | refine yB ?_ | refine zN ?_) | ((with_reducible refine ze ?_ ?_); rfl) | ((with_reducible refine zA ?_ ?_); kernel_rfl))
    refine zm (by first | exact .inr rfl | exact .inl rfl) rfl rfl ?_
    rw [List.drop_of_length_le hge] at hi
    rw [← hi]; rfl
end Go.Proofs.YtjamibeffalhaaaGreatDoor
