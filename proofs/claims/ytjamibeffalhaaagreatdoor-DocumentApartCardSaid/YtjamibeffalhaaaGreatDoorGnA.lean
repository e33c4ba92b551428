/- network.Device, network.Node and their references, slices.Index of strings, by the abstract machine; conditions: the table of classes stands. -/
import Derived.Test.YtjamibeffalhaaaGreatDoorGnP
import Derived.Test.YtjamibeffalhaaaGreatDoorLcA
import Derived.Test.YtjamibeffalhaaaGreatDoorLexP
set_option linter.unusedVariables false
set_option linter.unusedSimpArgs false
namespace Go.Proofs.YtjamibeffalhaaaGreatDoor
open Go Go.RowKit
set_option maxRecDepth 10000
variable {G : Nat → Option (List Value)}
structure NwOk (N : List Nd) (V : List Dv) : Prop where
  n : ∀ x ∈ N, x.n.size ≤ maxLen
  v : ∀ x ∈ V, x.n.size ≤ maxLen
  l1 : N.length ≤ maxLen
  l2 : V.length ≤ maxLen
theorem dv_at' {L : List Dv} {k : Nat} {x : Dv} (h : L[k]? = some x) : (L.map Dv.av)[k]? = some x.av := by rw [List.getElem?_map, h]; rfl
theorem nd_at' {L : List Nd} {k : Nat} {x : Nd} (h : L[k]? = some x) : (L.map Nd.av)[k]? = some x.av := by rw [List.getElem?_map, h]; rfl
theorem strEq_l (a b : ByteArray) : yS a b = true ↔ a.data.toList = b.data.toList := by rw [ye]; exact ⟨fun e => by rw [e], ba_ext2⟩
theorem devI_drop {s : ByteArray} {V : List Dv} {k : Nat} {d : Dv} (h : V[k]? = some d) : devI s.data.toList k (V.drop k) = if yS d.n s = true then (k : Int) else devI s.data.toList (k + 1 : Nat) (V.drop (k + 1)) := by
  rw [yT h, devI]
  by_cases e : d.n.data.toList = s.data.toList
  · rw [if_pos e, if_pos ((strEq_l _ _).2 e)]
  · rw [if_neg e, if_neg (fun h => e ((strEq_l _ _).1 h))]; rfl
theorem dcl_A (x : Dv) (s : ByteArray) : zy Tryz.prog G 127 [x.av, .ptr (refB + 0) 0 0] [[.v (.string s)]] (.v (.bool (yS x.n s))) [[.v (.string s)]] := by
  refine zf tbOk (zg Tryz.func127 (by kernel_rfl) rfl) Tryz.func127 rfl _ Tryz.ntmps127 (Nat.le_of_ble_eq_true rfl) fun X hX => ?_
  subst hX
  repeat (first | ((with_reducible refine zD ?_); refine zC rfl ?_) | ((with_reducible refine zK ?_); refine zG tbOk rfl rfl rfl rfl ?_) | ((with_reducible refine zO ?_); refine zN tbOk rfl rfl rfl rfl rfl ?_) | ((with_reducible refine yy ?_); refine yz rfl rfl rfl ?_) | ((with_reducible refine zS ?_); refine jB rfl rfl rfl ?_)  | refine zH ?_ | refine zB rfl ?_ | with_reducible refine zE ?_ | with_reducible refine zF ?_ | with_reducible refine zL ?_ | ((with_reducible refine zA ?_ ?_); kernel_rfl))
  refine yf (by first | exact .inr rfl | exact .inl rfl) rfl rfl rfl (by first | rfl | assumption) ?_ ?_ (by repeat' (first | exact trivial | exact Ren.v _ | exact Ren.sl _ _ | exact Ren.ep _ | exact Ren.ptr _ _ _ _ rfl | exact Ren.bs _ _ _ _ _ rfl | exact Ren.nil _ | exact Ren.own _ _ _ _ ⟨_, rfl⟩ | refine zP ?_ | refine zQ ?_ | refine zR ?_ | refine ⟨?_, ?_⟩)) <;> rfl
set_option maxRecDepth 100000 in
set_option maxHeartbeats 1000000 in
theorem difn_A (V : List Dv) (s : ByteArray) (hm : V.length ≤ 1000) :
    zy Tryz.prog G 126 [.sl 5 (V.map Dv.av), .fn 127 [.ptr (refB + 0) 0 0]] [[.v (.string s)]] (.v (.int .i64 (devI s.data.toList 0 V))) [[.v (.string s)]] := by
  refine zf tbOk (zg Tryz.func126 (by kernel_rfl) rfl) Tryz.func126 rfl _ Tryz.ntmps126 (Nat.le_of_ble_eq_true rfl) fun X hX => ?_
  subst hX
  repeat (first | ((with_reducible refine zJ ?_); refine zI rfl ?_) | ((with_reducible refine zD ?_); refine zC rfl ?_) | ((with_reducible refine yA ?_); refine yP tbOk rfl rfl ?_)  | refine zH ?_ | refine zB rfl ?_ | with_reducible refine zE ?_ | with_reducible refine zF ?_ | with_reducible refine zY ?_ | ((with_reducible refine zA ?_ ?_); kernel_rfl))
  refine jI (ι := Nat) (fun v k => v (refB + 0) = 0 ∧ k ≤ V.length ∧ devI s.data.toList k (V.drop k) = devI s.data.toList 0 V) (fun k => V.length - k) (fun v k => [(0, .sl 5 (V.map Dv.av)), (1, .fn 127 [.ptr (refB + 0) (v (refB + 0)) 0]), (7, .v (.int .i64 (V.map Dv.av).length)), (8, .v (.int .i64 (k : Nat)))]) (fun v k => [(refB + 0, .box [.v (.string s)])]) ?_ ?_
  · exact ⟨0, ⟨rfl, Nat.zero_le _, rfl⟩, trivial, ⟨rfl, rfl, rfl, rfl, trivial⟩, ⟨rfl, trivial⟩⟩
  · rintro v k ⟨hv0, hk, hi⟩
    repeat (first | ((with_reducible refine zS ?_); refine zT rfl rfl rfl ?_)  | refine zH ?_ | refine zB rfl ?_ | with_reducible refine zE ?_ | with_reducible refine zF ?_ | ((with_reducible refine zA ?_ ?_); kernel_rfl))
    refine zZ rfl (fun h => ?_) (fun h => ?_)
    · have hlt : k < V.length := by simpa using h
      obtain ⟨x, hx⟩ := zc hlt
      have hy := dv_at' hx
      rw [devI_drop hx] at hi
      repeat (first | ((with_reducible refine zJ ?_); refine zI rfl ?_) | ((with_reducible refine zD ?_); refine zC rfl ?_) | ((with_reducible refine zO ?_); refine yR tbOk rfl rfl (Nat.le_of_ble_eq_true rfl) ?_) | ((with_reducible refine zb ?_); refine zd tbOk rfl rfl rfl rfl (by assumption) ?_)  | refine zH ?_ | refine zB rfl ?_ | with_reducible refine zE ?_ | with_reducible refine zF ?_ | with_reducible refine zY ?_ | with_reducible refine zU ?_ | ((with_reducible refine zA ?_ ?_); kernel_rfl))
      with_reducible refine yA ?_
      refine x_callV (ss := [(refB + 0, v (refB + 0))]) (dcl_A x s) rfl (by repeat' (first | exact trivial | exact Ren.v _ | exact Ren.sl _ _ | exact Ren.ep _ | exact Ren.ptr _ _ _ _ rfl | exact Ren.bs _ _ _ _ _ rfl | exact Ren.nil _ | exact Ren.own _ _ _ _ ⟨_, rfl⟩ | refine zP ?_ | refine zQ ?_ | refine zR ?_ | refine ⟨?_, ?_⟩)) (by simp) (in1 rfl rfl) rfl (yL rfl) (by repeat' (first | exact trivial | exact RenB.v _ | exact RenB.sl _ _ | exact RenB.ep _ | exact RenB.ptr _ _ _ _ rfl | refine zW ?_ | refine zV ?_ | refine ⟨?_, ?_⟩)) ?_
      repeat (first   | refine zH ?_ | with_reducible refine zE ?_ )
      refine zZ rfl (fun hq => ?_) (fun hq => ?_)
      · repeat (first | ((with_reducible refine zJ ?_); refine zI rfl ?_) | ((with_reducible refine zD ?_); refine zC rfl ?_)  | refine zH ?_ | refine zB rfl ?_ | with_reducible refine zE ?_ | with_reducible refine zM ?_ | with_reducible refine zX ?_ | with_reducible refine zF ?_ | with_reducible refine zL ?_ | ((with_reducible refine zA ?_ ?_); kernel_rfl))
        refine yf (by first | exact .inr rfl | exact .inl rfl) rfl rfl rfl (by first | rfl | assumption) ?_ ?_ (jN rfl)
        · rw [if_pos hq] at hi
          rw [← hi]
        · rfl
      · repeat (first | ((with_reducible refine zJ ?_); refine zI rfl ?_) | ((with_reducible refine zS ?_); refine zl rfl rfl (by omega) ?_)  | refine zH ?_ | refine zB rfl ?_ | with_reducible refine zE ?_ | with_reducible refine zq ?_ | with_reducible refine zU ?_ | ((with_reducible refine zA ?_ ?_); kernel_rfl))
        rw [if_neg (by simp [hq])] at hi
        exact ⟨k + 1, ⟨hv0, by omega, hi⟩, by omega, ⟨rfl, rfl, rfl, rfl, trivial⟩, ⟨rfl, trivial⟩⟩
    · have hlt : ¬ k < V.length := by simpa using h
      repeat (first | ((with_reducible refine zD ?_); refine zC rfl ?_)  | refine zH ?_ | refine zB rfl ?_ | with_reducible refine zE ?_ | with_reducible refine zm ?_ | with_reducible refine zF ?_ | with_reducible refine yB ?_ | with_reducible refine zL ?_ | ((with_reducible refine zh ?_ ?_); rfl) | ((with_reducible refine zA ?_ ?_); kernel_rfl))
      refine yf (by first | exact .inr rfl | exact .inl rfl) rfl rfl rfl (by first | rfl | assumption) ?_ ?_ (jN rfl)
      · rw [List.drop_of_length_le (by omega)] at hi
        rw [← hi]; rfl
      · rfl
theorem nodI_drop {s : ByteArray} {V : List Nd} {k : Nat} {d : Nd} (h : V[k]? = some d) : nodI s.data.toList k (V.drop k) = if yS d.n s = true then (k : Int) else nodI s.data.toList (k + 1 : Nat) (V.drop (k + 1)) := by
  rw [yT h, nodI]
  by_cases e : d.n.data.toList = s.data.toList
  · rw [if_pos e, if_pos ((strEq_l _ _).2 e)]
  · rw [if_neg e, if_neg (fun h => e ((strEq_l _ _).1 h))]; rfl
theorem ncl_A (x : Nd) (s : ByteArray) : zy Tryz.prog G 125 [x.av, .ptr (refB + 0) 0 0] [[.v (.string s)]] (.v (.bool (yS x.n s))) [[.v (.string s)]] := by
  refine zf tbOk (zg Tryz.func125 (by kernel_rfl) rfl) Tryz.func125 rfl _ Tryz.ntmps125 (Nat.le_of_ble_eq_true rfl) fun X hX => ?_
  subst hX
  repeat (first | ((with_reducible refine zD ?_); refine zC rfl ?_) | ((with_reducible refine zK ?_); refine zG tbOk rfl rfl rfl rfl ?_) | ((with_reducible refine zO ?_); refine zN tbOk rfl rfl rfl rfl rfl ?_) | ((with_reducible refine yy ?_); refine yz rfl rfl rfl ?_) | ((with_reducible refine zS ?_); refine jB rfl rfl rfl ?_)  | refine zH ?_ | refine zB rfl ?_ | with_reducible refine zE ?_ | with_reducible refine zF ?_ | with_reducible refine zL ?_ | ((with_reducible refine zA ?_ ?_); kernel_rfl))
  refine yf (by first | exact .inr rfl | exact .inl rfl) rfl rfl rfl (by first | rfl | assumption) ?_ ?_ (by repeat' (first | exact trivial | exact Ren.v _ | exact Ren.sl _ _ | exact Ren.ep _ | exact Ren.ptr _ _ _ _ rfl | exact Ren.bs _ _ _ _ _ rfl | exact Ren.nil _ | exact Ren.own _ _ _ _ ⟨_, rfl⟩ | refine zP ?_ | refine zQ ?_ | refine zR ?_ | refine ⟨?_, ?_⟩)) <;> rfl
set_option maxRecDepth 100000 in
set_option maxHeartbeats 1000000 in
theorem nifn_A (V : List Nd) (s : ByteArray) (hm : V.length ≤ 1000) :
    zy Tryz.prog G 124 [.sl 3 (V.map Nd.av), .fn 125 [.ptr (refB + 0) 0 0]] [[.v (.string s)]] (.v (.int .i64 (nodI s.data.toList 0 V))) [[.v (.string s)]] := by
  refine zf tbOk (zg Tryz.func124 (by kernel_rfl) rfl) Tryz.func124 rfl _ Tryz.ntmps124 (Nat.le_of_ble_eq_true rfl) fun X hX => ?_
  subst hX
  repeat (first | ((with_reducible refine zJ ?_); refine zI rfl ?_) | ((with_reducible refine zD ?_); refine zC rfl ?_) | ((with_reducible refine yA ?_); refine yP tbOk rfl rfl ?_)  | refine zH ?_ | refine zB rfl ?_ | with_reducible refine zE ?_ | with_reducible refine zF ?_ | with_reducible refine zY ?_ | ((with_reducible refine zA ?_ ?_); kernel_rfl))
  refine jI (ι := Nat) (fun v k => v (refB + 0) = 0 ∧ k ≤ V.length ∧ nodI s.data.toList k (V.drop k) = nodI s.data.toList 0 V) (fun k => V.length - k) (fun v k => [(0, .sl 3 (V.map Nd.av)), (1, .fn 125 [.ptr (refB + 0) (v (refB + 0)) 0]), (7, .v (.int .i64 (V.map Nd.av).length)), (8, .v (.int .i64 (k : Nat)))]) (fun v k => [(refB + 0, .box [.v (.string s)])]) ?_ ?_
  · exact ⟨0, ⟨rfl, Nat.zero_le _, rfl⟩, trivial, ⟨rfl, rfl, rfl, rfl, trivial⟩, ⟨rfl, trivial⟩⟩
  · rintro v k ⟨hv0, hk, hi⟩
    repeat (first | ((with_reducible refine zS ?_); refine zT rfl rfl rfl ?_)  | refine zH ?_ | refine zB rfl ?_ | with_reducible refine zE ?_ | with_reducible refine zF ?_ | ((with_reducible refine zA ?_ ?_); kernel_rfl))
    refine zZ rfl (fun h => ?_) (fun h => ?_)
    · have hlt : k < V.length := by simpa using h
      obtain ⟨x, hx⟩ := zc hlt
      have hy := nd_at' hx
      rw [nodI_drop hx] at hi
      repeat (first | ((with_reducible refine zJ ?_); refine zI rfl ?_) | ((with_reducible refine zD ?_); refine zC rfl ?_) | ((with_reducible refine zO ?_); refine yR tbOk rfl rfl (Nat.le_of_ble_eq_true rfl) ?_) | ((with_reducible refine zb ?_); refine zd tbOk rfl rfl rfl rfl (by assumption) ?_)  | refine zH ?_ | refine zB rfl ?_ | with_reducible refine zE ?_ | with_reducible refine zF ?_ | with_reducible refine zY ?_ | with_reducible refine zU ?_ | ((with_reducible refine zA ?_ ?_); kernel_rfl))
      with_reducible refine yA ?_
      refine x_callV (ss := [(refB + 0, v (refB + 0))]) (ncl_A x s) rfl (by repeat' (first | exact trivial | exact Ren.v _ | exact Ren.sl _ _ | exact Ren.ep _ | exact Ren.ptr _ _ _ _ rfl | exact Ren.bs _ _ _ _ _ rfl | exact Ren.nil _ | exact Ren.own _ _ _ _ ⟨_, rfl⟩ | refine zP ?_ | refine zQ ?_ | refine zR ?_ | refine ⟨?_, ?_⟩)) (by simp) (in1 rfl rfl) rfl (yL rfl) (by repeat' (first | exact trivial | exact RenB.v _ | exact RenB.sl _ _ | exact RenB.ep _ | exact RenB.ptr _ _ _ _ rfl | refine zW ?_ | refine zV ?_ | refine ⟨?_, ?_⟩)) ?_
      repeat (first   | refine zH ?_ | with_reducible refine zE ?_ )
      refine zZ rfl (fun hq => ?_) (fun hq => ?_)
      · repeat (first | ((with_reducible refine zJ ?_); refine zI rfl ?_) | ((with_reducible refine zD ?_); refine zC rfl ?_)  | refine zH ?_ | refine zB rfl ?_ | with_reducible refine zE ?_ | with_reducible refine zM ?_ | with_reducible refine zX ?_ | with_reducible refine zF ?_ | with_reducible refine zL ?_ | ((with_reducible refine zA ?_ ?_); kernel_rfl))
        refine yf (by first | exact .inr rfl | exact .inl rfl) rfl rfl rfl (by first | rfl | assumption) ?_ ?_ (jN rfl)
        · rw [if_pos hq] at hi
          rw [← hi]
        · rfl
      · repeat (first | ((with_reducible refine zJ ?_); refine zI rfl ?_) | ((with_reducible refine zS ?_); refine zl rfl rfl (by omega) ?_)  | refine zH ?_ | refine zB rfl ?_ | with_reducible refine zE ?_ | with_reducible refine zq ?_ | with_reducible refine zU ?_ | ((with_reducible refine zA ?_ ?_); kernel_rfl))
        rw [if_neg (by simp [hq])] at hi
        exact ⟨k + 1, ⟨hv0, by omega, hi⟩, by omega, ⟨rfl, rfl, rfl, rfl, trivial⟩, ⟨rfl, trivial⟩⟩
    · have hlt : ¬ k < V.length := by simpa using h
      repeat (first | ((with_reducible refine zD ?_); refine zC rfl ?_)  | refine zH ?_ | refine zB rfl ?_ | with_reducible refine zE ?_ | with_reducible refine zm ?_ | with_reducible refine zF ?_ | with_reducible refine yB ?_ | with_reducible refine zL ?_ | ((with_reducible refine zh ?_ ?_); rfl) | ((with_reducible refine zA ?_ ?_); kernel_rfl))
      refine yf (by first | exact .inr rfl | exact .inl rfl) rfl rfl rfl (by first | rfl | assumption) ?_ ?_ (jN rfl)
      · rw [List.drop_of_length_le (by omega)] at hi
        rw [← hi]; rfl
      · rfl
theorem net_len {N : List Nd} {V : List Dv} (h : netE N V = 0) : N.length ≤ 32 ∧ V.length ≤ 64 := by
  unfold netE at h
  split at h
  · cases h
  · omega
def devF (N : List Nd) (V : List Dv) (s : ByteArray) : Int := if netE N V ≠ 0 then -1 else devI s.data.toList 0 V
theorem ndev_A (N : List Nd) (V : List Dv) (s : ByteArray) (hG : GCls G) (ok : NwOk N V) : zy Tryz.prog G 110 [qH N V, .v (.string s)] [] (.v (.int .i64 (devF N V s))) [] := by
  unfold devF
  refine zf tbOk (zg Tryz.func110 (by kernel_rfl) rfl) Tryz.func110 rfl _ Tryz.ntmps110 (Nat.le_of_ble_eq_true rfl) fun X hX => ?_
  subst hX
  repeat (first | ((with_reducible refine zD ?_); refine zC rfl ?_) | ((with_reducible refine zO ?_); refine zi tbOk rfl rfl rfl rfl (Nat.le_of_ble_eq_true rfl) ?_) | ((with_reducible refine yy ?_); refine yz rfl rfl rfl ?_)  | refine zH ?_ | refine zB rfl ?_ | with_reducible refine zE ?_ | with_reducible refine zF ?_ | ((with_reducible refine zA ?_ ?_); kernel_rfl))
  refine zj (jT N V hG ok.n ok.v ok.l1 ok.l2) (by repeat' (first | exact trivial | exact Ren.v _ | exact Ren.sl _ _ | exact Ren.ep _ | exact Ren.ptr _ _ _ _ rfl | exact Ren.bs _ _ _ _ _ rfl | exact Ren.nil _ | exact Ren.own _ _ _ _ ⟨_, rfl⟩ | refine zP ?_ | refine zQ ?_ | refine zR ?_ | refine ⟨?_, ?_⟩)) (by repeat' (first | exact trivial | exact RenB.v _ | exact RenB.sl _ _ | exact RenB.ep _ | exact RenB.ptr _ _ _ _ rfl | refine zW ?_ | refine zV ?_ | refine ⟨?_, ?_⟩)) ?_
  repeat (first | ((with_reducible refine zS ?_); refine zT rfl rfl rfl ?_)  | refine zH ?_ | refine zB rfl ?_ | with_reducible refine zE ?_ )
  refine zZ rfl (fun h => ?_) (fun h => ?_)
  · have h' : netE N V ≠ 0 := by simpa using h
    rw [if_pos h']
    repeat (first | ((with_reducible refine zD ?_); refine zC rfl ?_)  | refine zH ?_ | refine zB rfl ?_ | with_reducible refine zE ?_ | with_reducible refine zM ?_ | with_reducible refine zF ?_ | with_reducible refine zL ?_ | ((with_reducible refine zA ?_ ?_); kernel_rfl))
    refine zk (by first | exact .inr rfl | exact .inl rfl) rfl rfl ?_
    rfl
  have h' : netE N V = 0 := by simpa using h
  rw [if_neg (by simpa using h')]
  repeat (first | ((with_reducible refine zK ?_); refine zG tbOk rfl rfl rfl rfl ?_) | ((with_reducible refine zO ?_); refine zN tbOk rfl rfl rfl rfl rfl ?_) | ((with_reducible refine k_makeFunc ?_); refine m_fn1 rfl ?_)  | refine zB rfl ?_ | with_reducible refine zE ?_ | with_reducible refine zF ?_ | with_reducible refine zU ?_ | ((with_reducible refine zA ?_ ?_); kernel_rfl))
  refine yE (ss := [(3, 1)]) (difn_A V s (by have := net_len h'; omega)) (by repeat' (first | exact trivial | exact Ren.v _ | exact Ren.sl _ _ | exact Ren.ep _ | exact Ren.ptr _ _ _ _ rfl | exact Ren.bs _ _ _ _ _ rfl | exact Ren.nil _ | exact Ren.own _ _ _ _ ⟨_, rfl⟩ | refine zP ?_ | refine zQ ?_ | refine zR ?_ | refine ⟨?_, ?_⟩)) (by simp) (in1 rfl rfl) rfl (yL rfl) (by repeat' (first | exact trivial | exact RenB.v _ | exact RenB.sl _ _ | exact RenB.ep _ | exact RenB.ptr _ _ _ _ rfl | refine zW ?_ | refine zV ?_ | refine ⟨?_, ?_⟩)) ?_
  repeat (first | ((with_reducible refine zD ?_); refine zC rfl ?_)  | refine zH ?_ | refine zB rfl ?_ | with_reducible refine zE ?_ | with_reducible refine zL ?_ )
  refine zk (by first | exact .inr rfl | exact .inl rfl) rfl rfl ?_
  rfl
def nodF (N : List Nd) (V : List Dv) (s : ByteArray) : Int := if netE N V ≠ 0 then -1 else nodI s.data.toList 0 N
theorem nnod_A (N : List Nd) (V : List Dv) (s : ByteArray) (hG : GCls G) (ok : NwOk N V) : zy Tryz.prog G 109 [qH N V, .v (.string s)] [] (.v (.int .i64 (nodF N V s))) [] := by
  unfold nodF
  refine zf tbOk (zg Tryz.func109 (by kernel_rfl) rfl) Tryz.func109 rfl _ Tryz.ntmps109 (Nat.le_of_ble_eq_true rfl) fun X hX => ?_
  subst hX
  repeat (first | ((with_reducible refine zD ?_); refine zC rfl ?_) | ((with_reducible refine zO ?_); refine zi tbOk rfl rfl rfl rfl (Nat.le_of_ble_eq_true rfl) ?_) | ((with_reducible refine yy ?_); refine yz rfl rfl rfl ?_)  | refine zH ?_ | refine zB rfl ?_ | with_reducible refine zE ?_ | with_reducible refine zF ?_ | ((with_reducible refine zA ?_ ?_); kernel_rfl))
  refine zj (jT N V hG ok.n ok.v ok.l1 ok.l2) (by repeat' (first | exact trivial | exact Ren.v _ | exact Ren.sl _ _ | exact Ren.ep _ | exact Ren.ptr _ _ _ _ rfl | exact Ren.bs _ _ _ _ _ rfl | exact Ren.nil _ | exact Ren.own _ _ _ _ ⟨_, rfl⟩ | refine zP ?_ | refine zQ ?_ | refine zR ?_ | refine ⟨?_, ?_⟩)) (by repeat' (first | exact trivial | exact RenB.v _ | exact RenB.sl _ _ | exact RenB.ep _ | exact RenB.ptr _ _ _ _ rfl | refine zW ?_ | refine zV ?_ | refine ⟨?_, ?_⟩)) ?_
  repeat (first | ((with_reducible refine zS ?_); refine zT rfl rfl rfl ?_)  | refine zH ?_ | refine zB rfl ?_ | with_reducible refine zE ?_ )
  refine zZ rfl (fun h => ?_) (fun h => ?_)
  · have h' : netE N V ≠ 0 := by simpa using h
    rw [if_pos h']
    repeat (first | ((with_reducible refine zD ?_); refine zC rfl ?_)  | refine zH ?_ | refine zB rfl ?_ | with_reducible refine zE ?_ | with_reducible refine zM ?_ | with_reducible refine zF ?_ | with_reducible refine zL ?_ | ((with_reducible refine zA ?_ ?_); kernel_rfl))
    refine zk (by first | exact .inr rfl | exact .inl rfl) rfl rfl ?_
    rfl
  have h' : netE N V = 0 := by simpa using h
  rw [if_neg (by simpa using h')]
  repeat (first | ((with_reducible refine zK ?_); refine zG tbOk rfl rfl rfl rfl ?_) | ((with_reducible refine zO ?_); refine zN tbOk rfl rfl rfl rfl rfl ?_) | ((with_reducible refine k_makeFunc ?_); refine m_fn1 rfl ?_)  | refine zB rfl ?_ | with_reducible refine zE ?_ | with_reducible refine zF ?_ | with_reducible refine zU ?_ | ((with_reducible refine zA ?_ ?_); kernel_rfl))
  refine yE (ss := [(3, 1)]) (nifn_A N s (by have := net_len h'; omega)) (by repeat' (first | exact trivial | exact Ren.v _ | exact Ren.sl _ _ | exact Ren.ep _ | exact Ren.ptr _ _ _ _ rfl | exact Ren.bs _ _ _ _ _ rfl | exact Ren.nil _ | exact Ren.own _ _ _ _ ⟨_, rfl⟩ | refine zP ?_ | refine zQ ?_ | refine zR ?_ | refine ⟨?_, ?_⟩)) (by simp) (in1 rfl rfl) rfl (yL rfl) (by repeat' (first | exact trivial | exact RenB.v _ | exact RenB.sl _ _ | exact RenB.ep _ | exact RenB.ptr _ _ _ _ rfl | refine zW ?_ | refine zV ?_ | refine ⟨?_, ?_⟩)) ?_
  repeat (first | ((with_reducible refine zD ?_); refine zC rfl ?_)  | refine zH ?_ | refine zB rfl ?_ | with_reducible refine zE ?_ | with_reducible refine zL ?_ )
  refine zk (by first | exact .inr rfl | exact .inl rfl) rfl rfl ?_
  rfl
theorem sv_at {W : List (List UInt8)} {k : Nat} {w : List UInt8} (h : W[k]? = some w) : (W.map svL)[k]? = some (svL w) := by rw [List.getElem?_map, h]; rfl
def idxL (s : List UInt8) : Int → List (List UInt8) → Int
  | _, [] => -1
  | i, d :: l => if s = d then i else idxL s (i + 1) l
theorem idxL_drop {s : List UInt8} {V : List (List UInt8)} {k : Nat} {d : List UInt8} (h : V[k]? = some d) : idxL s k (V.drop k) = if s = d then (k : Int) else idxL s (k + 1 : Nat) (V.drop (k + 1)) := by
  rw [yT h, idxL]; rfl
theorem jZ (a b : List UInt8) : yS (strL a) (strL b) = true ↔ a = b := by rw [strEq_l, yc, yc]
theorem sidx_A (L : List (List UInt8)) (s : List UInt8) (hl : L.length ≤ 1000000) : zy Tryz.prog G 122 [.sl 1 (L.map svL), svL s] [] (.v (.int .i64 (idxL s 0 L))) [] := by
  refine zf tbOk (zg Tryz.func122 (by kernel_rfl) rfl) Tryz.func122 rfl _ Tryz.ntmps122 (Nat.le_of_ble_eq_true rfl) fun X hX => ?_
  subst hX
  repeat (first | ((with_reducible refine zJ ?_); refine zI rfl ?_) | ((with_reducible refine zD ?_); refine zC rfl ?_) | ((with_reducible refine yA ?_); refine yP tbOk rfl rfl ?_)  | refine zH ?_ | refine zB rfl ?_ | with_reducible refine zE ?_ | with_reducible refine zF ?_ | with_reducible refine zY ?_ | ((with_reducible refine zA ?_ ?_); kernel_rfl))
  refine yN (ι := Nat) (fun k => k ≤ L.length ∧ idxL s k (L.drop k) = idxL s 0 L) (fun k => L.length - k) (fun v k => [(0, .sl 1 (L.map svL)), (1, svL s), (7, .v (.int .i64 (L.map svL).length)), (8, .v (.int .i64 (k : Nat)))]) (fun v k => []) ?_ ?_
  · exact ⟨0, ⟨Nat.zero_le _, rfl⟩, trivial, ⟨rfl, rfl, rfl, rfl, trivial⟩, trivial⟩
  rintro v k ⟨hk, hi⟩
  repeat (first | ((with_reducible refine zS ?_); refine zT rfl rfl rfl ?_)  | refine zH ?_ | refine zB rfl ?_ | with_reducible refine zE ?_ | with_reducible refine zF ?_ | ((with_reducible refine zA ?_ ?_); kernel_rfl))
  refine zZ rfl (fun h => ?_) (fun h => ?_)
  · have hlt : k < L.length := by simpa using h
    obtain ⟨x, hx⟩ := zc hlt
    have hy := sv_at hx
    rw [idxL_drop hx] at hi
    repeat (first | ((with_reducible refine zJ ?_); refine zI rfl ?_) | ((with_reducible refine zD ?_); refine zC rfl ?_) | ((with_reducible refine zO ?_); refine ze tbOk rfl rfl rfl ?_) | ((with_reducible refine zb ?_); refine zd tbOk rfl rfl rfl rfl (by assumption) ?_) | ((with_reducible refine zS ?_); refine jB rfl rfl rfl ?_)  | refine zH ?_ | refine zB rfl ?_ | with_reducible refine zE ?_ | with_reducible refine zF ?_ | with_reducible refine zY ?_ | with_reducible refine zU ?_ | ((with_reducible refine zA ?_ ?_); kernel_rfl))
    refine zZ rfl (fun q => ?_) (fun q => ?_)
    · repeat (first | ((with_reducible refine zJ ?_); refine zI rfl ?_) | ((with_reducible refine zD ?_); refine zC rfl ?_)  | refine zH ?_ | refine zB rfl ?_ | with_reducible refine zE ?_ | with_reducible refine zM ?_ | with_reducible refine zX ?_ | with_reducible refine zF ?_ | with_reducible refine zL ?_ | ((with_reducible refine zA ?_ ?_); kernel_rfl))
      refine zk (by first | exact .inr rfl | exact .inl rfl) rfl rfl ?_
      have q' : s = x := (jZ s x).1 q
      rw [if_pos q'] at hi
      rw [← hi]
    · repeat (first | ((with_reducible refine zJ ?_); refine zI rfl ?_) | ((with_reducible refine zS ?_); refine zl rfl rfl (by omega) ?_)  | refine zH ?_ | refine zB rfl ?_ | with_reducible refine zE ?_ | with_reducible refine zq ?_ | with_reducible refine zU ?_ | ((with_reducible refine zA ?_ ?_); kernel_rfl))
      have q' : ¬ s = x := fun e => by
        have h2 := (jZ s x).2 e
        have q2 : yS (strL s) (strL x) = false := q
        rw [h2] at q2; cases q2
      rw [if_neg q'] at hi
      exact ⟨k + 1, ⟨by omega, hi⟩, by omega, ⟨rfl, rfl, rfl, rfl, trivial⟩, trivial⟩
  · have hge : L.length ≤ k := by simpa using h
    repeat (first | ((with_reducible refine zD ?_); refine zC rfl ?_)  | refine zH ?_ | refine zB rfl ?_ | with_reducible refine zE ?_ | with_reducible refine zm ?_ | with_reducible refine zF ?_ | with_reducible refine yB ?_ | with_reducible refine zL ?_ | ((with_reducible refine zh ?_ ?_); rfl) | ((with_reducible refine zA ?_ ?_); kernel_rfl))
    refine zk (by first | exact .inr rfl | exact .inl rfl) rfl rfl ?_
    rw [List.drop_of_length_le hge] at hi
    rw [← hi]; rfl
end Go.Proofs.YtjamibeffalhaaaGreatDoor
