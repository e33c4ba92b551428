/- The reference of document.Parse, by the abstract machine: what the plain function reads; conditions: the table of classes stands. -/
import Derived.Test.YtjamibeffalhaaaGreatDoorDyD
set_option linter.unusedVariables false
set_option linter.unusedSimpArgs false
namespace Go.Proofs.YtjamibeffalhaaaGreatDoor
open Go Go.RowKit
set_option maxRecDepth 10000
variable {G : Nat → Option (List Value)}
def nG (N : List Nd) (V : List Dv) (v : Nat → Nat) (r : Rst) : Nat → List (Nat × Cont)
  | 0 => [(2, .box [.sl 3 (N.map Nd.av), .sl 5 (V.map Dv.av)]), (4, .box z12), (10, .box z12)]
  | 1 => [(2, .box [.sl 3 (N.map Nd.av), .sl 5 (V.map Dv.av)]), (4, .box z12), (10, .box (ncD r.d nilA nilA nilA))]
  | _ + 2 => [(2, .box [.sl 3 (N.map Nd.av), .sl 5 (V.map Dv.av)]), (4, .box z12), (10, .box (ncD r.d (.own 122 (v 122)) (.own 161 (v 161)) (.own 76 (v 76)))), (122, .buf 3 1 (r.z.map iv)), (161, .buf 65 3 (r.k.map Lk.av)), (76, .buf 3 1 (r.c.map iv))]
set_option maxHeartbeats 32000000 in
theorem wW (N : List Nd) (V : List Dv) (s : ByteArray) (hG : GCls G) (ok : NwOk N V) (hs : s.size ≤ 900000) :
    zz Tryz.prog G 16 [jo N V, .v (.string s)] [] (.tu [(jf N V s.data.toList).1.av, .v (.int .i64 (jf N V s.data.toList).2.1), .v (.int .i64 (jf N V s.data.toList).2.2)]) [] := by
  have hz := bU s
  obtain ⟨hLl, hLw⟩ := lL (l := s.data.toList)
  have hlin := wO (G := G) s (by omega)
  by_cases hn0 : netE N V ≠ 0
  · have e : jf N V s.data.toList = (Dc.zer, 0, netE N V) := by unfold jf; rw [if_pos hn0]
    rw [e]
    refine zb tbOk (zc Tryz.func16 (by kernel_rfl) rfl) Tryz.func16 rfl _ Tryz.ntmps16 (Nat.le_of_ble_eq_true rfl) fun X hX => ?_
    subst hX
    repeat (first | ((with_reducible refine zE ?_); refine zF rfl ?_) | ((with_reducible refine zR ?_); refine zk tbOk rfl rfl rfl rfl (Nat.le_of_ble_eq_true rfl) ?_) | ((with_reducible refine yR ?_); refine yQ tbOk rfl rfl ?_) | ((with_reducible refine yr ?_); refine yu rfl rfl rfl ?_)  | refine zL ?_ | refine zB rfl ?_ | with_reducible (first | refine zG ?_ | refine zH ?_) | ((with_reducible refine zA ?_ ?_); kernel_rfl))
    refine zC (cP N V ok.n ok.v ok.l1 ok.l2) ?_
    repeat (first | ((with_reducible refine zK ?_); refine zJ rfl ?_) | ((with_reducible refine zE ?_); refine zF rfl ?_) | ((with_reducible refine zQ ?_); refine zT rfl rfl rfl ?_)  | refine zL ?_ | refine zB rfl ?_ | with_reducible (first | refine zG ?_ | refine zH ?_) | ((with_reducible refine zA ?_ ?_); kernel_rfl))
    refine zZ rfl (fun h => ?_) (fun h => ?_)
    · repeat (first | ((with_reducible refine zK ?_); refine zJ rfl ?_) | ((with_reducible refine zE ?_); refine zF rfl ?_) | ((with_reducible refine zp ?_); refine zq tbOk rfl rfl rfl rfl rfl rfl rfl (Nat.le_of_ble_eq_true rfl) rfl ?_) | ((with_reducible refine yM ?_); refine yN tbOk rfl rfl rfl rfl rfl ?_)  | refine zL ?_ | refine zB rfl ?_ | with_reducible (first | refine zG ?_ | refine zO ?_ | refine zH ?_ | refine zN ?_) | ((with_reducible refine zA ?_ ?_); kernel_rfl))
      refine yU (by first | exact .inr rfl | exact .inl rfl) rfl rfl rfl rfl rfl rfl rfl ?_
      repeat' (first | exact trivial | exact Ren.v _ | exact Ren.sl _ _ | exact Ren.ep _ | exact Ren.ptr _ _ _ _ rfl | exact Ren.bs _ _ _ _ _ rfl | exact Ren.nil _ | exact Ren.own _ _ _ _ ⟨_, rfl⟩ | refine zi ?_ | refine zj ?_ | refine zl ?_ | refine ⟨?_, ?_⟩)
    · exact absurd (by simpa using h) hn0
  have hn : netE N V = 0 := by simpa using hn0
  cases hq : qC s.data.toList with
  | none =>
    rw [hq] at hlin
    have e : jf N V s.data.toList = (Dc.zer, 0, 2) := by unfold jf; rw [if_neg hn0, hq]
    rw [e]
    refine zb tbOk (zc Tryz.func16 (by kernel_rfl) rfl) Tryz.func16 rfl _ Tryz.ntmps16 (Nat.le_of_ble_eq_true rfl) fun X hX => ?_
    subst hX
    repeat (first | ((with_reducible refine zE ?_); refine zF rfl ?_) | ((with_reducible refine zR ?_); refine zk tbOk rfl rfl rfl rfl (Nat.le_of_ble_eq_true rfl) ?_) | ((with_reducible refine yR ?_); refine yQ tbOk rfl rfl ?_) | ((with_reducible refine yr ?_); refine yu rfl rfl rfl ?_)  | refine zL ?_ | refine zB rfl ?_ | with_reducible (first | refine zG ?_ | refine zH ?_) | ((with_reducible refine zA ?_ ?_); kernel_rfl))
    refine zC (cP N V ok.n ok.v ok.l1 ok.l2) ?_
    repeat (first | ((with_reducible refine zK ?_); refine zJ rfl ?_) | ((with_reducible refine zE ?_); refine zF rfl ?_) | ((with_reducible refine zQ ?_); refine zT rfl rfl rfl ?_)  | refine zL ?_ | refine zB rfl ?_ | with_reducible (first | refine zG ?_ | refine zH ?_) | ((with_reducible refine zA ?_ ?_); kernel_rfl))
    refine zZ rfl (fun h => ?_) (fun h => ?_)
    · exact absurd (by simpa using h) hn0
    repeat (first | ((with_reducible refine zK ?_); refine zJ rfl ?_)  | refine zB rfl ?_ | with_reducible (first | refine zG ?_ | refine zH ?_ | refine zS ?_) | ((with_reducible refine zA ?_ ?_); kernel_rfl))
    refine zC (hlin) ?_
    repeat (first | ((with_reducible refine zK ?_); refine zJ rfl ?_) | ((with_reducible refine zE ?_); refine zF rfl ?_) | ((with_reducible refine zp ?_); refine zq tbOk rfl rfl rfl rfl rfl rfl rfl (Nat.le_of_ble_eq_true rfl) rfl ?_) | ((with_reducible refine k_un ?_); refine jF rfl ?_) | ((with_reducible refine ye ?_); refine yd rfl rfl ?_) | ((with_reducible refine yM ?_); refine yN tbOk rfl rfl rfl rfl rfl ?_)  | refine zL ?_ | refine zB rfl ?_ | with_reducible (first | refine zG ?_ | refine zO ?_ | refine zH ?_ | refine zN ?_) | ((with_reducible refine zA ?_ ?_); kernel_rfl) | refine zn rfl (by first | rfl | assumption) ?_)
    refine yU (by first | exact .inr rfl | exact .inl rfl) rfl rfl rfl rfl rfl rfl rfl ?_
    repeat' (first | exact trivial | exact Ren.v _ | exact Ren.sl _ _ | exact Ren.ep _ | exact Ren.ptr _ _ _ _ rfl | exact Ren.bs _ _ _ _ _ rfl | exact Ren.nil _ | exact Ren.own _ _ _ _ ⟨_, rfl⟩ | refine zi ?_ | refine zj ?_ | refine zl ?_ | refine ⟨?_, ?_⟩)
  | some L =>
    rw [hq, Option.getD_some] at hLl hLw
    rw [hq] at hlin
    rw [Option.getD_some] at hlin
    rw [tQ hn hq]
    refine zb tbOk (zc Tryz.func16 (by kernel_rfl) rfl) Tryz.func16 rfl _ Tryz.ntmps16 (Nat.le_of_ble_eq_true rfl) fun X hX => ?_
    subst hX
    repeat (first | ((with_reducible refine zE ?_); refine zF rfl ?_) | ((with_reducible refine zR ?_); refine zk tbOk rfl rfl rfl rfl (Nat.le_of_ble_eq_true rfl) ?_) | ((with_reducible refine yR ?_); refine yQ tbOk rfl rfl ?_) | ((with_reducible refine yr ?_); refine yu rfl rfl rfl ?_)  | refine zL ?_ | refine zB rfl ?_ | with_reducible (first | refine zG ?_ | refine zH ?_) | ((with_reducible refine zA ?_ ?_); kernel_rfl))
    refine zC (cP N V ok.n ok.v ok.l1 ok.l2) ?_
    repeat (first | ((with_reducible refine zK ?_); refine zJ rfl ?_) | ((with_reducible refine zE ?_); refine zF rfl ?_) | ((with_reducible refine zQ ?_); refine zT rfl rfl rfl ?_)  | refine zL ?_ | refine zB rfl ?_ | with_reducible (first | refine zG ?_ | refine zH ?_) | ((with_reducible refine zA ?_ ?_); kernel_rfl))
    refine zZ rfl (fun h => ?_) (fun h => ?_)
    · exact absurd (by simpa using h) hn0
    repeat (first | ((with_reducible refine zK ?_); refine zJ rfl ?_)  | refine zB rfl ?_ | with_reducible (first | refine zG ?_ | refine zH ?_ | refine zS ?_) | ((with_reducible refine zA ?_ ?_); kernel_rfl))
    refine zC (hlin) ?_
    repeat (first | ((with_reducible refine zK ?_); refine zJ rfl ?_) | ((with_reducible refine zE ?_); refine zF rfl ?_) | ((with_reducible refine yR ?_); refine yQ tbOk rfl rfl ?_) | ((with_reducible refine k_un ?_); refine jF rfl ?_) | ((with_reducible refine ye ?_); refine yd rfl rfl ?_)  | refine zL ?_ | refine zB rfl ?_ | with_reducible (first | refine zG ?_ | refine zH ?_ | refine zY ?_ | refine zS ?_) | ((with_reducible refine zA ?_ ?_); kernel_rfl) | refine yF rfl (by first | rfl | assumption) ?_)
    refine yL (ι := Nat × Rst) (fun i => i.1 ≤ L.length ∧ InvR N V L i.2 i.1) (fun i => L.length - i.1) (fun v i => [(2, .ptr 2 (v 2) 0), (4, .ptr 4 (v 4) 0), (8, .sl 1 (L.map svL)), (10, .ptr 10 (v 10) 0), (11, .v (.int .i64 (i.1 : Nat)))]) (fun v i => nG N V v i.2 i.1) ?_ ?_
    · exact ⟨(0, ⟨Dc.zer, [], [], []⟩), ⟨Nat.zero_le _, trivial⟩, trivial, ⟨rfl, rfl, rfl, rfl, rfl, trivial⟩, ⟨rfl, rfl, rfl, trivial⟩⟩
    clear h
    rintro v ⟨k, r⟩ ⟨hk, hi⟩
    dsimp only at hk hi ⊢
    rcases k with _ | _ | k
    · dsimp only [nG]
      repeat (first | ((with_reducible refine zK ?_); refine zJ rfl ?_) | ((with_reducible refine zt ?_); refine yH tbOk rfl rfl ?_) | ((with_reducible refine zQ ?_); refine zT rfl rfl rfl ?_)  | refine zL ?_ | refine zB rfl ?_ | with_reducible (first | refine zG ?_ | refine zH ?_) | ((with_reducible refine zA ?_ ?_); kernel_rfl))
      refine zZ rfl (fun h => ?_) (fun h => ?_)
      · have hlt : 0 < L.length := by simpa using h
        cases L with
        | nil => simp at hlt
        | cons a ls =>
          have hla := hLw a (by simp)
          have hy : ((a :: ls).map svL)[((0 : Nat) : Int).toNat]? = some (svL a) := rfl
          have hwc : (yP a).length ≤ a.length + 1 := jn
          have hwm : ∀ w ∈ yP a, w.length ≤ 1000000 := fun w hw => by have := aN (show w ∈ wl [] a from hw); simp at this; omega
          have hwd := kH (G := X.G) (strL a) (by rw [zy]; omega)
          rw [yy] at hwd
          obtain ⟨⟨x, xb⟩, hlf, hfi⟩ := xP (yP a) hwm
          obtain ⟨hl1, hl2⟩ := hlf
          dsimp only at hl1 hl2 hfi
          repeat (first | ((with_reducible refine zK ?_); refine zJ rfl ?_) | ((with_reducible refine zR ?_); refine zW tbOk rfl rfl rfl ?_) | ((with_reducible refine zU ?_); refine zX tbOk rfl rfl rfl rfl (by assumption) ?_)  | refine zB rfl ?_ | with_reducible (first | refine zG ?_ | refine zH ?_ | refine zY ?_ | refine zS ?_) | ((with_reducible refine zA ?_ ?_); kernel_rfl))
          refine zC (hwd) ?_
          repeat (first | ((with_reducible refine zK ?_); refine zJ rfl ?_) | ((with_reducible refine zE ?_); refine zF rfl ?_) | ((with_reducible refine zQ ?_); refine zT rfl rfl rfl ?_)  | refine zL ?_ | refine zB rfl ?_ | with_reducible (first | refine zG ?_ | refine zH ?_ | refine zY ?_) | ((with_reducible refine zA ?_ ?_); kernel_rfl) | refine zn rfl (by first | rfl | assumption) ?_)
          refine zC (hfi _) ?_
          repeat (first | ((with_reducible refine zK ?_); refine zJ rfl ?_) | ((with_reducible refine zE ?_); refine zF rfl ?_) | ((with_reducible refine zp ?_); refine zq tbOk rfl rfl rfl rfl rfl rfl rfl (Nat.le_of_ble_eq_true rfl) rfl ?_) | ((with_reducible refine yR ?_); refine yQ tbOk rfl rfl ?_) | ((with_reducible refine k_un ?_); refine jF rfl ?_) | ((with_reducible refine ye ?_); refine yd rfl rfl ?_)  | refine zL ?_ | refine zB rfl ?_ | with_reducible (first | refine zG ?_ | refine zH ?_) | ((with_reducible refine zA ?_ ?_); kernel_rfl))
          refine zZ rfl (fun q => ?_) (fun q => ?_)
          · have hb : (jI (yP a)).2 ≠ 0 := fun e => by
              have := (hl1 e).1
              rw [this] at q; cases q
            rw [pO hb, (hl2 hb).2]
            repeat (first | ((with_reducible refine zE ?_); refine zF rfl ?_) | ((with_reducible refine zp ?_); refine zq tbOk rfl rfl rfl rfl rfl rfl rfl (Nat.le_of_ble_eq_true rfl) rfl ?_) | ((with_reducible refine yM ?_); refine yN tbOk rfl rfl rfl rfl rfl ?_)  | refine zL ?_ | refine zB rfl ?_ | with_reducible (first | refine zG ?_ | refine zO ?_ | refine zV ?_ | refine zH ?_ | refine zN ?_) | ((with_reducible refine zA ?_ ?_); kernel_rfl))
            refine yU (by first | exact .inr rfl | exact .inl rfl) rfl rfl rfl rfl rfl rfl rfl ?_
            repeat' (first | exact trivial | exact Ren.v _ | exact Ren.sl _ _ | exact Ren.ep _ | exact Ren.ptr _ _ _ _ rfl | exact Ren.bs _ _ _ _ _ rfl | exact Ren.nil _ | exact Ren.own _ _ _ _ ⟨_, rfl⟩ | refine zi ?_ | refine zj ?_ | refine zl ?_ | refine ⟨?_, ?_⟩)
          · have hb : (jI (yP a)).2 = 0 := Classical.byContradiction fun e => by
              have := (hl2 e).1
              rw [this] at q; cases q
            have hx := (hl1 hb).2
            repeat (first | ((with_reducible refine zK ?_); refine zJ rfl ?_) | ((with_reducible refine zE ?_); refine zF rfl ?_) | ((with_reducible refine zR ?_); refine zk tbOk rfl rfl rfl rfl (Nat.le_of_ble_eq_true rfl) ?_) | ((with_reducible refine zp ?_); refine zq tbOk rfl rfl rfl rfl rfl rfl rfl (Nat.le_of_ble_eq_true rfl) rfl ?_) | ((with_reducible refine zQ ?_); refine zg rfl rfl (by omega) ?_)  | refine zL ?_ | refine zB rfl ?_ | with_reducible (first | refine zG ?_ | refine zu ?_ | refine zS ?_) | ((with_reducible refine zA ?_ ?_); kernel_rfl))
            exact ⟨(1, ⟨x, [], [], []⟩), ⟨by show 1 ≤ (a :: ls).length; simp, ⟨a, ls, rfl, Prod.ext hx.symm hb⟩⟩, by show (a :: ls).length - 1 < (a :: ls).length - 0; simp, ⟨rfl, rfl, rfl, rfl, rfl, trivial⟩, ⟨rfl, rfl, rfl, trivial⟩⟩
      · have hge : L = [] := by simpa using h
        subst hge
        repeat (first | ((with_reducible refine zK ?_); refine zJ rfl ?_) | ((with_reducible refine zE ?_); refine zF rfl ?_) | ((with_reducible refine zp ?_); refine zq tbOk rfl rfl rfl rfl rfl rfl rfl (Nat.le_of_ble_eq_true rfl) rfl ?_) | ((with_reducible refine yM ?_); refine yN tbOk rfl rfl rfl rfl rfl ?_) | ((with_reducible refine zt ?_); refine yH tbOk rfl rfl ?_) | ((with_reducible refine zQ ?_); refine zT rfl rfl rfl ?_)  | refine zL ?_ | refine zB rfl ?_ | with_reducible (first | refine zG ?_ | refine zo ?_ | refine zO ?_ | refine zH ?_ | refine yB ?_ | refine zN ?_) | ((with_reducible refine ze ?_ ?_); rfl) | ((with_reducible refine zA ?_ ?_); kernel_rfl) | refine zn rfl (by first | rfl | assumption) ?_)
        refine yU (by first | exact .inr rfl | exact .inl rfl) rfl rfl rfl rfl rfl rfl rfl ?_
        repeat' (first | exact trivial | exact Ren.v _ | exact Ren.sl _ _ | exact Ren.ep _ | exact Ren.ptr _ _ _ _ rfl | exact Ren.bs _ _ _ _ _ rfl | exact Ren.nil _ | exact Ren.own _ _ _ _ ⟨_, rfl⟩ | refine zi ?_ | refine zj ?_ | refine zl ?_ | refine ⟨?_, ?_⟩)
    · obtain ⟨a, ls, hL, hfa⟩ := hi
      subst hL
      dsimp only [nG]
      repeat (first | ((with_reducible refine zK ?_); refine zJ rfl ?_) | ((with_reducible refine zt ?_); refine yH tbOk rfl rfl ?_) | ((with_reducible refine zQ ?_); refine zT rfl rfl rfl ?_)  | refine zL ?_ | refine zB rfl ?_ | with_reducible (first | refine zG ?_ | refine zH ?_) | ((with_reducible refine zA ?_ ?_); kernel_rfl))
      refine zZ rfl (fun h => ?_) (fun h => ?_)
      · have hlt : 1 < (a :: ls).length := by simp at h ⊢; omega
        cases ls with
        | nil => simp at hlt
        | cons b ls =>
          have hlb := hLw b (by simp)
          have hy : ((a :: b :: ls).map svL)[((1 : Nat) : Int).toNat]? = some (svL b) := rfl
          have hwd := kH (G := X.G) (strL b) (by rw [zy]; omega)
          rw [yy] at hwd
          have hg2 := nU (N := N) (V := V) (a := a) (b := b) (ls := ls) (by rw [hfa])
          rw [hfa] at hg2
          obtain ⟨W, hW⟩ : ∃ W, W = yP b := ⟨_, rfl⟩
          have hwc : W.length ≤ b.length + 1 := by rw [hW]; exact jn
          have hwm : ∀ w ∈ W, w.length ≤ 1000000 := fun w hw => by rw [hW] at hw; have := aN (show w ∈ wl [] b from hw); simp at this; omega
          rw [← hW] at hwd hg2
          repeat (first | ((with_reducible refine zK ?_); refine zJ rfl ?_) | ((with_reducible refine zR ?_); refine zW tbOk rfl rfl rfl ?_) | ((with_reducible refine zU ?_); refine zX tbOk rfl rfl rfl rfl (by assumption) ?_)  | refine zB rfl ?_ | with_reducible (first | refine zG ?_ | refine zH ?_ | refine zY ?_ | refine zS ?_) | ((with_reducible refine zA ?_ ?_); kernel_rfl))
          refine zC (hwd) ?_
          repeat (first | ((with_reducible refine zK ?_); refine zJ rfl ?_) | ((with_reducible refine zE ?_); refine zF rfl ?_) | ((with_reducible refine zt ?_); refine yH tbOk rfl rfl ?_) | ((with_reducible refine zQ ?_); refine zT rfl rfl rfl ?_)  | refine zL ?_ | refine zB rfl ?_ | with_reducible (first | refine zG ?_ | refine zH ?_ | refine zY ?_) | ((with_reducible refine zA ?_ ?_); kernel_rfl) | refine zn rfl (by first | rfl | assumption) ?_ | refine yF rfl (by first | rfl | assumption) ?_)
          refine zv rfl rfl (fun q => ?_) (fun q => ?_)
          · have q0 : W.length = 0 := by simp at q; rw [q]; rfl
            have e : qD N W = ([], 2) := by unfold qD; rw [if_pos q0]
            rw [hg2, e, if_pos (by decide)]
            repeat (first | ((with_reducible refine zE ?_); refine zF rfl ?_) | ((with_reducible refine zp ?_); refine zq tbOk rfl rfl rfl rfl rfl rfl rfl (Nat.le_of_ble_eq_true rfl) rfl ?_) | ((with_reducible refine za ?_); refine zh rfl (by first | rfl | assumption) rfl ?_) | ((with_reducible refine yM ?_); refine yN tbOk rfl rfl rfl rfl rfl ?_)  | refine zL ?_ | refine zB rfl ?_ | refine yA rfl rfl (by first | rfl | assumption) ?_ | with_reducible (first | refine zG ?_ | refine zO ?_ | refine zV ?_ | refine zH ?_ | refine zN ?_) | ((with_reducible refine zA ?_ ?_); kernel_rfl) | refine zn rfl (by first | rfl | assumption) ?_)
            refine yU (by first | exact .inr rfl | exact .inl rfl) rfl rfl rfl rfl rfl rfl rfl ?_
            repeat' (first | exact trivial | exact Ren.v _ | exact Ren.sl _ _ | exact Ren.ep _ | exact Ren.ptr _ _ _ _ rfl | exact Ren.bs _ _ _ _ _ rfl | exact Ren.nil _ | exact Ren.own _ _ _ _ ⟨_, rfl⟩ | refine zi ?_ | refine zj ?_ | refine zl ?_ | refine ⟨?_, ?_⟩)
          have q0 : ¬ W.length = 0 := by simp at q; exact fun e => q (List.eq_nil_of_length_eq_zero e)
          have z0 : (W.map svL)[(0 : Int).toNat]? = some (svL (wAt W 0)) := jH (by show 0 < _; omega)
          have ez : qD N W = gY N [] W := by unfold qD; rw [if_neg q0]
          repeat (first | ((with_reducible refine zK ?_); refine zJ rfl ?_) | ((with_reducible refine zR ?_); refine zW tbOk rfl rfl rfl ?_) | ((with_reducible refine za ?_); refine zf rfl (by first | rfl | assumption) rfl ?_) | ((with_reducible refine zU ?_); refine zX tbOk rfl rfl rfl rfl (by assumption) ?_) | ((with_reducible refine zQ ?_); refine yh rfl rfl rfl ?_)  | refine zL ?_ | refine zB rfl ?_ | refine zw rfl rfl (by first | rfl | assumption) ?_ | with_reducible refine zG ?_ )
          refine zZ rfl (fun c => ?_) (fun c => ?_)
          · have hc3 : wAt W 0 ≠ qW := fun e => by
              have c3 : (!yI (strL (wAt W 0)) ⟨#[122, 111, 110, 101]⟩) = true := c
              rw [qr (b := #[122, 111, 110, 101]) e] at c3; cases c3
            have e : qD N W = ([], 2) := by rw [ez]; unfold gY; rw [if_pos hc3]
            rw [hg2, e, if_pos (by decide)]
            repeat (first | ((with_reducible refine zE ?_); refine zF rfl ?_) | ((with_reducible refine zp ?_); refine zq tbOk rfl rfl rfl rfl rfl rfl rfl (Nat.le_of_ble_eq_true rfl) rfl ?_) | ((with_reducible refine yM ?_); refine yN tbOk rfl rfl rfl rfl rfl ?_)  | refine zL ?_ | refine zB rfl ?_ | with_reducible (first | refine zG ?_ | refine zO ?_ | refine zV ?_ | refine zH ?_ | refine zN ?_) | ((with_reducible refine zA ?_ ?_); kernel_rfl))
            refine yU (by first | exact .inr rfl | exact .inl rfl) rfl rfl rfl rfl rfl rfl rfl ?_
            repeat' (first | exact trivial | exact Ren.v _ | exact Ren.sl _ _ | exact Ren.ep _ | exact Ren.ptr _ _ _ _ rfl | exact Ren.bs _ _ _ _ _ rfl | exact Ren.nil _ | exact Ren.own _ _ _ _ ⟨_, rfl⟩ | refine zi ?_ | refine zj ?_ | refine zl ?_ | refine ⟨?_, ?_⟩)
          have hc3 : wAt W 0 = qW := by
            refine Classical.byContradiction fun e => ?_
            have c3 : (!yI (strL (wAt W 0)) ⟨#[122, 111, 110, 101]⟩) = false := c
            rw [qq (b := #[122, 111, 110, 101]) e] at c3; cases c3
          have e : qD N W = zGo N (W.drop 1) [] := by rw [ez]; unfold gY; rw [if_neg (by simpa using hc3)]
          rw [e] at hg2
          repeat (first | ((with_reducible refine zE ?_); refine zF rfl ?_)  | refine zL ?_ | refine zB rfl ?_ | with_reducible (first | refine zG ?_ | refine zH ?_ | refine zY ?_ | refine zS ?_) | ((with_reducible refine zA ?_ ?_); kernel_rfl))
          refine jb (s := 122) 3 1 [] [(10, ncD r.d (.own 122 (v 122 + 1)) nilA nilA)] rfl trivial ⟨⟨_, _, rfl, .same (.same (.same (.same (.hit (.same (.same (.same (.same (.same (.same (.same .nil)))))))))))⟩, trivial⟩ ?_
          refine jb (s := 161) 65 3 [] [(10, ncD r.d (.own 122 (v 122 + 1)) (.own 161 (v 161 + 1)) nilA)] rfl trivial ⟨⟨_, _, rfl, .same (.same (.same (.same (.same (.same (.hit (.same (.same (.same (.same (.same .nil)))))))))))⟩, trivial⟩ ?_
          refine jb (s := 76) 3 1 [] [(10, ncD r.d (.own 122 (v 122 + 1)) (.own 161 (v 161 + 1)) (.own 76 (v 76 + 1)))] rfl trivial ⟨⟨_, _, rfl, .same (.same (.same (.same (.same (.same (.same (.same (.same (.same (.same (.hit .nil)))))))))))⟩, trivial⟩ ?_
          refine yL (ι := Nat × List Int) (fun i => i.1 + 1 ≤ W.length ∧ i.2.length ≤ i.1 ∧ zGo N (W.drop (i.1 + 1)) i.2 = zGo N (W.drop 1) []) (fun i => W.length - i.1) (fun v i => [(2, .ptr 2 (v 2) 0), (4, .ptr 4 (v 4) 0), (8, .sl 1 ((a :: b :: ls).map svL)), (10, .ptr 10 (v 10) 0), (11, .v (.int .i64 (1 : Nat))), (12, .sl 1 (W.map svL)), (15, .v (.int .i64 ((i.1 + 1 : Nat) : Int)))]) (fun v i => [(2, .box [.sl 3 (N.map Nd.av), .sl 5 (V.map Dv.av)]), (4, .box z12), (10, .box (ncD r.d (.own 122 (v 122)) (.own 161 (v 161)) (.own 76 (v 76)))), (122, .buf 3 1 (i.2.map iv)), (161, .buf 65 3 []), (76, .buf 3 1 [])]) ?_ ?_
          · exact ⟨(0, []), ⟨by show 0 + 1 ≤ _; omega, Nat.zero_le _, rfl⟩, trivial, ⟨rfl, rfl, rfl, rfl, rfl, rfl, rfl, trivial⟩, ⟨rfl, rfl, rfl, rfl, rfl, rfl, trivial⟩⟩
          clear v h q c
          rintro v ⟨k, Z⟩ ⟨hk2, hZl, hzg⟩
          dsimp only at hk2 hZl hzg ⊢
          repeat (first | ((with_reducible refine zK ?_); refine zJ rfl ?_) | ((with_reducible refine zt ?_); refine yH tbOk rfl rfl ?_) | ((with_reducible refine zQ ?_); refine zT rfl rfl rfl ?_)  | refine zL ?_ | refine zB rfl ?_ | with_reducible (first | refine zG ?_ | refine zH ?_) | ((with_reducible refine zA ?_ ?_); kernel_rfl))
          refine zZ rfl (fun h => ?_) (fun h => ?_)
          · have hlt : k + 1 < W.length := by simp at h; omega
            obtain ⟨w, hw⟩ := zd hlt
            have hyw : (W.map svL)[k + 1]? = some (svL w) := dY hw
            have hnd := rnod_A (G := X.G) N V (strL w) ok
            unfold nodF at hnd
            rw [if_neg (by simpa using hn), yy] at hnd
            rw [yT hw, zGo] at hzg
            repeat (first | ((with_reducible refine zK ?_); refine zJ rfl ?_) | ((with_reducible refine zR ?_); (first | refine zk tbOk rfl rfl rfl rfl (Nat.le_of_ble_eq_true rfl) ?_ | refine zW tbOk rfl rfl rfl ?_)) | ((with_reducible refine zU ?_); refine zX tbOk rfl rfl rfl rfl (by assumption) ?_)  | refine zB rfl ?_ | with_reducible (first | refine zG ?_ | refine zH ?_ | refine zY ?_ | refine zS ?_) | ((with_reducible refine yZ mixd ?_ ?_); kernel_rfl))
            refine zC (hnd) ?_
            repeat (first | ((with_reducible refine zK ?_); refine zJ rfl ?_) | ((with_reducible refine zE ?_); refine zF rfl ?_) | ((with_reducible refine zQ ?_); refine zT rfl rfl rfl ?_)  | refine zL ?_ | refine yf (by kernel_rfl) ?_ | refine zB rfl ?_ | with_reducible (first | refine zG ?_ | refine zH ?_) | ((with_reducible refine zA ?_ ?_); kernel_rfl))
            refine zZ rfl (fun c => ?_) (fun c => ?_)
            · rw [if_pos (by simpa using c)] at hzg
              rw [hg2, ← hzg, if_pos (show (7 : Int) ≠ 0 by decide)]
              repeat (first | ((with_reducible refine zE ?_); refine zF rfl ?_) | ((with_reducible refine zp ?_); refine zq tbOk rfl rfl rfl rfl rfl rfl rfl (Nat.le_of_ble_eq_true rfl) rfl ?_) | ((with_reducible refine yM ?_); refine yN tbOk rfl rfl rfl rfl rfl ?_)  | refine zL ?_ | refine zB rfl ?_ | with_reducible (first | refine zG ?_ | refine zO ?_ | refine zV ?_ | refine zH ?_ | refine zN ?_) | ((with_reducible refine zA ?_ ?_); kernel_rfl))
              refine yU (by first | exact .inr rfl | exact .inl rfl) rfl rfl rfl rfl rfl rfl rfl ?_
              repeat' (first | exact trivial | exact Ren.v _ | exact Ren.sl _ _ | exact Ren.ep _ | exact Ren.ptr _ _ _ _ rfl | exact Ren.bs _ _ _ _ _ rfl | exact Ren.nil _ | exact Ren.own _ _ _ _ ⟨_, rfl⟩ | refine zi ?_ | refine zj ?_ | refine zl ?_ | refine ⟨?_, ?_⟩)
            · rw [if_neg (by simpa using c)] at hzg
              repeat (first | ((with_reducible refine zK ?_); refine zJ rfl ?_) | ((with_reducible refine zM ?_); refine zI tbOk rfl rfl rfl rfl ?_) | ((with_reducible refine zR ?_); refine zP tbOk rfl rfl rfl rfl rfl ?_) | ((with_reducible refine zr ?_); refine zx tbOk rfl rfl rfl rfl rfl (by omega) rfl rfl rfl ?_) | refine zB rfl ?_ | with_reducible (first | refine zG ?_ | refine zS ?_) | ((with_reducible refine zA ?_ ?_); kernel_rfl))
              refine yG tbOk rfl rfl rfl rfl rfl (by decide) rfl rfl rfl rfl rfl (fun x hx => by simp at hx; subst hx; rfl) (by simp only [List.length_map, List.length_cons, List.length_nil]; omega) (by simp only [List.length_map, List.length_cons, List.length_nil]; omega) ?_
              repeat (first | ((with_reducible refine zK ?_); refine zJ rfl ?_) | ((with_reducible refine zE ?_); refine zF rfl ?_) | ((with_reducible refine zM ?_); refine zI tbOk rfl rfl rfl rfl ?_) | ((with_reducible refine zp ?_); refine zq tbOk rfl rfl rfl rfl rfl rfl rfl (Nat.le_of_ble_eq_true rfl) rfl ?_) | ((with_reducible refine zQ ?_); refine zg rfl rfl (by omega) ?_)  | refine zL ?_ | refine zB rfl ?_ | with_reducible (first | refine zG ?_ | refine zu ?_) | ((with_reducible refine zA ?_ ?_); kernel_rfl))
              exact ⟨(k + 1, Z ++ [nodI w 0 N]), ⟨by show k + 1 + 1 ≤ _; omega, by show (Z ++ [_]).length ≤ k + 1; rw [List.length_append, List.length_singleton]; omega, hzg⟩, by dsimp only; omega, ⟨rfl, rfl, rfl, rfl, rfl, rfl, rfl, trivial⟩, ⟨rfl, rfl, rfl, jr (by rw [List.map_append]; rfl), rfl, rfl, trivial⟩⟩
          · have hge : W.length ≤ k + 1 := by simp at h; omega
            rw [List.drop_of_length_le hge, zGo] at hzg
            repeat (first | ((with_reducible refine zK ?_); refine zJ rfl ?_) | ((with_reducible refine zE ?_); refine zF rfl ?_) | ((with_reducible refine zQ ?_); refine zg rfl rfl (by omega) ?_)  | refine zL ?_ | refine zB rfl ?_ | with_reducible (first | refine zG ?_ | refine zo ?_ | refine zu ?_ | refine yB ?_) | ((with_reducible refine ze ?_ ?_); rfl) | ((with_reducible refine zA ?_ ?_); kernel_rfl))
            exact ⟨(2, ⟨r.d, Z, [], []⟩), ⟨by show 2 ≤ (a :: b :: ls).length; simp, ⟨a, b, ls, rfl, hfa, by rw [← hW, e]; exact hzg.symm, by simp, by simp, by simp⟩⟩, by show (a :: b :: ls).length - 2 < (a :: b :: ls).length - 1; simp, ⟨rfl, rfl, rfl, rfl, rfl, trivial⟩, ⟨rfl, rfl, rfl, rfl, rfl, rfl, trivial⟩⟩
      · have hge : ls = [] := by
          cases ls with
          | nil => rfl
          | cons b ls => exfalso; simp at h; omega
        subst hge
        rw [wK (by rw [hfa])]
        repeat (first | ((with_reducible refine zK ?_); refine zJ rfl ?_) | ((with_reducible refine zE ?_); refine zF rfl ?_) | ((with_reducible refine zp ?_); refine zq tbOk rfl rfl rfl rfl rfl rfl rfl (Nat.le_of_ble_eq_true rfl) rfl ?_) | ((with_reducible refine yM ?_); refine yN tbOk rfl rfl rfl rfl rfl ?_) | ((with_reducible refine zt ?_); refine yH tbOk rfl rfl ?_) | ((with_reducible refine zQ ?_); refine zT rfl rfl rfl ?_)  | refine zL ?_ | refine zB rfl ?_ | with_reducible (first | refine zG ?_ | refine zo ?_ | refine zO ?_ | refine zH ?_ | refine yB ?_ | refine zN ?_) | ((with_reducible refine ze ?_ ?_); rfl) | ((with_reducible refine zA ?_ ?_); kernel_rfl) | refine zn rfl (by first | rfl | assumption) ?_)
        refine yU (by first | exact .inr rfl | exact .inl rfl) rfl rfl rfl rfl rfl rfl rfl ?_
        repeat' (first | exact trivial | exact Ren.v _ | exact Ren.sl _ _ | exact Ren.ep _ | exact Ren.ptr _ _ _ _ rfl | exact Ren.bs _ _ _ _ _ rfl | exact Ren.nil _ | exact Ren.own _ _ _ _ ⟨_, rfl⟩ | refine zi ?_ | refine zj ?_ | refine zl ?_ | refine ⟨?_, ?_⟩)
    · obtain ⟨a, b, ls, hL, hfa, hzb, hgo, hKl, hCl⟩ := hi
      obtain ⟨d, Z, K, C⟩ := r
      dsimp only at hfa hzb hgo hKl hCl
      subst hL
      have hg2 := nU (N := N) (V := V) (a := a) (b := b) (ls := ls) (by rw [hfa])
      rw [hfa, hzb, if_neg (by simp), ← hgo] at hg2
      rw [hg2]
      have hkl : k ≤ ls.length := by simp at hk; omega
      have hls : ls.length ≤ 900000 := by simp at hLl; omega
      clear hg2
      dsimp only [nG]
      repeat (first | ((with_reducible refine zK ?_); refine zJ rfl ?_) | ((with_reducible refine zt ?_); refine yH tbOk rfl rfl ?_) | ((with_reducible refine zQ ?_); refine zT rfl rfl rfl ?_)  | refine zL ?_ | refine zB rfl ?_ | with_reducible (first | refine zG ?_ | refine zH ?_) | ((with_reducible refine zA ?_ ?_); kernel_rfl))
      refine zZ rfl (fun h => ?_) (fun h => ?_)
      · have hlt : k < ls.length := by simp at h; omega
        obtain ⟨l, hl⟩ := zd hlt
        have hll := hLw l (by simp [List.mem_of_getElem? hl])
        have hy : ((a :: b :: ls).map svL)[k + 1 + 1]? = some (svL l) := by rw [List.map_cons, List.map_cons, List.getElem?_cons_succ, List.getElem?_cons_succ]; exact dY hl
        have hwd := kH (G := X.G) (strL l) (by rw [zy]; omega)
        rw [yy] at hwd
        rw [yT hl, gW] at hgo ⊢
        obtain ⟨W, hW⟩ : ∃ W, W = yP l := ⟨_, rfl⟩
        have hwc : W.length ≤ l.length + 1 := by rw [hW]; exact jn
        have hwm : ∀ w ∈ W, w.length ≤ 1000000 := fun w hw => by rw [hW] at hw; have := aN (show w ∈ wl [] l from hw); simp at this; omega
        have hwl1 : W.length = 2 → (wAt W 1).length ≤ 1000000 := fun h2 => by
          obtain ⟨x, hx⟩ := zd (L := W) (k := 1) (by omega)
          have : wAt W 1 = x := by unfold wAt; rw [hx]; rfl
          rw [this]; exact hwm x (List.mem_of_getElem? hx)
        rw [← hW] at hwd hgo ⊢
        clear hW
        have i0 : (((k + 1 + 1 : Nat) : Int) == 0) = false := by simp; omega
        have i1 : (((k + 1 + 1 : Nat) : Int) == 1) = false := by simp; omega
        repeat (first | ((with_reducible refine zK ?_); refine zJ rfl ?_) | ((with_reducible refine zR ?_); refine zW tbOk rfl rfl rfl ?_) | ((with_reducible refine zU ?_); refine zX tbOk rfl rfl rfl rfl (by assumption) ?_)  | refine zB rfl ?_ | with_reducible (first | refine zG ?_ | refine zH ?_ | refine zY ?_ | refine zS ?_) | ((with_reducible refine zA ?_ ?_); kernel_rfl))
        refine zC (hwd) ?_
        repeat (first | ((with_reducible refine zK ?_); refine zJ rfl ?_) | ((with_reducible refine zE ?_); refine zF rfl ?_) | ((with_reducible refine zt ?_); refine yH tbOk rfl rfl ?_) | ((with_reducible refine zQ ?_); refine zT rfl rfl rfl ?_)  | refine zL ?_ | refine zB rfl ?_ | with_reducible (first | refine zG ?_ | refine zH ?_ | refine zY ?_) | ((with_reducible refine zA ?_ ?_); kernel_rfl) | refine yF rfl (by first | rfl | assumption) ?_)
        refine zv rfl rfl (fun q1 => ?_) (fun q1 => ?_)
        rotate_left
        · have hnl : ¬ (0 < W.length ∧ wAt W 0 = bC ∧ C = []) := fun e => by simp at q1; rw [q1] at e; simp at e
          repeat (first | ((with_reducible refine zK ?_); refine zJ rfl ?_) | ((with_reducible refine zE ?_); refine zF rfl ?_) | ((with_reducible refine za ?_); refine zf rfl (by first | rfl | assumption) rfl ?_) | ((with_reducible refine zt ?_); refine yH tbOk rfl rfl ?_) | ((with_reducible refine zQ ?_); refine zT rfl rfl rfl ?_)  | refine zL ?_ | refine zB rfl ?_ | refine yE rfl rfl (by first | rfl | assumption) ?_ | with_reducible (first | refine zG ?_ | refine zH ?_) | ((with_reducible refine zA ?_ ?_); kernel_rfl) | refine yF rfl (by first | rfl | assumption) ?_)
          refine zv rfl rfl (fun c => ?_) (fun c => ?_)
          · have hc2 : W.length ≠ 2 := by simp at c; omega
            have hb : (jN V K C W).2.2 = 2 := aB hnl (.inl hc2)
            rw [hb, if_pos (by decide)]
            repeat (first | ((with_reducible refine zK ?_); refine zJ rfl ?_) | ((with_reducible refine zE ?_); refine zF rfl ?_) | ((with_reducible refine zp ?_); refine zq tbOk rfl rfl rfl rfl rfl rfl rfl (Nat.le_of_ble_eq_true rfl) rfl ?_) | ((with_reducible refine za ?_); refine zh rfl (by first | rfl | assumption) rfl ?_) | ((with_reducible refine yM ?_); refine yN tbOk rfl rfl rfl rfl rfl ?_) | ((with_reducible refine zQ ?_); refine zg rfl rfl (by omega) ?_)  | refine zL ?_ | refine zB rfl ?_ | refine yA rfl rfl (by first | rfl | assumption) ?_ | with_reducible (first | refine zG ?_ | refine zO ?_ | refine zV ?_ | refine zH ?_ | refine zN ?_) | ((with_reducible refine zA ?_ ?_); kernel_rfl) | refine zn rfl (by first | rfl | assumption) ?_)
            refine yU (by first | exact .inr rfl | exact .inl rfl) rfl rfl rfl rfl rfl rfl rfl ?_
            repeat' (first | exact trivial | exact Ren.v _ | exact Ren.sl _ _ | exact Ren.ep _ | exact Ren.ptr _ _ _ _ rfl | exact Ren.bs _ _ _ _ _ rfl | exact Ren.nil _ | exact Ren.own _ _ _ _ ⟨_, rfl⟩ | refine zi ?_ | refine zj ?_ | refine zl ?_ | refine ⟨?_, ?_⟩)
          have hc2 : W.length = 2 := by simp at c; omega
          have y0 : (W.map svL)[(0 : Int).toNat]? = some (svL (wAt W 0)) := jH (by show 0 < _; omega)
          have y1 : (W.map svL)[(1 : Int).toNat]? = some (svL (wAt W 1)) := jH (by show 1 < _; omega)
          repeat (first | ((with_reducible refine zK ?_); refine zJ rfl ?_) | ((with_reducible refine zR ?_); refine zW tbOk rfl rfl rfl ?_) | ((with_reducible refine za ?_); refine zf rfl (by first | rfl | assumption) rfl ?_) | ((with_reducible refine zU ?_); refine zX tbOk rfl rfl rfl rfl (by assumption) ?_) | ((with_reducible refine zQ ?_); refine yh rfl rfl rfl ?_)  | refine zL ?_ | refine zB rfl ?_ | refine zw rfl rfl (by first | rfl | assumption) ?_ | with_reducible refine zG ?_ )
          refine zZ rfl (fun c2 => ?_) (fun c2 => ?_)
          · have hc3 : wAt W 0 ≠ bI := fun e => by
              have c3 : (!yI (strL (wAt W 0)) ⟨#[99, 101, 114, 116, 105, 102, 105, 99, 97, 116, 101]⟩) = true := c2
              rw [qr (b := #[99, 101, 114, 116, 105, 102, 105, 99, 97, 116, 101]) e] at c3; cases c3
            have hb : (jN V K C W).2.2 = 2 := aB hnl (.inr hc3)
            rw [hb, if_pos (by decide)]
            repeat (first | ((with_reducible refine zK ?_); refine zJ rfl ?_) | ((with_reducible refine zE ?_); refine zF rfl ?_) | ((with_reducible refine zp ?_); refine zq tbOk rfl rfl rfl rfl rfl rfl rfl (Nat.le_of_ble_eq_true rfl) rfl ?_) | ((with_reducible refine yM ?_); refine yN tbOk rfl rfl rfl rfl rfl ?_) | ((with_reducible refine zQ ?_); refine zg rfl rfl (by omega) ?_)  | refine zL ?_ | refine zB rfl ?_ | with_reducible (first | refine zG ?_ | refine zO ?_ | refine zV ?_ | refine zH ?_ | refine zN ?_) | ((with_reducible refine zA ?_ ?_); kernel_rfl))
            refine yU (by first | exact .inr rfl | exact .inl rfl) rfl rfl rfl rfl rfl rfl rfl ?_
            repeat' (first | exact trivial | exact Ren.v _ | exact Ren.sl _ _ | exact Ren.ep _ | exact Ren.ptr _ _ _ _ rfl | exact Ren.bs _ _ _ _ _ rfl | exact Ren.nil _ | exact Ren.own _ _ _ _ ⟨_, rfl⟩ | refine zi ?_ | refine zj ?_ | refine zl ?_ | refine ⟨?_, ?_⟩)
          have hc3 : wAt W 0 = bI := by
            refine Classical.byContradiction fun e => ?_
            have c3 : (!yI (strL (wAt W 0)) ⟨#[99, 101, 114, 116, 105, 102, 105, 99, 97, 116, 101]⟩) = false := c2
            rw [qq (b := #[99, 101, 114, 116, 105, 102, 105, 99, 97, 116, 101]) e] at c3; cases c3
          have hr := gF (V := V) (K := K) (C := C) hc2 hc3
          have hnu := aZ (G := X.G) (wAt W 1) (hwl1 hc2)
          repeat (first | ((with_reducible refine zK ?_); refine zJ rfl ?_) | ((with_reducible refine zR ?_); refine zW tbOk rfl rfl rfl ?_) | ((with_reducible refine zU ?_); refine zX tbOk rfl rfl rfl rfl (by assumption) ?_)  | refine zB rfl ?_ | with_reducible (first | refine zG ?_ | refine zH ?_ | refine zS ?_) | ((with_reducible refine zA ?_ ?_); kernel_rfl))
          refine zC (hnu) ?_
          repeat (first | ((with_reducible refine zK ?_); refine zJ rfl ?_) | ((with_reducible refine zE ?_); refine zF rfl ?_) | ((with_reducible refine k_un ?_); refine jF rfl ?_) | ((with_reducible refine ye ?_); refine yd rfl rfl ?_)  | refine zL ?_ | refine zB rfl ?_ | with_reducible (first | refine zG ?_ | refine zH ?_) | ((with_reducible refine zA ?_ ?_); kernel_rfl))
          refine zZ rfl (fun c4 => ?_) (fun c4 => ?_)
          · have hq : (numT (wAt W 1)).isSome = false := by simpa using c4
            have hb : (jN V K C W).2.2 = 2 := (by rw [hr]; unfold okN; rw [hq]; rfl)
            rw [hb, if_pos (by decide)]
            repeat (first | ((with_reducible refine zK ?_); refine zJ rfl ?_) | ((with_reducible refine zE ?_); refine zF rfl ?_) | ((with_reducible refine zp ?_); refine zq tbOk rfl rfl rfl rfl rfl rfl rfl (Nat.le_of_ble_eq_true rfl) rfl ?_) | ((with_reducible refine yM ?_); refine yN tbOk rfl rfl rfl rfl rfl ?_) | ((with_reducible refine zQ ?_); refine zg rfl rfl (by omega) ?_)  | refine zL ?_ | refine zB rfl ?_ | with_reducible (first | refine zG ?_ | refine zO ?_ | refine zV ?_ | refine zH ?_ | refine zN ?_) | ((with_reducible refine zA ?_ ?_); kernel_rfl))
            refine yU (by first | exact .inr rfl | exact .inl rfl) rfl rfl rfl rfl rfl rfl rfl ?_
            repeat' (first | exact trivial | exact Ren.v _ | exact Ren.sl _ _ | exact Ren.ep _ | exact Ren.ptr _ _ _ _ rfl | exact Ren.bs _ _ _ _ _ rfl | exact Ren.nil _ | exact Ren.own _ _ _ _ ⟨_, rfl⟩ | refine zi ?_ | refine zj ?_ | refine zl ?_ | refine ⟨?_, ?_⟩)
          have hq : (numT (wAt W 1)).isSome = true := by simpa using c4
          have hq2 : okN (numT (wAt W 1)) 0 = 0 := by unfold okN; rw [hq]; rfl
          rw [hr] at hgo ⊢
          dsimp only at hgo ⊢
          rw [hq2, if_neg (by decide)] at hgo ⊢
          repeat (first | ((with_reducible refine zK ?_); refine zJ rfl ?_) | ((with_reducible refine zM ?_); refine zI tbOk rfl rfl rfl rfl ?_) | ((with_reducible refine zR ?_); refine zP tbOk rfl rfl rfl rfl rfl ?_) | ((with_reducible refine zr ?_); refine zx tbOk rfl rfl rfl rfl rfl (by omega) rfl rfl rfl ?_) | refine zB rfl ?_ | with_reducible (first | refine zG ?_ | refine zS ?_) | ((with_reducible refine zA ?_ ?_); kernel_rfl))
          refine yG tbOk rfl rfl rfl rfl rfl (by decide) rfl rfl rfl rfl rfl (fun x hx => by simp at hx; subst hx; rfl) (by simp only [List.length_map, List.length_cons, List.length_nil]; omega) (by simp only [List.length_map, List.length_cons, List.length_nil]; omega) ?_
          repeat (first | ((with_reducible refine zK ?_); refine zJ rfl ?_) | ((with_reducible refine zE ?_); refine zF rfl ?_) | ((with_reducible refine zM ?_); refine zI tbOk rfl rfl rfl rfl ?_) | ((with_reducible refine zp ?_); refine zq tbOk rfl rfl rfl rfl rfl rfl rfl (Nat.le_of_ble_eq_true rfl) rfl ?_) | ((with_reducible refine zQ ?_); refine zg rfl rfl (by omega) ?_)  | refine zL ?_ | refine zB rfl ?_ | with_reducible (first | refine zG ?_ | refine zu ?_) | ((with_reducible refine zA ?_ ?_); kernel_rfl))
          exact ⟨(k + 1 + 2, ⟨d, Z, K, C ++ [(numT (wAt W 1)).getD 0]⟩), ⟨by show k + 1 + 2 ≤ (a :: b :: ls).length; simp; omega, ⟨a, b, ls, rfl, hfa, hzb, hgo, by show K.length ≤ k + 1; omega, by show (C ++ [_]).length ≤ k + 1; rw [List.length_append, List.length_singleton]; omega⟩⟩, by show (a :: b :: ls).length - (k + 1 + 2) < (a :: b :: ls).length - (k + 1 + 1); simp; omega, ⟨rfl, rfl, rfl, rfl, rfl, trivial⟩, ⟨rfl, rfl, rfl, rfl, rfl, jr (by rw [List.map_append]; rfl), trivial⟩⟩
        have hW0 : 0 < W.length := by simp at q1; omega
        have z0 : (W.map svL)[(0 : Int).toNat]? = some (svL (wAt W 0)) := jH (by show 0 < _; omega)
        repeat (first | ((with_reducible refine zK ?_); refine zJ rfl ?_) | ((with_reducible refine zR ?_); refine zW tbOk rfl rfl rfl ?_) | ((with_reducible refine za ?_); refine zh rfl (by first | rfl | assumption) rfl ?_) | ((with_reducible refine zU ?_); refine zX tbOk rfl rfl rfl rfl (by assumption) ?_) | ((with_reducible refine zQ ?_); refine yh rfl rfl rfl ?_)  | refine zB rfl ?_ | refine yC rfl rfl (by first | rfl | assumption) ?_  )
        refine zv rfl rfl (fun q2 => ?_) (fun q2 => ?_)
        rotate_left
        · have hnl : ¬ (0 < W.length ∧ wAt W 0 = bC ∧ C = []) := fun e => by
            have c3 : yI (strL (wAt W 0)) ⟨#[108, 111, 99, 107]⟩ = false := q2
            rw [qr (b := #[108, 111, 99, 107]) e.2.1] at c3; cases c3
          repeat (first | ((with_reducible refine zK ?_); refine zJ rfl ?_) | ((with_reducible refine zE ?_); refine zF rfl ?_) | ((with_reducible refine za ?_); refine zf rfl (by first | rfl | assumption) rfl ?_) | ((with_reducible refine zt ?_); refine yH tbOk rfl rfl ?_) | ((with_reducible refine zQ ?_); refine zT rfl rfl rfl ?_)  | refine zL ?_ | refine zB rfl ?_ | refine yE rfl rfl (by first | rfl | assumption) ?_ | with_reducible (first | refine zG ?_ | refine zH ?_) | ((with_reducible refine zA ?_ ?_); kernel_rfl) | refine yF rfl (by first | rfl | assumption) ?_)
          refine zv rfl rfl (fun c => ?_) (fun c => ?_)
          · have hc2 : W.length ≠ 2 := by simp at c; omega
            have hb : (jN V K C W).2.2 = 2 := aB hnl (.inl hc2)
            rw [hb, if_pos (by decide)]
            repeat (first | ((with_reducible refine zK ?_); refine zJ rfl ?_) | ((with_reducible refine zE ?_); refine zF rfl ?_) | ((with_reducible refine zp ?_); refine zq tbOk rfl rfl rfl rfl rfl rfl rfl (Nat.le_of_ble_eq_true rfl) rfl ?_) | ((with_reducible refine za ?_); refine zh rfl (by first | rfl | assumption) rfl ?_) | ((with_reducible refine yM ?_); refine yN tbOk rfl rfl rfl rfl rfl ?_) | ((with_reducible refine zQ ?_); refine zg rfl rfl (by omega) ?_)  | refine zL ?_ | refine zB rfl ?_ | refine yA rfl rfl (by first | rfl | assumption) ?_ | with_reducible (first | refine zG ?_ | refine zO ?_ | refine zV ?_ | refine zH ?_ | refine zN ?_) | ((with_reducible refine zA ?_ ?_); kernel_rfl) | refine zn rfl (by first | rfl | assumption) ?_)
            refine yU (by first | exact .inr rfl | exact .inl rfl) rfl rfl rfl rfl rfl rfl rfl ?_
            repeat' (first | exact trivial | exact Ren.v _ | exact Ren.sl _ _ | exact Ren.ep _ | exact Ren.ptr _ _ _ _ rfl | exact Ren.bs _ _ _ _ _ rfl | exact Ren.nil _ | exact Ren.own _ _ _ _ ⟨_, rfl⟩ | refine zi ?_ | refine zj ?_ | refine zl ?_ | refine ⟨?_, ?_⟩)
          have hc2 : W.length = 2 := by simp at c; omega
          have y0 : (W.map svL)[(0 : Int).toNat]? = some (svL (wAt W 0)) := jH (by show 0 < _; omega)
          have y1 : (W.map svL)[(1 : Int).toNat]? = some (svL (wAt W 1)) := jH (by show 1 < _; omega)
          repeat (first | ((with_reducible refine zK ?_); refine zJ rfl ?_) | ((with_reducible refine zR ?_); refine zW tbOk rfl rfl rfl ?_) | ((with_reducible refine za ?_); refine zf rfl (by first | rfl | assumption) rfl ?_) | ((with_reducible refine zU ?_); refine zX tbOk rfl rfl rfl rfl (by assumption) ?_) | ((with_reducible refine zQ ?_); refine yh rfl rfl rfl ?_)  | refine zL ?_ | refine zB rfl ?_ | refine zw rfl rfl (by first | rfl | assumption) ?_ | with_reducible refine zG ?_ )
          refine zZ rfl (fun c2 => ?_) (fun c2 => ?_)
          · have hc3 : wAt W 0 ≠ bI := fun e => by
              have c3 : (!yI (strL (wAt W 0)) ⟨#[99, 101, 114, 116, 105, 102, 105, 99, 97, 116, 101]⟩) = true := c2
              rw [qr (b := #[99, 101, 114, 116, 105, 102, 105, 99, 97, 116, 101]) e] at c3; cases c3
            have hb : (jN V K C W).2.2 = 2 := aB hnl (.inr hc3)
            rw [hb, if_pos (by decide)]
            repeat (first | ((with_reducible refine zK ?_); refine zJ rfl ?_) | ((with_reducible refine zE ?_); refine zF rfl ?_) | ((with_reducible refine zp ?_); refine zq tbOk rfl rfl rfl rfl rfl rfl rfl (Nat.le_of_ble_eq_true rfl) rfl ?_) | ((with_reducible refine yM ?_); refine yN tbOk rfl rfl rfl rfl rfl ?_) | ((with_reducible refine zQ ?_); refine zg rfl rfl (by omega) ?_)  | refine zL ?_ | refine zB rfl ?_ | with_reducible (first | refine zG ?_ | refine zO ?_ | refine zV ?_ | refine zH ?_ | refine zN ?_) | ((with_reducible refine zA ?_ ?_); kernel_rfl))
            refine yU (by first | exact .inr rfl | exact .inl rfl) rfl rfl rfl rfl rfl rfl rfl ?_
            repeat' (first | exact trivial | exact Ren.v _ | exact Ren.sl _ _ | exact Ren.ep _ | exact Ren.ptr _ _ _ _ rfl | exact Ren.bs _ _ _ _ _ rfl | exact Ren.nil _ | exact Ren.own _ _ _ _ ⟨_, rfl⟩ | refine zi ?_ | refine zj ?_ | refine zl ?_ | refine ⟨?_, ?_⟩)
          have hc3 : wAt W 0 = bI := by
            refine Classical.byContradiction fun e => ?_
            have c3 : (!yI (strL (wAt W 0)) ⟨#[99, 101, 114, 116, 105, 102, 105, 99, 97, 116, 101]⟩) = false := c2
            rw [qq (b := #[99, 101, 114, 116, 105, 102, 105, 99, 97, 116, 101]) e] at c3; cases c3
          have hr := gF (V := V) (K := K) (C := C) hc2 hc3
          have hnu := aZ (G := X.G) (wAt W 1) (hwl1 hc2)
          repeat (first | ((with_reducible refine zK ?_); refine zJ rfl ?_) | ((with_reducible refine zR ?_); refine zW tbOk rfl rfl rfl ?_) | ((with_reducible refine zU ?_); refine zX tbOk rfl rfl rfl rfl (by assumption) ?_)  | refine zB rfl ?_ | with_reducible (first | refine zG ?_ | refine zH ?_ | refine zS ?_) | ((with_reducible refine zA ?_ ?_); kernel_rfl))
          refine zC (hnu) ?_
          repeat (first | ((with_reducible refine zK ?_); refine zJ rfl ?_) | ((with_reducible refine zE ?_); refine zF rfl ?_) | ((with_reducible refine k_un ?_); refine jF rfl ?_) | ((with_reducible refine ye ?_); refine yd rfl rfl ?_)  | refine zL ?_ | refine zB rfl ?_ | with_reducible (first | refine zG ?_ | refine zH ?_) | ((with_reducible refine zA ?_ ?_); kernel_rfl))
          refine zZ rfl (fun c4 => ?_) (fun c4 => ?_)
          · have hq : (numT (wAt W 1)).isSome = false := by simpa using c4
            have hb : (jN V K C W).2.2 = 2 := (by rw [hr]; unfold okN; rw [hq]; rfl)
            rw [hb, if_pos (by decide)]
            repeat (first | ((with_reducible refine zK ?_); refine zJ rfl ?_) | ((with_reducible refine zE ?_); refine zF rfl ?_) | ((with_reducible refine zp ?_); refine zq tbOk rfl rfl rfl rfl rfl rfl rfl (Nat.le_of_ble_eq_true rfl) rfl ?_) | ((with_reducible refine yM ?_); refine yN tbOk rfl rfl rfl rfl rfl ?_) | ((with_reducible refine zQ ?_); refine zg rfl rfl (by omega) ?_)  | refine zL ?_ | refine zB rfl ?_ | with_reducible (first | refine zG ?_ | refine zO ?_ | refine zV ?_ | refine zH ?_ | refine zN ?_) | ((with_reducible refine zA ?_ ?_); kernel_rfl))
            refine yU (by first | exact .inr rfl | exact .inl rfl) rfl rfl rfl rfl rfl rfl rfl ?_
            repeat' (first | exact trivial | exact Ren.v _ | exact Ren.sl _ _ | exact Ren.ep _ | exact Ren.ptr _ _ _ _ rfl | exact Ren.bs _ _ _ _ _ rfl | exact Ren.nil _ | exact Ren.own _ _ _ _ ⟨_, rfl⟩ | refine zi ?_ | refine zj ?_ | refine zl ?_ | refine ⟨?_, ?_⟩)
          have hq : (numT (wAt W 1)).isSome = true := by simpa using c4
          have hq2 : okN (numT (wAt W 1)) 0 = 0 := by unfold okN; rw [hq]; rfl
          rw [hr] at hgo ⊢
          dsimp only at hgo ⊢
          rw [hq2, if_neg (by decide)] at hgo ⊢
          repeat (first | ((with_reducible refine zK ?_); refine zJ rfl ?_) | ((with_reducible refine zM ?_); refine zI tbOk rfl rfl rfl rfl ?_) | ((with_reducible refine zR ?_); refine zP tbOk rfl rfl rfl rfl rfl ?_) | ((with_reducible refine zr ?_); refine zx tbOk rfl rfl rfl rfl rfl (by omega) rfl rfl rfl ?_) | refine zB rfl ?_ | with_reducible (first | refine zG ?_ | refine zS ?_) | ((with_reducible refine zA ?_ ?_); kernel_rfl))
          refine yG tbOk rfl rfl rfl rfl rfl (by decide) rfl rfl rfl rfl rfl (fun x hx => by simp at hx; subst hx; rfl) (by simp only [List.length_map, List.length_cons, List.length_nil]; omega) (by simp only [List.length_map, List.length_cons, List.length_nil]; omega) ?_
          repeat (first | ((with_reducible refine zK ?_); refine zJ rfl ?_) | ((with_reducible refine zE ?_); refine zF rfl ?_) | ((with_reducible refine zM ?_); refine zI tbOk rfl rfl rfl rfl ?_) | ((with_reducible refine zp ?_); refine zq tbOk rfl rfl rfl rfl rfl rfl rfl (Nat.le_of_ble_eq_true rfl) rfl ?_) | ((with_reducible refine zQ ?_); refine zg rfl rfl (by omega) ?_)  | refine zL ?_ | refine zB rfl ?_ | with_reducible (first | refine zG ?_ | refine zu ?_) | ((with_reducible refine zA ?_ ?_); kernel_rfl))
          exact ⟨(k + 1 + 2, ⟨d, Z, K, C ++ [(numT (wAt W 1)).getD 0]⟩), ⟨by show k + 1 + 2 ≤ (a :: b :: ls).length; simp; omega, ⟨a, b, ls, rfl, hfa, hzb, hgo, by show K.length ≤ k + 1; omega, by show (C ++ [_]).length ≤ k + 1; rw [List.length_append, List.length_singleton]; omega⟩⟩, by show (a :: b :: ls).length - (k + 1 + 2) < (a :: b :: ls).length - (k + 1 + 1); simp; omega, ⟨rfl, rfl, rfl, rfl, rfl, trivial⟩, ⟨rfl, rfl, rfl, rfl, rfl, jr (by rw [List.map_append]; rfl), trivial⟩⟩
        have hlk : wAt W 0 = bC := by
          refine Classical.byContradiction fun e => ?_
          have c3 : yI (strL (wAt W 0)) ⟨#[108, 111, 99, 107]⟩ = true := q2
          rw [qq (b := #[108, 111, 99, 107]) e] at c3; cases c3
        rcases C with _ | ⟨c0, C⟩
        rotate_left
        · have hnl : ¬ (0 < W.length ∧ wAt W 0 = bC ∧ (c0 :: C) = []) := fun e => by cases e.2.2
          have hCl2 : C.length + 1 ≤ k := by simpa using hCl
          have hcc : (((((c0 :: C).map iv).length : Nat) : Int) == 0) = false := by simp; omega
          repeat (first | ((with_reducible refine zK ?_); refine zJ rfl ?_) | ((with_reducible refine zE ?_); refine zF rfl ?_) | ((with_reducible refine zM ?_); refine zI tbOk rfl rfl rfl rfl ?_) | ((with_reducible refine zR ?_); refine zP tbOk rfl rfl rfl rfl rfl ?_) | ((with_reducible refine za ?_); refine zh rfl (by first | rfl | assumption) rfl ?_) | ((with_reducible refine zt ?_); (first | refine yH tbOk rfl rfl ?_ | refine aC tbOk rfl rfl rfl rfl ?_)) | ((with_reducible refine zQ ?_); refine zT rfl rfl rfl ?_)  | refine zL ?_ | refine zB rfl ?_ | refine yC rfl rfl (by first | rfl | assumption) ?_ | with_reducible (first | refine zG ?_ | refine zH ?_) | ((with_reducible refine zA ?_ ?_); kernel_rfl) | refine yF rfl (by first | rfl | assumption) ?_)
          refine zv rfl rfl (fun c => ?_) (fun c => ?_)
          · have hc2 : W.length ≠ 2 := by simp at c; omega
            have hb : (jN V K (c0 :: C) W).2.2 = 2 := aB hnl (.inl hc2)
            rw [hb, if_pos (by decide)]
            repeat (first | ((with_reducible refine zK ?_); refine zJ rfl ?_) | ((with_reducible refine zE ?_); refine zF rfl ?_) | ((with_reducible refine zp ?_); refine zq tbOk rfl rfl rfl rfl rfl rfl rfl (Nat.le_of_ble_eq_true rfl) rfl ?_) | ((with_reducible refine za ?_); refine zh rfl (by first | rfl | assumption) rfl ?_) | ((with_reducible refine yM ?_); refine yN tbOk rfl rfl rfl rfl rfl ?_) | ((with_reducible refine zQ ?_); refine zg rfl rfl (by omega) ?_)  | refine zL ?_ | refine zB rfl ?_ | refine yA rfl rfl (by first | rfl | assumption) ?_ | with_reducible (first | refine zG ?_ | refine zO ?_ | refine zV ?_ | refine zH ?_ | refine zN ?_) | ((with_reducible refine zA ?_ ?_); kernel_rfl) | refine zn rfl (by first | rfl | assumption) ?_)
            refine yU (by first | exact .inr rfl | exact .inl rfl) rfl rfl rfl rfl rfl rfl rfl ?_
            repeat' (first | exact trivial | exact Ren.v _ | exact Ren.sl _ _ | exact Ren.ep _ | exact Ren.ptr _ _ _ _ rfl | exact Ren.bs _ _ _ _ _ rfl | exact Ren.nil _ | exact Ren.own _ _ _ _ ⟨_, rfl⟩ | refine zi ?_ | refine zj ?_ | refine zl ?_ | refine ⟨?_, ?_⟩)
          have hc2 : W.length = 2 := by simp at c; omega
          have y0 : (W.map svL)[(0 : Int).toNat]? = some (svL (wAt W 0)) := jH (by show 0 < _; omega)
          have y1 : (W.map svL)[(1 : Int).toNat]? = some (svL (wAt W 1)) := jH (by show 1 < _; omega)
          repeat (first | ((with_reducible refine zK ?_); refine zJ rfl ?_) | ((with_reducible refine zR ?_); refine zW tbOk rfl rfl rfl ?_) | ((with_reducible refine za ?_); refine zf rfl (by first | rfl | assumption) rfl ?_) | ((with_reducible refine zU ?_); refine zX tbOk rfl rfl rfl rfl (by assumption) ?_) | ((with_reducible refine zQ ?_); refine yh rfl rfl rfl ?_)  | refine zL ?_ | refine zB rfl ?_ | refine zw rfl rfl (by first | rfl | assumption) ?_ | with_reducible refine zG ?_ )
          refine zZ rfl (fun c2 => ?_) (fun c2 => ?_)
          · have hc3 : wAt W 0 ≠ bI := fun e => by
              have c3 : (!yI (strL (wAt W 0)) ⟨#[99, 101, 114, 116, 105, 102, 105, 99, 97, 116, 101]⟩) = true := c2
              rw [qr (b := #[99, 101, 114, 116, 105, 102, 105, 99, 97, 116, 101]) e] at c3; cases c3
            have hb : (jN V K (c0 :: C) W).2.2 = 2 := aB hnl (.inr hc3)
            rw [hb, if_pos (by decide)]
            repeat (first | ((with_reducible refine zK ?_); refine zJ rfl ?_) | ((with_reducible refine zE ?_); refine zF rfl ?_) | ((with_reducible refine zp ?_); refine zq tbOk rfl rfl rfl rfl rfl rfl rfl (Nat.le_of_ble_eq_true rfl) rfl ?_) | ((with_reducible refine yM ?_); refine yN tbOk rfl rfl rfl rfl rfl ?_) | ((with_reducible refine zQ ?_); refine zg rfl rfl (by omega) ?_)  | refine zL ?_ | refine zB rfl ?_ | with_reducible (first | refine zG ?_ | refine zO ?_ | refine zV ?_ | refine zH ?_ | refine zN ?_) | ((with_reducible refine zA ?_ ?_); kernel_rfl))
            refine yU (by first | exact .inr rfl | exact .inl rfl) rfl rfl rfl rfl rfl rfl rfl ?_
            repeat' (first | exact trivial | exact Ren.v _ | exact Ren.sl _ _ | exact Ren.ep _ | exact Ren.ptr _ _ _ _ rfl | exact Ren.bs _ _ _ _ _ rfl | exact Ren.nil _ | exact Ren.own _ _ _ _ ⟨_, rfl⟩ | refine zi ?_ | refine zj ?_ | refine zl ?_ | refine ⟨?_, ?_⟩)
          have hc3 : wAt W 0 = bI := by
            refine Classical.byContradiction fun e => ?_
            have c3 : (!yI (strL (wAt W 0)) ⟨#[99, 101, 114, 116, 105, 102, 105, 99, 97, 116, 101]⟩) = false := c2
            rw [qq (b := #[99, 101, 114, 116, 105, 102, 105, 99, 97, 116, 101]) e] at c3; cases c3
          have hr := gF (V := V) (K := K) (C := (c0 :: C)) hc2 hc3
          have hnu := aZ (G := X.G) (wAt W 1) (hwl1 hc2)
          repeat (first | ((with_reducible refine zK ?_); refine zJ rfl ?_) | ((with_reducible refine zR ?_); refine zW tbOk rfl rfl rfl ?_) | ((with_reducible refine zU ?_); refine zX tbOk rfl rfl rfl rfl (by assumption) ?_)  | refine zB rfl ?_ | with_reducible (first | refine zG ?_ | refine zH ?_ | refine zS ?_) | ((with_reducible refine zA ?_ ?_); kernel_rfl))
          refine zC (hnu) ?_
          repeat (first | ((with_reducible refine zK ?_); refine zJ rfl ?_) | ((with_reducible refine zE ?_); refine zF rfl ?_) | ((with_reducible refine k_un ?_); refine jF rfl ?_) | ((with_reducible refine ye ?_); refine yd rfl rfl ?_)  | refine zL ?_ | refine zB rfl ?_ | with_reducible (first | refine zG ?_ | refine zH ?_) | ((with_reducible refine zA ?_ ?_); kernel_rfl))
          refine zZ rfl (fun c4 => ?_) (fun c4 => ?_)
          · have hq : (numT (wAt W 1)).isSome = false := by simpa using c4
            have hb : (jN V K (c0 :: C) W).2.2 = 2 := (by rw [hr]; unfold okN; rw [hq]; rfl)
            rw [hb, if_pos (by decide)]
            repeat (first | ((with_reducible refine zK ?_); refine zJ rfl ?_) | ((with_reducible refine zE ?_); refine zF rfl ?_) | ((with_reducible refine zp ?_); refine zq tbOk rfl rfl rfl rfl rfl rfl rfl (Nat.le_of_ble_eq_true rfl) rfl ?_) | ((with_reducible refine yM ?_); refine yN tbOk rfl rfl rfl rfl rfl ?_) | ((with_reducible refine zQ ?_); refine zg rfl rfl (by omega) ?_)  | refine zL ?_ | refine zB rfl ?_ | with_reducible (first | refine zG ?_ | refine zO ?_ | refine zV ?_ | refine zH ?_ | refine zN ?_) | ((with_reducible refine zA ?_ ?_); kernel_rfl))
            refine yU (by first | exact .inr rfl | exact .inl rfl) rfl rfl rfl rfl rfl rfl rfl ?_
            repeat' (first | exact trivial | exact Ren.v _ | exact Ren.sl _ _ | exact Ren.ep _ | exact Ren.ptr _ _ _ _ rfl | exact Ren.bs _ _ _ _ _ rfl | exact Ren.nil _ | exact Ren.own _ _ _ _ ⟨_, rfl⟩ | refine zi ?_ | refine zj ?_ | refine zl ?_ | refine ⟨?_, ?_⟩)
          have hq : (numT (wAt W 1)).isSome = true := by simpa using c4
          have hq2 : okN (numT (wAt W 1)) 0 = 0 := by unfold okN; rw [hq]; rfl
          rw [hr] at hgo ⊢
          dsimp only at hgo ⊢
          rw [hq2, if_neg (by decide)] at hgo ⊢
          repeat (first | ((with_reducible refine zK ?_); refine zJ rfl ?_) | ((with_reducible refine zM ?_); refine zI tbOk rfl rfl rfl rfl ?_) | ((with_reducible refine zR ?_); refine zP tbOk rfl rfl rfl rfl rfl ?_) | ((with_reducible refine zr ?_); refine zx tbOk rfl rfl rfl rfl rfl (by omega) rfl rfl rfl ?_) | refine zB rfl ?_ | with_reducible (first | refine zG ?_ | refine zS ?_) | ((with_reducible refine zA ?_ ?_); kernel_rfl))
          refine yG tbOk rfl rfl rfl rfl rfl (by decide) rfl rfl rfl rfl rfl (fun x hx => by simp at hx; subst hx; rfl) (by simp only [List.length_map, List.length_cons, List.length_nil]; omega) (by simp only [List.length_map, List.length_cons, List.length_nil]; omega) ?_
          repeat (first | ((with_reducible refine zK ?_); refine zJ rfl ?_) | ((with_reducible refine zE ?_); refine zF rfl ?_) | ((with_reducible refine zM ?_); refine zI tbOk rfl rfl rfl rfl ?_) | ((with_reducible refine zp ?_); refine zq tbOk rfl rfl rfl rfl rfl rfl rfl (Nat.le_of_ble_eq_true rfl) rfl ?_) | ((with_reducible refine zQ ?_); refine zg rfl rfl (by omega) ?_)  | refine zL ?_ | refine zB rfl ?_ | with_reducible (first | refine zG ?_ | refine zu ?_) | ((with_reducible refine zA ?_ ?_); kernel_rfl))
          exact ⟨(k + 1 + 2, ⟨d, Z, K, (c0 :: C) ++ [(numT (wAt W 1)).getD 0]⟩), ⟨by show k + 1 + 2 ≤ (a :: b :: ls).length; simp; omega, ⟨a, b, ls, rfl, hfa, hzb, hgo, by show K.length ≤ k + 1; omega, by show ((c0 :: C) ++ [_]).length ≤ k + 1; rw [List.length_append, List.length_singleton]; omega⟩⟩, by show (a :: b :: ls).length - (k + 1 + 2) < (a :: b :: ls).length - (k + 1 + 1); simp; omega, ⟨rfl, rfl, rfl, rfl, rfl, trivial⟩, ⟨rfl, rfl, rfl, rfl, rfl, jr (by rw [List.map_append]; rfl), trivial⟩⟩
        obtain ⟨⟨x, fo, kn⟩, hlk2, hx⟩ := uD N V W ok hn hW0 hlk hwm
        obtain ⟨k1, k2, k3⟩ := hlk2 K
        dsimp only at k1 k2 k3 hx
        have hr := uV (V := V) (K := K) (C := []) hW0 hlk
        repeat (first | ((with_reducible refine zK ?_); refine zJ rfl ?_) | ((with_reducible refine zE ?_); refine zF rfl ?_) | ((with_reducible refine zM ?_); refine zI tbOk rfl rfl rfl rfl ?_) | ((with_reducible refine zR ?_); (first | refine zP tbOk rfl rfl rfl rfl rfl ?_ | refine zk tbOk rfl rfl rfl rfl (Nat.le_of_ble_eq_true rfl) ?_)) | ((with_reducible refine za ?_); refine zh rfl (by first | rfl | assumption) rfl ?_) | ((with_reducible refine zt ?_); refine aC tbOk rfl rfl rfl rfl ?_) | ((with_reducible refine zQ ?_); refine zT rfl rfl rfl ?_)  | refine zL ?_ | refine zB rfl ?_ | refine yC rfl rfl (by first | rfl | assumption) ?_ | with_reducible (first | refine zG ?_ | refine zH ?_) | ((with_reducible refine zA ?_ ?_); kernel_rfl) | refine zn rfl (by first | rfl | assumption) ?_)
        refine zC (hx _) ?_
        repeat (first | ((with_reducible refine zK ?_); refine zJ rfl ?_) | ((with_reducible refine zE ?_); refine zF rfl ?_) | ((with_reducible refine zp ?_); refine zq tbOk rfl rfl rfl rfl rfl rfl rfl (Nat.le_of_ble_eq_true rfl) rfl ?_) | ((with_reducible refine yR ?_); refine yQ tbOk rfl rfl ?_) | ((with_reducible refine k_un ?_); refine jF rfl ?_) | ((with_reducible refine ye ?_); refine yd rfl rfl ?_)  | refine zL ?_ | refine zB rfl ?_ | with_reducible (first | refine zG ?_ | refine zH ?_) | ((with_reducible refine zA ?_ ?_); kernel_rfl))
        refine zZ rfl (fun c => ?_) (fun c => ?_)
        · have hfo : fo = false := by simpa using c
          have hb : (jN V K [] W).2.2 = 2 := (by rw [hr]; exact k1 hfo)
          rw [hb, if_pos (by decide)]
          repeat (first | ((with_reducible refine zK ?_); refine zJ rfl ?_) | ((with_reducible refine zE ?_); refine zF rfl ?_) | ((with_reducible refine zp ?_); refine zq tbOk rfl rfl rfl rfl rfl rfl rfl (Nat.le_of_ble_eq_true rfl) rfl ?_) | ((with_reducible refine yM ?_); refine yN tbOk rfl rfl rfl rfl rfl ?_) | ((with_reducible refine zQ ?_); refine zg rfl rfl (by omega) ?_)  | refine zL ?_ | refine zB rfl ?_ | with_reducible (first | refine zG ?_ | refine zO ?_ | refine zV ?_ | refine zH ?_ | refine zN ?_) | ((with_reducible refine zA ?_ ?_); kernel_rfl))
          refine yU (by first | exact .inr rfl | exact .inl rfl) rfl rfl rfl rfl rfl rfl rfl ?_
          repeat' (first | exact trivial | exact Ren.v _ | exact Ren.sl _ _ | exact Ren.ep _ | exact Ren.ptr _ _ _ _ rfl | exact Ren.bs _ _ _ _ _ rfl | exact Ren.nil _ | exact Ren.own _ _ _ _ ⟨_, rfl⟩ | refine zi ?_ | refine zj ?_ | refine zl ?_ | refine ⟨?_, ?_⟩)
        have hfo : fo = true := by simpa using c
        repeat (first | ((with_reducible refine zK ?_); refine zJ rfl ?_) | ((with_reducible refine k_un ?_); refine jF rfl ?_)  | refine zL ?_ | refine zB rfl ?_ | with_reducible (first | refine zG ?_ | refine zH ?_ | refine zS ?_) | ((with_reducible refine zA ?_ ?_); kernel_rfl))
        refine zZ rfl (fun c => ?_) (fun c => ?_)
        · have hkn : kn = false := by simpa using c
          have hb : (jN V K [] W).2.2 = 8 := by rw [hr]; exact k2 hfo hkn
          rw [hb, if_pos (by decide)]
          repeat (first | ((with_reducible refine zK ?_); refine zJ rfl ?_) | ((with_reducible refine zE ?_); refine zF rfl ?_) | ((with_reducible refine zp ?_); refine zq tbOk rfl rfl rfl rfl rfl rfl rfl (Nat.le_of_ble_eq_true rfl) rfl ?_) | ((with_reducible refine yM ?_); refine yN tbOk rfl rfl rfl rfl rfl ?_) | ((with_reducible refine zQ ?_); refine zg rfl rfl (by omega) ?_)  | refine zL ?_ | refine zB rfl ?_ | with_reducible (first | refine zG ?_ | refine zO ?_ | refine zV ?_ | refine zH ?_ | refine zN ?_) | ((with_reducible refine zA ?_ ?_); kernel_rfl))
          refine yU (by first | exact .inr rfl | exact .inl rfl) rfl rfl rfl rfl rfl rfl rfl ?_
          repeat' (first | exact trivial | exact Ren.v _ | exact Ren.sl _ _ | exact Ren.ep _ | exact Ren.ptr _ _ _ _ rfl | exact Ren.bs _ _ _ _ _ rfl | exact Ren.nil _ | exact Ren.own _ _ _ _ ⟨_, rfl⟩ | refine zi ?_ | refine zj ?_ | refine zl ?_ | refine ⟨?_, ?_⟩)
        have hkn : kn = true := by simpa using c
        rw [hr, k3 hfo hkn] at hgo ⊢
        dsimp only at hgo ⊢
        rw [if_neg (by decide)] at hgo ⊢
        repeat (first | ((with_reducible refine zM ?_); refine zI tbOk rfl rfl rfl rfl ?_) | ((with_reducible refine zR ?_); (first | refine zP tbOk rfl rfl rfl rfl rfl ?_ | refine zk tbOk rfl rfl rfl rfl (Nat.le_of_ble_eq_true rfl) ?_)) | ((with_reducible refine zr ?_); refine zx tbOk rfl rfl rfl rfl rfl (by omega) rfl rfl rfl ?_) | refine zB rfl ?_ | with_reducible (first | refine zG ?_ | refine zS ?_) | ((with_reducible refine zA ?_ ?_); kernel_rfl))
        refine yG tbOk rfl rfl rfl rfl rfl (by decide) rfl rfl rfl rfl rfl (fun x hx => by simp at hx; subst hx; rfl) (by simp only [List.length_map, List.length_cons, List.length_nil]; omega) (by simp only [List.length_map, List.length_cons, List.length_nil]; omega) ?_
        repeat (first | ((with_reducible refine zK ?_); refine zJ rfl ?_) | ((with_reducible refine zE ?_); refine zF rfl ?_) | ((with_reducible refine zM ?_); refine zI tbOk rfl rfl rfl rfl ?_) | ((with_reducible refine zp ?_); refine zq tbOk rfl rfl rfl rfl rfl rfl rfl (Nat.le_of_ble_eq_true rfl) rfl ?_) | ((with_reducible refine zQ ?_); refine zg rfl rfl (by omega) ?_)  | refine zL ?_ | refine zB rfl ?_ | with_reducible (first | refine zG ?_ | refine zu ?_) | ((with_reducible refine zA ?_ ?_); kernel_rfl))
        exact ⟨(k + 1 + 2, ⟨d, Z, K ++ [x], []⟩), ⟨by show k + 1 + 2 ≤ (a :: b :: ls).length; simp; omega, ⟨a, b, ls, rfl, hfa, hzb, hgo, by show (K ++ [x]).length ≤ k + 1; rw [List.length_append, List.length_singleton]; omega, Nat.zero_le _⟩⟩, by show (a :: b :: ls).length - (k + 1 + 2) < (a :: b :: ls).length - (k + 1 + 1); simp; omega, ⟨rfl, rfl, rfl, rfl, rfl, trivial⟩, ⟨rfl, rfl, rfl, rfl, jr (by rw [List.map_append]; rfl), rfl, trivial⟩⟩
      · have hge : ls.length ≤ k := by simp at h; omega
        rw [List.drop_of_length_le hge, bR]
        dsimp only
        have hca : ∀ w ∈ yP a, w.length ≤ 1000000 := fun w hw => by have := aN (show w ∈ wl [] a from hw); have := hLw a (by simp); simp at *; omega
        have hs1 := pW hca
        rw [hfa] at hs1
        have hs2 := mO N (yP b)
        rw [hzb] at hs2
        have hwb : (yP b).length ≤ b.length + 1 := jn
        have hlb := hLw b (by simp)
        have od : DcSz { d with zone := Z, lk := K, ce := C } := ⟨by show Z.length ≤ maxLen; unfold maxLen; simp at hs2; omega, by show K.length ≤ maxLen; unfold maxLen; omega, by show d.iss.size ≤ maxLen; have := hs1.1; unfold maxLen; simp at this; omega, by show d.hol.size ≤ maxLen; have := hs1.2.1; unfold maxLen; simp at this; omega, by show C.length ≤ maxLen; unfold maxLen; omega⟩
        have hc2 : decide (((((a :: b :: ls).map svL).length : Nat) : Int) < 2) = false := by simp; omega
        have hck := gN (G := X.G) N V { d with zone := Z, lk := K, ce := C } hG ok od
        obtain ⟨E, hE⟩ : ∃ E, E = docE N V { d with zone := Z, lk := K, ce := C } := ⟨_, rfl⟩
        have he1 : E ≠ 0 → endD N V (.ok { d with zone := Z, lk := K, ce := C }) = (Dc.zer, 0, E) := fun h => by unfold endD; dsimp only; rw [← hE, if_pos h]
        have he2 : E = 0 → endD N V (.ok { d with zone := Z, lk := K, ce := C }) = ({ d with zone := Z, lk := K, ce := C }, 0, 0) := fun h => by unfold endD; dsimp only; rw [← hE, if_neg (by simpa using h)]
        rw [← hE] at hck
        repeat (first   | with_reducible (first | refine zG ?_ | refine zo ?_ | refine zH ?_ | refine yB ?_) | ((with_reducible refine ze ?_ ?_); rfl))
        refine yi (s := 122) [] [(10, ncD d (.sl 1 (Z.map iv)) (.own 161 (v 161)) (.own 76 (v 76)))] rfl trivial ⟨⟨_, _, rfl, .same (.same (.same (.same (.hit (.same (.same (.same (.same (.same (.same (.same .nil)))))))))))⟩, trivial⟩ ?_
        refine yi (s := 161) [] [(10, ncD d (.sl 1 (Z.map iv)) (.sl 3 (K.map Lk.av)) (.own 76 (v 76)))] rfl trivial ⟨⟨_, _, rfl, .same (.same (.same (.same (.same (.same (.hit (.same (.same (.same (.same (.same .nil)))))))))))⟩, trivial⟩ ?_
        refine yi (s := 76) [] [(10, ncD d (.sl 1 (Z.map iv)) (.sl 3 (K.map Lk.av)) (.sl 1 (C.map iv)))] rfl trivial ⟨⟨_, _, rfl, .same (.same (.same (.same (.same (.same (.same (.same (.same (.same (.same (.hit .nil)))))))))))⟩, trivial⟩ ?_
        repeat (first | ((with_reducible refine zK ?_); refine zJ rfl ?_) | ((with_reducible refine zR ?_); refine zk tbOk rfl rfl rfl rfl (Nat.le_of_ble_eq_true rfl) ?_) | ((with_reducible refine zt ?_); refine yH tbOk rfl rfl ?_) | ((with_reducible refine zQ ?_); refine zT rfl rfl rfl ?_)  | refine zL ?_ | refine zB rfl ?_ | with_reducible (first | refine zG ?_ | refine zH ?_ | refine zS ?_) | ((with_reducible refine zA ?_ ?_); kernel_rfl) | refine yF rfl (by first | rfl | assumption) ?_)
        refine zC (hck) ?_
        repeat (first | ((with_reducible refine zK ?_); refine zJ rfl ?_) | ((with_reducible refine zE ?_); refine zF rfl ?_) | ((with_reducible refine zQ ?_); refine zT rfl rfl rfl ?_)  | refine zL ?_ | refine zB rfl ?_ | with_reducible (first | refine zG ?_ | refine zH ?_) | ((with_reducible refine zA ?_ ?_); kernel_rfl))
        refine zZ rfl (fun q => ?_) (fun q => ?_)
        · rw [he1 (by simpa using q)]
          repeat (first | ((with_reducible refine zK ?_); refine zJ rfl ?_) | ((with_reducible refine zE ?_); refine zF rfl ?_) | ((with_reducible refine zp ?_); refine zq tbOk rfl rfl rfl rfl rfl rfl rfl (Nat.le_of_ble_eq_true rfl) rfl ?_) | ((with_reducible refine yM ?_); refine yN tbOk rfl rfl rfl rfl rfl ?_)  | refine zL ?_ | refine zB rfl ?_ | with_reducible (first | refine zG ?_ | refine zO ?_ | refine zH ?_ | refine zN ?_) | ((with_reducible refine zA ?_ ?_); kernel_rfl))
          refine yU (by first | exact .inr rfl | exact .inl rfl) rfl rfl rfl rfl rfl rfl rfl ?_
          repeat' (first | exact trivial | exact Ren.v _ | exact Ren.sl _ _ | exact Ren.ep _ | exact Ren.ptr _ _ _ _ rfl | exact Ren.bs _ _ _ _ _ rfl | exact Ren.nil _ | exact Ren.own _ _ _ _ ⟨_, rfl⟩ | refine zi ?_ | refine zj ?_ | refine zl ?_ | refine ⟨?_, ?_⟩)
        · rw [he2 (by simpa using q)]
          repeat (first | ((with_reducible refine zE ?_); refine zF rfl ?_) | ((with_reducible refine zR ?_); refine zk tbOk rfl rfl rfl rfl (Nat.le_of_ble_eq_true rfl) ?_) | ((with_reducible refine zp ?_); refine zq tbOk rfl rfl rfl rfl rfl rfl rfl (Nat.le_of_ble_eq_true rfl) rfl ?_)  | refine zL ?_ | refine zB rfl ?_ | with_reducible (first | refine zG ?_ | refine zH ?_ | refine zS ?_ | refine zN ?_) | ((with_reducible refine zA ?_ ?_); kernel_rfl))
          refine yU (by first | exact .inr rfl | exact .inl rfl) rfl rfl rfl rfl rfl rfl rfl ?_
          repeat' (first | exact trivial | exact Ren.v _ | exact Ren.sl _ _ | exact Ren.ep _ | exact Ren.ptr _ _ _ _ rfl | exact Ren.bs _ _ _ _ _ rfl | exact Ren.nil _ | exact Ren.own _ _ _ _ ⟨_, rfl⟩ | refine zi ?_ | refine zj ?_ | refine zl ?_ | refine ⟨?_, ?_⟩)
end Go.Proofs.YtjamibeffalhaaaGreatDoor
