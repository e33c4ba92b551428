/- document.Parse, by the abstract machine: a text is read as the plain function reads it; conditions: the table of classes and a cell of the library stand. -/
import Derived.Test.YtjamibeffalhaaaGreatDoorDxF
set_option linter.unusedVariables false
set_option linter.unusedSimpArgs false
namespace Go.Proofs.YtjamibeffalhaaaGreatDoor
open Go Go.RowKit
set_option maxRecDepth 10000
variable {G : Nat → Option (List Value)}
@[reducible] def z12 : List AV := [.v (.int .i64 0), .v (.int .i64 0), .v (.int .i64 0), .v (.int .i64 0), .v (.slice none 0 0), .v (.int .i64 0), .v (.slice none 0 0), .v (.string ⟨#[]⟩), .v (.string ⟨#[]⟩), .v (.int .i64 0), .v (.int .i64 0), .v (.slice none 0 0)]
structure Rst where
  d : Dc
  z : List Int
  k : List Lk
  c : List Int
def mX (N : List Nd) (V : List Dv) (v : Nat → Nat) (r : Rst) : Nat → List (Nat × Cont)
  | 0 => [(2, .box [.sl 3 (N.map Nd.av), .sl 5 (V.map Dv.av)]), (4, .box z12), (31, .box (rdC N V Dc.zer nilA nilA nilA))]
  | 1 => [(2, .box [.sl 3 (N.map Nd.av), .sl 5 (V.map Dv.av)]), (4, .box z12), (31, .box (rdC N V r.d nilA nilA nilA))]
  | _ + 2 => [(2, .box [.sl 3 (N.map Nd.av), .sl 5 (V.map Dv.av)]), (4, .box z12), (31, .box (rdC N V r.d (.sl 1 (r.z.map iv)) (.own 901 (v 901)) (.own 902 (v 902)))), (901, .buf 65 3 (r.k.map Lk.av)), (902, .buf 3 1 (r.c.map iv))]
def InvR (N : List Nd) (V : List Dv) (L : List (List UInt8)) (r : Rst) : Nat → Prop
  | 0 => True
  | 1 => ∃ a ls, L = a :: ls ∧ jI (yP a) = (r.d, 0)
  | k + 2 => ∃ a b ls, L = a :: b :: ls ∧ jI (yP a) = (r.d, 0) ∧ qD N (yP b) = (r.z, 0) ∧ bR V (k + 2) r.k r.c (ls.drop k) = bR V 2 [] [] ls ∧ r.k.length ≤ k ∧ r.c.length ≤ k
theorem uN (V : List Dv) (K : List Lk) (C : List Int) (W : List (List UInt8)) : (jN V K C W).1.length ≤ K.length + 1 ∧ (jN V K C W).2.1.length ≤ C.length + 1 := by
  unfold jN jU cE
  split
  · simp
  split
  · split <;> simp
  split
  · split <;> simp
  · simp
theorem kD : ∀ (P W B R : List (List UInt8)), valR P W B = some R → ∀ w ∈ R, w ∈ B ∨ w ∈ W
  | [], W, B, R, h, w, hw => by rw [valR] at h; injection h with h; subst h; exact .inl hw
  | p :: P, [], B, R, h, w, hw => by rw [valR] at h; cases h
  | p :: P, x :: W, B, R, h, w, hw => by
    rw [valR] at h
    split at h
    · rcases kD P W _ R h w hw with h1 | h1
      · rcases List.mem_append.1 h1 with h1 | h1
        · exact .inl h1
        · exact .inr (by simp at h1; simp [h1])
      · exact .inr (by simp [h1])
    split at h
    · rcases kD P W _ R h w hw with h1 | h1
      · exact .inl h1
      · exact .inr (by simp [h1])
    · cases h
theorem pW {W : List (List UInt8)} {b : Nat} (hw : ∀ w ∈ W, w.length ≤ b) : (jI W).1.iss.size ≤ b ∧ (jI W).1.hol.size ≤ b ∧ (jI W).1.zone = [] := by
  have z : Dc.zer.iss.size ≤ b ∧ Dc.zer.hol.size ≤ b ∧ Dc.zer.zone = [] := ⟨Nat.zero_le _, Nat.zero_le _, rfl⟩
  unfold jI eY
  split
  · exact z
  split
  · exact z
  split
  · exact z
  · rename_i A hA
    have key : ∀ j, (strL (wAt A j)).size ≤ b := fun j => by
      rw [zy]
      unfold wAt
      cases hq : A[j]? with
      | none => simp
      | some x =>
        rcases kD yS W [] A hA x (List.mem_of_getElem? hq) with h1 | h1
        · cases h1
        · exact hw x h1
    exact ⟨key 5, key 6, rfl⟩
theorem tO (N : List Nd) : ∀ (W : List (List UInt8)) (Z : List Int), (zGo N W Z).1.length ≤ Z.length + W.length
  | [], Z => by rw [zGo]; simp
  | w :: W, Z => by
    rw [zGo]
    split
    · simp
    · have := tO N W (Z ++ [nodI w 0 N])
      simp at this ⊢; omega
theorem mO (N : List Nd) (W : List (List UInt8)) : (qD N W).1.length ≤ W.length := by
  unfold qD gY
  split
  · simp
  split
  · simp
  · have := tO N (W.drop 1) []
    simp at this ⊢; omega
theorem tQ {N : List Nd} {V : List Dv} {s : List UInt8} {L : List (List UInt8)} (hn : netE N V = 0) (hs : qC s = some L) : jf N V s = endD N V (goD N V L) := by
  unfold jf
  rw [if_neg (by simpa using hn), hs]
theorem pO {N : List Nd} {V : List Dv} {a : List UInt8} {l : List (List UInt8)} (h : (jI (yP a)).2 ≠ 0) : goD N V (a :: l) = .error (1, (jI (yP a)).2) := if_pos h
theorem wK {N : List Nd} {V : List Dv} {a : List UInt8} (h : (jI (yP a)).2 = 0) : goD N V [a] = .error (2, 2) := if_neg (by simpa using h)
theorem nU {N : List Nd} {V : List Dv} {a b : List UInt8} {ls : List (List UInt8)} (h : (jI (yP a)).2 = 0) : goD N V (a :: b :: ls) = if (qD N (yP b)).2 ≠ 0 then .error (2, (qD N (yP b)).2) else match bR V 2 [] [] ls with
      | .error e => .error e
      | .ok (K, C) => .ok { (jI (yP a)).1 with zone := (qD N (yP b)).1, lk := K, ce := C } := if_neg (by simpa using h)
set_option maxHeartbeats 16000000 in
theorem oT (N : List Nd) (V : List Dv) (s : ByteArray) (hG : GCls G) (hM : GMax G) (ok : NwOk N V) (hs : s.size ≤ 900000) :
    zz Tryz.prog G 15 [jo N V, .v (.string s)] [] (.tu [(jf N V s.data.toList).1.av, .v (.int .i64 (jf N V s.data.toList).2.1), .v (.int .i64 (jf N V s.data.toList).2.2)]) [] := by
  have hz := bU s
  obtain ⟨hLl, hLw⟩ := lL (l := s.data.toList)
  have hlin := lines_A (G := G) s hM (by omega)
  by_cases hn0 : netE N V ≠ 0
  · have e : jf N V s.data.toList = (Dc.zer, 0, netE N V) := by unfold jf; rw [if_pos hn0]
    rw [e]
    refine zb tbOk (zc Tryz.func15 (by kernel_rfl) rfl) Tryz.func15 rfl _ Tryz.ntmps15 (Nat.le_of_ble_eq_true rfl) fun X hX => ?_
    subst hX
    repeat (first | ((with_reducible refine zE ?_); refine zF rfl ?_) | ((with_reducible refine zR ?_); refine zk tbOk rfl rfl rfl rfl (Nat.le_of_ble_eq_true rfl) ?_) | ((with_reducible refine yR ?_); refine yQ tbOk rfl rfl ?_) | ((with_reducible refine yr ?_); refine yu rfl rfl rfl ?_)  | refine zL ?_ | refine zB rfl ?_ | with_reducible (first | refine zG ?_ | refine zH ?_) | ((with_reducible refine zA ?_ ?_); kernel_rfl))
    refine zC (jx N V hG ok.n ok.v ok.l1 ok.l2) ?_
    repeat (first | ((with_reducible refine zK ?_); refine zJ rfl ?_) | ((with_reducible refine zE ?_); refine zF rfl ?_) | ((with_reducible refine zQ ?_); refine zT rfl rfl rfl ?_)  | refine zL ?_ | refine zB rfl ?_ | with_reducible (first | refine zG ?_ | refine zH ?_) | ((with_reducible refine zA ?_ ?_); kernel_rfl))
    refine zZ rfl (fun h => ?_) (fun h => ?_)
    · repeat (first | ((with_reducible refine zK ?_); refine zJ rfl ?_) | ((with_reducible refine zE ?_); refine zF rfl ?_) | ((with_reducible refine zp ?_); refine zq tbOk rfl rfl rfl rfl rfl rfl rfl (Nat.le_of_ble_eq_true rfl) rfl ?_) | ((with_reducible refine yM ?_); refine yN tbOk rfl rfl rfl rfl rfl ?_)  | refine zL ?_ | refine zB rfl ?_ | with_reducible (first | refine zG ?_ | refine zO ?_ | refine zH ?_ | refine zN ?_) | ((with_reducible refine zA ?_ ?_); kernel_rfl))
      refine yU (by first | exact .inr rfl | exact .inl rfl) rfl rfl rfl rfl rfl rfl rfl ?_
      repeat' (first | exact trivial | exact Ren.v _ | exact Ren.sl _ _ | exact Ren.ep _ | exact Ren.ptr _ _ _ _ rfl | exact Ren.bs _ _ _ _ _ rfl | exact Ren.nil _ | exact Ren.own _ _ _ _ ⟨_, rfl⟩ | refine zi ?_ | refine zj ?_ | refine zl ?_ | refine ⟨?_, ?_⟩)
    · exact absurd (by simpa using h) hn0
  have hn : netE N V = 0 := by simpa using hn0
  cases hq : qC s.data.toList with
  | none =>
    rw [hq] at hlin
    have e : jf N V s.data.toList = (Dc.zer, 0, 2) := by unfold jf; rw [if_neg hn0, hq]
    rw [e]
    refine zb tbOk (zc Tryz.func15 (by kernel_rfl) rfl) Tryz.func15 rfl _ Tryz.ntmps15 (Nat.le_of_ble_eq_true rfl) fun X hX => ?_
    subst hX
    repeat (first | ((with_reducible refine zE ?_); refine zF rfl ?_) | ((with_reducible refine zR ?_); refine zk tbOk rfl rfl rfl rfl (Nat.le_of_ble_eq_true rfl) ?_) | ((with_reducible refine yR ?_); refine yQ tbOk rfl rfl ?_) | ((with_reducible refine yr ?_); refine yu rfl rfl rfl ?_)  | refine zL ?_ | refine zB rfl ?_ | with_reducible (first | refine zG ?_ | refine zH ?_) | ((with_reducible refine zA ?_ ?_); kernel_rfl))
    refine zC (jx N V hG ok.n ok.v ok.l1 ok.l2) ?_
    repeat (first | ((with_reducible refine zK ?_); refine zJ rfl ?_) | ((with_reducible refine zE ?_); refine zF rfl ?_) | ((with_reducible refine zQ ?_); refine zT rfl rfl rfl ?_)  | refine zL ?_ | refine zB rfl ?_ | with_reducible (first | refine zG ?_ | refine zH ?_) | ((with_reducible refine zA ?_ ?_); kernel_rfl))
    refine zZ rfl (fun h => ?_) (fun h => ?_)
    · exact absurd (by simpa using h) hn0
    repeat (first | ((with_reducible refine zK ?_); refine zJ rfl ?_)  | refine zB rfl ?_ | with_reducible (first | refine zG ?_ | refine zH ?_ | refine zS ?_) | ((with_reducible refine zA ?_ ?_); kernel_rfl))
    refine zC (hlin) ?_
    repeat (first | ((with_reducible refine zK ?_); refine zJ rfl ?_) | ((with_reducible refine zE ?_); refine zF rfl ?_) | ((with_reducible refine zp ?_); refine zq tbOk rfl rfl rfl rfl rfl rfl rfl (Nat.le_of_ble_eq_true rfl) rfl ?_) | ((with_reducible refine k_un ?_); refine jF rfl ?_) | ((with_reducible refine ye ?_); refine yd rfl rfl ?_) | ((with_reducible refine yM ?_); refine yN tbOk rfl rfl rfl rfl rfl ?_)  | refine zL ?_ | refine zB rfl ?_ | with_reducible (first | refine zG ?_ | refine zO ?_ | refine zH ?_ | refine zN ?_) | ((with_reducible refine zA ?_ ?_); kernel_rfl) | refine zn rfl (by first | rfl | assumption) ?_)
    refine yU (by first | exact .inr rfl | exact .inl rfl) rfl rfl rfl rfl rfl rfl rfl ?_
    repeat' (first | exact trivial | exact Ren.v _ | exact Ren.sl _ _ | exact Ren.ep _ | exact Ren.ptr _ _ _ _ rfl | exact Ren.bs _ _ _ _ _ rfl | exact Ren.nil _ | exact Ren.own _ _ _ _ ⟨_, rfl⟩ | refine zi ?_ | refine zj ?_ | refine zl ?_ | refine ⟨?_, ?_⟩)
  | some L =>
    rw [hq, Option.getD_some] at hLl hLw
    rw [hq] at hlin
    rw [Option.getD_some] at hlin
    rw [tQ hn hq]
    refine zb tbOk (zc Tryz.func15 (by kernel_rfl) rfl) Tryz.func15 rfl _ Tryz.ntmps15 (Nat.le_of_ble_eq_true rfl) fun X hX => ?_
    subst hX
    repeat (first | ((with_reducible refine zE ?_); refine zF rfl ?_) | ((with_reducible refine zR ?_); refine zk tbOk rfl rfl rfl rfl (Nat.le_of_ble_eq_true rfl) ?_) | ((with_reducible refine yR ?_); refine yQ tbOk rfl rfl ?_) | ((with_reducible refine yr ?_); refine yu rfl rfl rfl ?_)  | refine zL ?_ | refine zB rfl ?_ | with_reducible (first | refine zG ?_ | refine zH ?_) | ((with_reducible refine zA ?_ ?_); kernel_rfl))
    refine zC (jx N V hG ok.n ok.v ok.l1 ok.l2) ?_
    repeat (first | ((with_reducible refine zK ?_); refine zJ rfl ?_) | ((with_reducible refine zE ?_); refine zF rfl ?_) | ((with_reducible refine zQ ?_); refine zT rfl rfl rfl ?_)  | refine zL ?_ | refine zB rfl ?_ | with_reducible (first | refine zG ?_ | refine zH ?_) | ((with_reducible refine zA ?_ ?_); kernel_rfl))
    refine zZ rfl (fun h => ?_) (fun h => ?_)
    · exact absurd (by simpa using h) hn0
    repeat (first | ((with_reducible refine zK ?_); refine zJ rfl ?_)  | refine zB rfl ?_ | with_reducible (first | refine zG ?_ | refine zH ?_ | refine zS ?_) | ((with_reducible refine zA ?_ ?_); kernel_rfl))
    refine zC (hlin) ?_
    repeat (first | ((with_reducible refine zK ?_); refine zJ rfl ?_) | ((with_reducible refine zE ?_); refine zF rfl ?_) | ((with_reducible refine zR ?_); refine zk tbOk rfl rfl rfl rfl (Nat.le_of_ble_eq_true rfl) ?_) | ((with_reducible refine yr ?_); refine yu rfl rfl rfl ?_) | ((with_reducible refine k_un ?_); refine jF rfl ?_) | ((with_reducible refine ye ?_); refine yd rfl rfl ?_) | ((with_reducible refine yM ?_); refine yN tbOk rfl rfl rfl rfl rfl ?_) | ((with_reducible refine zt ?_); refine yH tbOk rfl rfl ?_)  | refine zL ?_ | refine zB rfl ?_ | with_reducible (first | refine zG ?_ | refine zH ?_ | refine zY ?_ | refine zS ?_) | ((with_reducible refine zA ?_ ?_); kernel_rfl) | refine yF rfl (by first | rfl | assumption) ?_)
    refine yL (ι := Nat × Rst) (fun i => i.1 ≤ L.length ∧ InvR N V L i.2 i.1) (fun i => L.length - i.1) (fun v i => [(2, .ptr 2 (v 2) 0), (4, .ptr 4 (v 4) 0), (8, .sl 1 (L.map svL)), (10, .ptr 31 (v 31) 0), (32, .sl 1 (L.map svL)), (33, .v (.int .i64 (L.map svL).length)), (34, .v (.int .i64 (i.1 : Nat)))]) (fun v i => mX N V v i.2 i.1) ?_ ?_
    · exact ⟨(0, ⟨Dc.zer, [], [], []⟩), ⟨Nat.zero_le _, trivial⟩, trivial, ⟨rfl, rfl, rfl, rfl, rfl, rfl, rfl, trivial⟩, ⟨rfl, rfl, rfl, trivial⟩⟩
    clear h
    rintro v ⟨k, r⟩ ⟨hk, hi⟩
    dsimp only at hk hi ⊢
    rcases k with _ | _ | k
    · dsimp only [mX]
      repeat (first | ((with_reducible refine zQ ?_); refine zT rfl rfl rfl ?_)  | refine zL ?_ | refine zB rfl ?_ | with_reducible (first | refine zG ?_ | refine zH ?_) | ((with_reducible refine zA ?_ ?_); kernel_rfl))
      refine zZ rfl (fun h => ?_) (fun h => ?_)
      · have hlt : 0 < L.length := by simpa using h
        cases L with
        | nil => simp at hlt
        | cons a ls =>
          have hla := hLw a (by simp)
          have hy : ((a :: ls).map svL)[((0 : Nat) : Int).toNat]? = some (svL a) := rfl
          have hwc : (yP a).length ≤ a.length + 1 := jn
          have hwm : ∀ w ∈ yP a, w.length ≤ 1000000 := fun w hw => by have := aN (show w ∈ wl [] a from hw); simp at this; omega
          have hwd := nP (G := X.G) (strL a) (by rw [zy]; omega)
          rw [yy] at hwd
          repeat (first | ((with_reducible refine zK ?_); refine zJ rfl ?_) | ((with_reducible refine zE ?_); refine zF rfl ?_) | ((with_reducible refine zR ?_); refine zW tbOk rfl rfl rfl ?_) | ((with_reducible refine zU ?_); refine zX tbOk rfl rfl rfl rfl (by assumption) ?_)  | refine zL ?_ | refine zB rfl ?_ | with_reducible (first | refine zG ?_ | refine zH ?_ | refine zY ?_ | refine zS ?_) | ((with_reducible refine zA ?_ ?_); kernel_rfl))
          refine zC (hwd) ?_
          repeat (first   | refine zB rfl ?_  )
          refine zD (ss := [(31, v 31)]) (line0_A N V (yP a) (by omega) hwm) (by simp) (in1 rfl rfl) rfl (ya rfl) ?_
          repeat (first | ((with_reducible refine zK ?_); refine zJ rfl ?_) | ((with_reducible refine zE ?_); refine zF rfl ?_) | ((with_reducible refine zQ ?_); refine zT rfl rfl rfl ?_)  | refine zL ?_ | refine zB rfl ?_ | with_reducible (first | refine zG ?_ | refine zH ?_) | ((with_reducible refine zA ?_ ?_); kernel_rfl))
          refine zZ rfl (fun q => ?_) (fun q => ?_)
          · rw [pO (by simpa using q)]
            repeat (first | ((with_reducible refine zK ?_); refine zJ rfl ?_) | ((with_reducible refine zE ?_); refine zF rfl ?_) | ((with_reducible refine zp ?_); refine zq tbOk rfl rfl rfl rfl rfl rfl rfl (Nat.le_of_ble_eq_true rfl) rfl ?_) | ((with_reducible refine yM ?_); refine yN tbOk rfl rfl rfl rfl rfl ?_) | ((with_reducible refine zQ ?_); refine zg rfl rfl (by omega) ?_)  | refine zL ?_ | refine zB rfl ?_ | with_reducible (first | refine zG ?_ | refine zO ?_ | refine zV ?_ | refine zH ?_ | refine zN ?_) | ((with_reducible refine zA ?_ ?_); kernel_rfl))
            refine yU (by first | exact .inr rfl | exact .inl rfl) rfl rfl rfl rfl rfl rfl rfl ?_
            repeat' (first | exact trivial | exact Ren.v _ | exact Ren.sl _ _ | exact Ren.ep _ | exact Ren.ptr _ _ _ _ rfl | exact Ren.bs _ _ _ _ _ rfl | exact Ren.nil _ | exact Ren.own _ _ _ _ ⟨_, rfl⟩ | refine zi ?_ | refine zj ?_ | refine zl ?_ | refine ⟨?_, ?_⟩)
          · repeat (first | ((with_reducible refine zK ?_); refine zJ rfl ?_) | ((with_reducible refine zQ ?_); refine zg rfl rfl (by omega) ?_)  | refine zL ?_ | refine zB rfl ?_ | with_reducible (first | refine zG ?_ | refine zu ?_ | refine zS ?_) | ((with_reducible refine zA ?_ ?_); kernel_rfl))
            exact ⟨(1, ⟨(jI (yP a)).1, [], [], []⟩), ⟨by show 1 ≤ (a :: ls).length; simp, ⟨a, ls, rfl, Prod.ext rfl (by simpa using q)⟩⟩, by show (a :: ls).length - 1 < (a :: ls).length - 0; simp, ⟨rfl, rfl, rfl, rfl, rfl, rfl, rfl, trivial⟩, ⟨rfl, rfl, rfl, trivial⟩⟩
      · have hge : L = [] := by simpa using h
        subst hge
        repeat (first | ((with_reducible refine zK ?_); refine zJ rfl ?_) | ((with_reducible refine zE ?_); refine zF rfl ?_) | ((with_reducible refine zp ?_); refine zq tbOk rfl rfl rfl rfl rfl rfl rfl (Nat.le_of_ble_eq_true rfl) rfl ?_) | ((with_reducible refine yM ?_); refine yN tbOk rfl rfl rfl rfl rfl ?_) | ((with_reducible refine zt ?_); refine yH tbOk rfl rfl ?_) | ((with_reducible refine zQ ?_); refine zT rfl rfl rfl ?_)  | refine zL ?_ | refine zB rfl ?_ | with_reducible (first | refine zG ?_ | refine zo ?_ | refine zO ?_ | refine zH ?_ | refine yB ?_ | refine zN ?_) | ((with_reducible refine ze ?_ ?_); rfl) | ((with_reducible refine zA ?_ ?_); kernel_rfl) | refine zn rfl (by first | rfl | assumption) ?_)
        refine yU (by first | exact .inr rfl | exact .inl rfl) rfl rfl rfl rfl rfl rfl rfl ?_
        repeat' (first | exact trivial | exact Ren.v _ | exact Ren.sl _ _ | exact Ren.ep _ | exact Ren.ptr _ _ _ _ rfl | exact Ren.bs _ _ _ _ _ rfl | exact Ren.nil _ | exact Ren.own _ _ _ _ ⟨_, rfl⟩ | refine zi ?_ | refine zj ?_ | refine zl ?_ | refine ⟨?_, ?_⟩)
    · obtain ⟨a, ls, hL, hfa⟩ := hi
      subst hL
      dsimp only [mX]
      repeat (first | ((with_reducible refine zQ ?_); refine zT rfl rfl rfl ?_)  | refine zL ?_ | refine zB rfl ?_ | with_reducible (first | refine zG ?_ | refine zH ?_) | ((with_reducible refine zA ?_ ?_); kernel_rfl))
      refine zZ rfl (fun h => ?_) (fun h => ?_)
      · have hlt : 1 < (a :: ls).length := by simp at h ⊢; omega
        cases ls with
        | nil => simp at hlt
        | cons b ls =>
          have hlb := hLw b (by simp)
          have hy : ((a :: b :: ls).map svL)[((1 : Nat) : Int).toNat]? = some (svL b) := rfl
          have hwc : (yP b).length ≤ b.length + 1 := jn
          have hwm : ∀ w ∈ yP b, w.length ≤ 1000000 := fun w hw => by have := aN (show w ∈ wl [] b from hw); simp at this; omega
          have hwd := nP (G := X.G) (strL b) (by rw [zy]; omega)
          rw [yy] at hwd
          have hg2 := nU (N := N) (V := V) (a := a) (b := b) (ls := ls) (by rw [hfa])
          repeat (first | ((with_reducible refine zK ?_); refine zJ rfl ?_) | ((with_reducible refine zE ?_); refine zF rfl ?_) | ((with_reducible refine zR ?_); refine zW tbOk rfl rfl rfl ?_) | ((with_reducible refine zU ?_); refine zX tbOk rfl rfl rfl rfl (by assumption) ?_)  | refine zL ?_ | refine zB rfl ?_ | with_reducible (first | refine zG ?_ | refine zH ?_ | refine zY ?_ | refine zS ?_) | ((with_reducible refine zA ?_ ?_); kernel_rfl))
          refine zC (hwd) ?_
          repeat (first   | refine zB rfl ?_  )
          refine zD (ss := [(31, v 31)]) (line1_A N V r.d (yP b) hG ok hn (by omega) hwm) (by simp) (in1 rfl rfl) rfl (ya rfl) ?_
          repeat (first | ((with_reducible refine zK ?_); refine zJ rfl ?_) | ((with_reducible refine zE ?_); refine zF rfl ?_) | ((with_reducible refine zQ ?_); refine zT rfl rfl rfl ?_)  | refine zL ?_ | refine zB rfl ?_ | with_reducible (first | refine zG ?_ | refine zH ?_) | ((with_reducible refine zA ?_ ?_); kernel_rfl))
          refine zZ rfl (fun q => ?_) (fun q => ?_)
          · rw [hg2, if_pos (by simpa using q)]
            repeat (first | ((with_reducible refine zK ?_); refine zJ rfl ?_) | ((with_reducible refine zE ?_); refine zF rfl ?_) | ((with_reducible refine zp ?_); refine zq tbOk rfl rfl rfl rfl rfl rfl rfl (Nat.le_of_ble_eq_true rfl) rfl ?_) | ((with_reducible refine yM ?_); refine yN tbOk rfl rfl rfl rfl rfl ?_) | ((with_reducible refine zQ ?_); refine zg rfl rfl (by omega) ?_)  | refine zL ?_ | refine zB rfl ?_ | with_reducible (first | refine zG ?_ | refine zO ?_ | refine zV ?_ | refine zH ?_ | refine zN ?_) | ((with_reducible refine zA ?_ ?_); kernel_rfl))
            refine yU (by first | exact .inr rfl | exact .inl rfl) rfl rfl rfl rfl rfl rfl rfl ?_
            repeat' (first | exact trivial | exact Ren.v _ | exact Ren.sl _ _ | exact Ren.ep _ | exact Ren.ptr _ _ _ _ rfl | exact Ren.bs _ _ _ _ _ rfl | exact Ren.nil _ | exact Ren.own _ _ _ _ ⟨_, rfl⟩ | refine zi ?_ | refine zj ?_ | refine zl ?_ | refine ⟨?_, ?_⟩)
          · refine jb (s := 901) 65 3 [] [(31, rdC N V r.d (.sl 1 ((qD N (yP b)).1.map iv)) (.own 901 (v 901 + 1)) nilA)] rfl trivial ⟨⟨_, _, rfl, .same (.same (.same (.same (.same (.same (.same (.same (.hit (.same (.same (.same (.same (.same .nil)))))))))))))⟩, trivial⟩ ?_
            refine jb (s := 902) 3 1 [] [(31, rdC N V r.d (.sl 1 ((qD N (yP b)).1.map iv)) (.own 901 (v 901 + 1)) (.own 902 (v 902 + 1)))] rfl trivial ⟨⟨_, _, rfl, .same (.same (.same (.same (.same (.same (.same (.same (.same (.same (.same (.same (.same (.hit .nil)))))))))))))⟩, trivial⟩ ?_
            repeat (first | ((with_reducible refine zK ?_); refine zJ rfl ?_) | ((with_reducible refine zQ ?_); refine zg rfl rfl (by omega) ?_)  | refine zL ?_ | refine zB rfl ?_ | with_reducible (first | refine zG ?_ | refine zu ?_ | refine zS ?_) | ((with_reducible refine zA ?_ ?_); kernel_rfl))
            exact ⟨(2, ⟨r.d, (qD N (yP b)).1, [], []⟩), ⟨by show 2 ≤ (a :: b :: ls).length; simp, ⟨a, b, ls, rfl, hfa, Prod.ext rfl (by simpa using q), by simp, by simp, by simp⟩⟩, by show (a :: b :: ls).length - 2 < (a :: b :: ls).length - 1; simp, ⟨rfl, rfl, rfl, rfl, rfl, rfl, rfl, trivial⟩, ⟨rfl, rfl, rfl, rfl, rfl, trivial⟩⟩
      · have hge : ls = [] := by
          cases ls with
          | nil => rfl
          | cons b ls => exfalso; simp at h; omega
        subst hge
        rw [wK (by rw [hfa])]
        repeat (first | ((with_reducible refine zK ?_); refine zJ rfl ?_) | ((with_reducible refine zE ?_); refine zF rfl ?_) | ((with_reducible refine zp ?_); refine zq tbOk rfl rfl rfl rfl rfl rfl rfl (Nat.le_of_ble_eq_true rfl) rfl ?_) | ((with_reducible refine yM ?_); refine yN tbOk rfl rfl rfl rfl rfl ?_) | ((with_reducible refine zt ?_); refine yH tbOk rfl rfl ?_) | ((with_reducible refine zQ ?_); refine zT rfl rfl rfl ?_)  | refine zL ?_ | refine zB rfl ?_ | with_reducible (first | refine zG ?_ | refine zo ?_ | refine zO ?_ | refine zH ?_ | refine yB ?_ | refine zN ?_) | ((with_reducible refine ze ?_ ?_); rfl) | ((with_reducible refine zA ?_ ?_); kernel_rfl) | refine zn rfl (by first | rfl | assumption) ?_)
        refine yU (by first | exact .inr rfl | exact .inl rfl) rfl rfl rfl rfl rfl rfl rfl ?_
        repeat' (first | exact trivial | exact Ren.v _ | exact Ren.sl _ _ | exact Ren.ep _ | exact Ren.ptr _ _ _ _ rfl | exact Ren.bs _ _ _ _ _ rfl | exact Ren.nil _ | exact Ren.own _ _ _ _ ⟨_, rfl⟩ | refine zi ?_ | refine zj ?_ | refine zl ?_ | refine ⟨?_, ?_⟩)
    · obtain ⟨a, b, ls, hL, hfa, hzb, hgo, hKl, hCl⟩ := hi
      obtain ⟨d, Z, K, C⟩ := r
      dsimp only at hfa hzb hgo hKl hCl
      subst hL
      have hg2 := nU (N := N) (V := V) (a := a) (b := b) (ls := ls) (by rw [hfa])
      rw [hfa, hzb, if_neg (by simp), ← hgo] at hg2
      rw [hg2]
      have hkl : k ≤ ls.length := by simp at hk; omega
      have hls : ls.length ≤ 900000 := by simp at hLl; omega
      clear hg2
      dsimp only [mX]
      repeat (first | ((with_reducible refine zQ ?_); refine zT rfl rfl rfl ?_)  | refine zL ?_ | refine zB rfl ?_ | with_reducible (first | refine zG ?_ | refine zH ?_) | ((with_reducible refine zA ?_ ?_); kernel_rfl))
      refine zZ rfl (fun h => ?_) (fun h => ?_)
      · have hlt : k < ls.length := by simp at h; omega
        obtain ⟨l, hl⟩ := zd hlt
        have hll := hLw l (by simp [List.mem_of_getElem? hl])
        have hy : ((a :: b :: ls).map svL)[k + 1 + 1]? = some (svL l) := by rw [List.map_cons, List.map_cons, List.getElem?_cons_succ, List.getElem?_cons_succ]; exact dY hl
        have hwc : (yP l).length ≤ l.length + 1 := jn
        have hwm : ∀ w ∈ yP l, w.length ≤ 1000000 := fun w hw => by have := aN (show w ∈ wl [] l from hw); simp at this; omega
        have hwd := nP (G := X.G) (strL l) (by rw [zy]; omega)
        rw [yy] at hwd
        rw [yT hl, gW] at hgo ⊢
        have hlj := line_J (G := X.G) N V d Z K C (k + 1 + 1) (yP l) (by omega) hG ok hn (by omega) (by omega) (by omega) hwm
        have hrl := uN V K C (yP l)
        obtain ⟨⟨K2, C2, e2⟩, hR⟩ : ∃ q, q = jN V K C (yP l) := ⟨_, rfl⟩
        rw [← hR] at hlj hrl hgo ⊢
        dsimp only at hlj hrl hgo ⊢
        repeat (first | ((with_reducible refine zK ?_); refine zJ rfl ?_) | ((with_reducible refine zE ?_); refine zF rfl ?_) | ((with_reducible refine zR ?_); refine zW tbOk rfl rfl rfl ?_) | ((with_reducible refine zU ?_); refine zX tbOk rfl rfl rfl rfl (by assumption) ?_)  | refine zL ?_ | refine zB rfl ?_ | with_reducible (first | refine zG ?_ | refine zH ?_ | refine zY ?_ | refine zS ?_) | ((with_reducible refine zA ?_ ?_); kernel_rfl))
        refine zC (hwd) ?_
        repeat (first   | refine zB rfl ?_  )
        refine dW (ss := [(31, v 31), (901, v 901), (902, v 902)]) (ss' := [(31, v 31), (901, v 901 + 1), (902, v 902 + 1)]) (cs' := [.box (rdC N V d (.sl 1 (Z.map iv)) (.own 901 (v 901 + 1)) (.own 902 (v 902 + 1))), .buf 65 3 (K2.map Lk.av), .buf 3 1 (C2.map iv)]) (y := .v (.int .i64 e2)) hlj (by repeat' (first | exact trivial | exact Ren.v _ | exact Ren.sl _ _ | exact Ren.ep _ | exact Ren.ptr _ _ _ _ rfl | exact Ren.ownr _ _ _ rfl | exact Ren.bs _ _ _ _ _ rfl | refine zi ?_ | refine zj ?_ | refine zl ?_ | refine ⟨?_, ?_⟩)) (by simp) ⟨⟨_, rfl, by repeat' (first | exact trivial | exact Ren.v _ | exact Ren.sl _ _ | exact Ren.ep _ | exact Ren.ptr _ _ _ _ rfl | exact Ren.ownr _ _ _ rfl | exact Ren.bs _ _ _ _ _ rfl | refine zi ?_ | refine zj ?_ | refine zl ?_ | refine ⟨?_, ?_⟩)⟩, rfl, rfl, trivial⟩ ⟨⟨⟨rfl, rfl⟩, _, rfl, by repeat' (first | exact trivial | exact RenB.v _ | exact RenB.sl _ _ | exact RenB.ep _ | exact RenB.ptr _ _ _ _ rfl | exact RenB.own _ _ _ rfl | refine jX ?_ | refine jW ?_ | refine ⟨?_, ?_⟩)⟩, ⟨⟨rfl, rfl⟩, rfl⟩, ⟨⟨rfl, rfl⟩, rfl⟩, trivial⟩ (by repeat' (first | exact trivial | exact RenB.v _ | exact RenB.sl _ _ | exact RenB.ep _ | exact RenB.ptr _ _ _ _ rfl | exact RenB.own _ _ _ rfl | refine jX ?_ | refine jW ?_ | refine ⟨?_, ?_⟩)) ?_
        repeat (first | ((with_reducible refine zK ?_); refine zJ rfl ?_) | ((with_reducible refine zE ?_); refine zF rfl ?_) | ((with_reducible refine zQ ?_); refine zT rfl rfl rfl ?_)  | refine zL ?_ | refine zB rfl ?_ | with_reducible (first | refine zG ?_ | refine zH ?_) | ((with_reducible refine zA ?_ ?_); kernel_rfl))
        refine zZ rfl (fun q => ?_) (fun q => ?_)
        · rw [if_pos (by simpa using q)]
          repeat (first | ((with_reducible refine zK ?_); refine zJ rfl ?_) | ((with_reducible refine zE ?_); refine zF rfl ?_) | ((with_reducible refine zp ?_); refine zq tbOk rfl rfl rfl rfl rfl rfl rfl (Nat.le_of_ble_eq_true rfl) rfl ?_) | ((with_reducible refine yM ?_); refine yN tbOk rfl rfl rfl rfl rfl ?_) | ((with_reducible refine zQ ?_); refine zg rfl rfl (by omega) ?_)  | refine zL ?_ | refine zB rfl ?_ | with_reducible (first | refine zG ?_ | refine zO ?_ | refine zV ?_ | refine zH ?_ | refine zN ?_) | ((with_reducible refine zA ?_ ?_); kernel_rfl))
          refine yU (by first | exact .inr rfl | exact .inl rfl) rfl rfl rfl rfl rfl rfl rfl ?_
          repeat' (first | exact trivial | exact Ren.v _ | exact Ren.sl _ _ | exact Ren.ep _ | exact Ren.ptr _ _ _ _ rfl | exact Ren.bs _ _ _ _ _ rfl | exact Ren.nil _ | exact Ren.own _ _ _ _ ⟨_, rfl⟩ | refine zi ?_ | refine zj ?_ | refine zl ?_ | refine ⟨?_, ?_⟩)
        · rw [if_neg (by simpa using q)] at hgo ⊢
          rw [hgo]
          repeat (first | ((with_reducible refine zK ?_); refine zJ rfl ?_) | ((with_reducible refine zQ ?_); refine zg rfl rfl (by omega) ?_)  | refine zL ?_ | refine zB rfl ?_ | with_reducible (first | refine zG ?_ | refine zu ?_ | refine zS ?_) | ((with_reducible refine zA ?_ ?_); kernel_rfl))
          exact ⟨(k + 1 + 2, ⟨d, Z, K2, C2⟩), ⟨by show k + 1 + 2 ≤ (a :: b :: ls).length; simp; omega, ⟨a, b, ls, rfl, hfa, hzb, hgo, by show K2.length ≤ k + 1; omega, by show C2.length ≤ k + 1; omega⟩⟩, by show (a :: b :: ls).length - (k + 1 + 2) < (a :: b :: ls).length - (k + 1 + 1); simp; omega, ⟨rfl, rfl, rfl, rfl, rfl, rfl, rfl, trivial⟩, ⟨rfl, rfl, rfl, rfl, rfl, trivial⟩⟩
      · have hge : ls.length ≤ k := by simp at h; omega
        rw [List.drop_of_length_le hge, bR]
        dsimp only
        have hca : ∀ w ∈ yP a, w.length ≤ 1000000 := fun w hw => by have := aN (show w ∈ wl [] a from hw); have := hLw a (by simp); simp at *; omega
        have hs1 := pW hca
        rw [hfa] at hs1
        have hs2 := mO N (yP b)
        rw [hzb] at hs2
        have hwb : (yP b).length ≤ b.length + 1 := jn
        have hlb := hLw b (by simp)
        have od : DcSz { d with zone := Z, lk := K, ce := C } := ⟨by show Z.length ≤ maxLen; unfold maxLen; simp at hs2; omega, by show K.length ≤ maxLen; unfold maxLen; omega, by show d.iss.size ≤ maxLen; have := hs1.1; unfold maxLen; simp at this; omega, by show d.hol.size ≤ maxLen; have := hs1.2.1; unfold maxLen; simp at this; omega, by show C.length ≤ maxLen; unfold maxLen; omega⟩
        have hc2 : decide (((((a :: b :: ls).map svL).length : Nat) : Int) < 2) = false := by simp; omega
        have hck := kS (G := X.G) N V { d with zone := Z, lk := K, ce := C } hG ok od
        obtain ⟨E, hE⟩ : ∃ E, E = docE N V { d with zone := Z, lk := K, ce := C } := ⟨_, rfl⟩
        have he1 : E ≠ 0 → endD N V (.ok { d with zone := Z, lk := K, ce := C }) = (Dc.zer, 0, E) := fun h => by unfold endD; dsimp only; rw [← hE, if_pos h]
        have he2 : E = 0 → endD N V (.ok { d with zone := Z, lk := K, ce := C }) = ({ d with zone := Z, lk := K, ce := C }, 0, 0) := fun h => by unfold endD; dsimp only; rw [← hE, if_neg (by simpa using h)]
        rw [← hE] at hck
        repeat (first   | with_reducible (first | refine zG ?_ | refine zo ?_ | refine zH ?_ | refine yB ?_) | ((with_reducible refine ze ?_ ?_); rfl))
        refine yi (s := 901) [] [(31, rdC N V d (.sl 1 (Z.map iv)) (.sl 3 (K.map Lk.av)) (.own 902 (v 902)))] rfl trivial ⟨⟨_, _, rfl, .same (.same (.same (.same (.same (.same (.same (.same (.hit (.same (.same (.same (.same (.same .nil)))))))))))))⟩, trivial⟩ ?_
        refine yi (s := 902) [] [(31, rdC N V d (.sl 1 (Z.map iv)) (.sl 3 (K.map Lk.av)) (.sl 1 (C.map iv)))] rfl trivial ⟨⟨_, _, rfl, .same (.same (.same (.same (.same (.same (.same (.same (.same (.same (.same (.same (.same (.hit .nil)))))))))))))⟩, trivial⟩ ?_
        repeat (first | ((with_reducible refine zK ?_); refine zJ rfl ?_) | ((with_reducible refine zM ?_); refine zI tbOk rfl rfl rfl rfl ?_) | ((with_reducible refine zR ?_); refine zk tbOk rfl rfl rfl rfl (Nat.le_of_ble_eq_true rfl) ?_) | ((with_reducible refine yb ?_); refine yJ rfl ?_) | ((with_reducible refine zt ?_); refine yH tbOk rfl rfl ?_) | ((with_reducible refine zQ ?_); refine zT rfl rfl rfl ?_)  | refine zL ?_ | refine zB rfl ?_ | with_reducible (first | refine zG ?_ | refine zH ?_ | refine zS ?_) | ((with_reducible refine zA ?_ ?_); kernel_rfl) | ((with_reducible refine yZ mixd ?_ ?_); kernel_rfl) | refine yF rfl (by first | rfl | assumption) ?_)
        refine zC (hck) ?_
        repeat (first | ((with_reducible refine zK ?_); refine zJ rfl ?_) | ((with_reducible refine zE ?_); refine zF rfl ?_) | ((with_reducible refine zQ ?_); refine zT rfl rfl rfl ?_)  | refine zL ?_ | refine yf (by kernel_rfl) ?_ | refine zB rfl ?_ | with_reducible (first | refine zG ?_ | refine zH ?_) | ((with_reducible refine zA ?_ ?_); kernel_rfl))
        refine zZ rfl (fun q => ?_) (fun q => ?_)
        · rw [he1 (by simpa using q)]
          repeat (first | ((with_reducible refine zK ?_); refine zJ rfl ?_) | ((with_reducible refine zE ?_); refine zF rfl ?_) | ((with_reducible refine zp ?_); refine zq tbOk rfl rfl rfl rfl rfl rfl rfl (Nat.le_of_ble_eq_true rfl) rfl ?_) | ((with_reducible refine yM ?_); refine yN tbOk rfl rfl rfl rfl rfl ?_)  | refine zL ?_ | refine zB rfl ?_ | with_reducible (first | refine zG ?_ | refine zO ?_ | refine zH ?_ | refine zN ?_) | ((with_reducible refine zA ?_ ?_); kernel_rfl))
          refine yU (by first | exact .inr rfl | exact .inl rfl) rfl rfl rfl rfl rfl rfl rfl ?_
          repeat' (first | exact trivial | exact Ren.v _ | exact Ren.sl _ _ | exact Ren.ep _ | exact Ren.ptr _ _ _ _ rfl | exact Ren.bs _ _ _ _ _ rfl | exact Ren.nil _ | exact Ren.own _ _ _ _ ⟨_, rfl⟩ | refine zi ?_ | refine zj ?_ | refine zl ?_ | refine ⟨?_, ?_⟩)
        · rw [he2 (by simpa using q)]
          repeat (first | ((with_reducible refine zK ?_); refine zJ rfl ?_) | ((with_reducible refine zE ?_); refine zF rfl ?_) | ((with_reducible refine zM ?_); refine zI tbOk rfl rfl rfl rfl ?_) | ((with_reducible refine zR ?_); refine zk tbOk rfl rfl rfl rfl (Nat.le_of_ble_eq_true rfl) ?_) | ((with_reducible refine zp ?_); refine zq tbOk rfl rfl rfl rfl rfl rfl rfl (Nat.le_of_ble_eq_true rfl) rfl ?_) | ((with_reducible refine yb ?_); refine yJ rfl ?_)  | refine zL ?_ | refine zB rfl ?_ | with_reducible (first | refine zG ?_ | refine zH ?_ | refine zS ?_ | refine zN ?_) | ((with_reducible refine zA ?_ ?_); kernel_rfl))
          refine yU (by first | exact .inr rfl | exact .inl rfl) rfl rfl rfl rfl rfl rfl rfl ?_
          repeat' (first | exact trivial | exact Ren.v _ | exact Ren.sl _ _ | exact Ren.ep _ | exact Ren.ptr _ _ _ _ rfl | exact Ren.bs _ _ _ _ _ rfl | exact Ren.nil _ | exact Ren.own _ _ _ _ ⟨_, rfl⟩ | refine zi ?_ | refine zj ?_ | refine zl ?_ | refine ⟨?_, ?_⟩)
end Go.Proofs.YtjamibeffalhaaaGreatDoor
