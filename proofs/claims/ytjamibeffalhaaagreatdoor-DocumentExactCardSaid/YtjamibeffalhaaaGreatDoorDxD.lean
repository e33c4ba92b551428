/- Own rows in a box that was handed over: nil becomes own, own becomes frozen, own moves to another site; conditions: none / document: the reader's zone, lock, certificate and line, by the abstract machine; conditions: the table of classes stands. -/
import Derived.Test.YtjamibeffalhaaaGreatDoorAbsJ
import Derived.Test.YtjamibeffalhaaaGreatDoorDxC
set_option linter.unusedVariables false
set_option linter.unusedSimpArgs false
namespace Go.Proofs.YtjamibeffalhaaaGreatDoor
open Go Go.RowKit
section
variable {P : Program} {X : Ctx} {n : Nat} {σ : AS} {Q : Exit → AS → Prop} {c : Code}
theorem fW {s b k kb : Nat} {c0 : Cont} {cs : List AV} (e sz : Nat) (cs' : List AV) (hH : σ.H s = ⟨k, c0⟩) (hb : (σ.hup s ⟨k + 1, .buf e sz []⟩).H b = ⟨kb, .box cs⟩) (hB : RwL (.v (.slice none 0 0)) (.own s (k + 1)) cs cs')
    (h : AWp P X n c Q ((σ.hup s ⟨k + 1, .buf e sz []⟩).hup b ⟨kb, .box cs'⟩)) : AWp P X n c Q σ := by
  refine qA e sz [] [(b, cs')] hH trivial ⟨⟨kb, cs, hb, hB⟩, trivial⟩ ?_
  show AWp P X n c Q ((σ.hup s ⟨k + 1, .buf e sz []⟩).hup b ⟨((σ.hup s ⟨k + 1, .buf e sz []⟩).H b).k, .box cs'⟩)
  rw [hb]
  exact h
theorem qJ {s b k kb e sz : Nat} {L cs : List AV} (cs' : List AV) (hH : σ.H s = ⟨k, .buf e sz L⟩) (hb : (σ.hup s ⟨k, .dead⟩).H b = ⟨kb, .box cs⟩) (hB : RwL (.own s k) (.sl sz L) cs cs')
    (h : AWp P X n c Q ((σ.hup s ⟨k, .dead⟩).hup b ⟨kb, .box cs'⟩)) : AWp P X n c Q σ := by
  refine ye [] [(b, cs')] hH trivial ⟨⟨kb, cs, hb, hB⟩, trivial⟩ ?_
  show AWp P X n c Q ((σ.hup s ⟨k, .dead⟩).hup b ⟨((σ.hup s ⟨k, .dead⟩).H b).k, .box cs'⟩)
  rw [hb]
  exact h
end
end Go.Proofs.YtjamibeffalhaaaGreatDoor
namespace Go.Proofs.YtjamibeffalhaaaGreatDoor
open Go Go.RowKit
set_option maxRecDepth 10000
variable {G : Nat → Option (List Value)}
theorem kH (w : List UInt8) (W : List (List UInt8)) (n m : Nat) (hn : n = W.length + 1) (hm : m = 1) : (((w :: W).map svL).take n).drop m = W.map svL := by
  subst hm
  rw [List.take_of_length_le (by simp; omega), List.map_cons]
  rfl
set_option maxHeartbeats 4000000 in
theorem zone_A (N : List Nd) (V : List Dv) (d : Dc) (w0 : List UInt8) (W : List (List UInt8)) (hG : GCls G) (ok : NwOk N V) (hn : netE N V = 0) (hW : W.length ≤ 1000000) (hw : ∀ w ∈ W, w.length ≤ 1000000) :
    zy Tryz.prog G 80 [.ptr (refB + 0) 0 0, .sl 1 ((w0 :: W).map svL)] [rdC N V d nilA nilA nilA] (.v (.int .i64 (nN N [] (w0 :: W)).2)) [rdC N V d (.sl 1 ((nN N [] (w0 :: W)).1.map iv)) nilA nilA] := by
  have hnd : ∀ w : List UInt8, zy Tryz.prog G 109 [jW N V, svL w] [] (.v (.int .i64 (nodI w 0 N))) [] := fun w => by
    have := nnod_A (G := G) N V (strL w) hG ok
    unfold nodF at this
    rw [if_neg (by simpa using hn), jJ] at this
    exact this
  have hz : ((w0 :: W).map svL)[(0 : Int).toNat]? = some (svL w0) := rfl
  have hl1 : ((w0 :: W).map svL).length = W.length + 1 := by simp
  have e0 : nN N [] (w0 :: W) = if w0 ≠ qi then ([], 2) else zGo N W [] := rfl
  rw [e0]
  refine zd tbOk (zf Tryz.func80 (by kernel_rfl) rfl) Tryz.func80 rfl _ Tryz.ntmps80 (Nat.le_of_ble_eq_true rfl) fun X hX => ?_
  subst hX
  refine fW (s := 35) (b := refB + 0) 3 1 (rdC N V d (.own 35 1) nilA nilA) rfl rfl (.same (.same (.same (.same (.same (.same (.hit (.same (.same (.same (.same (.same (.same (.same .nil)))))))))))))) ?_
  repeat (first | ((with_reducible refine zJ ?_); refine zK rfl ?_) | ((with_reducible refine zF ?_); refine zE rfl ?_) | ((with_reducible refine zQ ?_); refine zb tbOk rfl rfl rfl ?_) | ((with_reducible refine zY ?_); refine zZ tbOk rfl rfl rfl rfl (by assumption) ?_) | ((with_reducible refine zR ?_); refine jI rfl rfl rfl ?_)  | refine zL ?_ | refine zB rfl ?_ | with_reducible (first | refine zG ?_ | refine zH ?_) | ((with_reducible refine zA ?_ ?_); kernel_rfl))
  refine zX rfl (fun h => ?_) (fun h => ?_)
  · have hne : w0 ≠ qi := fun e => by
      have h2 : yg (strL w0) (strL qi) = false := (show yg (strL w0) (⟨#[122, 111, 110, 101]⟩ : ByteArray) = false by simpa using h)
      rw [(jo _ _).2 e] at h2; cases h2
    rw [if_pos hne]
    obtain ⟨Z, hZ⟩ : ∃ Z : List Int, Z = [] := ⟨_, rfl⟩
    rw [← hZ]
    refine qJ (s := 35) (b := refB + 0) (L := Z.map iv) (rdC N V d (.sl 1 (Z.map iv)) nilA nilA) (by rw [hZ]; rfl) rfl (.same (.same (.same (.same (.same (.same (.hit (.same (.same (.same (.same (.same (.same (.same .nil)))))))))))))) ?_
    repeat (first | ((with_reducible refine zF ?_); refine zE rfl ?_)  | refine zL ?_ | refine zB rfl ?_ | with_reducible (first | refine zG ?_ | refine zP ?_ | refine zH ?_ | refine zN ?_) | ((with_reducible refine zA ?_ ?_); kernel_rfl))
    refine yo (by first | exact .inr rfl | exact .inl rfl) rfl rfl rfl (by first | rfl | assumption) ?_ ?_ (by repeat' (first | exact trivial | exact Ren.v _ | exact Ren.sl _ _ | exact Ren.ep _ | exact Ren.ptr _ _ _ _ rfl | exact Ren.bs _ _ _ _ _ rfl | exact Ren.nil _ | exact Ren.own _ _ _ _ ⟨_, rfl⟩ | refine zv ?_ | refine zx ?_ | refine zw ?_ | refine ⟨?_, ?_⟩)) <;> rfl
  have he : w0 = qi := by
    have h2 : yg (strL w0) (strL qi) = true := (show yg (strL w0) (⟨#[122, 111, 110, 101]⟩ : ByteArray) = true by simpa using h)
    exact (jo _ _).1 h2
  rw [if_neg (by simpa using he)]
  repeat (first | ((with_reducible refine zJ ?_); refine zK rfl ?_) | ((with_reducible refine qv ?_); refine aO tbOk rfl rfl rfl rfl rfl (by refine ⟨?_, ?_, ?_⟩ <;> omega) ?_) | ((with_reducible refine zq ?_); refine yI tbOk rfl rfl ?_)  | refine zL ?_ | refine zB rfl ?_ | with_reducible (first | refine zG ?_ | refine zH ?_ | refine zV ?_ | refine zT ?_) | ((with_reducible refine zA ?_ ?_); kernel_rfl))
  refine jO (ι := Nat × List Int) (fun v i => v (refB + 0) = 0 ∧ i.1 ≤ W.length ∧ i.2.length ≤ i.1 ∧ zGo N (W.drop i.1) i.2 = zGo N W []) (fun i => W.length - i.1) (fun v i => [(0, .ptr (refB + 0) (v (refB + 0)) 0), (13, .sl 1 (W.map svL)), (14, .v (.int .i64 (W.map svL).length)), (15, .v (.int .i64 (i.1 : Nat)))]) (fun v i => [(refB + 0, .box (rdC N V d (.own 35 (v 35)) nilA nilA)), (35, .buf 3 1 (i.2.map iv))]) ?_ ?_
  · exact ⟨(0, []), ⟨rfl, Nat.zero_le _, Nat.zero_le _, rfl⟩, trivial, ⟨rfl, congrArg (AV.sl 1) (kH w0 W _ _ (by simp) rfl), congrArg (fun L : List AV => AV.v (.int .i64 (L.length : Nat))) (kH w0 W _ _ (by simp) rfl), rfl, trivial⟩, ⟨rfl, rfl, trivial⟩⟩
  rintro v ⟨k, Z⟩ ⟨hv0, hk, hZl, hf⟩
  dsimp only at hv0 hk hZl hf ⊢
  repeat (first | ((with_reducible refine zR ?_); refine zS rfl rfl rfl ?_)  | refine zL ?_ | refine zB rfl ?_ | with_reducible (first | refine zG ?_ | refine zH ?_) | ((with_reducible refine zA ?_ ?_); kernel_rfl))
  refine zX rfl (fun q => ?_) (fun q => ?_)
  · have hlt : k < W.length := by simpa using q
    obtain ⟨w, hwk⟩ := zc hlt
    have hy := iB hwk
    rw [yV hwk, zGo] at hf
    repeat (first | ((with_reducible refine zJ ?_); refine zK rfl ?_) | ((with_reducible refine zF ?_); refine zE rfl ?_) | ((with_reducible refine zM ?_); refine zI tbOk rfl rfl rfl rfl ?_) | ((with_reducible refine zQ ?_); (first | refine za tbOk rfl rfl rfl rfl (Nat.le_of_ble_eq_true rfl) ?_ | refine zb tbOk rfl rfl rfl ?_)) | ((with_reducible refine zY ?_); refine zZ tbOk rfl rfl rfl rfl (by assumption) ?_) | ((with_reducible refine yT ?_); refine yG rfl ?_)  | refine zL ?_ | refine zB rfl ?_ | with_reducible (first | refine zG ?_ | refine zH ?_ | refine zV ?_ | refine zT ?_) | ((with_reducible refine zA ?_ ?_); kernel_rfl))
    refine zC (hnd w) ?_
    repeat (first | ((with_reducible refine zJ ?_); refine zK rfl ?_) | ((with_reducible refine zF ?_); refine zE rfl ?_) | ((with_reducible refine zR ?_); refine zS rfl rfl rfl ?_)  | refine zL ?_ | refine zB rfl ?_ | with_reducible (first | refine zG ?_ | refine zH ?_) | ((with_reducible refine zA ?_ ?_); kernel_rfl))
    refine zX rfl (fun c => ?_) (fun c => ?_)
    · rw [if_pos (by simpa using c)] at hf
      rw [← hf]
      repeat (first   | with_reducible refine zH ?_)
      refine qJ (s := 35) (b := refB + 0) (rdC N V d (.sl 1 (Z.map iv)) nilA nilA) rfl rfl (.same (.same (.same (.same (.same (.same (.hit (.same (.same (.same (.same (.same (.same (.same .nil)))))))))))))) ?_
      repeat (first | ((with_reducible refine zF ?_); refine zE rfl ?_)  | refine zL ?_ | refine zB rfl ?_ | with_reducible (first | refine zG ?_ | refine zP ?_ | refine zU ?_ | refine zN ?_) | ((with_reducible refine zA ?_ ?_); kernel_rfl))
      refine yo (by first | exact .inr rfl | exact .inl rfl) rfl rfl rfl (by first | rfl | assumption) ?_ ?_ (by repeat' (first | exact trivial | exact Ren.v _ | exact Ren.sl _ _ | exact Ren.ep _ | exact Ren.ptr _ _ _ _ rfl | exact Ren.bs _ _ _ _ _ rfl | exact Ren.nil _ | exact Ren.own _ _ _ _ ⟨_, rfl⟩ | refine zv ?_ | refine zx ?_ | refine zw ?_ | refine ⟨?_, ?_⟩)) <;> rfl
    · rw [if_neg (by simpa using c)] at hf
      repeat (first | ((with_reducible refine zJ ?_); refine zK rfl ?_) | ((with_reducible refine zM ?_); refine zI tbOk rfl rfl rfl rfl ?_) | ((with_reducible refine zQ ?_); refine zO tbOk rfl rfl rfl rfl rfl ?_) | ((with_reducible refine yT ?_); refine yG rfl ?_) | ((with_reducible refine zl ?_); refine zp tbOk rfl rfl rfl rfl rfl (by omega) rfl rfl rfl ?_) | refine zB rfl ?_ | with_reducible (first | refine zG ?_ | refine zT ?_) | ((with_reducible refine zA ?_ ?_); kernel_rfl))
      refine yF tbOk rfl rfl rfl rfl rfl (by decide) rfl rfl rfl rfl rfl (fun x hx => by simp at hx; subst hx; rfl) (by simp only [List.length_map, List.length_cons, List.length_nil, List.length_append, List.length_take]; omega) (by simp only [List.length_map, List.length_cons, List.length_nil, List.length_append, List.length_take]; omega) ?_
      repeat (first | ((with_reducible refine zJ ?_); refine zK rfl ?_) | ((with_reducible refine zM ?_); refine zI tbOk rfl rfl rfl rfl ?_) | ((with_reducible refine yD ?_); refine yE tbOk rfl rfl rfl rfl rfl rfl rfl (Nat.le_of_ble_eq_true rfl) rfl ?_) | ((with_reducible refine yT ?_); refine yG rfl ?_) | ((with_reducible refine zR ?_); refine zk rfl rfl (by omega) ?_)  | refine zL ?_ | refine zB rfl ?_ | with_reducible (first | refine zG ?_ | refine zo ?_) | ((with_reducible refine zA ?_ ?_); kernel_rfl))
      exact ⟨(k + 1, Z ++ [nodI w 0 N]), ⟨hv0, by show k + 1 ≤ W.length; omega, by simp; omega, hf⟩, by show W.length - (k + 1) < W.length - k; omega, ⟨rfl, rfl, rfl, rfl, trivial⟩, ⟨rfl, jk (by rw [List.map_append]; rfl), trivial⟩⟩
  · have hge : W.length ≤ k := by simpa using q
    rw [List.drop_of_length_le hge, zGo] at hf
    rw [← hf]
    repeat (first   | with_reducible (first | refine zG ?_ | refine zj ?_ | refine zH ?_ | refine zz ?_) | ((with_reducible refine zg ?_ ?_); rfl))
    refine qJ (s := 35) (b := refB + 0) (rdC N V d (.sl 1 (Z.map iv)) nilA nilA) rfl rfl (.same (.same (.same (.same (.same (.same (.hit (.same (.same (.same (.same (.same (.same (.same .nil)))))))))))))) ?_
    repeat (first | ((with_reducible refine zF ?_); refine zE rfl ?_)  | refine zL ?_ | refine zB rfl ?_ | with_reducible (first | refine zG ?_ | refine zN ?_) | ((with_reducible refine zA ?_ ?_); kernel_rfl))
    refine yo (by first | exact .inr rfl | exact .inl rfl) rfl rfl rfl (by first | rfl | assumption) ?_ ?_ (by repeat' (first | exact trivial | exact Ren.v _ | exact Ren.sl _ _ | exact Ren.ep _ | exact Ren.ptr _ _ _ _ rfl | exact Ren.bs _ _ _ _ _ rfl | exact Ren.nil _ | exact Ren.own _ _ _ _ ⟨_, rfl⟩ | refine zv ?_ | refine zx ?_ | refine zw ?_ | refine ⟨?_, ?_⟩)) <;> rfl
end Go.Proofs.YtjamibeffalhaaaGreatDoor
