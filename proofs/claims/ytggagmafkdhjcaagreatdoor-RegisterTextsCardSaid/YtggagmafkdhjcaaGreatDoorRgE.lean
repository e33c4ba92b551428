/- permitofficeref05.Add, by the abstract machine; conditions: the table of classes stands. -/
import Derived.Test.YtggagmafkdhjcaaGreatDoorRgD
set_option linter.unusedVariables false
set_option linter.unusedSimpArgs false
namespace Go.Proofs.YtggagmafkdhjcaaGreatDoor
open Go Go.RowKit
set_option maxRecDepth 10000
variable {G : Nat → Option (List Value)}
def ji (p : Per) : List Per → Nat
  | [] => 0
  | q :: r => if less q p = true then ji p r + 1 else 0
theorem iN (p : Per) : ∀ L : List Per, ji p L ≤ L.length
  | [] => Nat.le_refl _
  | q :: r => by
    unfold ji
    have := iN p r
    split <;> simp <;> omega
def addR (L : List Per) (p : Per) : List Per × Int :=
  if jI jV L ≠ 0 then ([], jI jV L) else if jV p ≠ 0 then ([], jV p)
  else if (match L[ji p L]? with | some q => qh p.n q | none => false) = true then ([], 4) else if 64 ≤ L.length then ([], 1)
  else (L.take (ji p L) ++ [p] ++ L.drop (ji p L), 0)
def qF (L : List Per) : AV := .ag [.sl 5 (L.map Per.av)]
theorem aZ (q p : Per) : jQ q.n p.n = less q p := by unfold jQ less; rw [ByteArray.toList_eq, ByteArray.toList_eq]
set_option maxHeartbeats 4000000 in
theorem xB (L : List Per) (p : Per) (hG : GCls G) (hs : ∀ q ∈ L, q.n.size ≤ maxLen) (hp : p.n.size ≤ maxLen) (hm : L.length ≤ maxLen) :
    jD Tryz.prog G 24 [qF L, p.av] [] (.tu [qF (addR L p).1, .v (.int .i64 (addR L p).2)]) [] := by
  have hm2 : L.length ≤ 9223372036854775807 := by unfold maxLen at hm; omega
  refine yi tbOk (yj Tryz.func24 (by kernel_rfl) rfl) Tryz.func24 rfl _ Tryz.ntmps24 (Nat.le_of_ble_eq_true rfl) fun X hX => ?_
  subst hX
  repeat (first | ((with_reducible refine zL ?_); refine zM rfl ?_) | ((with_reducible refine zF ?_); refine zj tbOk rfl rfl rfl rfl (Nat.le_of_ble_eq_true rfl) ?_) | ((with_reducible refine yZ ?_); refine ya tbOk rfl rfl ?_) | ((with_reducible refine yo ?_); refine ym rfl rfl rfl ?_)  | refine yA ?_ | refine zS rfl ?_ | with_reducible (first | refine zY ?_ | refine zR ?_) | ((with_reducible refine zJ ?_ ?_); kernel_rfl))
  with_reducible refine zG ?_
  refine zC (rE L hG hs hm) ?_
  repeat (first | ((with_reducible refine zm ?_); refine zl rfl ?_) | ((with_reducible refine zL ?_); refine zM rfl ?_) | ((with_reducible refine zA ?_); refine yM rfl rfl rfl ?_)  | refine yA ?_ | refine zS rfl ?_ | with_reducible (first | refine zY ?_ | refine zR ?_) | ((with_reducible refine zJ ?_ ?_); kernel_rfl))
  unfold addR
  refine jE rfl (fun h => ?_) (fun h => ?_)
  · rw [if_pos (by simpa using h)]
    repeat (first | ((with_reducible refine zm ?_); refine zl rfl ?_) | ((with_reducible refine zL ?_); refine zM rfl ?_) | ((with_reducible refine yQ ?_); refine yS tbOk rfl rfl rfl rfl rfl rfl rfl (Nat.le_of_ble_eq_true rfl) rfl ?_) | ((with_reducible refine yW ?_); refine yX tbOk rfl rfl rfl rfl rfl ?_)  | refine yA ?_ | refine zS rfl ?_ | with_reducible (first | refine zY ?_ | refine zV ?_ | refine zR ?_ | refine zv ?_) | ((with_reducible refine zJ ?_ ?_); kernel_rfl))
    refine ret0 (by first | exact .inr rfl | exact .inl rfl) (xs := [.ag [.v (.slice none 0 0)], .v (.int .i64 (jI jV L))]) ?_ ?_
    · exact ⟨.agg _ _ _ _ _ _ rfl rfl rfl rfl, .tmp _, trivial⟩
    · repeat' (first | exact trivial | exact Ren.v _ | exact Ren.sl _ _ | exact Ren.ep _ | exact Ren.ptr _ _ _ _ rfl | exact Ren.bs _ _ _ _ _ rfl | exact Ren.nil _ | exact Ren.own _ _ _ _ ⟨_, rfl⟩ | refine yz ?_ | refine jA ?_ | refine jB ?_ | refine ⟨?_, ?_⟩)
  · rw [if_neg (by simpa using h)]
    have h64 := mN (E := jV) (L := L) (by simpa using h)
    repeat (first | ((with_reducible refine zF ?_); refine zj tbOk rfl rfl rfl rfl (Nat.le_of_ble_eq_true rfl) ?_)  | refine zS rfl ?_ | with_reducible (first | refine zY ?_ | refine zR ?_ | refine zr ?_) | ((with_reducible refine zJ ?_ ?_); kernel_rfl))
    with_reducible refine zG ?_
    refine zC (nL p hp) ?_
    repeat (first | ((with_reducible refine zm ?_); refine zl rfl ?_) | ((with_reducible refine zL ?_); refine zM rfl ?_) | ((with_reducible refine zA ?_); refine yM rfl rfl rfl ?_)  | refine yA ?_ | refine zS rfl ?_ | with_reducible (first | refine zY ?_ | refine zR ?_) | ((with_reducible refine zJ ?_ ?_); kernel_rfl))
    refine jE rfl (fun h1 => ?_) (fun h1 => ?_)
    · rw [if_pos (by simpa using h1)]
      repeat (first | ((with_reducible refine zm ?_); refine zl rfl ?_) | ((with_reducible refine zL ?_); refine zM rfl ?_) | ((with_reducible refine yQ ?_); refine yS tbOk rfl rfl rfl rfl rfl rfl rfl (Nat.le_of_ble_eq_true rfl) rfl ?_) | ((with_reducible refine yW ?_); refine yX tbOk rfl rfl rfl rfl rfl ?_)  | refine yA ?_ | refine zS rfl ?_ | with_reducible (first | refine zY ?_ | refine zV ?_ | refine zR ?_ | refine zv ?_) | ((with_reducible refine zJ ?_ ?_); kernel_rfl))
      refine ret0 (by first | exact .inr rfl | exact .inl rfl) (xs := [.ag [.v (.slice none 0 0)], .v (.int .i64 (jV p))]) ?_ ?_
      · exact ⟨.agg _ _ _ _ _ _ rfl rfl rfl rfl, .tmp _, trivial⟩
      · repeat' (first | exact trivial | exact Ren.v _ | exact Ren.sl _ _ | exact Ren.ep _ | exact Ren.ptr _ _ _ _ rfl | exact Ren.bs _ _ _ _ _ rfl | exact Ren.nil _ | exact Ren.own _ _ _ _ ⟨_, rfl⟩ | refine yz ?_ | refine jA ?_ | refine jB ?_ | refine ⟨?_, ?_⟩)
    · rw [if_neg (by simpa using h1)]
      repeat (first | ((with_reducible refine zL ?_); refine zM rfl ?_)  | refine yA ?_ | refine zS rfl ?_ | with_reducible (first | refine zY ?_ | refine zR ?_ | refine zq ?_ | refine zr ?_) | ((with_reducible refine zJ ?_ ?_); kernel_rfl))
      refine jZ (ι := Nat) (fun k => k ≤ L.length ∧ ji p L = k + ji p (L.drop k)) (fun k => L.length - k) (fun v k => [(2, .ptr 2 (v 2) 0), (3, .ptr 3 (v 3) 0), (4, .ptr 4 (v 4) 0), (8, .v (.int .i64 k))]) (fun v k => [(2, .box [.sl 5 (L.map Per.av)]), (3, .box p.av.cells), (4, .box [.v (.slice none 0 0)])]) ?_ ?_
      · exact ⟨0, ⟨Nat.zero_le _, by simp⟩, trivial, ⟨rfl, rfl, rfl, rfl, trivial⟩, ⟨rfl, rfl, rfl, trivial⟩⟩
      · rintro v k ⟨hk, hf⟩
        repeat (first | ((with_reducible refine zm ?_); refine zl rfl ?_) | ((with_reducible refine zB ?_); refine zH tbOk rfl rfl rfl rfl ?_) | ((with_reducible refine zF ?_); refine zX tbOk rfl rfl rfl rfl rfl ?_) | ((with_reducible refine zG ?_); refine yp tbOk rfl rfl ?_) | ((with_reducible refine zA ?_); refine yM rfl rfl rfl ?_)  | refine zS rfl ?_ | with_reducible refine zR ?_ | ((with_reducible refine yg mixd ?_ ?_); kernel_rfl))
        refine jH rfl rfl (fun h => ?_) (fun h => ?_)
        · have hlt : k < L.length := by simpa using h
          obtain ⟨q, hx⟩ := yr hlt
          have hy : (L.map Per.av)[k]? = some q.av := by rw [List.getElem?_map, hx]; rfl
          have hd := ju hx
          repeat (first | ((with_reducible refine zm ?_); refine zl rfl ?_) | ((with_reducible refine zB ?_); (first | refine zH tbOk rfl rfl rfl rfl ?_ | refine zO tbOk rfl rfl rfl rfl ?_)) | ((with_reducible refine zF ?_); (first | refine zX tbOk rfl rfl rfl rfl rfl ?_ | refine zT tbOk rfl rfl rfl ?_)) | ((with_reducible refine zh ?_); refine yO rfl (by first | rfl | assumption) rfl ?_) | ((with_reducible refine zE ?_); refine zQ tbOk rfl rfl rfl rfl (by assumption) ?_) | ((with_reducible refine zA ?_); refine yh rfl rfl rfl ?_)  | refine yl (by kernel_rfl) ?_ | refine zS rfl ?_ | refine yR rfl rfl (by first | rfl | assumption) ?_ | with_reducible refine zY ?_ )
          refine jE rfl (fun hc => ?_) (fun hc => ?_)
          · have hl : less q p = true := by rw [← aZ]; exact hc
            rw [hd, ji, if_pos hl] at hf
            repeat (first | ((with_reducible refine zm ?_); refine zl rfl ?_) | ((with_reducible refine zL ?_); refine zM rfl ?_) | ((with_reducible refine zA ?_); refine yE rfl rfl (by omega) ?_)  | refine yA ?_ | refine zS rfl ?_ | with_reducible (first | refine zY ?_ | refine yV ?_ | refine zq ?_ | refine zr ?_) | ((with_reducible refine zJ ?_ ?_); kernel_rfl))
            exact ⟨k + 1, ⟨by omega, by rw [hf]; omega⟩, by omega, ⟨rfl, rfl, rfl, rfl, trivial⟩, ⟨rfl, rfl, rfl, trivial⟩⟩
          · have hl : less q p = false := by rw [← aZ]; exact hc
            rw [hd, ji, if_neg (by simp [hl]), Nat.add_zero] at hf
            rw [hf, hx]
            repeat (first | ((with_reducible refine zm ?_); refine zl rfl ?_) | ((with_reducible refine zB ?_); (first | refine zH tbOk rfl rfl rfl rfl ?_ | refine zO tbOk rfl rfl rfl rfl ?_)) | ((with_reducible refine zF ?_); (first | refine zX tbOk rfl rfl rfl rfl rfl ?_ | refine zT tbOk rfl rfl rfl ?_)) | ((with_reducible refine zh ?_); refine yO rfl (by first | rfl | assumption) rfl ?_) | ((with_reducible refine zE ?_); refine zQ tbOk rfl rfl rfl rfl (by assumption) ?_) | ((with_reducible refine zG ?_); refine yp tbOk rfl rfl ?_) | ((with_reducible refine zA ?_); (first | refine yM rfl rfl rfl ?_ | refine yh rfl rfl rfl ?_))  | refine yl (by kernel_rfl) ?_ | refine zS rfl ?_ | refine yR rfl rfl (by first | rfl | assumption) ?_ | with_reducible (first | refine zY ?_ | refine ze ?_ | refine zR ?_ | refine yK ?_) | ((with_reducible refine zW ?_ ?_); rfl) | ((with_reducible refine yg mixd ?_ ?_); kernel_rfl))
            refine jE rfl (fun hc2 => ?_) (fun hc2 => ?_)
            · have hn : qh p.n q = true := hc2
              rw [if_pos (by simpa using hn)]
              repeat (first | ((with_reducible refine zL ?_); refine zM rfl ?_) | ((with_reducible refine yQ ?_); refine yS tbOk rfl rfl rfl rfl rfl rfl rfl (Nat.le_of_ble_eq_true rfl) rfl ?_) | ((with_reducible refine yW ?_); refine yX tbOk rfl rfl rfl rfl rfl ?_)  | refine yA ?_ | refine zS rfl ?_ | with_reducible (first | refine zY ?_ | refine zV ?_ | refine zR ?_ | refine zv ?_) | ((with_reducible refine zJ ?_ ?_); kernel_rfl))
              refine ret0 (by first | exact .inr rfl | exact .inl rfl) (xs := [.ag [.v (.slice none 0 0)], .v (.int .i64 (4))]) ?_ ?_
              · exact ⟨.agg _ _ _ _ _ _ rfl rfl rfl rfl, .tmp _, trivial⟩
              · repeat' (first | exact trivial | exact Ren.v _ | exact Ren.sl _ _ | exact Ren.ep _ | exact Ren.ptr _ _ _ _ rfl | exact Ren.bs _ _ _ _ _ rfl | exact Ren.nil _ | exact Ren.own _ _ _ _ ⟨_, rfl⟩ | refine yz ?_ | refine jA ?_ | refine jB ?_ | refine ⟨?_, ?_⟩)
            · have hn : qh p.n q = false := hc2
              rw [if_neg (by simpa using hn)]
              repeat (first | ((with_reducible refine zB ?_); refine zH tbOk rfl rfl rfl rfl ?_) | ((with_reducible refine zF ?_); refine zX tbOk rfl rfl rfl rfl rfl ?_) | ((with_reducible refine zG ?_); refine yp tbOk rfl rfl ?_) | ((with_reducible refine zA ?_); refine yM rfl rfl rfl ?_)  | refine yA ?_ | refine zS rfl ?_ | with_reducible (first | refine zY ?_ | refine zR ?_ | refine zr ?_) | ((with_reducible refine zJ ?_ ?_); kernel_rfl))
              refine jE rfl (fun h6 => ?_) (fun h6 => ?_)
              · have h6' : 64 ≤ L.length := by simp at h6; omega
                rw [if_pos h6']
                repeat (first | ((with_reducible refine zL ?_); refine zM rfl ?_) | ((with_reducible refine yQ ?_); refine yS tbOk rfl rfl rfl rfl rfl rfl rfl (Nat.le_of_ble_eq_true rfl) rfl ?_) | ((with_reducible refine yW ?_); refine yX tbOk rfl rfl rfl rfl rfl ?_)  | refine yA ?_ | refine zS rfl ?_ | with_reducible (first | refine zY ?_ | refine zV ?_ | refine zR ?_ | refine zv ?_) | ((with_reducible refine zJ ?_ ?_); kernel_rfl))
                refine ret0 (by first | exact .inr rfl | exact .inl rfl) (xs := [.ag [.v (.slice none 0 0)], .v (.int .i64 (1))]) ?_ ?_
                · exact ⟨.agg _ _ _ _ _ _ rfl rfl rfl rfl, .tmp _, trivial⟩
                · repeat' (first | exact trivial | exact Ren.v _ | exact Ren.sl _ _ | exact Ren.ep _ | exact Ren.ptr _ _ _ _ rfl | exact Ren.bs _ _ _ _ _ rfl | exact Ren.nil _ | exact Ren.own _ _ _ _ ⟨_, rfl⟩ | refine yz ?_ | refine jA ?_ | refine jB ?_ | refine ⟨?_, ?_⟩)
              · have hl64 : L.length < 64 := by simp at h6; omega
                rw [if_neg (by omega)]
                have hln : (L.map Per.av).length < 64 := by simpa using hl64
                have hkn : k ≤ (L.map Per.av).length := by simpa using hk
                have ho1 : ∀ x ∈ ((L.map Per.av).take (k : Int).toNat).drop (0 : Int).toNat, jY x.cells = true := fun x hx => aL L x (List.mem_of_mem_take (List.mem_of_mem_drop hx))
                have ho3 : ∀ x ∈ ((L.map Per.av).take ((L.map Per.av).length : Int).toNat).drop (k : Int).toNat, jY x.cells = true := fun x hx => aL L x (List.mem_of_mem_take (List.mem_of_mem_drop hx))
                have l1 : (((L.map Per.av).take (k : Int).toNat).drop (0 : Int).toNat).length ≤ 64 := by simp only [List.length_drop, List.length_take]; omega
                have l2 : (((L.map Per.av).take ((L.map Per.av).length : Int).toNat).drop (k : Int).toNat).length ≤ 64 := by simp only [List.length_drop, List.length_take]; omega
                repeat (first | ((with_reducible refine zm ?_); refine zl rfl ?_) | ((with_reducible refine zB ?_); refine zH tbOk rfl rfl rfl rfl ?_) | ((with_reducible refine zF ?_); refine zX tbOk rfl rfl rfl rfl rfl ?_) | ((with_reducible refine zb ?_); refine yb tbOk rfl rfl rfl rfl rfl (by refine ⟨?_, ?_, ?_⟩ <;> omega) ?_)  | refine zS rfl ?_ | with_reducible (first | refine zY ?_ | refine zR ?_ | refine zr ?_) | ((with_reducible refine yg mixd ?_ ?_); kernel_rfl))
                refine bZ tbOk rfl rfl rfl rfl rfl (by decide) rfl rfl rfl ho1 (by omega) ?_
                repeat (first | ((with_reducible refine zF ?_); refine zj tbOk rfl rfl rfl rfl (Nat.le_of_ble_eq_true rfl) ?_) | ((with_reducible refine zd ?_); refine zc tbOk rfl rfl rfl rfl rfl (by omega) rfl rfl rfl ?_) | refine zS rfl ?_  )
                refine qA tbOk rfl rfl rfl rfl rfl (by decide) rfl rfl rfl rfl rfl (fun x hx => by simp at hx; subst hx; rfl) (by simp only [List.length_cons, List.length_nil, List.length_map]; omega) (by simp only [List.length_cons, List.length_nil, List.length_map]; omega) ?_
                repeat (first | ((with_reducible refine zm ?_); refine zl rfl ?_) | ((with_reducible refine zL ?_); refine zM rfl ?_) | ((with_reducible refine zB ?_); refine zH tbOk rfl rfl rfl rfl ?_) | ((with_reducible refine zF ?_); refine zX tbOk rfl rfl rfl rfl rfl ?_) | ((with_reducible refine zb ?_); refine yb tbOk rfl rfl rfl rfl rfl (by refine ⟨?_, ?_, ?_⟩ <;> omega) ?_)  | refine yl (by kernel_rfl) ?_ | refine zS rfl ?_ | with_reducible (first | refine zY ?_ | refine zR ?_) | ((with_reducible refine zJ ?_ ?_); kernel_rfl))
                refine qA tbOk rfl rfl rfl rfl rfl (by decide) rfl rfl rfl rfl rfl ho3 (by simp only [List.length_cons, List.length_nil, List.map_cons, List.map_nil, List.length_append]; omega) (by simp only [List.length_cons, List.length_nil, List.map_cons, List.map_nil, List.length_append]; omega) ?_
                repeat (first | ((with_reducible refine zL ?_); refine zM rfl ?_) | ((with_reducible refine yQ ?_); refine yS tbOk rfl rfl rfl rfl rfl rfl rfl (Nat.le_of_ble_eq_true rfl) rfl ?_) | ((with_reducible refine yW ?_); refine yX tbOk rfl rfl rfl rfl rfl ?_)  | refine yA ?_ | refine zS rfl ?_ | with_reducible (first | refine zY ?_ | refine zv ?_) )
                refine jn (by first | exact .inr rfl | exact .inl rfl) rfl rfl rfl rfl rfl rfl ?_
                · have el : (L.take k ++ [p] ++ L.drop k).map Per.av = (((L.map Per.av).take (k : Int).toNat).drop (0 : Int).toNat ++ [p.av]) ++ ((L.map Per.av).take ((L.map Per.av).length : Int).toNat).drop (k : Int).toNat := by
                    simp [List.map_take, List.map_drop]
                    rw [List.take_of_length_le (by simp)]
                  unfold qF
                  rw [el]
                  repeat' (first | exact trivial | exact Ren.v _ | exact Ren.sl _ _ | exact Ren.ep _ | exact Ren.ptr _ _ _ _ rfl | exact Ren.bs _ _ _ _ _ rfl | exact Ren.nil _ | exact Ren.own _ _ _ _ ⟨_, rfl⟩ | refine yz ?_ | refine jA ?_ | refine jB ?_ | refine ⟨?_, ?_⟩)
        · have hlt : k = L.length := by simp at h; omega
          have h2 : ji p (L.drop k) = 0 := by rw [List.drop_of_length_le (by omega)]; rfl
          rw [h2, Nat.add_zero] at hf
          rw [hf, show L[k]? = none from by simp; omega]
          rw [if_neg (by simp)]
          repeat (first | ((with_reducible refine zm ?_); refine zl rfl ?_) | ((with_reducible refine zB ?_); refine zH tbOk rfl rfl rfl rfl ?_) | ((with_reducible refine zF ?_); refine zX tbOk rfl rfl rfl rfl rfl ?_) | ((with_reducible refine zh ?_); refine yP rfl (by first | rfl | assumption) rfl ?_) | ((with_reducible refine zG ?_); refine yp tbOk rfl rfl ?_) | ((with_reducible refine zA ?_); refine yM rfl rfl rfl ?_)  | refine yA ?_ | refine yl (by kernel_rfl) ?_ | refine zS rfl ?_ | refine yL rfl rfl (by first | rfl | assumption) ?_ | with_reducible (first | refine zY ?_ | refine ze ?_ | refine zR ?_ | refine zr ?_ | refine yK ?_) | ((with_reducible refine zW ?_ ?_); rfl) | ((with_reducible refine zJ ?_ ?_); kernel_rfl) | ((with_reducible refine yg mixd ?_ ?_); kernel_rfl) | refine yJ rfl (by first | rfl | assumption) ?_)
          repeat (first | fail    )
          refine jE rfl (fun h6 => ?_) (fun h6 => ?_)
          · have h6' : 64 ≤ L.length := by simp at h6; omega
            rw [if_pos h6']
            repeat (first | ((with_reducible refine zL ?_); refine zM rfl ?_) | ((with_reducible refine yQ ?_); refine yS tbOk rfl rfl rfl rfl rfl rfl rfl (Nat.le_of_ble_eq_true rfl) rfl ?_) | ((with_reducible refine yW ?_); refine yX tbOk rfl rfl rfl rfl rfl ?_)  | refine yA ?_ | refine zS rfl ?_ | with_reducible (first | refine zY ?_ | refine zV ?_ | refine zR ?_ | refine zv ?_) | ((with_reducible refine zJ ?_ ?_); kernel_rfl))
            refine ret0 (by first | exact .inr rfl | exact .inl rfl) (xs := [.ag [.v (.slice none 0 0)], .v (.int .i64 (1))]) ?_ ?_
            · exact ⟨.agg _ _ _ _ _ _ rfl rfl rfl rfl, .tmp _, trivial⟩
            · repeat' (first | exact trivial | exact Ren.v _ | exact Ren.sl _ _ | exact Ren.ep _ | exact Ren.ptr _ _ _ _ rfl | exact Ren.bs _ _ _ _ _ rfl | exact Ren.nil _ | exact Ren.own _ _ _ _ ⟨_, rfl⟩ | refine yz ?_ | refine jA ?_ | refine jB ?_ | refine ⟨?_, ?_⟩)
          · have hl64 : L.length < 64 := by simp at h6; omega
            rw [if_neg (by omega)]
            have hln : (L.map Per.av).length < 64 := by simpa using hl64
            have hkn : k ≤ (L.map Per.av).length := by simpa using hk
            have ho1 : ∀ x ∈ ((L.map Per.av).take (k : Int).toNat).drop (0 : Int).toNat, jY x.cells = true := fun x hx => aL L x (List.mem_of_mem_take (List.mem_of_mem_drop hx))
            have ho3 : ∀ x ∈ ((L.map Per.av).take ((L.map Per.av).length : Int).toNat).drop (k : Int).toNat, jY x.cells = true := fun x hx => aL L x (List.mem_of_mem_take (List.mem_of_mem_drop hx))
            have l1 : (((L.map Per.av).take (k : Int).toNat).drop (0 : Int).toNat).length ≤ 64 := by simp only [List.length_drop, List.length_take]; omega
            have l2 : (((L.map Per.av).take ((L.map Per.av).length : Int).toNat).drop (k : Int).toNat).length ≤ 64 := by simp only [List.length_drop, List.length_take]; omega
            repeat (first | ((with_reducible refine zm ?_); refine zl rfl ?_) | ((with_reducible refine zB ?_); refine zH tbOk rfl rfl rfl rfl ?_) | ((with_reducible refine zF ?_); refine zX tbOk rfl rfl rfl rfl rfl ?_) | ((with_reducible refine zb ?_); refine yb tbOk rfl rfl rfl rfl rfl (by refine ⟨?_, ?_, ?_⟩ <;> omega) ?_)  | refine zS rfl ?_ | with_reducible (first | refine zY ?_ | refine zR ?_ | refine zr ?_) | ((with_reducible refine yg mixd ?_ ?_); kernel_rfl))
            refine bZ tbOk rfl rfl rfl rfl rfl (by decide) rfl rfl rfl ho1 (by omega) ?_
            repeat (first | ((with_reducible refine zF ?_); refine zj tbOk rfl rfl rfl rfl (Nat.le_of_ble_eq_true rfl) ?_) | ((with_reducible refine zd ?_); refine zc tbOk rfl rfl rfl rfl rfl (by omega) rfl rfl rfl ?_) | refine zS rfl ?_  )
            refine qA tbOk rfl rfl rfl rfl rfl (by decide) rfl rfl rfl rfl rfl (fun x hx => by simp at hx; subst hx; rfl) (by simp only [List.length_cons, List.length_nil, List.length_map]; omega) (by simp only [List.length_cons, List.length_nil, List.length_map]; omega) ?_
            repeat (first | ((with_reducible refine zm ?_); refine zl rfl ?_) | ((with_reducible refine zL ?_); refine zM rfl ?_) | ((with_reducible refine zB ?_); refine zH tbOk rfl rfl rfl rfl ?_) | ((with_reducible refine zF ?_); refine zX tbOk rfl rfl rfl rfl rfl ?_) | ((with_reducible refine zb ?_); refine yb tbOk rfl rfl rfl rfl rfl (by refine ⟨?_, ?_, ?_⟩ <;> omega) ?_)  | refine yl (by kernel_rfl) ?_ | refine zS rfl ?_ | with_reducible (first | refine zY ?_ | refine zR ?_) | ((with_reducible refine zJ ?_ ?_); kernel_rfl))
            refine qA tbOk rfl rfl rfl rfl rfl (by decide) rfl rfl rfl rfl rfl ho3 (by simp only [List.length_cons, List.length_nil, List.map_cons, List.map_nil, List.length_append]; omega) (by simp only [List.length_cons, List.length_nil, List.map_cons, List.map_nil, List.length_append]; omega) ?_
            repeat (first | ((with_reducible refine zL ?_); refine zM rfl ?_) | ((with_reducible refine yQ ?_); refine yS tbOk rfl rfl rfl rfl rfl rfl rfl (Nat.le_of_ble_eq_true rfl) rfl ?_) | ((with_reducible refine yW ?_); refine yX tbOk rfl rfl rfl rfl rfl ?_)  | refine yA ?_ | refine zS rfl ?_ | with_reducible (first | refine zY ?_ | refine zv ?_) )
            refine jn (by first | exact .inr rfl | exact .inl rfl) rfl rfl rfl rfl rfl rfl ?_
            · have el : (L.take k ++ [p] ++ L.drop k).map Per.av = (((L.map Per.av).take (k : Int).toNat).drop (0 : Int).toNat ++ [p.av]) ++ ((L.map Per.av).take ((L.map Per.av).length : Int).toNat).drop (k : Int).toNat := by
                simp [List.map_take, List.map_drop]
                rw [List.take_of_length_le (by simp)]
              unfold qF
              rw [el]
              repeat' (first | exact trivial | exact Ren.v _ | exact Ren.sl _ _ | exact Ren.ep _ | exact Ren.ptr _ _ _ _ rfl | exact Ren.bs _ _ _ _ _ rfl | exact Ren.nil _ | exact Ren.own _ _ _ _ ⟨_, rfl⟩ | refine yz ?_ | refine jA ?_ | refine jB ?_ | refine ⟨?_, ?_⟩)
end Go.Proofs.YtggagmafkdhjcaaGreatDoor
