/- modeltext.Matter, programme.read and parse, by the abstract machine: a line's words as the plain functions read them; conditions: the tables of classes, powers and places stand / programme.parse and Parse, by the abstract machine: a text is read as the plain function reads it; conditions: the tables of classes, powers and places and a cell of the library stand / programme.Parse, by the abstract machine: a text is read as the plain function reads it; conditions: the tables of classes, powers and places and a cell of the library stand. -/
import Derived.Test.YtggngllfnboehaaGreatDoorPgE
import Derived.Test.YtggngllfnboehaaGreatDoorNmA
import Derived.Test.YtggngllfnboehaaGreatDoorAbsJ
set_option linter.unusedVariables false
set_option linter.unusedSimpArgs false
namespace Go.Proofs.YtggngllfnboehaaGreatDoor
open Go Go.RowKit
set_option maxRecDepth 10000
variable {G : Nat → Option (List Value)}
theorem sv_at {W : List (List UInt8)} {k : Nat} {w : List UInt8} (h : W[k]? = some w) : (W.map svL)[k]? = some (svL w) := by rw [List.getElem?_map, h]; rfl
/-- Whether a line matters. -/
def matB (W : List (List UInt8)) : Bool := !decide (W.length = 0 ∨ (wAt W 0)[0]? = some 35)
theorem matB_iff {W : List (List UInt8)} : matB W = false ↔ (W.length = 0 ∨ (wAt W 0)[0]? = some 35) := by
  unfold matB
  rw [Bool.not_eq_false', decide_eq_true_eq]
set_option maxHeartbeats 2000000 in
theorem matter_A (l : List UInt8) (hl : l.length ≤ 1000000) : yF Tryz.prog G 40 [svL l] [] (.tu [.sl 1 ((jK l).map svL), .v (.bool (matB (jK l)))]) [] := by
  obtain ⟨W, hW⟩ : ∃ W, W = jK l := ⟨_, rfl⟩
  have hw := words_A (G := G) (strL l) (by rw [jb]; omega)
  rw [ym, ← hW] at hw
  have hwok : ∀ w ∈ W, w ≠ [] := fun w h => (words_ok w (by rw [← hW]; exact h)).1
  have hwc : W.length ≤ l.length + 1 := by rw [hW]; exact wl_count
  rw [← hW]
  cases W with
  | nil =>
    refine zj tbOk (zn Tryz.func40 (by kernel_rfl) rfl) Tryz.func40 rfl _ Tryz.ntmps40 (Nat.le_of_ble_eq_true rfl) fun X hX => ?_
    subst hX
    repeat (first | ((with_reducible refine zI ?_); refine zH rfl ?_) | ((with_reducible refine zE ?_); refine zD rfl ?_)  | refine zJ ?_ | refine zB rfl ?_ | with_reducible refine zC ?_ | with_reducible refine zF ?_ | ((with_reducible refine zA ?_ ?_); kernel_rfl))
    refine zo (hw) (by repeat' (first | exact trivial | exact Ren.v _ | exact Ren.sl _ _ | exact Ren.ep _ | exact Ren.ptr _ _ _ _ rfl | exact Ren.bs _ _ _ _ _ rfl | exact Ren.nil _ | exact Ren.own _ _ _ _ ⟨_, rfl⟩ | refine zO ?_ | refine zQ ?_ | refine zP ?_ | refine ⟨?_, ?_⟩)) (by repeat' (first | exact trivial | exact RenB.v _ | exact RenB.sl _ _ | exact RenB.ep _ | exact RenB.ptr _ _ _ _ rfl | refine zW ?_ | refine zX ?_ | refine ⟨?_, ?_⟩)) ?_
    repeat (first | ((with_reducible refine zI ?_); refine zH rfl ?_) | ((with_reducible refine zE ?_); refine zD rfl ?_) | ((with_reducible refine zb ?_); refine zq rfl (by first | rfl | assumption) rfl ?_) | ((with_reducible refine zu ?_); refine yR tbOk rfl rfl ?_) | ((with_reducible refine zM ?_); refine zV rfl rfl rfl ?_)  | refine zJ ?_ | refine jM (by kernel_rfl) ?_ | refine zB rfl ?_ | refine yQ rfl rfl (by first | rfl | assumption) ?_ | with_reducible refine zC ?_ | with_reducible refine zF ?_ | with_reducible refine zU ?_ | ((with_reducible refine yx mixd ?_ ?_); kernel_rfl))
    refine jI (by first | exact .inr rfl | exact .inl rfl) rfl rfl rfl ?_
    repeat' (first | exact trivial | exact Ren.v _ | exact Ren.sl _ _ | exact Ren.ep _ | exact Ren.ptr _ _ _ _ rfl | exact Ren.bs _ _ _ _ _ rfl | exact Ren.nil _ | exact Ren.own _ _ _ _ ⟨_, rfl⟩ | refine zO ?_ | refine zQ ?_ | refine zP ?_ | refine ⟨?_, ?_⟩)
  | cons w W =>
    have hne := hwok w (by simp)
    obtain ⟨c, hc⟩ := zl (L := w) (k := 0) (List.length_pos_iff.2 hne)
    have hz : ((w :: W).map svL)[(0 : Int).toNat]? = some (svL w) := rfl
    have hix := nidxS (strL w) 0 c (by rw [ym]; exact hc)
    have hpos : decide ((0 : Int) < (((w :: W).map svL).length : Nat)) = true := by simp
    have e : matB (w :: W) = !decide ((c.toNat : Int) = 35) := by
      unfold matB wAt
      simp only [List.length_cons, List.getElem?_cons_zero, Option.getD_some, hc, Option.some.injEq]
      by_cases h : c = 35
      · subst h; rfl
      · have : (c.toNat : Int) ≠ 35 := fun e => h (UInt8.toNat_inj.1 (by show c.toNat = 35; omega))
        simp [h, this]
    rw [e]
    refine zj tbOk (zn Tryz.func40 (by kernel_rfl) rfl) Tryz.func40 rfl _ Tryz.ntmps40 (Nat.le_of_ble_eq_true rfl) fun X hX => ?_
    subst hX
    repeat (first | ((with_reducible refine zI ?_); refine zH rfl ?_) | ((with_reducible refine zE ?_); refine zD rfl ?_)  | refine zJ ?_ | refine zB rfl ?_ | with_reducible refine zC ?_ | with_reducible refine zF ?_ | ((with_reducible refine zA ?_ ?_); kernel_rfl))
    refine zo (hw) (by repeat' (first | exact trivial | exact Ren.v _ | exact Ren.sl _ _ | exact Ren.ep _ | exact Ren.ptr _ _ _ _ rfl | exact Ren.bs _ _ _ _ _ rfl | exact Ren.nil _ | exact Ren.own _ _ _ _ ⟨_, rfl⟩ | refine zO ?_ | refine zQ ?_ | refine zP ?_ | refine ⟨?_, ?_⟩)) (by repeat' (first | exact trivial | exact RenB.v _ | exact RenB.sl _ _ | exact RenB.ep _ | exact RenB.ptr _ _ _ _ rfl | refine zW ?_ | refine zX ?_ | refine ⟨?_, ?_⟩)) ?_
    repeat (first | ((with_reducible refine zI ?_); refine zH rfl ?_) | ((with_reducible refine zE ?_); refine zD rfl ?_) | ((with_reducible refine zL ?_); refine za tbOk rfl rfl rfl ?_) | ((with_reducible refine zb ?_); refine zt rfl (by first | rfl | assumption) rfl ?_) | ((with_reducible refine zT ?_); refine zZ tbOk rfl rfl rfl rfl (by assumption) ?_) | ((with_reducible refine yW ?_); refine jB rfl rfl (by assumption) ?_) | ((with_reducible refine zu ?_); refine yR tbOk rfl rfl ?_) | ((with_reducible refine zM ?_); refine zV rfl rfl rfl ?_)  | refine zJ ?_ | refine jM (by kernel_rfl) ?_ | refine zB rfl ?_ | refine yK rfl rfl (by first | rfl | assumption) ?_ | with_reducible refine zC ?_ | with_reducible refine zF ?_ | with_reducible refine zU ?_ | ((with_reducible refine yx mixd ?_ ?_); kernel_rfl))
    refine jI (by first | exact .inr rfl | exact .inl rfl) rfl rfl rfl ?_
    repeat' (first | exact trivial | exact Ren.v _ | exact Ren.sl _ _ | exact Ren.ep _ | exact Ren.ptr _ _ _ _ rfl | exact Ren.bs _ _ _ _ _ rfl | exact Ren.nil _ | exact Ren.own _ _ _ _ ⟨_, rfl⟩ | refine zO ?_ | refine zQ ?_ | refine zP ?_ | refine ⟨?_, ?_⟩)
def idxL (s : List UInt8) : Int → List (List UInt8) → Int
  | _, [] => -1
  | i, d :: l => if s = d then i else idxL s (i + 1) l
theorem idxL_drop {s : List UInt8} {V : List (List UInt8)} {k : Nat} {d : List UInt8} (h : V[k]? = some d) : idxL s k (V.drop k) = if s = d then (k : Int) else idxL s (k + 1 : Nat) (V.drop (k + 1)) := by
  rw [jE h, idxL]; rfl
theorem strEq_L (a b : List UInt8) : yh (strL a) (strL b) = true ↔ a = b := by rw [strEq_l, ym, ym]
theorem sidx_A (L : List (List UInt8)) (s : List UInt8) (hl : L.length ≤ 1000000) : yF Tryz.prog G 73 [.sl 1 (L.map svL), svL s] [] (.v (.int .i64 (idxL s 0 L))) [] := by
  refine zj tbOk (zn Tryz.func73 (by kernel_rfl) rfl) Tryz.func73 rfl _ Tryz.ntmps73 (Nat.le_of_ble_eq_true rfl) fun X hX => ?_
  subst hX
  repeat (first | ((with_reducible refine zI ?_); refine zH rfl ?_) | ((with_reducible refine zE ?_); refine zD rfl ?_) | ((with_reducible refine zu ?_); refine yR tbOk rfl rfl ?_)  | refine zJ ?_ | refine zB rfl ?_ | with_reducible refine zC ?_ | with_reducible refine zF ?_ | with_reducible refine zY ?_ | ((with_reducible refine zA ?_ ?_); kernel_rfl))
  refine yU (ι := Nat) (fun k => k ≤ L.length ∧ idxL s k (L.drop k) = idxL s 0 L) (fun k => L.length - k) (fun v k => [(0, .sl 1 (L.map svL)), (1, svL s), (7, .v (.int .i64 (L.map svL).length)), (8, .v (.int .i64 (k : Nat)))]) (fun v k => []) ?_ ?_
  · exact ⟨0, ⟨Nat.zero_le _, rfl⟩, trivial, ⟨rfl, rfl, rfl, rfl, trivial⟩, trivial⟩
  rintro v k ⟨hk, hi⟩
  repeat (first | ((with_reducible refine zM ?_); refine zV rfl rfl rfl ?_)  | refine zJ ?_ | refine zB rfl ?_ | with_reducible refine zC ?_ | with_reducible refine zF ?_ | ((with_reducible refine zA ?_ ?_); kernel_rfl))
  refine zm rfl (fun h => ?_) (fun h => ?_)
  · have hlt : k < L.length := by simpa using h
    obtain ⟨x, hx⟩ := zl hlt
    have hy := sv_at hx
    rw [idxL_drop hx] at hi
    repeat (first | ((with_reducible refine zI ?_); refine zH rfl ?_) | ((with_reducible refine zE ?_); refine zD rfl ?_) | ((with_reducible refine zL ?_); refine za tbOk rfl rfl rfl ?_) | ((with_reducible refine zT ?_); refine zZ tbOk rfl rfl rfl rfl (by assumption) ?_) | ((with_reducible refine zM ?_); refine yp rfl rfl rfl ?_)  | refine zJ ?_ | refine zB rfl ?_ | with_reducible refine zC ?_ | with_reducible refine zF ?_ | with_reducible refine zY ?_ | with_reducible refine zR ?_ | ((with_reducible refine zA ?_ ?_); kernel_rfl))
    refine zm rfl (fun q => ?_) (fun q => ?_)
    · repeat (first | ((with_reducible refine zI ?_); refine zH rfl ?_) | ((with_reducible refine zE ?_); refine zD rfl ?_)  | refine zJ ?_ | refine zB rfl ?_ | with_reducible refine zC ?_ | with_reducible refine zS ?_ | with_reducible refine zh ?_ | with_reducible refine zF ?_ | with_reducible refine zU ?_ | ((with_reducible refine zA ?_ ?_); kernel_rfl))
      refine yC (by first | exact .inr rfl | exact .inl rfl) rfl rfl ?_
      have q' : s = x := (strEq_L s x).1 q
      rw [if_pos q'] at hi
      rw [← hi]
    · repeat (first | ((with_reducible refine zI ?_); refine zH rfl ?_) | ((with_reducible refine zM ?_); refine ze rfl rfl (by omega) ?_)  | refine zJ ?_ | refine zB rfl ?_ | with_reducible refine zC ?_ | with_reducible refine zk ?_ | with_reducible refine zR ?_ | ((with_reducible refine zA ?_ ?_); kernel_rfl))
      have q' : ¬ s = x := fun e => by
        have h2 := (strEq_L s x).2 e
        have q2 : yh (strL s) (strL x) = false := q
        rw [h2] at q2; cases q2
      rw [if_neg q'] at hi
      exact ⟨k + 1, ⟨by omega, hi⟩, by omega, ⟨rfl, rfl, rfl, rfl, trivial⟩, trivial⟩
  · have hge : L.length ≤ k := by simpa using h
    repeat (first | ((with_reducible refine zE ?_); refine zD rfl ?_)  | refine zJ ?_ | refine zB rfl ?_ | with_reducible refine zC ?_ | with_reducible refine zw ?_ | with_reducible refine zF ?_ | with_reducible refine yJ ?_ | with_reducible refine zU ?_ | ((with_reducible refine zr ?_ ?_); rfl) | ((with_reducible refine zA ?_ ?_); kernel_rfl))
    refine yC (by first | exact .inr rfl | exact .inl rfl) rfl rfl ?_
    rw [List.drop_of_length_le hge] at hi
    rw [← hi]; rfl
def plcW : List (List UInt8) := [[], ql, closedL]
theorem idx_pos (w : List UInt8) : (0 < idxL w 0 plcW → posI w = idxL w 0 plcW ∧ posI w ≠ 0) ∧ (¬ 0 < idxL w 0 plcW → posI w = 0) := by
  unfold plcW idxL idxL idxL idxL posI
  by_cases h0 : w = []
  · subst h0; exact ⟨fun h => absurd h (by decide), fun _ => by decide⟩
  · rw [if_neg h0]
    by_cases h1 : w = ql
    · rw [if_pos h1, if_pos h1]; exact ⟨fun _ => by decide, fun h => absurd (by decide) h⟩
    · rw [if_neg h1, if_neg h1]
      by_cases h2 : w = closedL
      · rw [if_pos h2, if_pos h2]; exact ⟨fun _ => by decide, fun h => absurd (by decide) h⟩
      · rw [if_neg h2, if_neg h2]; exact ⟨fun h => absurd h (by decide), fun _ => rfl⟩
/-- A step's words, read item by item. -/
def rdGo (N : List Nd) (V : List Dv) : List It → List (List UInt8) → St → Int → Option (St × Int)
  | [], _, s, e => some (s, e)
  | .wd t :: F, w :: W, s, e => if w = t.data.toList then rdGo N V F W s e else none
  | .dv :: F, w :: W, s, e => rdGo N V F W { s with d := devI w 0 V } (if devI w 0 V < 0 then 8 else e)
  | .nd :: F, w :: W, s, e => rdGo N V F W { s with n := nodI w 0 N } (if nodI w 0 N < 0 then 7 else e)
  | .ps :: F, w :: W, s, e => if posI w = 0 then none else rdGo N V F W { s with p := posI w } e
  | .ky :: F, w :: W, s, e => match numP w 1073741824 with
    | none => none
    | some y => rdGo N V F W { s with y := y } e
  | _ :: _, [], _, _ => none
def readR (N : List Nd) (V : List Dv) (k : Int) (F : List It) (W : List (List UInt8)) : Option (St × Int) := if W.length = F.length then rdGo N V F W ⟨k, 0, 0, 0, 0⟩ 0 else none
def resR : Option (St × Int) → St × Int
  | none => (St.zer, 2)
  | some r => r
set_option maxHeartbeats 8000000 in
theorem read_A (N : List Nd) (V : List Dv) (k : Int) (F : List It) (W : List (List UInt8)) (hG : GCls G) (hPl : GPlc G) (ok : NwOk N V) (hn : netE N V = 0) (hF : F.length ≤ 5) (hW : W.length ≤ 1000000) (hw : ∀ w ∈ W, w.length ≤ 1000000) :
    yF Tryz.prog G 58 [nwAV N V, .v (.int .i64 k), .sl 1 (F.map It.av), .sl 1 (W.map svL)] [] (.tu [(resR (readR N V k F W)).1.av, .v (.int .i64 (resR (readR N V k F W)).2)]) [] := by
  have hdv : ∀ w : List UInt8, yF Tryz.prog G 71 [nwAV N V, svL w] [] (.v (.int .i64 (devI w 0 V))) [] := fun w => by
    have := ndev_A N V (strL w) hG ok
    unfold devF at this
    rw [if_neg (by simpa using hn), ym] at this
    exact this
  have hnd : ∀ w : List UInt8, yF Tryz.prog G 72 [nwAV N V, svL w] [] (.v (.int .i64 (nodI w 0 N))) [] := fun w => by
    have := nnod_A N V (strL w) hG ok
    unfold nodF at this
    rw [if_neg (by simpa using hn), ym] at this
    exact this
  obtain ⟨R, hR⟩ : ∃ R, R = readR N V k F W := ⟨_, rfl⟩
  rw [← hR]
  refine zj tbOk (zn Tryz.func58 (by kernel_rfl) rfl) Tryz.func58 rfl _ Tryz.ntmps58 (Nat.le_of_ble_eq_true rfl) fun X hX => ?_
  subst hX
  repeat (first | ((with_reducible refine zI ?_); refine zH rfl ?_) | ((with_reducible refine zE ?_); refine zD rfl ?_) | ((with_reducible refine zd ?_); refine zf tbOk rfl rfl rfl rfl rfl rfl rfl (Nat.le_of_ble_eq_true rfl) rfl ?_) | ((with_reducible refine yA ?_); refine yB tbOk rfl rfl ?_) | ((with_reducible refine yj ?_); refine yi rfl rfl rfl ?_) | ((with_reducible refine ye ?_); refine yg tbOk rfl rfl rfl rfl rfl ?_) | ((with_reducible refine zu ?_); refine yR tbOk rfl rfl ?_) | ((with_reducible refine zM ?_); refine zV rfl rfl rfl ?_)  | refine zJ ?_ | refine zB rfl ?_ | with_reducible refine zC ?_ | with_reducible refine zF ?_ | with_reducible refine zY ?_ | ((with_reducible refine zA ?_ ?_); kernel_rfl))
  refine yU (ι := Nat × St × Bool × Int) (fun i => i.1 ≤ F.length ∧ (i.2.2.1 = true → W.length = F.length ∧ rdGo N V (F.drop i.1) (W.drop i.1) i.2.1 i.2.2.2 = R) ∧ (i.2.2.1 = false → R = none)) (fun i => F.length - i.1) (fun v i => [(2, .sl 1 (F.map It.av)), (3, .sl 1 (W.map svL)), (4, .ptr 4 (v 4) 0), (8, .ptr 8 (v 8) 0), (10, .ptr 10 (v 10) 0), (11, .v (.bool i.2.2.1)), (12, .v (.int .i64 i.2.2.2)), (13, .v (.int .i64 (i.1 : Nat)))]) (fun v i => [(4, .box [.sl 3 (N.map Nd.av), .sl 5 (V.map Dv.av)]), (8, .box [.v (.int .i64 0), .v (.int .i64 0), .v (.int .i64 0), .v (.int .i64 0), .v (.int .i64 0)]), (10, .box [.v (.int .i64 i.2.1.k), .v (.int .i64 i.2.1.d), .v (.int .i64 i.2.1.n), .v (.int .i64 i.2.1.p), .v (.int .i64 i.2.1.y)])]) ?_ ?_
  · refine ⟨(0, ⟨k, 0, 0, 0, 0⟩, decide ((((W.map svL).length : Nat) : Int) = (((F.map It.av).length : Nat) : Int)), 0), ⟨Nat.zero_le _, fun h => ?_, fun h => ?_⟩, trivial, ⟨rfl, rfl, rfl, rfl, rfl, rfl, rfl, rfl, trivial⟩, ⟨rfl, rfl, rfl, trivial⟩⟩
    · have hl : W.length = F.length := by simp at h; omega
      rw [hR]
      unfold readR
      rw [if_pos hl]
      exact ⟨hl, rfl⟩
    · have hl : ¬ W.length = F.length := by simp at h; omega
      rw [hR]
      unfold readR
      rw [if_neg hl]
  rintro v ⟨i, s, r, e⟩ ⟨hi, h1, h2⟩
  dsimp only at hi h1 h2 ⊢
  repeat (first | ((with_reducible refine zI ?_); refine zH rfl ?_)  | refine zB rfl ?_ | with_reducible refine zF ?_ | ((with_reducible refine zA ?_ ?_); kernel_rfl))
  refine yI rfl rfl (fun b => ?_) (fun b => ?_)
  · subst b
    obtain ⟨hl, hr⟩ := h1 rfl
    repeat (first | ((with_reducible refine zI ?_); refine zH rfl ?_) | ((with_reducible refine zb ?_); refine zt rfl (by first | rfl | assumption) rfl ?_) | ((with_reducible refine zu ?_); refine yR tbOk rfl rfl ?_) | ((with_reducible refine zM ?_); refine zV rfl rfl rfl ?_)  | refine zJ ?_ | refine zB rfl ?_ | refine yK rfl rfl (by first | rfl | assumption) ?_ | with_reducible refine zC ?_ )
    refine zm rfl (fun h => ?_) (fun h => ?_)
    · have hlt : i < F.length := by simpa using h
      obtain ⟨x, hx⟩ := zl hlt
      obtain ⟨w, hwi⟩ := zl (L := W) (k := i) (by omega)
      have hy := itv_at hx
      have hz := sv_at hwi
      have hwl := hw w (List.mem_of_getElem? hwi)
      rw [jE hx, jE hwi] at hr
      cases x with
      | wd t =>
        rw [rdGo] at hr
        repeat (first | ((with_reducible refine zI ?_); refine zH rfl ?_) | ((with_reducible refine zE ?_); refine zD rfl ?_) | ((with_reducible refine zL ?_); refine za tbOk rfl rfl rfl ?_) | ((with_reducible refine yN ?_); refine yO rfl rfl ?_) | ((with_reducible refine zT ?_); refine zZ tbOk rfl rfl rfl rfl (by assumption) ?_) | ((with_reducible refine zM ?_); refine ze rfl rfl (by omega) ?_) | ((with_reducible refine zM ?_); refine yp rfl rfl rfl ?_)  | refine zJ ?_ | refine zB rfl ?_ | with_reducible refine zC ?_ | with_reducible refine zk ?_ | with_reducible refine zF ?_ | with_reducible refine zY ?_ | with_reducible refine zR ?_ | ((with_reducible refine zA ?_ ?_); kernel_rfl) | refine zg rfl (by first | rfl | assumption) ?_ | ((with_reducible refine zi ?_); first | refine yY (by first | exact askW | exact askD | exact askN | exact askP | exact askK) rfl ?_ | refine zz (by first | exact askW | exact askD | exact askN | exact askP | exact askK) rfl rfl ?_) | ((with_reducible refine yE ?_); first | refine yM (by first | exact askW | exact askD | exact askN | exact askP | exact askK) rfl rfl ?_ | refine yD (by first | exact askW | exact askD | exact askN | exact askP | exact askK) rfl ?_ | refine yS (by first | exact askW | exact askD | exact askN | exact askP | exact askK) rfl ?_))
        exact ⟨(i + 1, s, yh (strL w) t, e), ⟨by omega, fun q => ⟨hl, by rw [if_pos (by have := (strEq_l (strL w) t).1 q; rwa [ym] at this)] at hr; exact hr⟩, fun q => by rw [if_neg (fun e => by have q2 : yh (strL w) t = false := q; rw [(strEq_l (strL w) t).2 (by rw [ym]; exact e)] at q2; cases q2)] at hr; exact hr.symm⟩, by dsimp only; omega, ⟨rfl, rfl, rfl, rfl, rfl, rfl, rfl, rfl, trivial⟩, ⟨rfl, rfl, rfl, trivial⟩⟩
      | dv =>
        rw [rdGo] at hr
        repeat (first | ((with_reducible refine zI ?_); refine zH rfl ?_) | ((with_reducible refine zL ?_); refine zc tbOk rfl rfl rfl rfl (Nat.le_of_ble_eq_true rfl) ?_) | ((with_reducible refine zL ?_); refine za tbOk rfl rfl rfl ?_) | ((with_reducible refine zd ?_); refine zf tbOk rfl rfl rfl rfl rfl rfl rfl (Nat.le_of_ble_eq_true rfl) rfl ?_) | ((with_reducible refine yA ?_); refine yB tbOk rfl rfl ?_) | ((with_reducible refine yN ?_); refine yO rfl rfl ?_) | ((with_reducible refine zT ?_); refine zZ tbOk rfl rfl rfl rfl (by assumption) ?_)  | refine zJ ?_ | refine zB rfl ?_ | with_reducible refine zC ?_ | with_reducible refine zF ?_ | with_reducible refine zY ?_ | with_reducible refine zR ?_ | ((with_reducible refine zA ?_ ?_); kernel_rfl) | ((with_reducible refine yx mixd ?_ ?_); kernel_rfl) | refine zg rfl (by first | rfl | assumption) ?_ | refine zp rfl (by first | rfl | assumption) ?_ | ((with_reducible refine zi ?_); first | refine yY (by first | exact askW | exact askD | exact askN | exact askP | exact askK) rfl ?_ | refine zz (by first | exact askW | exact askD | exact askN | exact askP | exact askK) rfl rfl ?_) | ((with_reducible refine yE ?_); first | refine yM (by first | exact askW | exact askD | exact askN | exact askP | exact askK) rfl rfl ?_ | refine yD (by first | exact askW | exact askD | exact askN | exact askP | exact askK) rfl ?_ | refine yS (by first | exact askW | exact askD | exact askN | exact askP | exact askK) rfl ?_))
        refine zo (hdv w) (by repeat' (first | exact trivial | exact Ren.v _ | exact Ren.sl _ _ | exact Ren.ep _ | exact Ren.ptr _ _ _ _ rfl | exact Ren.bs _ _ _ _ _ rfl | exact Ren.nil _ | exact Ren.own _ _ _ _ ⟨_, rfl⟩ | refine zO ?_ | refine zQ ?_ | refine zP ?_ | refine ⟨?_, ?_⟩)) (by repeat' (first | exact trivial | exact RenB.v _ | exact RenB.sl _ _ | exact RenB.ep _ | exact RenB.ptr _ _ _ _ rfl | refine zW ?_ | refine zX ?_ | refine ⟨?_, ?_⟩)) ?_
        repeat (first | ((with_reducible refine zK ?_); refine zG tbOk rfl rfl rfl rfl ?_) | ((with_reducible refine zL ?_); refine zN tbOk rfl rfl rfl rfl rfl ?_) | ((with_reducible refine zd ?_); refine zf tbOk rfl rfl rfl rfl rfl rfl rfl (Nat.le_of_ble_eq_true rfl) rfl ?_) | ((with_reducible refine zM ?_); refine zV rfl rfl rfl ?_)  | refine zJ ?_ | refine jM (by kernel_rfl) ?_ | refine zB rfl ?_ | with_reducible refine zC ?_ | with_reducible refine zF ?_ | ((with_reducible refine zA ?_ ?_); kernel_rfl) | ((with_reducible refine zi ?_); first | refine yY (by first | exact askW | exact askD | exact askN | exact askP | exact askK) rfl ?_ | refine zz (by first | exact askW | exact askD | exact askN | exact askP | exact askK) rfl rfl ?_) | ((with_reducible refine yE ?_); first | refine yM (by first | exact askW | exact askD | exact askN | exact askP | exact askK) rfl rfl ?_ | refine yD (by first | exact askW | exact askD | exact askN | exact askP | exact askK) rfl ?_ | refine yS (by first | exact askW | exact askD | exact askN | exact askP | exact askK) rfl ?_))
        refine zm rfl (fun q => ?_) (fun q => ?_)
        · rw [if_pos (by simpa using q)] at hr
          repeat (first | ((with_reducible refine zI ?_); refine zH rfl ?_) | ((with_reducible refine zE ?_); refine zD rfl ?_) | ((with_reducible refine zM ?_); refine ze rfl rfl (by omega) ?_)  | refine zJ ?_ | refine zB rfl ?_ | with_reducible refine zC ?_ | with_reducible refine zk ?_ | ((with_reducible refine zA ?_ ?_); kernel_rfl) | ((with_reducible refine zi ?_); first | refine yY (by first | exact askW | exact askD | exact askN | exact askP | exact askK) rfl ?_ | refine zz (by first | exact askW | exact askD | exact askN | exact askP | exact askK) rfl rfl ?_) | ((with_reducible refine yE ?_); first | refine yM (by first | exact askW | exact askD | exact askN | exact askP | exact askK) rfl rfl ?_ | refine yD (by first | exact askW | exact askD | exact askN | exact askP | exact askK) rfl ?_ | refine yS (by first | exact askW | exact askD | exact askN | exact askP | exact askK) rfl ?_))
          exact ⟨(i + 1, ⟨s.k, devI w 0 V, s.n, s.p, s.y⟩, true, 8), ⟨by omega, fun _ => ⟨hl, hr⟩, fun q => by cases q⟩, by dsimp only; omega, ⟨rfl, rfl, rfl, rfl, rfl, rfl, rfl, rfl, trivial⟩, ⟨rfl, rfl, rfl, trivial⟩⟩
        · rw [if_neg (by simpa using q)] at hr
          repeat (first | ((with_reducible refine zI ?_); refine zH rfl ?_) | ((with_reducible refine zE ?_); refine zD rfl ?_) | ((with_reducible refine zM ?_); refine ze rfl rfl (by omega) ?_)  | refine zJ ?_ | refine zB rfl ?_ | with_reducible refine zC ?_ | with_reducible refine zk ?_ | with_reducible refine zR ?_ | ((with_reducible refine zA ?_ ?_); kernel_rfl) | ((with_reducible refine zi ?_); first | refine yY (by first | exact askW | exact askD | exact askN | exact askP | exact askK) rfl ?_ | refine zz (by first | exact askW | exact askD | exact askN | exact askP | exact askK) rfl rfl ?_) | ((with_reducible refine yE ?_); first | refine yM (by first | exact askW | exact askD | exact askN | exact askP | exact askK) rfl rfl ?_ | refine yD (by first | exact askW | exact askD | exact askN | exact askP | exact askK) rfl ?_ | refine yS (by first | exact askW | exact askD | exact askN | exact askP | exact askK) rfl ?_))
          exact ⟨(i + 1, ⟨s.k, devI w 0 V, s.n, s.p, s.y⟩, true, e), ⟨by omega, fun _ => ⟨hl, hr⟩, fun q => by cases q⟩, by dsimp only; omega, ⟨rfl, rfl, rfl, rfl, rfl, rfl, rfl, rfl, trivial⟩, ⟨rfl, rfl, rfl, trivial⟩⟩
      | nd =>
        rw [rdGo] at hr
        repeat (first | ((with_reducible refine zI ?_); refine zH rfl ?_) | ((with_reducible refine zL ?_); refine zc tbOk rfl rfl rfl rfl (Nat.le_of_ble_eq_true rfl) ?_) | ((with_reducible refine zL ?_); refine za tbOk rfl rfl rfl ?_) | ((with_reducible refine zd ?_); refine zf tbOk rfl rfl rfl rfl rfl rfl rfl (Nat.le_of_ble_eq_true rfl) rfl ?_) | ((with_reducible refine yA ?_); refine yB tbOk rfl rfl ?_) | ((with_reducible refine yN ?_); refine yO rfl rfl ?_) | ((with_reducible refine zT ?_); refine zZ tbOk rfl rfl rfl rfl (by assumption) ?_)  | refine zJ ?_ | refine zB rfl ?_ | with_reducible refine zC ?_ | with_reducible refine zF ?_ | with_reducible refine zY ?_ | with_reducible refine zR ?_ | ((with_reducible refine zA ?_ ?_); kernel_rfl) | ((with_reducible refine yx mixd ?_ ?_); kernel_rfl) | refine zg rfl (by first | rfl | assumption) ?_ | refine zp rfl (by first | rfl | assumption) ?_ | ((with_reducible refine zi ?_); first | refine yY (by first | exact askW | exact askD | exact askN | exact askP | exact askK) rfl ?_ | refine zz (by first | exact askW | exact askD | exact askN | exact askP | exact askK) rfl rfl ?_) | ((with_reducible refine yE ?_); first | refine yM (by first | exact askW | exact askD | exact askN | exact askP | exact askK) rfl rfl ?_ | refine yD (by first | exact askW | exact askD | exact askN | exact askP | exact askK) rfl ?_ | refine yS (by first | exact askW | exact askD | exact askN | exact askP | exact askK) rfl ?_))
        refine zo (hnd w) (by repeat' (first | exact trivial | exact Ren.v _ | exact Ren.sl _ _ | exact Ren.ep _ | exact Ren.ptr _ _ _ _ rfl | exact Ren.bs _ _ _ _ _ rfl | exact Ren.nil _ | exact Ren.own _ _ _ _ ⟨_, rfl⟩ | refine zO ?_ | refine zQ ?_ | refine zP ?_ | refine ⟨?_, ?_⟩)) (by repeat' (first | exact trivial | exact RenB.v _ | exact RenB.sl _ _ | exact RenB.ep _ | exact RenB.ptr _ _ _ _ rfl | refine zW ?_ | refine zX ?_ | refine ⟨?_, ?_⟩)) ?_
        repeat (first | ((with_reducible refine zK ?_); refine zG tbOk rfl rfl rfl rfl ?_) | ((with_reducible refine zL ?_); refine zN tbOk rfl rfl rfl rfl rfl ?_) | ((with_reducible refine zd ?_); refine zf tbOk rfl rfl rfl rfl rfl rfl rfl (Nat.le_of_ble_eq_true rfl) rfl ?_) | ((with_reducible refine zM ?_); refine zV rfl rfl rfl ?_)  | refine zJ ?_ | refine jM (by kernel_rfl) ?_ | refine zB rfl ?_ | with_reducible refine zC ?_ | with_reducible refine zF ?_ | ((with_reducible refine zA ?_ ?_); kernel_rfl) | ((with_reducible refine zi ?_); first | refine yY (by first | exact askW | exact askD | exact askN | exact askP | exact askK) rfl ?_ | refine zz (by first | exact askW | exact askD | exact askN | exact askP | exact askK) rfl rfl ?_) | ((with_reducible refine yE ?_); first | refine yM (by first | exact askW | exact askD | exact askN | exact askP | exact askK) rfl rfl ?_ | refine yD (by first | exact askW | exact askD | exact askN | exact askP | exact askK) rfl ?_ | refine yS (by first | exact askW | exact askD | exact askN | exact askP | exact askK) rfl ?_))
        refine zm rfl (fun q => ?_) (fun q => ?_)
        · rw [if_pos (by simpa using q)] at hr
          repeat (first | ((with_reducible refine zI ?_); refine zH rfl ?_) | ((with_reducible refine zE ?_); refine zD rfl ?_) | ((with_reducible refine zM ?_); refine ze rfl rfl (by omega) ?_)  | refine zJ ?_ | refine zB rfl ?_ | with_reducible refine zC ?_ | with_reducible refine zk ?_ | ((with_reducible refine zA ?_ ?_); kernel_rfl) | ((with_reducible refine zi ?_); first | refine yY (by first | exact askW | exact askD | exact askN | exact askP | exact askK) rfl ?_ | refine zz (by first | exact askW | exact askD | exact askN | exact askP | exact askK) rfl rfl ?_) | ((with_reducible refine yE ?_); first | refine yM (by first | exact askW | exact askD | exact askN | exact askP | exact askK) rfl rfl ?_ | refine yD (by first | exact askW | exact askD | exact askN | exact askP | exact askK) rfl ?_ | refine yS (by first | exact askW | exact askD | exact askN | exact askP | exact askK) rfl ?_))
          exact ⟨(i + 1, ⟨s.k, s.d, nodI w 0 N, s.p, s.y⟩, true, 7), ⟨by omega, fun _ => ⟨hl, hr⟩, fun q => by cases q⟩, by dsimp only; omega, ⟨rfl, rfl, rfl, rfl, rfl, rfl, rfl, rfl, trivial⟩, ⟨rfl, rfl, rfl, trivial⟩⟩
        · rw [if_neg (by simpa using q)] at hr
          repeat (first | ((with_reducible refine zI ?_); refine zH rfl ?_) | ((with_reducible refine zE ?_); refine zD rfl ?_) | ((with_reducible refine zM ?_); refine ze rfl rfl (by omega) ?_)  | refine zJ ?_ | refine zB rfl ?_ | with_reducible refine zC ?_ | with_reducible refine zk ?_ | with_reducible refine zR ?_ | ((with_reducible refine zA ?_ ?_); kernel_rfl) | ((with_reducible refine zi ?_); first | refine yY (by first | exact askW | exact askD | exact askN | exact askP | exact askK) rfl ?_ | refine zz (by first | exact askW | exact askD | exact askN | exact askP | exact askK) rfl rfl ?_) | ((with_reducible refine yE ?_); first | refine yM (by first | exact askW | exact askD | exact askN | exact askP | exact askK) rfl rfl ?_ | refine yD (by first | exact askW | exact askD | exact askN | exact askP | exact askK) rfl ?_ | refine yS (by first | exact askW | exact askD | exact askN | exact askP | exact askK) rfl ?_))
          exact ⟨(i + 1, ⟨s.k, s.d, nodI w 0 N, s.p, s.y⟩, true, e), ⟨by omega, fun _ => ⟨hl, hr⟩, fun q => by cases q⟩, by dsimp only; omega, ⟨rfl, rfl, rfl, rfl, rfl, rfl, rfl, rfl, trivial⟩, ⟨rfl, rfl, rfl, trivial⟩⟩
      | ps =>
        rw [rdGo] at hr
        obtain ⟨p1, p2⟩ := idx_pos w
        repeat (first | ((with_reducible refine zI ?_); refine zH rfl ?_) | ((with_reducible refine zL ?_); refine za tbOk rfl rfl rfl ?_) | ((with_reducible refine zd ?_); refine zf tbOk rfl rfl rfl rfl rfl rfl rfl (Nat.le_of_ble_eq_true rfl) rfl ?_) | ((with_reducible refine yA ?_); refine yB tbOk rfl rfl ?_) | ((with_reducible refine yN ?_); refine yO rfl rfl ?_) | ((with_reducible refine zT ?_); refine zZ tbOk rfl rfl rfl rfl (by assumption) ?_)  | refine zJ ?_ | refine zB rfl ?_ | with_reducible refine zC ?_ | with_reducible refine zF ?_ | with_reducible refine zY ?_ | with_reducible refine zR ?_ | ((with_reducible refine zA ?_ ?_); kernel_rfl) | ((with_reducible refine yx mixd ?_ ?_); kernel_rfl) | refine zg rfl (by first | rfl | assumption) ?_ | refine zp rfl (by first | rfl | assumption) ?_ | ((with_reducible refine zi ?_); first | refine yY (by first | exact askW | exact askD | exact askN | exact askP | exact askK) rfl ?_ | refine zz (by first | exact askW | exact askD | exact askN | exact askP | exact askK) rfl rfl ?_) | ((with_reducible refine yE ?_); first | refine yM (by first | exact askW | exact askD | exact askN | exact askP | exact askK) rfl rfl ?_ | refine yD (by first | exact askW | exact askD | exact askN | exact askP | exact askK) rfl ?_ | refine yS (by first | exact askW | exact askD | exact askN | exact askP | exact askK) rfl ?_))
        (with_reducible refine k_slice ?_)
        refine x_slice_gl tbOk Tryz.underlying98 rfl rfl hPl rfl (by decide) (by decide) ?_
        repeat (first | ((with_reducible refine zI ?_); refine zH rfl ?_) | ((with_reducible refine zL ?_); refine za tbOk rfl rfl rfl ?_) | ((with_reducible refine zT ?_); refine zZ tbOk rfl rfl rfl rfl (by assumption) ?_)  | refine zB rfl ?_   | ((with_reducible refine zi ?_); first | refine yY (by first | exact askW | exact askD | exact askN | exact askP | exact askK) rfl ?_ | refine zz (by first | exact askW | exact askD | exact askN | exact askP | exact askK) rfl rfl ?_) | ((with_reducible refine yE ?_); first | refine yM (by first | exact askW | exact askD | exact askN | exact askP | exact askK) rfl rfl ?_ | refine yD (by first | exact askW | exact askD | exact askN | exact askP | exact askK) rfl ?_ | refine yS (by first | exact askW | exact askD | exact askN | exact askP | exact askK) rfl ?_))
        refine zo (sidx_A plcW w (by decide)) (by repeat' (first | exact trivial | exact Ren.v _ | exact Ren.sl _ _ | exact Ren.ep _ | exact Ren.ptr _ _ _ _ rfl | exact Ren.bs _ _ _ _ _ rfl | exact Ren.nil _ | exact Ren.own _ _ _ _ ⟨_, rfl⟩ | refine zO ?_ | refine zQ ?_ | refine zP ?_ | refine ⟨?_, ?_⟩)) (by repeat' (first | exact trivial | exact RenB.v _ | exact RenB.sl _ _ | exact RenB.ep _ | exact RenB.ptr _ _ _ _ rfl | refine zW ?_ | refine zX ?_ | refine ⟨?_, ?_⟩)) ?_
        repeat (first | ((with_reducible refine zI ?_); refine zH rfl ?_) | ((with_reducible refine zE ?_); refine zD rfl ?_) | ((with_reducible refine zK ?_); refine zG tbOk rfl rfl rfl rfl ?_) | ((with_reducible refine zL ?_); refine zN tbOk rfl rfl rfl rfl rfl ?_) | ((with_reducible refine zd ?_); refine zf tbOk rfl rfl rfl rfl rfl rfl rfl (Nat.le_of_ble_eq_true rfl) rfl ?_) | ((with_reducible refine zM ?_); refine ze rfl rfl (by omega) ?_) | ((with_reducible refine zM ?_); refine zV rfl rfl rfl ?_)  | refine zJ ?_ | refine jM (by kernel_rfl) ?_ | refine zB rfl ?_ | with_reducible refine zC ?_ | with_reducible refine zk ?_ | ((with_reducible refine zA ?_ ?_); kernel_rfl) | ((with_reducible refine zi ?_); first | refine yY (by first | exact askW | exact askD | exact askN | exact askP | exact askK) rfl ?_ | refine zz (by first | exact askW | exact askD | exact askN | exact askP | exact askK) rfl rfl ?_) | ((with_reducible refine yE ?_); first | refine yM (by first | exact askW | exact askD | exact askN | exact askP | exact askK) rfl rfl ?_ | refine yD (by first | exact askW | exact askD | exact askN | exact askP | exact askK) rfl ?_ | refine yS (by first | exact askW | exact askD | exact askN | exact askP | exact askK) rfl ?_))
        exact ⟨(i + 1, ⟨s.k, s.d, s.n, idxL w 0 plcW, s.y⟩, decide (0 < idxL w 0 plcW), e), ⟨by omega, fun q => by
          obtain ⟨q1, q2⟩ := p1 (by simpa using q)
          rw [if_neg q2, q1] at hr
          exact ⟨hl, hr⟩, fun q => by rw [if_pos (p2 (by simpa using q))] at hr; exact hr.symm⟩, by dsimp only; omega, ⟨rfl, rfl, rfl, rfl, rfl, rfl, rfl, rfl, trivial⟩, ⟨rfl, rfl, rfl, trivial⟩⟩
      | ky =>
        rw [rdGo] at hr
        have hnm := number_A (G := X.G) (strL w) 1073741824 (by rw [jb]; unfold maxLen; omega) (by omega) (by omega)
        rw [ym] at hnm
        repeat (first | ((with_reducible refine zI ?_); refine zH rfl ?_) | ((with_reducible refine zL ?_); refine za tbOk rfl rfl rfl ?_) | ((with_reducible refine zd ?_); refine zf tbOk rfl rfl rfl rfl rfl rfl rfl (Nat.le_of_ble_eq_true rfl) rfl ?_) | ((with_reducible refine yA ?_); refine yB tbOk rfl rfl ?_) | ((with_reducible refine yN ?_); refine yO rfl rfl ?_) | ((with_reducible refine zT ?_); refine zZ tbOk rfl rfl rfl rfl (by assumption) ?_)  | refine zJ ?_ | refine zB rfl ?_ | with_reducible refine zC ?_ | with_reducible refine zF ?_ | with_reducible refine zY ?_ | with_reducible refine zR ?_ | ((with_reducible refine zA ?_ ?_); kernel_rfl) | refine zg rfl (by first | rfl | assumption) ?_ | refine zp rfl (by first | rfl | assumption) ?_ | ((with_reducible refine zi ?_); first | refine yY (by first | exact askW | exact askD | exact askN | exact askP | exact askK) rfl ?_ | refine zz (by first | exact askW | exact askD | exact askN | exact askP | exact askK) rfl rfl ?_) | ((with_reducible refine yE ?_); first | refine yM (by first | exact askW | exact askD | exact askN | exact askP | exact askK) rfl rfl ?_ | refine yD (by first | exact askW | exact askD | exact askN | exact askP | exact askK) rfl ?_ | refine yS (by first | exact askW | exact askD | exact askN | exact askP | exact askK) rfl ?_))
        refine zo (hnm) (by repeat' (first | exact trivial | exact Ren.v _ | exact Ren.sl _ _ | exact Ren.ep _ | exact Ren.ptr _ _ _ _ rfl | exact Ren.bs _ _ _ _ _ rfl | exact Ren.nil _ | exact Ren.own _ _ _ _ ⟨_, rfl⟩ | refine zO ?_ | refine zQ ?_ | refine zP ?_ | refine ⟨?_, ?_⟩)) (by repeat' (first | exact trivial | exact RenB.v _ | exact RenB.sl _ _ | exact RenB.ep _ | exact RenB.ptr _ _ _ _ rfl | refine zW ?_ | refine zX ?_ | refine ⟨?_, ?_⟩)) ?_
        repeat (first | ((with_reducible refine zI ?_); refine zH rfl ?_) | ((with_reducible refine zE ?_); refine zD rfl ?_) | ((with_reducible refine zK ?_); refine zG tbOk rfl rfl rfl rfl ?_) | ((with_reducible refine zd ?_); refine zf tbOk rfl rfl rfl rfl rfl rfl rfl (Nat.le_of_ble_eq_true rfl) rfl ?_) | ((with_reducible refine yN ?_); refine yO rfl rfl ?_) | ((with_reducible refine zM ?_); refine ze rfl rfl (by omega) ?_)  | refine zJ ?_ | refine zB rfl ?_ | with_reducible refine zC ?_ | with_reducible refine zk ?_ | ((with_reducible refine zA ?_ ?_); kernel_rfl) | ((with_reducible refine zi ?_); first | refine yY (by first | exact askW | exact askD | exact askN | exact askP | exact askK) rfl ?_ | refine zz (by first | exact askW | exact askD | exact askN | exact askP | exact askK) rfl rfl ?_) | ((with_reducible refine yE ?_); first | refine yM (by first | exact askW | exact askD | exact askN | exact askP | exact askK) rfl rfl ?_ | refine yD (by first | exact askW | exact askD | exact askN | exact askP | exact askK) rfl ?_ | refine yS (by first | exact askW | exact askD | exact askN | exact askP | exact askK) rfl ?_))
        exact ⟨(i + 1, ⟨s.k, s.d, s.n, s.p, (numP w 1073741824).getD 0⟩, (numP w 1073741824).isSome, e), ⟨by omega, fun q => by
          cases hq : numP w 1073741824 with
          | none => rw [hq] at q; cases q
          | some y => rw [hq] at hr; exact ⟨hl, hr⟩, fun q => by
          cases hq : numP w 1073741824 with
          | none => rw [hq] at hr; exact hr.symm
          | some y => rw [hq] at q; cases q⟩, by dsimp only; omega, ⟨rfl, rfl, rfl, rfl, rfl, rfl, rfl, rfl, trivial⟩, ⟨rfl, rfl, rfl, trivial⟩⟩
    · have hge : F.length ≤ i := by simpa using h
      rw [List.drop_of_length_le hge] at hr
      rw [← hr, rdGo]
      repeat (first | ((with_reducible refine zI ?_); refine zH rfl ?_) | ((with_reducible refine zE ?_); refine zD rfl ?_) | ((with_reducible refine zL ?_); refine zc tbOk rfl rfl rfl rfl (Nat.le_of_ble_eq_true rfl) ?_) | ((with_reducible refine zd ?_); refine zf tbOk rfl rfl rfl rfl rfl rfl rfl (Nat.le_of_ble_eq_true rfl) rfl ?_) | ((with_reducible refine k_un ?_); refine yr rfl ?_)  | refine zJ ?_ | refine zB rfl ?_ | with_reducible refine zC ?_ | with_reducible refine zw ?_ | with_reducible refine zF ?_ | with_reducible refine zR ?_ | with_reducible refine yJ ?_ | with_reducible refine zU ?_ | ((with_reducible refine zr ?_ ?_); rfl) | ((with_reducible refine zA ?_ ?_); kernel_rfl) | refine zp rfl (by first | rfl | assumption) ?_)
      refine yo (by first | exact .inr rfl | exact .inl rfl) rfl rfl rfl rfl rfl rfl ?_
      repeat' (first | exact trivial | exact Ren.v _ | exact Ren.sl _ _ | exact Ren.ep _ | exact Ren.ptr _ _ _ _ rfl | exact Ren.bs _ _ _ _ _ rfl | exact Ren.nil _ | exact Ren.own _ _ _ _ ⟨_, rfl⟩ | refine zO ?_ | refine zQ ?_ | refine zP ?_ | refine ⟨?_, ?_⟩)
  · subst b
    rw [h2 rfl]
    repeat (first | ((with_reducible refine zI ?_); refine zH rfl ?_) | ((with_reducible refine zE ?_); refine zD rfl ?_) | ((with_reducible refine zd ?_); refine zf tbOk rfl rfl rfl rfl rfl rfl rfl (Nat.le_of_ble_eq_true rfl) rfl ?_) | ((with_reducible refine k_un ?_); refine yr rfl ?_) | ((with_reducible refine zb ?_); refine zq rfl (by first | rfl | assumption) rfl ?_) | ((with_reducible refine ye ?_); refine yg tbOk rfl rfl rfl rfl rfl ?_)  | refine zJ ?_ | refine zB rfl ?_ | refine yQ rfl rfl (by first | rfl | assumption) ?_ | with_reducible refine zC ?_ | with_reducible refine zw ?_ | with_reducible refine zS ?_ | with_reducible refine zF ?_ | with_reducible refine yJ ?_ | with_reducible refine zU ?_ | ((with_reducible refine zr ?_ ?_); rfl) | ((with_reducible refine zA ?_ ?_); kernel_rfl) | refine zg rfl (by first | rfl | assumption) ?_ | refine zp rfl (by first | rfl | assumption) ?_)
    refine yo (by first | exact .inr rfl | exact .inl rfl) rfl rfl rfl rfl rfl rfl ?_
    repeat' (first | exact trivial | exact Ren.v _ | exact Ren.sl _ _ | exact Ren.ep _ | exact Ren.ptr _ _ _ _ rfl | exact Ren.bs _ _ _ _ _ rfl | exact Ren.nil _ | exact Ren.own _ _ _ _ ⟨_, rfl⟩ | refine zO ?_ | refine zQ ?_ | refine zP ?_ | refine ⟨?_, ?_⟩)
end Go.Proofs.YtggngllfnboehaaGreatDoor
namespace Go.Proofs.YtggngllfnboehaaGreatDoor
open Go Go.RowKit
set_option maxRecDepth 10000
variable {G : Nat → Option (List Value)}
def rdK (N : List Nd) (V : List Dv) (W : List (List UInt8)) (k : Int) : St × Int := resR (readR N V k (jW k) W)
def jq (N : List Nd) (V : List Dv) (W : List (List UInt8)) : St × Int :=
  if wAt W 0 = ql then rdK N V W 1 else if wAt W 0 = qq then rdK N V W 2 else if wAt W 0 = lockL then rdK N V W 3
  else if wAt W 0 = js then rdK N V W 4 else if wAt W 0 = qm then rdK N V W 5 else if wAt W 0 = qN then rdK N V W 6 else (St.zer, 2)
theorem beq_L (a : Array UInt8) (w : List UInt8) : ((⟨a⟩ : ByteArray) == strL w) = decide (w = a.toList) := by
  show (a == w.toArray) = decide (w = a.toList)
  rw [Bool.eq_iff_iff, beq_iff_eq, decide_eq_true_eq]
  exact ⟨fun e => by rw [e], fun e => by rw [e]⟩
set_option maxHeartbeats 8000000 in
theorem parse_A (N : List Nd) (V : List Dv) (W : List (List UInt8)) (hG : GCls G) (hPl : GPlc G) (ok : NwOk N V) (hn : netE N V = 0) (h0 : W ≠ []) (hW : W.length ≤ 1000000) (hw : ∀ w ∈ W, w.length ≤ 1000000) :
    yF Tryz.prog G 41 [nwAV N V, .sl 1 (W.map svL)] [] (.tu [(jq N V W).1.av, .v (.int .i64 (jq N V W).2)]) [] := by
  obtain ⟨w0, hw0'⟩ := zl (L := W) (k := 0) (List.length_pos_iff.2 h0)
  have hw0 : wAt W 0 = w0 := by unfold wAt; rw [hw0']; rfl
  have hz0 : (W.map svL)[(0 : Int).toNat]? = some (svL w0) := sv_at hw0'
  have hlp : 0 < W.length := List.length_pos_iff.2 h0
  refine zj tbOk (zn Tryz.func41 (by kernel_rfl) rfl) Tryz.func41 rfl _ Tryz.ntmps41 (Nat.le_of_ble_eq_true rfl) fun X hX => ?_
  subst hX
  repeat (first | ((with_reducible refine zE ?_); refine zD rfl ?_) | ((with_reducible refine yA ?_); refine yB tbOk rfl rfl ?_) | ((with_reducible refine yj ?_); refine yi rfl rfl rfl ?_)  | refine zJ ?_ | refine zB rfl ?_ | with_reducible refine zC ?_ | with_reducible refine zF ?_ | with_reducible refine zY ?_ | ((with_reducible refine zA ?_ ?_); kernel_rfl))
  refine yU (ι := Nat) (fun k => 1 ≤ k ∧ k ≤ 7 ∧ (1 < k → ¬ wAt W 0 = ql) ∧ (2 < k → ¬ wAt W 0 = qq) ∧ (3 < k → ¬ wAt W 0 = lockL) ∧ (4 < k → ¬ wAt W 0 = js) ∧ (5 < k → ¬ wAt W 0 = qm) ∧ (6 < k → ¬ wAt W 0 = qN)) (fun k => 7 - k) (fun v k => [(1, .sl 1 (W.map svL)), (2, .ptr 2 (v 2) 0), (4, .ptr 4 (v 4) 0), (6, .v (.int .i64 (k : Nat)))]) (fun v k => [(2, .box [.sl 3 (N.map Nd.av), .sl 5 (V.map Dv.av)]), (4, .box [.v (.int .i64 0), .v (.int .i64 0), .v (.int .i64 0), .v (.int .i64 0), .v (.int .i64 0)])]) ?_ ?_
  · exact ⟨1, ⟨by omega, by omega, by omega, by omega, by omega, by omega, by omega, by omega⟩, trivial, ⟨rfl, rfl, rfl, rfl, trivial⟩, ⟨rfl, rfl, trivial⟩⟩
  rintro v k ⟨hk1, hk7, ha, hb, hc, hd, he, hf⟩
  rcases (by omega : k = 1 ∨ k = 2 ∨ k = 3 ∨ k = 4 ∨ k = 5 ∨ k = 6 ∨ k = 7) with e | e | e | e | e | e | e <;> subst e
  · have hf0 : ((jW 1).map It.av)[(0 : Int).toNat]? = some (.v (.iface 93 (.string ⟨#[111, 112, 101, 110]⟩))) := rfl
    repeat (first | ((with_reducible refine zI ?_); refine zH rfl ?_) | ((with_reducible refine zM ?_); refine zV rfl rfl rfl ?_)  | refine zJ ?_ | refine zB rfl ?_ | with_reducible refine zC ?_ | with_reducible refine zF ?_ | with_reducible refine zY ?_ | with_reducible refine zR ?_ | ((with_reducible refine zA ?_ ?_); kernel_rfl) | refine zg rfl (by first | rfl | assumption) ?_ | ((with_reducible refine zi ?_); first | refine yY (by first | exact askW | exact askD | exact askN | exact askP | exact askK) rfl ?_ | refine zz (by first | exact askW | exact askD | exact askN | exact askP | exact askK) rfl rfl ?_))
    refine zo (form_A 1 (by decide)) (by repeat' (first | exact trivial | exact Ren.v _ | exact Ren.sl _ _ | exact Ren.ep _ | exact Ren.ptr _ _ _ _ rfl | exact Ren.bs _ _ _ _ _ rfl | exact Ren.nil _ | exact Ren.own _ _ _ _ ⟨_, rfl⟩ | refine zO ?_ | refine zQ ?_ | refine zP ?_ | refine ⟨?_, ?_⟩)) (by repeat' (first | exact trivial | exact RenB.v _ | exact RenB.sl _ _ | exact RenB.ep _ | exact RenB.ptr _ _ _ _ rfl | refine zW ?_ | refine zX ?_ | refine ⟨?_, ?_⟩)) ?_
    repeat (first | ((with_reducible refine zI ?_); refine zH rfl ?_) | ((with_reducible refine zE ?_); refine zD rfl ?_) | ((with_reducible refine zL ?_); refine za tbOk rfl rfl rfl ?_) | ((with_reducible refine zT ?_); refine zZ tbOk rfl rfl rfl rfl (by assumption) ?_)  | refine zJ ?_ | refine zB rfl ?_ | with_reducible refine zC ?_ | with_reducible refine zF ?_ | ((with_reducible refine yx mixd ?_ ?_); kernel_rfl) | ((with_reducible refine zi ?_); first | refine yY (by first | exact askW | exact askD | exact askN | exact askP | exact askK) rfl ?_ | refine zz (by first | exact askW | exact askD | exact askN | exact askP | exact askK) rfl rfl ?_))
    ((with_reducible refine zM ?_); refine x_eql_ifS eqWord rfl rfl ?_)
    rw [beq_L]
    repeat (first   | refine jM (by kernel_rfl) ?_ | with_reducible refine zC ?_  | ((with_reducible refine zi ?_); first | refine yY (by first | exact askW | exact askD | exact askN | exact askP | exact askK) rfl ?_ | refine zz (by first | exact askW | exact askD | exact askN | exact askP | exact askK) rfl rfl ?_))
    refine zm rfl (fun q => ?_) (fun q => ?_)
    · have q' : wAt W 0 = ql := by rw [hw0]; exact of_decide_eq_true q
      have e : jq N V W = rdK N V W 1 := by unfold jq; rw [if_pos q']
      rw [e]
      unfold rdK
      repeat (first | ((with_reducible refine zI ?_); refine zH rfl ?_) | ((with_reducible refine zL ?_); refine zc tbOk rfl rfl rfl rfl (Nat.le_of_ble_eq_true rfl) ?_)  | refine zB rfl ?_ | with_reducible refine zF ?_ | ((with_reducible refine zA ?_ ?_); kernel_rfl))
      refine zo (read_A N V 1 (jW 1) W hG hPl ok hn (by decide) hW hw) (by repeat' (first | exact trivial | exact Ren.v _ | exact Ren.sl _ _ | exact Ren.ep _ | exact Ren.ptr _ _ _ _ rfl | exact Ren.bs _ _ _ _ _ rfl | exact Ren.nil _ | exact Ren.own _ _ _ _ ⟨_, rfl⟩ | refine zO ?_ | refine zQ ?_ | refine zP ?_ | refine ⟨?_, ?_⟩)) (by repeat' (first | exact trivial | exact RenB.v _ | exact RenB.sl _ _ | exact RenB.ep _ | exact RenB.ptr _ _ _ _ rfl | refine zW ?_ | refine zX ?_ | refine ⟨?_, ?_⟩)) ?_
      repeat (first | ((with_reducible refine zE ?_); refine zD rfl ?_) | ((with_reducible refine zd ?_); refine zf tbOk rfl rfl rfl rfl rfl rfl rfl (Nat.le_of_ble_eq_true rfl) rfl ?_) | ((with_reducible refine yN ?_); refine yO rfl rfl ?_)  | refine zJ ?_ | refine zB rfl ?_ | with_reducible refine zC ?_ | with_reducible refine zS ?_ | with_reducible refine zh ?_ | with_reducible refine zU ?_ )
      refine yo (by first | exact .inr rfl | exact .inl rfl) rfl rfl rfl rfl rfl rfl ?_
      repeat' (first | exact trivial | exact Ren.v _ | exact Ren.sl _ _ | exact Ren.ep _ | exact Ren.ptr _ _ _ _ rfl | exact Ren.bs _ _ _ _ _ rfl | exact Ren.nil _ | exact Ren.own _ _ _ _ ⟨_, rfl⟩ | refine zO ?_ | refine zQ ?_ | refine zP ?_ | refine ⟨?_, ?_⟩)
    · have q' : ¬ wAt W 0 = ql := by rw [hw0]; exact of_decide_eq_false q
      repeat (first | ((with_reducible refine zI ?_); refine zH rfl ?_) | ((with_reducible refine zE ?_); refine zD rfl ?_) | ((with_reducible refine zM ?_); refine ze rfl rfl (by omega) ?_)  | refine zJ ?_ | refine zB rfl ?_ | with_reducible refine zC ?_ | with_reducible refine zk ?_ | with_reducible refine zR ?_ | ((with_reducible refine zA ?_ ?_); kernel_rfl))
      exact ⟨2, by simp_all, by decide, ⟨rfl, rfl, rfl, rfl, trivial⟩, ⟨rfl, rfl, trivial⟩⟩
  · have hf0 : ((jW 2).map It.av)[(0 : Int).toNat]? = some (.v (.iface 93 (.string ⟨#[99, 108, 111, 115, 101]⟩))) := rfl
    repeat (first | ((with_reducible refine zI ?_); refine zH rfl ?_) | ((with_reducible refine zM ?_); refine zV rfl rfl rfl ?_)  | refine zJ ?_ | refine zB rfl ?_ | with_reducible refine zC ?_ | with_reducible refine zF ?_ | with_reducible refine zY ?_ | with_reducible refine zR ?_ | ((with_reducible refine zA ?_ ?_); kernel_rfl) | refine zg rfl (by first | rfl | assumption) ?_ | ((with_reducible refine zi ?_); first | refine yY (by first | exact askW | exact askD | exact askN | exact askP | exact askK) rfl ?_ | refine zz (by first | exact askW | exact askD | exact askN | exact askP | exact askK) rfl rfl ?_))
    refine zo (form_A 2 (by decide)) (by repeat' (first | exact trivial | exact Ren.v _ | exact Ren.sl _ _ | exact Ren.ep _ | exact Ren.ptr _ _ _ _ rfl | exact Ren.bs _ _ _ _ _ rfl | exact Ren.nil _ | exact Ren.own _ _ _ _ ⟨_, rfl⟩ | refine zO ?_ | refine zQ ?_ | refine zP ?_ | refine ⟨?_, ?_⟩)) (by repeat' (first | exact trivial | exact RenB.v _ | exact RenB.sl _ _ | exact RenB.ep _ | exact RenB.ptr _ _ _ _ rfl | refine zW ?_ | refine zX ?_ | refine ⟨?_, ?_⟩)) ?_
    repeat (first | ((with_reducible refine zI ?_); refine zH rfl ?_) | ((with_reducible refine zE ?_); refine zD rfl ?_) | ((with_reducible refine zL ?_); refine za tbOk rfl rfl rfl ?_) | ((with_reducible refine zT ?_); refine zZ tbOk rfl rfl rfl rfl (by assumption) ?_)  | refine zJ ?_ | refine zB rfl ?_ | with_reducible refine zC ?_ | with_reducible refine zF ?_ | ((with_reducible refine yx mixd ?_ ?_); kernel_rfl) | ((with_reducible refine zi ?_); first | refine yY (by first | exact askW | exact askD | exact askN | exact askP | exact askK) rfl ?_ | refine zz (by first | exact askW | exact askD | exact askN | exact askP | exact askK) rfl rfl ?_))
    ((with_reducible refine zM ?_); refine x_eql_ifS eqWord rfl rfl ?_)
    rw [beq_L]
    repeat (first   | refine jM (by kernel_rfl) ?_ | with_reducible refine zC ?_  | ((with_reducible refine zi ?_); first | refine yY (by first | exact askW | exact askD | exact askN | exact askP | exact askK) rfl ?_ | refine zz (by first | exact askW | exact askD | exact askN | exact askP | exact askK) rfl rfl ?_))
    refine zm rfl (fun q => ?_) (fun q => ?_)
    · have q' : wAt W 0 = qq := by rw [hw0]; exact of_decide_eq_true q
      have e : jq N V W = rdK N V W 2 := by unfold jq; rw [if_neg (ha (by omega)), if_pos q']
      rw [e]
      unfold rdK
      repeat (first | ((with_reducible refine zI ?_); refine zH rfl ?_) | ((with_reducible refine zL ?_); refine zc tbOk rfl rfl rfl rfl (Nat.le_of_ble_eq_true rfl) ?_)  | refine zB rfl ?_ | with_reducible refine zF ?_ | ((with_reducible refine zA ?_ ?_); kernel_rfl))
      refine zo (read_A N V 2 (jW 2) W hG hPl ok hn (by decide) hW hw) (by repeat' (first | exact trivial | exact Ren.v _ | exact Ren.sl _ _ | exact Ren.ep _ | exact Ren.ptr _ _ _ _ rfl | exact Ren.bs _ _ _ _ _ rfl | exact Ren.nil _ | exact Ren.own _ _ _ _ ⟨_, rfl⟩ | refine zO ?_ | refine zQ ?_ | refine zP ?_ | refine ⟨?_, ?_⟩)) (by repeat' (first | exact trivial | exact RenB.v _ | exact RenB.sl _ _ | exact RenB.ep _ | exact RenB.ptr _ _ _ _ rfl | refine zW ?_ | refine zX ?_ | refine ⟨?_, ?_⟩)) ?_
      repeat (first | ((with_reducible refine zE ?_); refine zD rfl ?_) | ((with_reducible refine zd ?_); refine zf tbOk rfl rfl rfl rfl rfl rfl rfl (Nat.le_of_ble_eq_true rfl) rfl ?_) | ((with_reducible refine yN ?_); refine yO rfl rfl ?_)  | refine zJ ?_ | refine zB rfl ?_ | with_reducible refine zC ?_ | with_reducible refine zS ?_ | with_reducible refine zh ?_ | with_reducible refine zU ?_ )
      refine yo (by first | exact .inr rfl | exact .inl rfl) rfl rfl rfl rfl rfl rfl ?_
      repeat' (first | exact trivial | exact Ren.v _ | exact Ren.sl _ _ | exact Ren.ep _ | exact Ren.ptr _ _ _ _ rfl | exact Ren.bs _ _ _ _ _ rfl | exact Ren.nil _ | exact Ren.own _ _ _ _ ⟨_, rfl⟩ | refine zO ?_ | refine zQ ?_ | refine zP ?_ | refine ⟨?_, ?_⟩)
    · have q' : ¬ wAt W 0 = qq := by rw [hw0]; exact of_decide_eq_false q
      repeat (first | ((with_reducible refine zI ?_); refine zH rfl ?_) | ((with_reducible refine zE ?_); refine zD rfl ?_) | ((with_reducible refine zM ?_); refine ze rfl rfl (by omega) ?_)  | refine zJ ?_ | refine zB rfl ?_ | with_reducible refine zC ?_ | with_reducible refine zk ?_ | with_reducible refine zR ?_ | ((with_reducible refine zA ?_ ?_); kernel_rfl))
      exact ⟨3, by simp_all, by decide, ⟨rfl, rfl, rfl, rfl, trivial⟩, ⟨rfl, rfl, trivial⟩⟩
  · have hf0 : ((jW 3).map It.av)[(0 : Int).toNat]? = some (.v (.iface 93 (.string ⟨#[108, 111, 99, 107]⟩))) := rfl
    repeat (first | ((with_reducible refine zI ?_); refine zH rfl ?_) | ((with_reducible refine zM ?_); refine zV rfl rfl rfl ?_)  | refine zJ ?_ | refine zB rfl ?_ | with_reducible refine zC ?_ | with_reducible refine zF ?_ | with_reducible refine zY ?_ | with_reducible refine zR ?_ | ((with_reducible refine zA ?_ ?_); kernel_rfl) | refine zg rfl (by first | rfl | assumption) ?_ | ((with_reducible refine zi ?_); first | refine yY (by first | exact askW | exact askD | exact askN | exact askP | exact askK) rfl ?_ | refine zz (by first | exact askW | exact askD | exact askN | exact askP | exact askK) rfl rfl ?_))
    refine zo (form_A 3 (by decide)) (by repeat' (first | exact trivial | exact Ren.v _ | exact Ren.sl _ _ | exact Ren.ep _ | exact Ren.ptr _ _ _ _ rfl | exact Ren.bs _ _ _ _ _ rfl | exact Ren.nil _ | exact Ren.own _ _ _ _ ⟨_, rfl⟩ | refine zO ?_ | refine zQ ?_ | refine zP ?_ | refine ⟨?_, ?_⟩)) (by repeat' (first | exact trivial | exact RenB.v _ | exact RenB.sl _ _ | exact RenB.ep _ | exact RenB.ptr _ _ _ _ rfl | refine zW ?_ | refine zX ?_ | refine ⟨?_, ?_⟩)) ?_
    repeat (first | ((with_reducible refine zI ?_); refine zH rfl ?_) | ((with_reducible refine zE ?_); refine zD rfl ?_) | ((with_reducible refine zL ?_); refine za tbOk rfl rfl rfl ?_) | ((with_reducible refine zT ?_); refine zZ tbOk rfl rfl rfl rfl (by assumption) ?_)  | refine zJ ?_ | refine zB rfl ?_ | with_reducible refine zC ?_ | with_reducible refine zF ?_ | ((with_reducible refine yx mixd ?_ ?_); kernel_rfl) | ((with_reducible refine zi ?_); first | refine yY (by first | exact askW | exact askD | exact askN | exact askP | exact askK) rfl ?_ | refine zz (by first | exact askW | exact askD | exact askN | exact askP | exact askK) rfl rfl ?_))
    ((with_reducible refine zM ?_); refine x_eql_ifS eqWord rfl rfl ?_)
    rw [beq_L]
    repeat (first   | refine jM (by kernel_rfl) ?_ | with_reducible refine zC ?_  | ((with_reducible refine zi ?_); first | refine yY (by first | exact askW | exact askD | exact askN | exact askP | exact askK) rfl ?_ | refine zz (by first | exact askW | exact askD | exact askN | exact askP | exact askK) rfl rfl ?_))
    refine zm rfl (fun q => ?_) (fun q => ?_)
    · have q' : wAt W 0 = lockL := by rw [hw0]; exact of_decide_eq_true q
      have e : jq N V W = rdK N V W 3 := by unfold jq; rw [if_neg (ha (by omega)), if_neg (hb (by omega)), if_pos q']
      rw [e]
      unfold rdK
      repeat (first | ((with_reducible refine zI ?_); refine zH rfl ?_) | ((with_reducible refine zL ?_); refine zc tbOk rfl rfl rfl rfl (Nat.le_of_ble_eq_true rfl) ?_)  | refine zB rfl ?_ | with_reducible refine zF ?_ | ((with_reducible refine zA ?_ ?_); kernel_rfl))
      refine zo (read_A N V 3 (jW 3) W hG hPl ok hn (by decide) hW hw) (by repeat' (first | exact trivial | exact Ren.v _ | exact Ren.sl _ _ | exact Ren.ep _ | exact Ren.ptr _ _ _ _ rfl | exact Ren.bs _ _ _ _ _ rfl | exact Ren.nil _ | exact Ren.own _ _ _ _ ⟨_, rfl⟩ | refine zO ?_ | refine zQ ?_ | refine zP ?_ | refine ⟨?_, ?_⟩)) (by repeat' (first | exact trivial | exact RenB.v _ | exact RenB.sl _ _ | exact RenB.ep _ | exact RenB.ptr _ _ _ _ rfl | refine zW ?_ | refine zX ?_ | refine ⟨?_, ?_⟩)) ?_
      repeat (first | ((with_reducible refine zE ?_); refine zD rfl ?_) | ((with_reducible refine zd ?_); refine zf tbOk rfl rfl rfl rfl rfl rfl rfl (Nat.le_of_ble_eq_true rfl) rfl ?_) | ((with_reducible refine yN ?_); refine yO rfl rfl ?_)  | refine zJ ?_ | refine zB rfl ?_ | with_reducible refine zC ?_ | with_reducible refine zS ?_ | with_reducible refine zh ?_ | with_reducible refine zU ?_ )
      refine yo (by first | exact .inr rfl | exact .inl rfl) rfl rfl rfl rfl rfl rfl ?_
      repeat' (first | exact trivial | exact Ren.v _ | exact Ren.sl _ _ | exact Ren.ep _ | exact Ren.ptr _ _ _ _ rfl | exact Ren.bs _ _ _ _ _ rfl | exact Ren.nil _ | exact Ren.own _ _ _ _ ⟨_, rfl⟩ | refine zO ?_ | refine zQ ?_ | refine zP ?_ | refine ⟨?_, ?_⟩)
    · have q' : ¬ wAt W 0 = lockL := by rw [hw0]; exact of_decide_eq_false q
      repeat (first | ((with_reducible refine zI ?_); refine zH rfl ?_) | ((with_reducible refine zE ?_); refine zD rfl ?_) | ((with_reducible refine zM ?_); refine ze rfl rfl (by omega) ?_)  | refine zJ ?_ | refine zB rfl ?_ | with_reducible refine zC ?_ | with_reducible refine zk ?_ | with_reducible refine zR ?_ | ((with_reducible refine zA ?_ ?_); kernel_rfl))
      exact ⟨4, by simp_all, by decide, ⟨rfl, rfl, rfl, rfl, trivial⟩, ⟨rfl, rfl, trivial⟩⟩
  · have hf0 : ((jW 4).map It.av)[(0 : Int).toNat]? = some (.v (.iface 93 (.string ⟨#[117, 110, 108, 111, 99, 107]⟩))) := rfl
    repeat (first | ((with_reducible refine zI ?_); refine zH rfl ?_) | ((with_reducible refine zM ?_); refine zV rfl rfl rfl ?_)  | refine zJ ?_ | refine zB rfl ?_ | with_reducible refine zC ?_ | with_reducible refine zF ?_ | with_reducible refine zY ?_ | with_reducible refine zR ?_ | ((with_reducible refine zA ?_ ?_); kernel_rfl) | refine zg rfl (by first | rfl | assumption) ?_ | ((with_reducible refine zi ?_); first | refine yY (by first | exact askW | exact askD | exact askN | exact askP | exact askK) rfl ?_ | refine zz (by first | exact askW | exact askD | exact askN | exact askP | exact askK) rfl rfl ?_))
    refine zo (form_A 4 (by decide)) (by repeat' (first | exact trivial | exact Ren.v _ | exact Ren.sl _ _ | exact Ren.ep _ | exact Ren.ptr _ _ _ _ rfl | exact Ren.bs _ _ _ _ _ rfl | exact Ren.nil _ | exact Ren.own _ _ _ _ ⟨_, rfl⟩ | refine zO ?_ | refine zQ ?_ | refine zP ?_ | refine ⟨?_, ?_⟩)) (by repeat' (first | exact trivial | exact RenB.v _ | exact RenB.sl _ _ | exact RenB.ep _ | exact RenB.ptr _ _ _ _ rfl | refine zW ?_ | refine zX ?_ | refine ⟨?_, ?_⟩)) ?_
    repeat (first | ((with_reducible refine zI ?_); refine zH rfl ?_) | ((with_reducible refine zE ?_); refine zD rfl ?_) | ((with_reducible refine zL ?_); refine za tbOk rfl rfl rfl ?_) | ((with_reducible refine zT ?_); refine zZ tbOk rfl rfl rfl rfl (by assumption) ?_)  | refine zJ ?_ | refine zB rfl ?_ | with_reducible refine zC ?_ | with_reducible refine zF ?_ | ((with_reducible refine yx mixd ?_ ?_); kernel_rfl) | ((with_reducible refine zi ?_); first | refine yY (by first | exact askW | exact askD | exact askN | exact askP | exact askK) rfl ?_ | refine zz (by first | exact askW | exact askD | exact askN | exact askP | exact askK) rfl rfl ?_))
    ((with_reducible refine zM ?_); refine x_eql_ifS eqWord rfl rfl ?_)
    rw [beq_L]
    repeat (first   | refine jM (by kernel_rfl) ?_ | with_reducible refine zC ?_  | ((with_reducible refine zi ?_); first | refine yY (by first | exact askW | exact askD | exact askN | exact askP | exact askK) rfl ?_ | refine zz (by first | exact askW | exact askD | exact askN | exact askP | exact askK) rfl rfl ?_))
    refine zm rfl (fun q => ?_) (fun q => ?_)
    · have q' : wAt W 0 = js := by rw [hw0]; exact of_decide_eq_true q
      have e : jq N V W = rdK N V W 4 := by unfold jq; rw [if_neg (ha (by omega)), if_neg (hb (by omega)), if_neg (hc (by omega)), if_pos q']
      rw [e]
      unfold rdK
      repeat (first | ((with_reducible refine zI ?_); refine zH rfl ?_) | ((with_reducible refine zL ?_); refine zc tbOk rfl rfl rfl rfl (Nat.le_of_ble_eq_true rfl) ?_)  | refine zB rfl ?_ | with_reducible refine zF ?_ | ((with_reducible refine zA ?_ ?_); kernel_rfl))
      refine zo (read_A N V 4 (jW 4) W hG hPl ok hn (by decide) hW hw) (by repeat' (first | exact trivial | exact Ren.v _ | exact Ren.sl _ _ | exact Ren.ep _ | exact Ren.ptr _ _ _ _ rfl | exact Ren.bs _ _ _ _ _ rfl | exact Ren.nil _ | exact Ren.own _ _ _ _ ⟨_, rfl⟩ | refine zO ?_ | refine zQ ?_ | refine zP ?_ | refine ⟨?_, ?_⟩)) (by repeat' (first | exact trivial | exact RenB.v _ | exact RenB.sl _ _ | exact RenB.ep _ | exact RenB.ptr _ _ _ _ rfl | refine zW ?_ | refine zX ?_ | refine ⟨?_, ?_⟩)) ?_
      repeat (first | ((with_reducible refine zE ?_); refine zD rfl ?_) | ((with_reducible refine zd ?_); refine zf tbOk rfl rfl rfl rfl rfl rfl rfl (Nat.le_of_ble_eq_true rfl) rfl ?_) | ((with_reducible refine yN ?_); refine yO rfl rfl ?_)  | refine zJ ?_ | refine zB rfl ?_ | with_reducible refine zC ?_ | with_reducible refine zS ?_ | with_reducible refine zh ?_ | with_reducible refine zU ?_ )
      refine yo (by first | exact .inr rfl | exact .inl rfl) rfl rfl rfl rfl rfl rfl ?_
      repeat' (first | exact trivial | exact Ren.v _ | exact Ren.sl _ _ | exact Ren.ep _ | exact Ren.ptr _ _ _ _ rfl | exact Ren.bs _ _ _ _ _ rfl | exact Ren.nil _ | exact Ren.own _ _ _ _ ⟨_, rfl⟩ | refine zO ?_ | refine zQ ?_ | refine zP ?_ | refine ⟨?_, ?_⟩)
    · have q' : ¬ wAt W 0 = js := by rw [hw0]; exact of_decide_eq_false q
      repeat (first | ((with_reducible refine zI ?_); refine zH rfl ?_) | ((with_reducible refine zE ?_); refine zD rfl ?_) | ((with_reducible refine zM ?_); refine ze rfl rfl (by omega) ?_)  | refine zJ ?_ | refine zB rfl ?_ | with_reducible refine zC ?_ | with_reducible refine zk ?_ | with_reducible refine zR ?_ | ((with_reducible refine zA ?_ ?_); kernel_rfl))
      exact ⟨5, by simp_all, by decide, ⟨rfl, rfl, rfl, rfl, trivial⟩, ⟨rfl, rfl, trivial⟩⟩
  · have hf0 : ((jW 5).map It.av)[(0 : Int).toNat]? = some (.v (.iface 93 (.string ⟨#[112, 114, 111, 118, 101]⟩))) := rfl
    repeat (first | ((with_reducible refine zI ?_); refine zH rfl ?_) | ((with_reducible refine zM ?_); refine zV rfl rfl rfl ?_)  | refine zJ ?_ | refine zB rfl ?_ | with_reducible refine zC ?_ | with_reducible refine zF ?_ | with_reducible refine zY ?_ | with_reducible refine zR ?_ | ((with_reducible refine zA ?_ ?_); kernel_rfl) | refine zg rfl (by first | rfl | assumption) ?_ | ((with_reducible refine zi ?_); first | refine yY (by first | exact askW | exact askD | exact askN | exact askP | exact askK) rfl ?_ | refine zz (by first | exact askW | exact askD | exact askN | exact askP | exact askK) rfl rfl ?_))
    refine zo (form_A 5 (by decide)) (by repeat' (first | exact trivial | exact Ren.v _ | exact Ren.sl _ _ | exact Ren.ep _ | exact Ren.ptr _ _ _ _ rfl | exact Ren.bs _ _ _ _ _ rfl | exact Ren.nil _ | exact Ren.own _ _ _ _ ⟨_, rfl⟩ | refine zO ?_ | refine zQ ?_ | refine zP ?_ | refine ⟨?_, ?_⟩)) (by repeat' (first | exact trivial | exact RenB.v _ | exact RenB.sl _ _ | exact RenB.ep _ | exact RenB.ptr _ _ _ _ rfl | refine zW ?_ | refine zX ?_ | refine ⟨?_, ?_⟩)) ?_
    repeat (first | ((with_reducible refine zI ?_); refine zH rfl ?_) | ((with_reducible refine zE ?_); refine zD rfl ?_) | ((with_reducible refine zL ?_); refine za tbOk rfl rfl rfl ?_) | ((with_reducible refine zT ?_); refine zZ tbOk rfl rfl rfl rfl (by assumption) ?_)  | refine zJ ?_ | refine zB rfl ?_ | with_reducible refine zC ?_ | with_reducible refine zF ?_ | ((with_reducible refine yx mixd ?_ ?_); kernel_rfl) | ((with_reducible refine zi ?_); first | refine yY (by first | exact askW | exact askD | exact askN | exact askP | exact askK) rfl ?_ | refine zz (by first | exact askW | exact askD | exact askN | exact askP | exact askK) rfl rfl ?_))
    ((with_reducible refine zM ?_); refine x_eql_ifS eqWord rfl rfl ?_)
    rw [beq_L]
    repeat (first   | refine jM (by kernel_rfl) ?_ | with_reducible refine zC ?_  | ((with_reducible refine zi ?_); first | refine yY (by first | exact askW | exact askD | exact askN | exact askP | exact askK) rfl ?_ | refine zz (by first | exact askW | exact askD | exact askN | exact askP | exact askK) rfl rfl ?_))
    refine zm rfl (fun q => ?_) (fun q => ?_)
    · have q' : wAt W 0 = qm := by rw [hw0]; exact of_decide_eq_true q
      have e : jq N V W = rdK N V W 5 := by unfold jq; rw [if_neg (ha (by omega)), if_neg (hb (by omega)), if_neg (hc (by omega)), if_neg (hd (by omega)), if_pos q']
      rw [e]
      unfold rdK
      repeat (first | ((with_reducible refine zI ?_); refine zH rfl ?_) | ((with_reducible refine zL ?_); refine zc tbOk rfl rfl rfl rfl (Nat.le_of_ble_eq_true rfl) ?_)  | refine zB rfl ?_ | with_reducible refine zF ?_ | ((with_reducible refine zA ?_ ?_); kernel_rfl))
      refine zo (read_A N V 5 (jW 5) W hG hPl ok hn (by decide) hW hw) (by repeat' (first | exact trivial | exact Ren.v _ | exact Ren.sl _ _ | exact Ren.ep _ | exact Ren.ptr _ _ _ _ rfl | exact Ren.bs _ _ _ _ _ rfl | exact Ren.nil _ | exact Ren.own _ _ _ _ ⟨_, rfl⟩ | refine zO ?_ | refine zQ ?_ | refine zP ?_ | refine ⟨?_, ?_⟩)) (by repeat' (first | exact trivial | exact RenB.v _ | exact RenB.sl _ _ | exact RenB.ep _ | exact RenB.ptr _ _ _ _ rfl | refine zW ?_ | refine zX ?_ | refine ⟨?_, ?_⟩)) ?_
      repeat (first | ((with_reducible refine zE ?_); refine zD rfl ?_) | ((with_reducible refine zd ?_); refine zf tbOk rfl rfl rfl rfl rfl rfl rfl (Nat.le_of_ble_eq_true rfl) rfl ?_) | ((with_reducible refine yN ?_); refine yO rfl rfl ?_)  | refine zJ ?_ | refine zB rfl ?_ | with_reducible refine zC ?_ | with_reducible refine zS ?_ | with_reducible refine zh ?_ | with_reducible refine zU ?_ )
      refine yo (by first | exact .inr rfl | exact .inl rfl) rfl rfl rfl rfl rfl rfl ?_
      repeat' (first | exact trivial | exact Ren.v _ | exact Ren.sl _ _ | exact Ren.ep _ | exact Ren.ptr _ _ _ _ rfl | exact Ren.bs _ _ _ _ _ rfl | exact Ren.nil _ | exact Ren.own _ _ _ _ ⟨_, rfl⟩ | refine zO ?_ | refine zQ ?_ | refine zP ?_ | refine ⟨?_, ?_⟩)
    · have q' : ¬ wAt W 0 = qm := by rw [hw0]; exact of_decide_eq_false q
      repeat (first | ((with_reducible refine zI ?_); refine zH rfl ?_) | ((with_reducible refine zE ?_); refine zD rfl ?_) | ((with_reducible refine zM ?_); refine ze rfl rfl (by omega) ?_)  | refine zJ ?_ | refine zB rfl ?_ | with_reducible refine zC ?_ | with_reducible refine zk ?_ | with_reducible refine zR ?_ | ((with_reducible refine zA ?_ ?_); kernel_rfl))
      exact ⟨6, by simp_all, by decide, ⟨rfl, rfl, rfl, rfl, trivial⟩, ⟨rfl, rfl, trivial⟩⟩
  · have hf0 : ((jW 6).map It.av)[(0 : Int).toNat]? = some (.v (.iface 93 (.string ⟨#[99, 104, 101, 99, 107]⟩))) := rfl
    repeat (first | ((with_reducible refine zI ?_); refine zH rfl ?_) | ((with_reducible refine zM ?_); refine zV rfl rfl rfl ?_)  | refine zJ ?_ | refine zB rfl ?_ | with_reducible refine zC ?_ | with_reducible refine zF ?_ | with_reducible refine zY ?_ | with_reducible refine zR ?_ | ((with_reducible refine zA ?_ ?_); kernel_rfl) | refine zg rfl (by first | rfl | assumption) ?_ | ((with_reducible refine zi ?_); first | refine yY (by first | exact askW | exact askD | exact askN | exact askP | exact askK) rfl ?_ | refine zz (by first | exact askW | exact askD | exact askN | exact askP | exact askK) rfl rfl ?_))
    refine zo (form_A 6 (by decide)) (by repeat' (first | exact trivial | exact Ren.v _ | exact Ren.sl _ _ | exact Ren.ep _ | exact Ren.ptr _ _ _ _ rfl | exact Ren.bs _ _ _ _ _ rfl | exact Ren.nil _ | exact Ren.own _ _ _ _ ⟨_, rfl⟩ | refine zO ?_ | refine zQ ?_ | refine zP ?_ | refine ⟨?_, ?_⟩)) (by repeat' (first | exact trivial | exact RenB.v _ | exact RenB.sl _ _ | exact RenB.ep _ | exact RenB.ptr _ _ _ _ rfl | refine zW ?_ | refine zX ?_ | refine ⟨?_, ?_⟩)) ?_
    repeat (first | ((with_reducible refine zI ?_); refine zH rfl ?_) | ((with_reducible refine zE ?_); refine zD rfl ?_) | ((with_reducible refine zL ?_); refine za tbOk rfl rfl rfl ?_) | ((with_reducible refine zT ?_); refine zZ tbOk rfl rfl rfl rfl (by assumption) ?_)  | refine zJ ?_ | refine zB rfl ?_ | with_reducible refine zC ?_ | with_reducible refine zF ?_ | ((with_reducible refine yx mixd ?_ ?_); kernel_rfl) | ((with_reducible refine zi ?_); first | refine yY (by first | exact askW | exact askD | exact askN | exact askP | exact askK) rfl ?_ | refine zz (by first | exact askW | exact askD | exact askN | exact askP | exact askK) rfl rfl ?_))
    ((with_reducible refine zM ?_); refine x_eql_ifS eqWord rfl rfl ?_)
    rw [beq_L]
    repeat (first   | refine jM (by kernel_rfl) ?_ | with_reducible refine zC ?_  | ((with_reducible refine zi ?_); first | refine yY (by first | exact askW | exact askD | exact askN | exact askP | exact askK) rfl ?_ | refine zz (by first | exact askW | exact askD | exact askN | exact askP | exact askK) rfl rfl ?_))
    refine zm rfl (fun q => ?_) (fun q => ?_)
    · have q' : wAt W 0 = qN := by rw [hw0]; exact of_decide_eq_true q
      have e : jq N V W = rdK N V W 6 := by unfold jq; rw [if_neg (ha (by omega)), if_neg (hb (by omega)), if_neg (hc (by omega)), if_neg (hd (by omega)), if_neg (he (by omega)), if_pos q']
      rw [e]
      unfold rdK
      repeat (first | ((with_reducible refine zI ?_); refine zH rfl ?_) | ((with_reducible refine zL ?_); refine zc tbOk rfl rfl rfl rfl (Nat.le_of_ble_eq_true rfl) ?_)  | refine zB rfl ?_ | with_reducible refine zF ?_ | ((with_reducible refine zA ?_ ?_); kernel_rfl))
      refine zo (read_A N V 6 (jW 6) W hG hPl ok hn (by decide) hW hw) (by repeat' (first | exact trivial | exact Ren.v _ | exact Ren.sl _ _ | exact Ren.ep _ | exact Ren.ptr _ _ _ _ rfl | exact Ren.bs _ _ _ _ _ rfl | exact Ren.nil _ | exact Ren.own _ _ _ _ ⟨_, rfl⟩ | refine zO ?_ | refine zQ ?_ | refine zP ?_ | refine ⟨?_, ?_⟩)) (by repeat' (first | exact trivial | exact RenB.v _ | exact RenB.sl _ _ | exact RenB.ep _ | exact RenB.ptr _ _ _ _ rfl | refine zW ?_ | refine zX ?_ | refine ⟨?_, ?_⟩)) ?_
      repeat (first | ((with_reducible refine zE ?_); refine zD rfl ?_) | ((with_reducible refine zd ?_); refine zf tbOk rfl rfl rfl rfl rfl rfl rfl (Nat.le_of_ble_eq_true rfl) rfl ?_) | ((with_reducible refine yN ?_); refine yO rfl rfl ?_)  | refine zJ ?_ | refine zB rfl ?_ | with_reducible refine zC ?_ | with_reducible refine zS ?_ | with_reducible refine zh ?_ | with_reducible refine zU ?_ )
      refine yo (by first | exact .inr rfl | exact .inl rfl) rfl rfl rfl rfl rfl rfl ?_
      repeat' (first | exact trivial | exact Ren.v _ | exact Ren.sl _ _ | exact Ren.ep _ | exact Ren.ptr _ _ _ _ rfl | exact Ren.bs _ _ _ _ _ rfl | exact Ren.nil _ | exact Ren.own _ _ _ _ ⟨_, rfl⟩ | refine zO ?_ | refine zQ ?_ | refine zP ?_ | refine ⟨?_, ?_⟩)
    · have q' : ¬ wAt W 0 = qN := by rw [hw0]; exact of_decide_eq_false q
      repeat (first | ((with_reducible refine zI ?_); refine zH rfl ?_) | ((with_reducible refine zE ?_); refine zD rfl ?_) | ((with_reducible refine zM ?_); refine ze rfl rfl (by omega) ?_)  | refine zJ ?_ | refine zB rfl ?_ | with_reducible refine zC ?_ | with_reducible refine zk ?_ | with_reducible refine zR ?_ | ((with_reducible refine zA ?_ ?_); kernel_rfl))
      exact ⟨7, by simp_all, by decide, ⟨rfl, rfl, rfl, rfl, trivial⟩, ⟨rfl, rfl, trivial⟩⟩
  · have e : jq N V W = (St.zer, 2) := by
      unfold jq
      rw [if_neg (ha (by omega)), if_neg (hb (by omega)), if_neg (hc (by omega)), if_neg (hd (by omega)), if_neg (he (by omega)), if_neg (hf (by omega))]
    rw [e]
    repeat (first | ((with_reducible refine zI ?_); refine zH rfl ?_) | ((with_reducible refine zE ?_); refine zD rfl ?_) | ((with_reducible refine zd ?_); refine zf tbOk rfl rfl rfl rfl rfl rfl rfl (Nat.le_of_ble_eq_true rfl) rfl ?_) | ((with_reducible refine ye ?_); refine yg tbOk rfl rfl rfl rfl rfl ?_) | ((with_reducible refine zM ?_); refine zV rfl rfl rfl ?_)  | refine zJ ?_ | refine zB rfl ?_ | with_reducible refine zC ?_ | with_reducible refine zw ?_ | with_reducible refine zF ?_ | with_reducible refine yJ ?_ | with_reducible refine zU ?_ | ((with_reducible refine zr ?_ ?_); rfl) | ((with_reducible refine zA ?_ ?_); kernel_rfl) | refine zp rfl (by first | rfl | assumption) ?_)
    refine yo (by first | exact .inr rfl | exact .inl rfl) rfl rfl rfl rfl rfl rfl ?_
    repeat' (first | exact trivial | exact Ren.v _ | exact Ren.sl _ _ | exact Ren.ep _ | exact Ren.ptr _ _ _ _ rfl | exact Ren.bs _ _ _ _ _ rfl | exact Ren.nil _ | exact Ren.own _ _ _ _ ⟨_, rfl⟩ | refine zO ?_ | refine zQ ?_ | refine zP ?_ | refine ⟨?_, ?_⟩)
theorem rd_none {N : List Nd} {V : List Dv} {W : List (List UInt8)} {k : Int} (h : W.length ≠ (jW k).length) : rdK N V W k = (St.zer, 2) := by
  unfold rdK readR
  rw [if_neg h]; rfl
theorem rd_some {N : List Nd} {V : List Dv} {W : List (List UInt8)} {k : Int} (h : W.length = (jW k).length) : rdK N V W k = resR (rdGo N V (jW k) W ⟨k, 0, 0, 0, 0⟩ 0) := by
  unfold rdK readR
  rw [if_pos h]
/-- The program reads a step as the plain function does. -/
def Like (a b : St × Int) : Prop := a.2 = b.2 ∧ (b.2 = 0 → a = b)
theorem qF {N : List Nd} {V : List Dv} {W : List (List UInt8)} {k p y : Int} (hf : jU W = some (k, p, y)) (hk : k ≠ 5) {w : List UInt8} (hw : wAt W 1 = w) : Like (⟨k, devI w 0 V, 0, p, y⟩, if devI w 0 V < 0 then 8 else 0) (jz N V W) := by
  unfold Like jz
  rw [hf]
  simp only
  rw [if_neg hk, hw]
  by_cases h : devI w 0 V < 0
  · rw [if_pos h, if_pos h]; exact ⟨rfl, fun e => by cases e⟩
  · rw [if_neg h, if_neg h]; exact ⟨rfl, fun e => rfl⟩
theorem like_nod {N : List Nd} {V : List Dv} {W : List (List UInt8)} {k p y : Int} (hf : jU W = some (k, p, y)) (hk : k = 5) {w : List UInt8} (hw : wAt W 1 = w) : Like (⟨k, 0, nodI w 0 N, p, y⟩, if nodI w 0 N < 0 then 7 else 0) (jz N V W) := by
  unfold Like jz
  rw [hf]
  simp only
  rw [if_pos hk, hw]
  by_cases h : nodI w 0 N < 0
  · rw [if_pos h, if_pos h]; exact ⟨rfl, fun e => by cases e⟩
  · rw [if_neg h, if_neg h]; exact ⟨rfl, fun e => rfl⟩
theorem jY {N : List Nd} {V : List Dv} {W : List (List UInt8)} (hf : jU W = none) : Like (St.zer, 2) (jz N V W) := by
  unfold Like jz
  rw [hf]; exact ⟨rfl, fun _ => rfl⟩
theorem parse_like (N : List Nd) (V : List Dv) (W : List (List UInt8)) : Like (jq N V W) (jz N V W) := by
  have n12 : ¬ ql = qq := by decide
  unfold jq
  by_cases h1 : wAt W 0 = ql
  · rw [if_pos h1]
    by_cases hl : W.length = 2
    · match W, hl with
      | [a, b], _ =>
        have ha : a = ql := h1
        rw [rd_some rfl, fl1]
        have e : rdGo N V [wS #[111, 112, 101, 110], .dv] [a, b] ⟨1, 0, 0, 0, 0⟩ 0 = some (⟨1, devI b 0 V, 0, 0, 0⟩, if devI b 0 V < 0 then 8 else 0) := by
          unfold wS
          rw [rdGo, if_pos (by rw [ha]; rfl), rdGo, rdGo]
        rw [e]
        exact qF (by unfold jU; rw [if_pos ⟨rfl, h1⟩]) (by decide) rfl
    · rw [rd_none (by rw [fl1]; simpa using hl)]
      refine jY ?_
      unfold jU
      rw [h1, if_neg (fun h => hl h.1), if_neg (fun h => hl h.1), if_neg (fun h => absurd h.2.1 (by decide)), if_neg (fun h => absurd h.2.1 (by decide)), if_neg (fun h => hl h.1), if_neg (fun h => absurd h.2.1 (by decide))]
  rw [if_neg h1]
  by_cases h2 : wAt W 0 = qq
  · rw [if_pos h2]
    by_cases hl : W.length = 2
    · match W, hl with
      | [a, b], _ =>
        have ha : a = qq := h2
        rw [rd_some rfl, fl2]
        have e : rdGo N V [wS #[99, 108, 111, 115, 101], .dv] [a, b] ⟨2, 0, 0, 0, 0⟩ 0 = some (⟨2, devI b 0 V, 0, 0, 0⟩, if devI b 0 V < 0 then 8 else 0) := by
          unfold wS
          rw [rdGo, if_pos (by rw [ha]; rfl), rdGo, rdGo]
        rw [e]
        exact qF (by unfold jU; rw [if_neg (fun h => h1 h.2), if_pos ⟨rfl, h2⟩]) (by decide) rfl
    · rw [rd_none (by rw [fl2]; simpa using hl)]
      refine jY ?_
      unfold jU
      rw [h2, if_neg (fun h => hl h.1), if_neg (fun h => hl h.1), if_neg (fun h => absurd h.2.1 (by decide)), if_neg (fun h => absurd h.2.1 (by decide)), if_neg (fun h => hl h.1), if_neg (fun h => absurd h.2.1 (by decide))]
  rw [if_neg h2]
  by_cases h3 : wAt W 0 = lockL
  · rw [if_pos h3]
    have hfr : jU W = if W.length = 5 ∧ wAt W 0 = lockL ∧ posI (wAt W 2) ≠ 0 ∧ wAt W 3 = keyL then (numP (wAt W 4) 1073741824).map (fun n => (3, posI (wAt W 2), n)) else none := by
      unfold jU
      rw [if_neg (fun h => h1 h.2), if_neg (fun h => h2 h.2)]
      split
      · rfl
      · rw [if_neg (fun h => by rw [h3] at h; exact absurd h.2.1 (by decide)), if_neg (fun h => by rw [h3] at h; exact absurd h.2 (by decide)), if_neg (fun h => by rw [h3] at h; exact absurd h.2.1 (by decide))]
    by_cases hl : W.length = 5
    · match W, hl with
      | [a, b, c, d, e], _ =>
        have ha : a = lockL := h3
        have w2 : wAt [a, b, c, d, e] 2 = c := rfl
        have w3 : wAt [a, b, c, d, e] 3 = d := rfl
        have w4 : wAt [a, b, c, d, e] 4 = e := rfl
        rw [w2, w3, w4] at hfr
        rw [rd_some rfl, fl3]
        unfold wS
        rw [rdGo, if_pos (by rw [ha]; rfl), rdGo, rdGo]
        by_cases hc : posI c = 0
        · rw [if_pos hc]
          exact jY (by rw [hfr, if_neg (fun h => h.2.2.1 hc)])
        rw [if_neg hc, rdGo]
        by_cases hd : d = keyL
        · rw [if_pos (by rw [hd]; rfl), rdGo]
          rw [if_pos ⟨rfl, h3, hc, hd⟩] at hfr
          cases hn : numP e 1073741824 with
          | none => rw [hn] at hfr; exact jY hfr
          | some y =>
            rw [hn] at hfr
            simp only
            rw [rdGo]
            exact qF hfr (by decide) rfl
        · rw [if_neg (fun h => hd (by rw [h]; rfl))]
          exact jY (by rw [hfr, if_neg (fun h => hd h.2.2.2)])
    · rw [rd_none (by rw [fl3]; simpa using hl)]
      exact jY (by rw [hfr, if_neg (fun h => hl h.1)])
  rw [if_neg h3]
  by_cases h4 : wAt W 0 = js
  · rw [if_pos h4]
    have hfr : jU W = if W.length = 4 ∧ wAt W 0 = js ∧ wAt W 2 = keyL then (numP (wAt W 3) 1073741824).map (fun n => (4, 0, n)) else none := by
      unfold jU
      rw [if_neg (fun h => h1 h.2), if_neg (fun h => h2 h.2), if_neg (fun h => h3 h.2.1)]
      split
      · rfl
      · rw [if_neg (fun h => by rw [h4] at h; exact absurd h.2 (by decide)), if_neg (fun h => by rw [h4] at h; exact absurd h.2.1 (by decide))]
    by_cases hl : W.length = 4
    · match W, hl with
      | [a, b, c, d], _ =>
        have ha : a = js := h4
        have w2 : wAt [a, b, c, d] 2 = c := rfl
        have w3 : wAt [a, b, c, d] 3 = d := rfl
        rw [w2, w3] at hfr
        rw [rd_some rfl, fl4]
        unfold wS
        rw [rdGo, if_pos (by rw [ha]; rfl), rdGo, rdGo]
        by_cases hc : c = keyL
        · rw [if_pos (by rw [hc]; rfl), rdGo]
          rw [if_pos ⟨rfl, h4, hc⟩] at hfr
          cases hn : numP d 1073741824 with
          | none => rw [hn] at hfr; exact jY hfr
          | some y =>
            rw [hn] at hfr
            simp only
            rw [rdGo]
            exact qF hfr (by decide) rfl
        · rw [if_neg (fun h => hc (by rw [h]; rfl))]
          exact jY (by rw [hfr, if_neg (fun h => hc h.2.2)])
    · rw [rd_none (by rw [fl4]; simpa using hl)]
      exact jY (by rw [hfr, if_neg (fun h => hl h.1)])
  rw [if_neg h4]
  by_cases h5 : wAt W 0 = qm
  · rw [if_pos h5]
    have hfr : jU W = if W.length = 2 ∧ wAt W 0 = qm then some (5, 0, 0) else none := by
      unfold jU
      rw [if_neg (fun h => h1 h.2), if_neg (fun h => h2 h.2), if_neg (fun h => h3 h.2.1), if_neg (fun h => h4 h.2.1)]
      split
      · rfl
      · rw [if_neg (fun h => by rw [h5] at h; exact absurd h.2.1 (by decide))]
    by_cases hl : W.length = 2
    · match W, hl with
      | [a, b], _ =>
        have ha : a = qm := h5
        rw [rd_some rfl, fl5]
        unfold wS
        rw [rdGo, if_pos (by rw [ha]; rfl), rdGo, rdGo]
        rw [if_pos ⟨rfl, h5⟩] at hfr
        exact like_nod hfr rfl rfl
    · rw [rd_none (by rw [fl5]; simpa using hl)]
      exact jY (by rw [hfr, if_neg (fun h => hl h.1)])
  rw [if_neg h5]
  by_cases h6 : wAt W 0 = qN
  · rw [if_pos h6]
    have hfr : jU W = if W.length = 3 ∧ wAt W 0 = qN ∧ posI (wAt W 2) ≠ 0 then some (6, posI (wAt W 2), 0) else none := by
      unfold jU
      rw [if_neg (fun h => h1 h.2), if_neg (fun h => h2 h.2), if_neg (fun h => h3 h.2.1), if_neg (fun h => h4 h.2.1), if_neg (fun h => h5 h.2)]
    by_cases hl : W.length = 3
    · match W, hl with
      | [a, b, c], _ =>
        have ha : a = qN := h6
        have w2 : wAt [a, b, c] 2 = c := rfl
        rw [w2] at hfr
        rw [rd_some rfl, fl6]
        unfold wS
        rw [rdGo, if_pos (by rw [ha]; rfl), rdGo, rdGo]
        by_cases hc : posI c = 0
        · rw [if_pos hc]
          exact jY (by rw [hfr, if_neg (fun h => h.2.2 hc)])
        rw [if_neg hc, rdGo]
        rw [if_pos ⟨rfl, h6, hc⟩] at hfr
        exact qF hfr (by decide) rfl
    · rw [rd_none (by rw [fl6]; simpa using hl)]
      exact jY (by rw [hfr, if_neg (fun h => hl h.1)])
  rw [if_neg h6]
  refine jY ?_
  unfold jU
  rw [if_neg (fun h => h1 h.2), if_neg (fun h => h2 h.2), if_neg (fun h => h3 h.2.1), if_neg (fun h => h4 h.2.1), if_neg (fun h => h5 h.2), if_neg (fun h => h6 h.2.1)]
end Go.Proofs.YtggngllfnboehaaGreatDoor
namespace Go.Proofs.YtggngllfnboehaaGreatDoor
open Go Go.RowKit
set_option maxRecDepth 10000
variable {G : Nat → Option (List Value)}
theorem ll_mem : ∀ (l cur : List UInt8), ∀ w ∈ ll cur l, w.length ≤ cur.length + l.length
  | [], cur, w, h => by simp [ll] at h
  | c :: l, cur, w, h => by
    rw [ll] at h
    split at h
    · rcases List.mem_cons.1 h with rfl | h
      · simp
      · have := ll_mem l [] w h
        simp at this ⊢; omega
    · have := ll_mem l _ w h
      simp at this ⊢; omega
theorem ll_len : ∀ (l cur : List UInt8), (ll cur l).length ≤ l.length
  | [], cur => by simp [ll]
  | c :: l, cur => by
    rw [ll]
    split
    · have := ll_len l []
      simp; omega
    · have := ll_len l (cur ++ [c])
      simp; omega
theorem lines_len {l : List UInt8} : ((jZ l).getD []).length ≤ l.length ∧ ∀ w ∈ (jZ l).getD [], w.length ≤ l.length := by
  unfold jZ
  split
  · simp
  split
  · simp
  split
  · refine ⟨ll_len l [], fun w hw => ?_⟩
    have := ll_mem l [] w hw
    simpa using this
  · simp
theorem parseG_go {N : List Nd} {V : List Dv} {s : List UInt8} {i e : Int} (hn : netE N V = 0) (h : goL N V 0 none [] ((jZ s).getD []) = .error (i, e)) : jV N V s = (Pg.zer, i, e) := by
  unfold jV
  rw [if_neg (by simpa using hn)]
  cases hq : jZ s with
  | none => rw [hq] at h; rw [Option.getD_none, goL_nil] at h; cases h
  | some L => rw [hq, Option.getD_some] at h; simp only; rw [h]; rfl
set_option maxHeartbeats 16000000 in
theorem pparse_A (N : List Nd) (V : List Dv) (s : ByteArray) (hG : GCls G) (hP : GPow G) (hPl : GPlc G) (hM : GMax G) (ok : NwOk N V) (hs : s.size ≤ 900000) :
    yF Tryz.prog G 20 [nwAV N V, .v (.string s)] [] (.tu [(jV N V s.data.toList).1.av, .v (.int .i64 (jV N V s.data.toList).2.1), .v (.int .i64 (jV N V s.data.toList).2.2)]) [] := by
  have hz := nsizeS s
  obtain ⟨hLl, hLw⟩ := lines_len (l := s.data.toList)
  have hlin := lines_A (G := G) s hM (by omega)
  obtain ⟨L, hL⟩ : ∃ L, L = (jZ s.data.toList).getD [] := ⟨_, rfl⟩
  obtain ⟨okb, hokb⟩ : ∃ b, b = (jZ s.data.toList).isSome := ⟨_, rfl⟩
  have herr := fun (i e : Int) (hn : netE N V = 0) => parseG_go (i := i) (e := e) (s := s.data.toList) hn
  rw [← hL] at hLl hLw hlin herr
  rw [← hokb] at hlin
  refine zj tbOk (zn Tryz.func20 (by kernel_rfl) rfl) Tryz.func20 rfl _ Tryz.ntmps20 (Nat.le_of_ble_eq_true rfl) fun X hX => ?_
  subst hX
  repeat (first | ((with_reducible refine zE ?_); refine zD rfl ?_) | ((with_reducible refine zL ?_); refine zc tbOk rfl rfl rfl rfl (Nat.le_of_ble_eq_true rfl) ?_) | ((with_reducible refine yA ?_); refine yB tbOk rfl rfl ?_) | ((with_reducible refine yj ?_); refine yi rfl rfl rfl ?_)  | refine zJ ?_ | refine zB rfl ?_ | with_reducible refine zC ?_ | with_reducible refine zF ?_ | ((with_reducible refine zA ?_ ?_); kernel_rfl))
  refine zo (netcheck_A N V hG ok.n ok.v ok.l1 ok.l2) (by repeat' (first | exact trivial | exact Ren.v _ | exact Ren.sl _ _ | exact Ren.ep _ | exact Ren.ptr _ _ _ _ rfl | exact Ren.bs _ _ _ _ _ rfl | exact Ren.nil _ | exact Ren.own _ _ _ _ ⟨_, rfl⟩ | refine zO ?_ | refine zQ ?_ | refine zP ?_ | refine ⟨?_, ?_⟩)) (by repeat' (first | exact trivial | exact RenB.v _ | exact RenB.sl _ _ | exact RenB.ep _ | exact RenB.ptr _ _ _ _ rfl | refine zW ?_ | refine zX ?_ | refine ⟨?_, ?_⟩)) ?_
  repeat (first | ((with_reducible refine zI ?_); refine zH rfl ?_) | ((with_reducible refine zE ?_); refine zD rfl ?_) | ((with_reducible refine zM ?_); refine zV rfl rfl rfl ?_)  | refine zJ ?_ | refine zB rfl ?_ | with_reducible refine zC ?_ | with_reducible refine zF ?_ | ((with_reducible refine zA ?_ ?_); kernel_rfl))
  refine zm rfl (fun h => ?_) (fun h => ?_)
  · have e : jV N V s.data.toList = (Pg.zer, 0, netE N V) := by unfold jV; rw [if_pos (by simpa using h)]
    rw [e]
    repeat (first | ((with_reducible refine zI ?_); refine zH rfl ?_) | ((with_reducible refine zE ?_); refine zD rfl ?_) | ((with_reducible refine zd ?_); refine zf tbOk rfl rfl rfl rfl rfl rfl rfl (Nat.le_of_ble_eq_true rfl) rfl ?_) | ((with_reducible refine ye ?_); refine yg tbOk rfl rfl rfl rfl rfl ?_)  | refine zJ ?_ | refine zB rfl ?_ | with_reducible refine zC ?_ | with_reducible refine zS ?_ | with_reducible refine zF ?_ | with_reducible refine zU ?_ | ((with_reducible refine zA ?_ ?_); kernel_rfl))
    refine jT (by first | exact .inr rfl | exact .inl rfl) rfl rfl rfl rfl rfl rfl rfl ?_
    repeat' (first | exact trivial | exact Ren.v _ | exact Ren.sl _ _ | exact Ren.ep _ | exact Ren.ptr _ _ _ _ rfl | exact Ren.bs _ _ _ _ _ rfl | exact Ren.nil _ | exact Ren.own _ _ _ _ ⟨_, rfl⟩ | refine zO ?_ | refine zQ ?_ | refine zP ?_ | refine ⟨?_, ?_⟩)
  have h0 : netE N V = 0 := by simpa using h
  repeat (first | ((with_reducible refine zI ?_); refine zH rfl ?_)  | refine zB rfl ?_ | with_reducible refine zC ?_ | with_reducible refine zF ?_ | with_reducible refine zR ?_ | ((with_reducible refine zA ?_ ?_); kernel_rfl))
  refine zo (hlin) (by repeat' (first | exact trivial | exact Ren.v _ | exact Ren.sl _ _ | exact Ren.ep _ | exact Ren.ptr _ _ _ _ rfl | exact Ren.bs _ _ _ _ _ rfl | exact Ren.nil _ | exact Ren.own _ _ _ _ ⟨_, rfl⟩ | refine zO ?_ | refine zQ ?_ | refine zP ?_ | refine ⟨?_, ?_⟩)) (by repeat' (first | exact trivial | exact RenB.v _ | exact RenB.sl _ _ | exact RenB.ep _ | exact RenB.ptr _ _ _ _ rfl | refine zW ?_ | refine zX ?_ | refine ⟨?_, ?_⟩)) ?_
  repeat (first | ((with_reducible refine zI ?_); refine zH rfl ?_) | ((with_reducible refine zE ?_); refine zD rfl ?_) | ((with_reducible refine yA ?_); refine yB tbOk rfl rfl ?_) | ((with_reducible refine yN ?_); refine yO rfl rfl ?_) | ((with_reducible refine zu ?_); refine yR tbOk rfl rfl ?_)  | refine zJ ?_ | refine zB rfl ?_ | with_reducible refine zC ?_ | with_reducible refine zF ?_ | with_reducible refine zY ?_ | ((with_reducible refine zA ?_ ?_); kernel_rfl))
  refine awp_own_at (s := 61) 39 5 [] [(10, [.v (.string ⟨#[]⟩), .own 61 1])] rfl trivial ⟨⟨_, _, rfl, .same (.hit .nil)⟩, trivial⟩ ?_
  refine yU (ι := Nat × Option (List UInt8) × List St) (fun i => i.1 ≤ L.length ∧ goL N V i.1 i.2.1 i.2.2 (L.drop i.1) = goL N V 0 none [] L ∧ i.2.2.length ≤ i.1 ∧ (∀ n, i.2.1 = some n → n.length ≤ 900000)) (fun i => L.length - i.1) (fun v i => [(2, .ptr 2 (v 2) 0), (4, .ptr 4 (v 4) 0), (9, .v (.bool okb)), (10, .ptr 10 (v 10) 0), (11, .v (.bool i.2.1.isSome)), (30, .sl 1 (L.map svL)), (31, .v (.int .i64 (L.map svL).length)), (32, .v (.int .i64 (i.1 : Nat)))]) (fun v i => [(2, .box [.sl 3 (N.map Nd.av), .sl 5 (V.map Dv.av)]), (4, .box [.v (.string ⟨#[]⟩), .v (.slice none 0 0)]), (10, .box [.v (.string (strL (i.2.1.getD []))), .own 61 (v 61)]), (61, .buf 39 5 (i.2.2.map St.av))]) ?_ ?_
  · exact ⟨(0, none, []), ⟨Nat.zero_le _, rfl, Nat.zero_le _, fun n h => by cases h⟩, trivial, ⟨rfl, rfl, rfl, rfl, rfl, rfl, rfl, rfl, trivial⟩, ⟨rfl, rfl, rfl, rfl, trivial⟩⟩
  rintro v ⟨k, nm, S⟩ ⟨hk, hgo, hSl, hnm⟩
  dsimp only at hk hgo hSl hnm ⊢
  repeat (first | ((with_reducible refine zM ?_); refine zV rfl rfl rfl ?_)  | refine zJ ?_ | refine zB rfl ?_ | with_reducible refine zC ?_ | with_reducible refine zF ?_ | ((with_reducible refine zA ?_ ?_); kernel_rfl))
  refine zm rfl (fun h => ?_) (fun h => ?_)
  · have hlt : k < L.length := by simpa using h
    obtain ⟨l, hl⟩ := zl hlt
    have hy := sv_at hl
    have hll := hLw l (List.mem_of_getElem? hl)
    rw [jE hl, goL_cons] at hgo
    obtain ⟨W, hW⟩ : ∃ W, W = jK l := ⟨_, rfl⟩
    have hmat := matter_A (G := X.G) l (by omega)
    have hwc : W.length ≤ l.length + 1 := by rw [hW]; exact wl_count
    have hwm : ∀ w ∈ W, w.length ≤ l.length := fun w hw => by
      rw [hW] at hw
      have := wl_len (show w ∈ wl [] l from hw)
      simpa using this
    rw [← hW] at hgo hmat
    repeat (first | ((with_reducible refine zI ?_); refine zH rfl ?_) | ((with_reducible refine zE ?_); refine zD rfl ?_) | ((with_reducible refine zL ?_); refine za tbOk rfl rfl rfl ?_) | ((with_reducible refine zT ?_); refine zZ tbOk rfl rfl rfl rfl (by assumption) ?_)  | refine zJ ?_ | refine zB rfl ?_ | with_reducible refine zC ?_ | with_reducible refine zF ?_ | with_reducible refine zY ?_ | with_reducible refine zR ?_ | ((with_reducible refine zA ?_ ?_); kernel_rfl))
    refine zo (hmat) (by repeat' (first | exact trivial | exact Ren.v _ | exact Ren.sl _ _ | exact Ren.ep _ | exact Ren.ptr _ _ _ _ rfl | exact Ren.bs _ _ _ _ _ rfl | exact Ren.nil _ | exact Ren.own _ _ _ _ ⟨_, rfl⟩ | refine zO ?_ | refine zQ ?_ | refine zP ?_ | refine ⟨?_, ?_⟩)) (by repeat' (first | exact trivial | exact RenB.v _ | exact RenB.sl _ _ | exact RenB.ep _ | exact RenB.ptr _ _ _ _ rfl | refine zW ?_ | refine zX ?_ | refine ⟨?_, ?_⟩)) ?_
    repeat (first | ((with_reducible refine zI ?_); refine zH rfl ?_) | ((with_reducible refine zE ?_); refine zD rfl ?_) | ((with_reducible refine k_un ?_); refine yr rfl ?_) | ((with_reducible refine yN ?_); refine yO rfl rfl ?_)  | refine zJ ?_ | refine zB rfl ?_ | with_reducible refine zC ?_ | with_reducible refine zF ?_ | with_reducible refine zY ?_ | ((with_reducible refine zA ?_ ?_); kernel_rfl))
    refine zm rfl (fun q => ?_) (fun q => ?_)
    · have q' : matB W = false := by simpa using q
      rw [if_pos (matB_iff.1 q')] at hgo
      repeat (first | ((with_reducible refine zI ?_); refine zH rfl ?_) | ((with_reducible refine zM ?_); refine ze rfl rfl (by omega) ?_)  | refine zJ ?_ | refine zB rfl ?_ | with_reducible refine zC ?_ | with_reducible refine zw ?_ | with_reducible refine yJ ?_ | ((with_reducible refine zr ?_ ?_); rfl) | ((with_reducible refine q_block_out ?_ ?_); rfl) | ((with_reducible refine zA ?_ ?_); kernel_rfl))
      exact ⟨(k + 1, nm, S), ⟨by omega, hgo, by dsimp only; omega, hnm⟩, by dsimp only; omega, ⟨rfl, rfl, rfl, rfl, rfl, rfl, rfl, rfl, trivial⟩, ⟨rfl, rfl, rfl, rfl, trivial⟩⟩
    have q' : ¬ (W.length = 0 ∨ (wAt W 0)[0]? = some 35) := fun e => by
      have q2 : matB W = true := by simpa using q
      rw [matB_iff.2 e] at q2; cases q2
    rw [if_neg q'] at hgo
    have hW0 : W ≠ [] := fun e => q' (.inl (by rw [e]; rfl))
    cases nm with
    | some n =>
      simp only at hgo
      obtain ⟨lk1, lk2⟩ := parse_like N V W
      repeat (first | ((with_reducible refine zI ?_); refine zH rfl ?_) | ((with_reducible refine zE ?_); refine zD rfl ?_) | ((with_reducible refine zL ?_); refine zc tbOk rfl rfl rfl rfl (Nat.le_of_ble_eq_true rfl) ?_) | ((with_reducible refine yA ?_); refine yB tbOk rfl rfl ?_)  | refine zJ ?_ | refine zB rfl ?_ | with_reducible refine zC ?_ | with_reducible refine zF ?_ | ((with_reducible refine zA ?_ ?_); kernel_rfl) | refine zg rfl (by first | rfl | assumption) ?_)
      refine zo (parse_A N V W hG hPl ok h0 hW0 (by omega) (fun w hw => by have := hwm w hw; omega)) (by repeat' (first | exact trivial | exact Ren.v _ | exact Ren.sl _ _ | exact Ren.ep _ | exact Ren.ptr _ _ _ _ rfl | exact Ren.bs _ _ _ _ _ rfl | exact Ren.nil _ | exact Ren.own _ _ _ _ ⟨_, rfl⟩ | refine zO ?_ | refine zQ ?_ | refine zP ?_ | refine ⟨?_, ?_⟩)) (by repeat' (first | exact trivial | exact RenB.v _ | exact RenB.sl _ _ | exact RenB.ep _ | exact RenB.ptr _ _ _ _ rfl | refine zW ?_ | refine zX ?_ | refine ⟨?_, ?_⟩)) ?_
      repeat (first | ((with_reducible refine zI ?_); refine zH rfl ?_) | ((with_reducible refine zE ?_); refine zD rfl ?_) | ((with_reducible refine zK ?_); refine zG tbOk rfl rfl rfl rfl ?_) | ((with_reducible refine zL ?_); refine zN tbOk rfl rfl rfl rfl rfl ?_) | ((with_reducible refine zL ?_); refine zc tbOk rfl rfl rfl rfl (Nat.le_of_ble_eq_true rfl) ?_) | ((with_reducible refine zd ?_); refine zf tbOk rfl rfl rfl rfl rfl rfl rfl (Nat.le_of_ble_eq_true rfl) rfl ?_) | ((with_reducible refine yN ?_); refine yO rfl rfl ?_) | ((with_reducible refine yG ?_); refine yH tbOk rfl rfl rfl rfl rfl (by omega) rfl rfl rfl ?_) | refine zJ ?_ | refine zB rfl ?_ | with_reducible refine zC ?_ | ((with_reducible refine zA ?_ ?_); kernel_rfl))
      refine yV tbOk rfl rfl rfl rfl rfl (by decide) rfl rfl rfl rfl rfl (fun x hx => by simp at hx; subst hx; rfl) (by simp only [List.length_map, List.length_cons, List.length_nil]; omega) (by simp only [List.length_map, List.length_cons, List.length_nil]; omega) ?_
      repeat (first | ((with_reducible refine zI ?_); refine zH rfl ?_) | ((with_reducible refine zK ?_); refine zG tbOk rfl rfl rfl rfl ?_) | ((with_reducible refine zd ?_); refine zf tbOk rfl rfl rfl rfl rfl rfl rfl (Nat.le_of_ble_eq_true rfl) rfl ?_) | ((with_reducible refine zM ?_); refine zV rfl rfl rfl ?_)  | refine zJ ?_ | refine zB rfl ?_ | with_reducible refine zC ?_ | with_reducible refine zk ?_ | with_reducible refine zF ?_ | ((with_reducible refine zA ?_ ?_); kernel_rfl))
      refine zm rfl (fun c => ?_) (fun c => ?_)
      · have c' : (jz N V W).2 ≠ 0 := by rw [← lk1]; simpa using c
        rw [if_pos c'] at hgo
        rw [herr _ _ h0 hgo.symm, ← lk1]
        repeat (first | ((with_reducible refine zI ?_); refine zH rfl ?_) | ((with_reducible refine zE ?_); refine zD rfl ?_) | ((with_reducible refine zd ?_); refine zf tbOk rfl rfl rfl rfl rfl rfl rfl (Nat.le_of_ble_eq_true rfl) rfl ?_) | ((with_reducible refine ye ?_); refine yg tbOk rfl rfl rfl rfl rfl ?_) | ((with_reducible refine zM ?_); refine ze rfl rfl (by omega) ?_)  | refine zJ ?_ | refine zB rfl ?_ | with_reducible refine zC ?_ | with_reducible refine zS ?_ | with_reducible refine zh ?_ | with_reducible refine zF ?_ | with_reducible refine zU ?_ | ((with_reducible refine zA ?_ ?_); kernel_rfl))
        refine jT (by first | exact .inr rfl | exact .inl rfl) rfl rfl rfl rfl rfl rfl rfl ?_
        repeat' (first | exact trivial | exact Ren.v _ | exact Ren.sl _ _ | exact Ren.ep _ | exact Ren.ptr _ _ _ _ rfl | exact Ren.bs _ _ _ _ _ rfl | exact Ren.nil _ | exact Ren.own _ _ _ _ ⟨_, rfl⟩ | refine zO ?_ | refine zQ ?_ | refine zP ?_ | refine ⟨?_, ?_⟩)
      · have c' : (jz N V W).2 = 0 := by rw [← lk1]; simpa using c
        rw [if_neg (by simpa using c')] at hgo
        have hp := lk2 c'
        repeat (first | ((with_reducible refine zI ?_); refine zH rfl ?_) | ((with_reducible refine zM ?_); refine ze rfl rfl (by omega) ?_)  | refine zJ ?_ | refine zB rfl ?_ | with_reducible refine zC ?_ | with_reducible refine zk ?_ | with_reducible refine zR ?_ | ((with_reducible refine zA ?_ ?_); kernel_rfl))
        exact ⟨(k + 1, some n, S ++ [(jz N V W).1]), ⟨by omega, hgo, by simp only [List.length_append, List.length_singleton]; omega, hnm⟩, by dsimp only; omega, ⟨rfl, rfl, rfl, rfl, rfl, rfl, rfl, rfl, trivial⟩, ⟨rfl, rfl, rfl, jJ (by rw [← hp, List.map_append]; rfl), trivial⟩⟩
    | none =>
      simp only at hgo
      obtain ⟨w0, hw0⟩ := zl (L := W) (k := 0) (List.length_pos_iff.2 hW0)
      have hwa : wAt W 0 = w0 := by unfold wAt; rw [hw0]; rfl
      have hz0 : (W.map svL)[(0 : Int).toNat]? = some (svL w0) := sv_at hw0
      have hlp : 0 < W.length := List.length_pos_iff.2 hW0
      repeat (first | ((with_reducible refine zI ?_); refine zH rfl ?_) | ((with_reducible refine zE ?_); refine zD rfl ?_) | ((with_reducible refine zu ?_); refine yR tbOk rfl rfl ?_) | ((with_reducible refine zM ?_); refine zV rfl rfl rfl ?_)  | refine zJ ?_ | refine zB rfl ?_ | with_reducible refine zC ?_ | with_reducible refine zF ?_ | ((with_reducible refine zA ?_ ?_); kernel_rfl) | refine zp rfl (by first | rfl | assumption) ?_)
      refine yI rfl rfl (fun c => ?_) (fun c => ?_)
      · have c' : W.length ≠ 2 := by simp at c; omega
        rw [if_pos (.inl c')] at hgo
        rw [herr _ _ h0 hgo.symm]
        repeat (first | ((with_reducible refine zI ?_); refine zH rfl ?_) | ((with_reducible refine zE ?_); refine zD rfl ?_) | ((with_reducible refine zd ?_); refine zf tbOk rfl rfl rfl rfl rfl rfl rfl (Nat.le_of_ble_eq_true rfl) rfl ?_) | ((with_reducible refine zb ?_); refine zt rfl (by first | rfl | assumption) rfl ?_) | ((with_reducible refine ye ?_); refine yg tbOk rfl rfl rfl rfl rfl ?_) | ((with_reducible refine zM ?_); refine ze rfl rfl (by omega) ?_) | ((with_reducible refine zM ?_); refine zV rfl rfl rfl ?_)  | refine zJ ?_ | refine zB rfl ?_ | refine yL rfl rfl (by first | rfl | assumption) ?_ | with_reducible refine zC ?_ | with_reducible refine zS ?_ | with_reducible refine zk ?_ | with_reducible refine zh ?_ | with_reducible refine zF ?_ | with_reducible refine zU ?_ | ((with_reducible refine zA ?_ ?_); kernel_rfl) | refine zg rfl (by first | rfl | assumption) ?_)
        refine jT (by first | exact .inr rfl | exact .inl rfl) rfl rfl rfl rfl rfl rfl rfl ?_
        repeat' (first | exact trivial | exact Ren.v _ | exact Ren.sl _ _ | exact Ren.ep _ | exact Ren.ptr _ _ _ _ rfl | exact Ren.bs _ _ _ _ _ rfl | exact Ren.nil _ | exact Ren.own _ _ _ _ ⟨_, rfl⟩ | refine zO ?_ | refine zQ ?_ | refine zP ?_ | refine ⟨?_, ?_⟩)
      have c' : W.length = 2 := by simp at c; omega
      obtain ⟨w1, hw1⟩ := zl (L := W) (k := 1) (by omega)
      have hwb : wAt W 1 = w1 := by unfold wAt; rw [hw1]; rfl
      have hz1 : (W.map svL)[(1 : Int).toNat]? = some (svL w1) := sv_at hw1
      repeat (first | ((with_reducible refine zI ?_); refine zH rfl ?_) | ((with_reducible refine zE ?_); refine zD rfl ?_) | ((with_reducible refine zL ?_); refine za tbOk rfl rfl rfl ?_) | ((with_reducible refine zb ?_); refine zq rfl (by first | rfl | assumption) rfl ?_) | ((with_reducible refine zT ?_); refine zZ tbOk rfl rfl rfl rfl (by assumption) ?_) | ((with_reducible refine zM ?_); refine yp rfl rfl rfl ?_)  | refine zJ ?_ | refine zB rfl ?_ | refine zv rfl rfl (by first | rfl | assumption) ?_ | with_reducible refine zC ?_ )
      refine zm rfl (fun c2 => ?_) (fun c2 => ?_)
      · have c2' : wAt W 0 ≠ progL := fun e => by
          have c3 : yh (strL w0) (strL progL) = false := (show yh (strL w0) (⟨#[112, 114, 111, 103, 114, 97, 109, 109, 101]⟩ : ByteArray) = false by simpa using c2)
          rw [(strEq_L _ _).2 (by rw [← hwa]; exact e)] at c3; cases c3
        rw [if_pos (.inr c2')] at hgo
        rw [herr _ _ h0 hgo.symm]
        repeat (first | ((with_reducible refine zI ?_); refine zH rfl ?_) | ((with_reducible refine zE ?_); refine zD rfl ?_) | ((with_reducible refine zd ?_); refine zf tbOk rfl rfl rfl rfl rfl rfl rfl (Nat.le_of_ble_eq_true rfl) rfl ?_) | ((with_reducible refine ye ?_); refine yg tbOk rfl rfl rfl rfl rfl ?_) | ((with_reducible refine zM ?_); refine ze rfl rfl (by omega) ?_) | ((with_reducible refine zM ?_); refine zV rfl rfl rfl ?_)  | refine zJ ?_ | refine zB rfl ?_ | with_reducible refine zC ?_ | with_reducible refine zS ?_ | with_reducible refine zk ?_ | with_reducible refine zh ?_ | with_reducible refine zF ?_ | with_reducible refine zU ?_ | ((with_reducible refine zA ?_ ?_); kernel_rfl) | refine zg rfl (by first | rfl | assumption) ?_)
        refine jT (by first | exact .inr rfl | exact .inl rfl) rfl rfl rfl rfl rfl rfl rfl ?_
        repeat' (first | exact trivial | exact Ren.v _ | exact Ren.sl _ _ | exact Ren.ep _ | exact Ren.ptr _ _ _ _ rfl | exact Ren.bs _ _ _ _ _ rfl | exact Ren.nil _ | exact Ren.own _ _ _ _ ⟨_, rfl⟩ | refine zO ?_ | refine zQ ?_ | refine zP ?_ | refine ⟨?_, ?_⟩)
      · have c2' : wAt W 0 = progL := by
          have c3 : yh (strL w0) (strL progL) = true := (show yh (strL w0) (⟨#[112, 114, 111, 103, 114, 97, 109, 109, 101]⟩ : ByteArray) = true by simpa using c2)
          rw [hwa]; exact (strEq_L _ _).1 c3
        rw [if_neg (by rintro (e | e); · exact e c'
                       · exact e c2'), hwb] at hgo
        repeat (first | ((with_reducible refine zI ?_); refine zH rfl ?_) | ((with_reducible refine zE ?_); refine zD rfl ?_) | ((with_reducible refine zK ?_); refine zG tbOk rfl rfl rfl rfl ?_) | ((with_reducible refine zL ?_); refine za tbOk rfl rfl rfl ?_) | ((with_reducible refine zd ?_); refine zf tbOk rfl rfl rfl rfl rfl rfl rfl (Nat.le_of_ble_eq_true rfl) rfl ?_) | ((with_reducible refine zT ?_); refine zZ tbOk rfl rfl rfl rfl (by assumption) ?_) | ((with_reducible refine zM ?_); refine ze rfl rfl (by omega) ?_) | ((with_reducible refine zM ?_); refine zV rfl rfl rfl ?_)  | refine zJ ?_ | refine zB rfl ?_ | with_reducible refine zC ?_ | with_reducible refine zk ?_ | with_reducible refine zF ?_ | with_reducible refine zR ?_ | ((with_reducible refine zA ?_ ?_); kernel_rfl) | refine zp rfl (by first | rfl | assumption) ?_)
        exact ⟨(k + 1, some w1, S), ⟨by omega, hgo, by dsimp only; omega, fun n hn => by injection hn with hn; rw [← hn]; have := hwm w1 (List.mem_of_getElem? hw1); omega⟩, by dsimp only; omega, ⟨rfl, rfl, rfl, rfl, rfl, rfl, rfl, rfl, trivial⟩, ⟨rfl, rfl, rfl, rfl, trivial⟩⟩
  · have hge : L.length ≤ k := by simpa using h
    rw [List.drop_of_length_le hge, goL_nil] at hgo
    repeat (first | ((with_reducible refine zI ?_); refine zH rfl ?_) | ((with_reducible refine k_un ?_); refine yr rfl ?_)  | refine zB rfl ?_ | with_reducible refine zC ?_ | with_reducible refine zw ?_ | with_reducible refine zF ?_ | with_reducible refine yJ ?_ | ((with_reducible refine zr ?_ ?_); rfl) | ((with_reducible refine zA ?_ ?_); kernel_rfl))
    refine yI rfl rfl (fun c => ?_) (fun c => ?_)
    · have e : jV N V s.data.toList = (Pg.zer, 0, 2) := by
        have hb : okb = false := by simpa using c
        unfold jV
        rw [if_neg (by simpa using h0)]
        cases hq : jZ s.data.toList with
        | none => rfl
        | some L' => rw [hq] at hokb; rw [hokb] at hb; cases hb
      rw [e]
      repeat (first | ((with_reducible refine zE ?_); refine zD rfl ?_) | ((with_reducible refine zd ?_); refine zf tbOk rfl rfl rfl rfl rfl rfl rfl (Nat.le_of_ble_eq_true rfl) rfl ?_) | ((with_reducible refine zb ?_); refine zt rfl (by first | rfl | assumption) rfl ?_) | ((with_reducible refine ye ?_); refine yg tbOk rfl rfl rfl rfl rfl ?_)  | refine zJ ?_ | refine zB rfl ?_ | refine yL rfl rfl (by first | rfl | assumption) ?_ | with_reducible refine zC ?_ | with_reducible refine zS ?_ | with_reducible refine zF ?_ | with_reducible refine zU ?_ | ((with_reducible refine zA ?_ ?_); kernel_rfl) | refine zg rfl (by first | rfl | assumption) ?_)
      refine jT (by first | exact .inr rfl | exact .inl rfl) rfl rfl rfl rfl rfl rfl rfl ?_
      repeat' (first | exact trivial | exact Ren.v _ | exact Ren.sl _ _ | exact Ren.ep _ | exact Ren.ptr _ _ _ _ rfl | exact Ren.bs _ _ _ _ _ rfl | exact Ren.nil _ | exact Ren.own _ _ _ _ ⟨_, rfl⟩ | refine zO ?_ | refine zQ ?_ | refine zP ?_ | refine ⟨?_, ?_⟩)
    have e : jV N V s.data.toList = endG N V (.ok (nm, S)) := by
      have hb : okb = true := by simpa using c
      unfold jV
      rw [if_neg (by simpa using h0)]
      cases hq : jZ s.data.toList with
      | none => rw [hq] at hokb; rw [hokb] at hb; cases hb
      | some L' =>
        rw [hq, Option.getD_some] at hL
        simp only
        rw [hgo, hL]
    rw [e]
    cases nm with
    | none =>
      repeat (first | ((with_reducible refine zI ?_); refine zH rfl ?_) | ((with_reducible refine zE ?_); refine zD rfl ?_) | ((with_reducible refine zd ?_); refine zf tbOk rfl rfl rfl rfl rfl rfl rfl (Nat.le_of_ble_eq_true rfl) rfl ?_) | ((with_reducible refine k_un ?_); refine yr rfl ?_) | ((with_reducible refine zb ?_); refine zq rfl (by first | rfl | assumption) rfl ?_) | ((with_reducible refine ye ?_); refine yg tbOk rfl rfl rfl rfl rfl ?_)  | refine zJ ?_ | refine zB rfl ?_ | refine zv rfl rfl (by first | rfl | assumption) ?_ | with_reducible refine zC ?_ | with_reducible refine zS ?_ | with_reducible refine zF ?_ | with_reducible refine zU ?_ | ((with_reducible refine zA ?_ ?_); kernel_rfl) | refine zg rfl (by first | rfl | assumption) ?_)
      refine jT (by first | exact .inr rfl | exact .inl rfl) rfl rfl rfl rfl rfl rfl rfl ?_
      repeat' (first | exact trivial | exact Ren.v _ | exact Ren.sl _ _ | exact Ren.ep _ | exact Ren.ptr _ _ _ _ rfl | exact Ren.bs _ _ _ _ _ rfl | exact Ren.nil _ | exact Ren.own _ _ _ _ ⟨_, rfl⟩ | refine zO ?_ | refine zQ ?_ | refine zP ?_ | refine ⟨?_, ?_⟩)
    | some n =>
      have hnl := hnm n rfl
      have hck := pcheck_A (G := X.G) N V ⟨strL n, S⟩ hG ok (by show (strL n).size ≤ _; rw [jb]; unfold maxLen; omega) (by show S.length ≤ _; unfold maxLen; omega)
      repeat (first | ((with_reducible refine zI ?_); refine zH rfl ?_) | ((with_reducible refine k_un ?_); refine yr rfl ?_) | ((with_reducible refine zb ?_); refine zq rfl (by first | rfl | assumption) rfl ?_) | refine zJ ?_ | refine zB rfl ?_ | refine zv rfl rfl (by first | rfl | assumption) ?_ | with_reducible refine zC ?_)
      refine zp rfl rfl ?_
      repeat (first   | with_reducible refine zC ?_ | with_reducible refine zF ?_ | with_reducible refine zR ?_)
      refine jp (s := 61) [] [(10, [.v (.string (strL n)), .sl 5 (S.map St.av)])] rfl trivial ⟨⟨_, _, rfl, .same (.hit .nil)⟩, trivial⟩ ?_
      repeat (first | ((with_reducible refine zL ?_); refine zc tbOk rfl rfl rfl rfl (Nat.le_of_ble_eq_true rfl) ?_)  | refine zB rfl ?_  | ((with_reducible refine zA ?_ ?_); kernel_rfl))
      refine zo (hck) (by repeat' (first | exact trivial | exact Ren.v _ | exact Ren.sl _ _ | exact Ren.ep _ | exact Ren.ptr _ _ _ _ rfl | exact Ren.bs _ _ _ _ _ rfl | exact Ren.nil _ | exact Ren.own _ _ _ _ ⟨_, rfl⟩ | refine zO ?_ | refine zQ ?_ | refine zP ?_ | refine ⟨?_, ?_⟩)) (by repeat' (first | exact trivial | exact RenB.v _ | exact RenB.sl _ _ | exact RenB.ep _ | exact RenB.ptr _ _ _ _ rfl | refine zW ?_ | refine zX ?_ | refine ⟨?_, ?_⟩)) ?_
      repeat (first | ((with_reducible refine zI ?_); refine zH rfl ?_) | ((with_reducible refine zE ?_); refine zD rfl ?_) | ((with_reducible refine zM ?_); refine zV rfl rfl rfl ?_)  | refine zJ ?_ | refine zB rfl ?_ | with_reducible refine zC ?_ | with_reducible refine zF ?_ | ((with_reducible refine zA ?_ ?_); kernel_rfl))
      refine zm rfl (fun c2 => ?_) (fun c2 => ?_)
      · have c2' : jv N V ⟨strL n, S⟩ ≠ 0 := by simpa using c2
        have e2 : endG N V (.ok (some n, S)) = (Pg.zer, 0, jv N V ⟨strL n, S⟩) := if_pos c2'
        rw [e2]
        repeat (first | ((with_reducible refine zI ?_); refine zH rfl ?_) | ((with_reducible refine zE ?_); refine zD rfl ?_) | ((with_reducible refine zd ?_); refine zf tbOk rfl rfl rfl rfl rfl rfl rfl (Nat.le_of_ble_eq_true rfl) rfl ?_) | ((with_reducible refine ye ?_); refine yg tbOk rfl rfl rfl rfl rfl ?_)  | refine zJ ?_ | refine zB rfl ?_ | with_reducible refine zC ?_ | with_reducible refine zS ?_ | with_reducible refine zF ?_ | with_reducible refine zU ?_ | ((with_reducible refine zA ?_ ?_); kernel_rfl))
        refine jT (by first | exact .inr rfl | exact .inl rfl) rfl rfl rfl rfl rfl rfl rfl ?_
        repeat' (first | exact trivial | exact Ren.v _ | exact Ren.sl _ _ | exact Ren.ep _ | exact Ren.ptr _ _ _ _ rfl | exact Ren.bs _ _ _ _ _ rfl | exact Ren.nil _ | exact Ren.own _ _ _ _ ⟨_, rfl⟩ | refine zO ?_ | refine zQ ?_ | refine zP ?_ | refine ⟨?_, ?_⟩)
      · have c2' : ¬ jv N V ⟨strL n, S⟩ ≠ 0 := by simpa using c2
        have e2 : endG N V (.ok (some n, S)) = (⟨strL n, S⟩, 0, 0) := if_neg c2'
        rw [e2]
        repeat (first | ((with_reducible refine zE ?_); refine zD rfl ?_) | ((with_reducible refine zL ?_); refine zc tbOk rfl rfl rfl rfl (Nat.le_of_ble_eq_true rfl) ?_) | ((with_reducible refine zd ?_); refine zf tbOk rfl rfl rfl rfl rfl rfl rfl (Nat.le_of_ble_eq_true rfl) rfl ?_)  | refine zJ ?_ | refine zB rfl ?_ | with_reducible refine zC ?_ | with_reducible refine zF ?_ | with_reducible refine zR ?_ | with_reducible refine zU ?_ | ((with_reducible refine zA ?_ ?_); kernel_rfl))
        refine jT (by first | exact .inr rfl | exact .inl rfl) rfl rfl rfl rfl rfl rfl rfl ?_
        repeat' (first | exact trivial | exact Ren.v _ | exact Ren.sl _ _ | exact Ren.ep _ | exact Ren.ptr _ _ _ _ rfl | exact Ren.bs _ _ _ _ _ rfl | exact Ren.nil _ | exact Ren.own _ _ _ _ ⟨_, rfl⟩ | refine zO ?_ | refine zQ ?_ | refine zP ?_ | refine ⟨?_, ?_⟩)
end Go.Proofs.YtggngllfnboehaaGreatDoor
