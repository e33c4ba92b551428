/- colour.parts, colours and Both, by the abstract machine; conditions: a network whose ends are right, as many positions as devices. -/
import Derived.Test.YtnafokinifbfhaaGreatDoorFdA
import Derived.Test.YtnafokinifbfhaaGreatDoorZg
set_option linter.unusedVariables false
set_option linter.unusedSimpArgs false
namespace Go.Proofs.YtnafokinifbfhaaGreatDoor
open Go Go.RowKit
set_option maxRecDepth 10000
variable {G : Nat → Option (List Value)}
/-- What is closed. -/
def clU (st : List Int) (i : Nat) : Bool := st.getD i 0 == 2
theorem pclo_A (st : List Int) (i : Nat) (hi : i < st.length) : zJ Tryz.prog G 166 [.v (.int .i64 (i : Nat)), .ptr (refB + 0) 0 0] [[.sl 1 (st.map iv)]] (.v (.bool (clU st i))) [[.sl 1 (st.map iv)]] := by
  obtain ⟨x, hx⟩ := zB hi
  have hy := qA hx
  refine zE tbOk (zA Tryz.func166 (by kernel_rfl) rfl) Tryz.func166 rfl _ Tryz.ntmps166 (Nat.le_of_ble_eq_true rfl) fun X hX => ?_
  subst hX
  refine zg14 ?_
  refine dC (by first | exact .inr rfl | exact .inl rfl) rfl rfl rfl rfl ?_ rfl (by repeat' (first | exact trivial | exact Ren.sl _ _ | refine ⟨?_, ?_⟩))
  unfold clU
  rw [List.getD_eq_getElem?_getD, hx]; rfl
theorem pnev_A (k : Int) : zJ Tryz.prog G 167 [.v (.int .i64 k)] [] (.v (.bool false)) [] := by
  refine zE tbOk (zA Tryz.func167 (by kernel_rfl) rfl) Tryz.func167 rfl _ Tryz.ntmps167 (Nat.le_of_ble_eq_true rfl) fun X hX => ?_
  subst hX
  refine zg6 ?_
  refine zL (by first | exact .inr rfl | exact .inl rfl) rfl rfl ?_
  rfl
theorem yS : ∀ L : List Int, (L.map iv).flatMap AV.cells = L.map iv
  | [] => rfl
  | b :: L => by rw [List.map_cons, List.flatMap_cons, yS L]; rfl
theorem yY (L : List Int) : ∀ x ∈ L.map iv, x.cells.length = 1 := fun x hx => by
  obtain ⟨b, _, rfl⟩ := List.mem_map.1 hx
  rfl
theorem jt (L : List Int) (z x : Int) : ((L.set z.toNat x).map iv).flatMap AV.cells = putL ((L.map iv).flatMap AV.cells) (z.toNat * 1) [.v (.int .i64 x)] := by
  rw [yS, yS, Nat.mul_one, List.map_set]; rfl
theorem qG {L : List Int} {z : Int} (h : z.toNat < L.length) : ((L.map iv).flatMap AV.cells)[z.toNat * 1]? = some (iv (L.getD z.toNat 0)) := by
  obtain ⟨x, hx⟩ := zB h
  rw [yS, Nat.mul_one, List.getElem?_map, hx, List.getD_eq_getElem?_getD, hx]; rfl
theorem yU {L : List Int} {k : Nat} (h : k < L.length) : (L.map iv)[k]? = some (iv (L.getD k 0)) := by
  obtain ⟨x, hx⟩ := zB h
  rw [List.getElem?_map, hx, List.getD_eq_getElem?_getD, hx]; rfl
theorem fillN {a b : Int} {i n : Nat} (h : i < n) : (List.replicate i a ++ List.replicate (n - i) b).set i a = List.replicate (i + 1) a ++ List.replicate (n - (i + 1)) b := by
  obtain ⟨m, hm⟩ : ∃ m, n - i = m + 1 := ⟨n - i - 1, by omega⟩
  have hm2 : n - (i + 1) = m := by omega
  rw [hm, hm2, List.set_append, if_neg (by simp), List.length_replicate, Nat.sub_self, List.replicate_succ, List.set_cons_zero, List.replicate_succ', List.append_assoc]
  rfl
def qD (v : Int) : Nat → List Bool → List Int → List Int
  | _, [], o => o
  | w, b :: R, o => qD v (w + 1) R (if b = true then o.set w v else o)
theorem gX (v : Int) : ∀ (R : List Bool) (w : Nat) (o : List Int), (qD v w R o).length = o.length
  | [], _, _ => rfl
  | b :: R, w, o => by rw [qD, gX v R]; split <;> simp
def cT (U : Nat → Bool) (V : List Dv) (n v : Nat) (o : List Int) : List Int := if 0 ≤ o.getD v 0 then o else qD v 0 (rd (flood U V n [(v : Int)])) o
def ptGo (U : Nat → Bool) (V : List Dv) (n : Nat) : Nat → Nat → List Int → List Int
  | 0, _, o => o
  | m + 1, v, o => ptGo U V n m (v + 1) (cT U V n v o)
def eF (U : Nat → Bool) (V : List Dv) (n : Nat) : List Int := ptGo U V n n 0 (List.replicate n (-1))
theorem xO {U : Nat → Bool} {V : List Dv} {n v : Nat} {o : List Int} : (cT U V n v o).length = o.length := by
  unfold cT
  split
  · rfl
  · exact gX _ _ _ _
theorem xG {U : Nat → Bool} {V : List Dv} {n : Nat} : ∀ (m v : Nat) (o : List Int), (ptGo U V n m v o).length = o.length
  | 0, _, _ => rfl
  | m + 1, v, o => by rw [ptGo, xG m, xO]
theorem partsP_len {U : Nat → Bool} {V : List Dv} {n : Nat} : (eF U V n).length = n := by unfold eF; rw [xG]; simp
set_option maxHeartbeats 8000000 in
theorem parts_A (N : List Nd) (V : List Dv) (st : List Int) (hV : ∀ d ∈ V, zj d N.length = true) (hst : st.length = V.length) (hn : N.length ≤ 32) (hv : V.length ≤ 64) :
    zJ Tryz.prog G 123 [yR N V, .sl 1 (st.map iv)] [] (.sl 1 ((eF (clU st) V N.length).map iv)) [] := by
  have hnl : (N.map Nd.av).length = N.length := by simp
  refine zE tbOk (zA Tryz.func123 (by kernel_rfl) rfl) Tryz.func123 rfl _ Tryz.ntmps123 (Nat.le_of_ble_eq_true rfl) fun X hX => ?_
  subst hX
  refine zg12 ?_
  with_reducible refine jz ?_
  refine qR (zc := iv 0) tbOk rfl rfl rfl rfl rfl (by decide) rfl (by intro z hz; simp at hz; subst hz; rfl) rfl rfl (by omega) (by omega) rfl ?_
  refine zg3 ?_
  refine zQ (ι := Nat) (fun i => i ≤ N.length) (fun i => N.length - i) (fun v i => [(2, .ptr 2 (v 2) 0), (3, .ptr 3 (v 3) 0), (5, .own 15 (v 15)), (17, .v (.int .i64 N.length)), (18, .v (.int .i64 (i : Nat)))]) (fun v i => [(2, .box [.sl 3 (N.map Nd.av), .sl 5 (V.map Dv.av)]), (3, .box [.sl 1 (st.map iv)]), (15, .buf 3 1 ((List.replicate i (-1) ++ List.replicate (N.length - i) 0).map iv))]) ?_ ?_
  · refine ⟨0, Nat.zero_le _, trivial, ⟨rfl, rfl, rfl, ?_, rfl, trivial⟩, ⟨rfl, rfl, zq ?_, trivial⟩⟩
    · show AV.v (.int .i64 ((List.replicate (N.map Nd.av).length (iv 0)).length : Int)) = _
      rw [List.length_replicate, hnl]
    · rw [hnl]; simp
  rintro v i hi
  refine zg1 ?_
  refine zF rfl (fun h => ?_) (fun h => ?_)
  · have hlt : i < N.length := by simpa using h
    refine zg0 ?_
    (with_reducible refine zH ?_); refine zK tbOk rfl rfl rfl rfl rfl rfl ⟨by omega, by rw [List.length_map]; simp; omega⟩ ?_
    refine zg1 ?_
    (with_reducible refine zt ?_); refine zz (L' := ((List.replicate i (-1) ++ List.replicate (N.length - i) 0).set (i : Int).toNat (-1)).map iv) tbOk rfl rfl rfl rfl rfl rfl rfl rfl rfl (by rw [yS, List.length_map]; (simp; omega)) (by simp) (yY _) (jt _ _ _) ?_
    refine zg2 ?_
    exact ⟨i + 1, by omega, by omega, ⟨rfl, rfl, rfl, rfl, rfl, trivial⟩, ⟨rfl, rfl, zq (by rw [Int.toNat_natCast, fillN hlt]), trivial⟩⟩
  obtain rfl : i = N.length := by simp at h; omega
  have e0 : List.replicate N.length (-1) ++ List.replicate (N.length - N.length) 0 = (List.replicate N.length (-1) : List Int) := by simp
  rw [e0]
  refine zg7 ?_
  refine zQ (ι := Nat × List Int) (fun i => i.1 ≤ N.length ∧ i.2.length = N.length ∧ ptGo (clU st) V N.length (N.length - i.1) i.1 i.2 = eF (clU st) V N.length) (fun i => N.length - i.1) (fun v i => [(2, .ptr 2 (v 2) 0), (5, .own 15 (v 15)), (7, .fn 166 [.ptr 3 (v 3) 0]), (8, .fn 167 []), (27, .v (.int .i64 N.length)), (28, .v (.int .i64 (i.1 : Nat)))]) (fun v i => [(2, .box [.sl 3 (N.map Nd.av), .sl 5 (V.map Dv.av)]), (3, .box [.sl 1 (st.map iv)]), (15, .buf 3 1 (i.2.map iv))]) ?_ ?_
  · refine ⟨(0, List.replicate N.length (-1)), ⟨Nat.zero_le _, by simp, rfl⟩, trivial, ⟨rfl, rfl, rfl, rfl, ?_, rfl, trivial⟩, ⟨rfl, rfl, rfl, trivial⟩⟩
    show AV.v (.int .i64 (((List.replicate N.length (-1) : List Int).map iv).length : Int)) = _
    simp
  clear v h hi e0
  rintro v ⟨i, o⟩ ⟨hi, ho, hf⟩
  dsimp only at hi ho hf ⊢
  refine zg1 ?_
  refine zF rfl (fun h => ?_) (fun h => ?_)
  · have hlt : i < N.length := by simpa using h
    obtain ⟨m, hm1, hm2⟩ : ∃ m, N.length - i = m + 1 ∧ N.length - (i + 1) = m := ⟨N.length - i - 1, by omega, by omega⟩
    rw [hm1, ptGo] at hf
    refine zg0 ?_
    (with_reducible refine zH ?_); refine zK tbOk rfl rfl rfl rfl rfl rfl ⟨by omega, by rw [List.length_map]; omega⟩ ?_
    refine zg1 ?_
    (with_reducible refine ze ?_); refine zk tbOk rfl rfl rfl rfl (qG (by omega)) (by rw [List.length_map]; omega) ?_
    refine zg1 ?_
    rw [show ((i : Nat) : Int).toNat = i from rfl]
    refine zF rfl (fun c => ?_) (fun c => ?_)
    · have c' : 0 ≤ o.getD i 0 := by simpa using c
      have e : cT (clU st) V N.length i o = o := by unfold cT; rw [if_pos c']
      rw [e] at hf
      refine zg2 ?_
      exact ⟨(i + 1, o), ⟨hlt, ho, by dsimp only; rw [hm2]; exact hf⟩, by show N.length - (i + 1) < N.length - i; omega, ⟨rfl, rfl, rfl, rfl, rfl, rfl, trivial⟩, ⟨rfl, rfl, rfl, trivial⟩⟩
    · have c' : ¬ 0 ≤ o.getD i 0 := by simpa using c
      have e : cT (clU st) V N.length i o = qD i 0 (rd (flood (clU st) V N.length [(i : Int)])) o := by unfold cT; rw [if_neg c']
      rw [e] at hf
      have hL : ∀ v ∈ [(i : Int)], 0 ≤ v ∧ v < N.length := fun v hv => by simp at hv; subst hv; omega
      have hF := flood_A (G := X.G) N V (clU st) [(i : Int)] 166 167 [.sl 1 (st.map iv)] pnev_A hV (fun j hj => pclo_A st j (by omega)) rfl hL (by simp) (by simp) hn hv
      have hOl : (rd (flood (clU st) V N.length [(i : Int)])).length = N.length := by rw [jE]; exact (lO (U := clU st) hV hL).ok.len
      obtain ⟨R, hR⟩ : ∃ R, R = rd (flood (clU st) V N.length [(i : Int)]) := ⟨_, rfl⟩
      rw [← hR] at hf hF hOl
      have hbl : (bsv R).length = N.length := by rw [yp, hOl]
      refine zg13 ?_
      refine zy (ss := [(3, v 3)]) (hF) (by repeat' (first | exact trivial | exact Ren.sl _ _ | exact Ren.ptr _ _ _ _ rfl | refine zO ?_ | refine yJ ?_ | refine ⟨?_, ?_⟩)) (by simp) (in1 rfl rfl) rfl (yP rfl) (by repeat' exact RenB.sl _ _) ?_
      refine zg0 ?_
      refine zQ (ι := Nat × List Int) (fun j => j.1 ≤ N.length ∧ j.2.length = N.length ∧ qD i j.1 (R.drop j.1) j.2 = qD i 0 R o) (fun j => N.length - j.1) (fun v j => [(2, .ptr 2 (v 2) 0), (5, .own 15 (v 15)), (7, .fn 166 [.ptr 3 (v 3) 0]), (8, .fn 167 []), (9, .v (.int .i64 (i : Nat))), (27, .v (.int .i64 N.length)), (28, .v (.int .i64 (i : Nat))), (41, .sl 1 (bsv R)), (42, .v (.int .i64 (bsv R).length)), (43, .v (.int .i64 (j.1 : Nat)))]) (fun v j => [(2, .box [.sl 3 (N.map Nd.av), .sl 5 (V.map Dv.av)]), (3, .box [.sl 1 (st.map iv)]), (15, .buf 3 1 (j.2.map iv))]) ?_ ?_
      · exact ⟨(0, o), ⟨Nat.zero_le _, ho, rfl⟩, trivial, ⟨rfl, rfl, rfl, rfl, rfl, rfl, rfl, rfl, rfl, rfl, trivial⟩, ⟨rfl, rfl, rfl, trivial⟩⟩
      clear v h
      rintro v ⟨j, q⟩ ⟨hj, hq, hg⟩
      dsimp only at hj hq hg ⊢
      refine zg1 ?_
      refine zF rfl (fun h => ?_) (fun h => ?_)
      · have hltj : j < N.length := by rw [hbl] at h; simpa using h
        obtain ⟨b, hb⟩ := zB (L := R) (k := j) (by omega)
        have hy := bsv_at hb
        rw [zv hb, qD] at hg
        refine zg3 ?_
        cases b with
        | true =>
          rw [if_pos rfl] at hg
          refine zg15 ?_
          (with_reducible refine zH ?_); refine zK tbOk rfl rfl rfl rfl rfl rfl ⟨by omega, by rw [List.length_map]; omega⟩ ?_
          refine zg1 ?_
          (with_reducible refine zt ?_); refine zz (L' := (q.set (j : Int).toNat i).map iv) tbOk rfl rfl rfl rfl rfl rfl rfl rfl rfl (by rw [yS, List.length_map]; omega) (by simp) (yY _) (jt _ _ _) ?_
          refine zg2 ?_
          exact ⟨(j + 1, q.set j i), ⟨hltj, by simp [hq], hg⟩, by show N.length - (j + 1) < N.length - j; omega, ⟨rfl, rfl, rfl, rfl, rfl, rfl, rfl, rfl, rfl, rfl, trivial⟩, ⟨rfl, rfl, rfl, trivial⟩⟩
        | false =>
          rw [if_neg (by decide)] at hg
          refine zg10 ?_
          exact ⟨(j + 1, q), ⟨hltj, hq, hg⟩, by show N.length - (j + 1) < N.length - j; omega, ⟨rfl, rfl, rfl, rfl, rfl, rfl, rfl, rfl, rfl, rfl, trivial⟩, ⟨rfl, rfl, rfl, trivial⟩⟩
      · have hge : ¬ j < N.length := by rw [hbl] at h; simpa using h
        rw [List.drop_of_length_le (by omega)] at hg
        have hg : q = qD i 0 R o := hg
        rw [← hg] at hf
        refine zg2 ?_
        exact ⟨(i + 1, q), ⟨hlt, hq, by dsimp only; rw [hm2]; exact hf⟩, by show N.length - (i + 1) < N.length - i; omega, ⟨rfl, rfl, rfl, rfl, rfl, rfl, trivial⟩, ⟨rfl, rfl, rfl, trivial⟩⟩
  · have hge : ¬ i < N.length := by simpa using h
    have hz : N.length - i = 0 := by omega
    rw [hz] at hf
    have hf : o = eF (clU st) V N.length := hf
    rw [← hf]
    refine zg2 ?_
    refine qs (by first | exact .inr rfl | exact .inl rfl) rfl rfl ?_
    repeat' exact Ren.own _ _ _ _ ⟨_, rfl⟩
def bitG : List (Int × Int) → Int → Option Int
  | [], _ => none
  | e :: B, p => if p = e.1 then some e.2 else bitG B p
def bitS (p x : Int) : List (Int × Int) → List (Int × Int)
  | [] => [(p, x)]
  | e :: B => if p = e.1 then (p, x) :: B else e :: bitS p x B
def bitV (B : List (Int × Int)) (p : Int) : Int := (bitG B p).getD 0
def bitE (B : List (Int × Int)) : List (Value × Value) := B.map fun e => (.int .i64 e.1, .int .i64 e.2)
theorem uO (p q : Int) : Instr.sameNow (.int .i64) (.int .i64 p) (.int .i64 q) = some (decide (p = q)) := by
  unfold Instr.sameNow; rfl
theorem jf (p : Int) : ∀ B : List (Int × Int), gS (.int .i64) (.int .i64 p) (bitE B) = some ((bitG B p).map (Value.int .i64))
  | [] => rfl
  | e :: B => by
    have ih := jf p B
    unfold bitE at ih ⊢
    rw [List.map_cons, gS, uO, bitG]
    by_cases h : p = e.1
    · rw [decide_eq_true h, if_pos h]; rfl
    · rw [decide_eq_false h, if_neg h]; exact ih
theorem gG (p x : Int) : ∀ B : List (Int × Int), putM (.int .i64) (.int .i64 p) (.int .i64 x) (bitE B) = bitE (bitS p x B)
  | [] => rfl
  | e :: B => by
    have ih := gG p x B
    unfold bitE at ih ⊢
    rw [List.map_cons, putM, uO, bitS]
    by_cases h : p = e.1
    · rw [decide_eq_true h, if_pos rfl, if_pos h]; rfl
    · rw [decide_eq_false h, if_neg (by decide), if_neg h, ih]; rfl
theorem uF (B : List (Int × Int)) (p : Int) : ((bitG B p).map (Value.int .i64)).getD (.int .i64 0) = .int .i64 (bitV B p) := by
  unfold bitV
  cases bitG B p <;> rfl
theorem wD (w : World) : (zeroValue 3).run Tryz.prog w = .ok (.int .i64 0) w := by
  obtain ⟨i0, hi, hz0, hz1, hz2⟩ := info_parts wS
  simp [zeroValue, typeInfo, hi, hz0]
def colS (st pa : List Int) (i : Nat) (d : Dv) (B : List (Int × Int)) : List (Int × Int) :=
  if ¬ st.getD i 0 = 2 then B
  else if d.k = 4 then bitS (pa.getD d.a.toNat 0) (bits .or .i64 (bitV B (pa.getD d.a.toNat 0)) 2) B
  else if d.k = 5 ∨ d.k = 6 then bitS (pa.getD d.a.toNat 0) (bits .or .i64 (bitV B (pa.getD d.a.toNat 0)) 1) B
  else B
def gO (st pa : List Int) : Nat → List Dv → List (Int × Int) → List (Int × Int)
  | _, [], B => B
  | i, d :: V, B => gO st pa (i + 1) V (colS st pa i d B)
def colP (st pa : List Int) (V : List Dv) : List Int := pa.map (bitV (gO st pa 0 V []))
theorem take_set {L : List Int} {z x : Int} {i : Nat} (h : L[i]? = some x) : (L.take i ++ List.replicate (L.length - i) z).set i x = L.take (i + 1) ++ List.replicate (L.length - (i + 1)) z := by
  have hlt := zM h
  obtain ⟨m, hm⟩ : ∃ m, L.length - i = m + 1 := ⟨L.length - i - 1, by omega⟩
  have hm2 : L.length - (i + 1) = m := by omega
  rw [hm, hm2, List.set_append, if_neg (by simp; omega), List.length_take, Nat.min_eq_left (by omega), Nat.sub_self, List.replicate_succ, List.set_cons_zero, yr h, List.append_assoc]
  rfl
set_option maxHeartbeats 8000000 in
theorem sU (N : List Nd) (V : List Dv) (st pa : List Int) (hV : ∀ d ∈ V, zj d N.length = true) (hst : st.length = V.length) (hpa : pa.length = N.length) (hn : N.length ≤ 32) (hv : V.length ≤ 64) :
    zJ Tryz.prog G 98 [yR N V, .sl 1 (st.map iv), .sl 1 (pa.map iv)] [] (.sl 1 ((colP st pa V).map iv)) [] := by
  have hnl : (N.map Nd.av).length = N.length := by simp
  have hvl : (V.map Dv.av).length = V.length := by simp
  have hpl : (pa.map iv).length = N.length := by simp [hpa]
  refine zE tbOk (zA Tryz.func98 (by kernel_rfl) rfl) Tryz.func98 rfl _ Tryz.ntmps98 (Nat.le_of_ble_eq_true rfl) fun X hX => ?_
  subst hX
  refine zg0 ?_
  refine rV rfl ?_
  refine zg13 ?_
  refine zQ (ι := Nat × List (Int × Int)) (fun i => i.1 ≤ V.length ∧ gO st pa i.1 (V.drop i.1) i.2 = gO st pa 0 V []) (fun i => V.length - i.1) (fun v i => [(1, .sl 1 (st.map iv)), (2, .sl 1 (pa.map iv)), (3, .ptr 3 (v 3) 0), (7, .own 13 (v 13)), (15, .sl 5 (V.map Dv.av)), (16, .v (.int .i64 (V.map Dv.av).length)), (17, .v (.int .i64 (i.1 : Nat)))]) (fun v i => [(3, .box [.sl 3 (N.map Nd.av), .sl 5 (V.map Dv.av)]), (13, .mp (bitE i.2))]) ?_ ?_
  · exact ⟨(0, []), ⟨Nat.zero_le _, rfl⟩, trivial, ⟨rfl, rfl, rfl, rfl, rfl, rfl, rfl, trivial⟩, ⟨rfl, rfl, trivial⟩⟩
  rintro v ⟨i, B⟩ ⟨hi, hf⟩
  dsimp only at hi hf ⊢
  refine zg1 ?_
  refine zF rfl (fun h => ?_) (fun h => ?_)
  · have hlt : i < V.length := by simpa using h
    obtain ⟨d, hd⟩ := zB hlt
    have hy := gM hd
    have hs := yU (L := st) (k := i) (by omega)
    have hda : 0 ≤ d.a ∧ d.a < N.length := by
      have := hV d (List.mem_of_getElem? hd)
      unfold zj at this
      split at this
      · cases this
      · omega
    have hp := yU (L := pa) (k := d.a.toNat) (by omega)
    rw [zv hd, gO, colS] at hf
    refine zg14 ?_
    refine zF rfl (fun c => ?_) (fun c => ?_)
    · rw [if_pos (by simpa using c)] at hf
      refine zg2 ?_
      exact ⟨(i + 1, B), ⟨hlt, hf⟩, by show V.length - (i + 1) < V.length - i; omega, ⟨rfl, rfl, rfl, rfl, rfl, rfl, rfl, trivial⟩, ⟨rfl, rfl, trivial⟩⟩
    rw [if_neg (by simpa using c)] at hf
    refine zg6 ?_
    refine zF rfl (fun c4 => ?_) (fun c4 => ?_)
    · rw [if_pos (by simpa using c4)] at hf
      refine zg15 ?_
      refine qh Tryz.underlying195 Tryz.underlying3 (by simp [MapKept.IsKey]) wD rfl rfl rfl rfl (jf _ B) ?_
      rw [uF]
      refine zg11 ?_
      refine oP Tryz.underlying195 Tryz.underlying3 (by simp [MapKept.IsKey]) rfl rfl rfl rfl rfl rfl (jf _ B) ?_
      refine zg2 ?_
      exact ⟨(i + 1, _), ⟨hlt, hf⟩, by show V.length - (i + 1) < V.length - i; omega, ⟨rfl, rfl, rfl, rfl, rfl, rfl, rfl, trivial⟩, ⟨rfl, hc_mp (gG _ _ _), trivial⟩⟩
    rw [if_neg (by simpa using c4)] at hf
    refine zg11 ?_
    by_cases k5 : d.k = 5
    · have b5 : (d.k == 5) = true := by simpa using k5
      rw [if_pos (.inl k5)] at hf
      refine zg14 ?_
      refine qh Tryz.underlying195 Tryz.underlying3 (by simp [MapKept.IsKey]) wD rfl rfl rfl rfl (jf _ B) ?_
      rw [uF]
      refine zg11 ?_
      refine oP Tryz.underlying195 Tryz.underlying3 (by simp [MapKept.IsKey]) rfl rfl rfl rfl rfl rfl (jf _ B) ?_
      refine zg2 ?_
      exact ⟨(i + 1, _), ⟨hlt, hf⟩, by show V.length - (i + 1) < V.length - i; omega, ⟨rfl, rfl, rfl, rfl, rfl, rfl, rfl, trivial⟩, ⟨rfl, hc_mp (gG _ _ _), trivial⟩⟩
    · have b5 : (d.k == 5) = false := by simpa using k5
      refine zg9 ?_
      refine zF rfl (fun c6 => ?_) (fun c6 => ?_)
      · rw [if_pos (.inr (by simpa using c6))] at hf
        refine zg15 ?_
        refine qh Tryz.underlying195 Tryz.underlying3 (by simp [MapKept.IsKey]) wD rfl rfl rfl rfl (jf _ B) ?_
        rw [uF]
        refine zg11 ?_
        refine oP Tryz.underlying195 Tryz.underlying3 (by simp [MapKept.IsKey]) rfl rfl rfl rfl rfl rfl (jf _ B) ?_
        refine zg2 ?_
        exact ⟨(i + 1, _), ⟨hlt, hf⟩, by show V.length - (i + 1) < V.length - i; omega, ⟨rfl, rfl, rfl, rfl, rfl, rfl, rfl, trivial⟩, ⟨rfl, hc_mp (gG _ _ _), trivial⟩⟩
      · have k6 : ¬ d.k = 6 := by simpa using c6
        rw [if_neg (by omega)] at hf
        refine zg2 ?_
        exact ⟨(i + 1, B), ⟨hlt, hf⟩, by show V.length - (i + 1) < V.length - i; omega, ⟨rfl, rfl, rfl, rfl, rfl, rfl, rfl, trivial⟩, ⟨rfl, rfl, trivial⟩⟩
  · have hge : ¬ i < V.length := by simpa using h
    rw [List.drop_of_length_le (by omega)] at hf
    have hf : B = gO st pa 0 V [] := hf
    unfold colP
    rw [← hf]
    have hcl : (pa.map (bitV B)).length = N.length := by simp [hpa]
    refine zg7 ?_
    with_reducible refine jz ?_
    refine qR (zc := iv 0) tbOk rfl rfl rfl rfl rfl (by decide) rfl (by intro z hz; simp at hz; subst hz; rfl) rfl rfl (by omega) (by omega) rfl ?_
    refine zg0 ?_
    refine zQ (ι := Nat) (fun j => j ≤ N.length) (fun j => N.length - j) (fun v j => [(7, .own 13 (v 13)), (10, .own 61 (v 61)), (62, .sl 1 (pa.map iv)), (63, .v (.int .i64 (pa.map iv).length)), (64, .v (.int .i64 (j : Nat)))]) (fun v j => [(13, .mp (bitE B)), (61, .buf 3 1 (((pa.map (bitV B)).take j ++ List.replicate ((pa.map (bitV B)).length - j) 0).map iv))]) ?_ ?_
    · refine ⟨0, Nat.zero_le _, trivial, ⟨rfl, rfl, rfl, rfl, rfl, trivial⟩, ⟨rfl, zq ?_, trivial⟩⟩
      rw [hnl, hcl]; simp
    clear v h
    rintro v j hj
    refine zg1 ?_
    refine zF rfl (fun h => ?_) (fun h => ?_)
    · have hlt : j < N.length := by rw [hpl] at h; simpa using h
      obtain ⟨p, hp⟩ := zB (L := pa) (k := j) (by omega)
      have hy := qA hp
      have hx : (pa.map (bitV B))[j]? = some (bitV B p) := by rw [List.getElem?_map, hp]; rfl
      refine zg3 ?_
      refine qh Tryz.underlying195 Tryz.underlying3 (by simp [MapKept.IsKey]) wD rfl rfl rfl rfl (jf _ B) ?_
      rw [uF]
      refine zg1 ?_
      (with_reducible refine zH ?_); refine zK tbOk rfl rfl rfl rfl rfl rfl ⟨by omega, by rw [List.length_map]; (simp [hpa]; omega)⟩ ?_
      refine zg1 ?_
      (with_reducible refine zt ?_); refine zz (L' := (((pa.map (bitV B)).take j ++ List.replicate ((pa.map (bitV B)).length - j) 0).set (j : Int).toNat (bitV B p)).map iv) tbOk rfl rfl rfl rfl rfl rfl rfl rfl rfl (by rw [yS, List.length_map]; (simp [hpa]; omega)) (by simp) (yY _) (jt _ _ _) ?_
      refine zg2 ?_
      exact ⟨j + 1, by omega, by omega, ⟨rfl, rfl, rfl, rfl, rfl, trivial⟩, ⟨rfl, zq (by rw [Int.toNat_natCast, take_set hx]), trivial⟩⟩
    · have hge : ¬ j < N.length := by rw [hpl] at h; simpa using h
      have e : (pa.map (bitV B)).take j ++ List.replicate ((pa.map (bitV B)).length - j) 0 = pa.map (bitV B) := by
        rw [hcl, show N.length - j = 0 by omega, List.take_of_length_le (by omega)]; simp
      rw [e]
      refine zg2 ?_
      refine qs (by first | exact .inr rfl | exact .inl rfl) rfl rfl ?_
      repeat' exact Ren.own _ _ _ _ ⟨_, rfl⟩
def ptsP (N : List Nd) (V : List Dv) (st : List Int) : List Int := eF (clU st) V N.length
def zd (N : List Nd) (V : List Dv) (st : List Int) : List Int := colP st (ptsP N V st) V
theorem fA {N : List Nd} {V : List Dv} {st : List Int} : (ptsP N V st).length = N.length := partsP_len
theorem jS {N : List Nd} {V : List Dv} {st : List Int} : (zd N V st).length = N.length := by unfold zd colP; rw [List.length_map, fA]
theorem nM (N : List Nd) (V : List Dv) (st : List Int) (hV : ∀ d ∈ V, zj d N.length = true) (hst : st.length = V.length) (hn : N.length ≤ 32) (hv : V.length ≤ 64) :
    zJ Tryz.prog G 82 [yR N V, .sl 1 (st.map iv)] [] (.tu [.sl 1 ((ptsP N V st).map iv), .sl 1 ((zd N V st).map iv)]) [] := by
  have hp := parts_A (G := G) N V st hV hst hn hv
  have hc := sU (G := G) N V st (ptsP N V st) hV hst fA hn hv
  refine zE tbOk (zA Tryz.func82 (by kernel_rfl) rfl) Tryz.func82 rfl _ Tryz.ntmps82 (Nat.le_of_ble_eq_true rfl) fun X hX => ?_
  subst hX
  refine zg0 ?_
  refine zG (hp) (by repeat' (first | exact trivial | exact Ren.sl _ _ | refine zO ?_ | refine ⟨?_, ?_⟩)) (by repeat' exact RenB.sl _ _) ?_
  refine zg0 ?_
  refine zG (hc) (by repeat' (first | exact trivial | exact Ren.sl _ _ | refine zO ?_ | refine ⟨?_, ?_⟩)) (by repeat' exact RenB.sl _ _) ?_
  refine zg5 ?_
  refine jH (by first | exact .inr rfl | exact .inl rfl) rfl rfl rfl ?_
  repeat' (first | exact trivial | exact Ren.sl _ _ | refine zf ?_ | refine ⟨?_, ?_⟩)
end Go.Proofs.YtnafokinifbfhaaGreatDoor
