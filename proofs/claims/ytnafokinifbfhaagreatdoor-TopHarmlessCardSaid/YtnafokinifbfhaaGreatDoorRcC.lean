/- ref07.Colours and Faults, by the abstract machine: they answer what the program's functions do; conditions: a valid network, a state of it. -/
import Derived.Test.YtnafokinifbfhaaGreatDoorRcB
import Derived.Test.YtnafokinifbfhaaGreatDoorHhP
import Derived.Test.YtnafokinifbfhaaGreatDoorZg
set_option linter.unusedVariables false
set_option linter.unusedSimpArgs false
namespace Go.Proofs.YtnafokinifbfhaaGreatDoor
open Go Go.RowKit
set_option maxRecDepth 10000
variable {G : Nat → Option (List Value)}
theorem iL {st pa : List Int} {p : Int} {d : Dv} : ∀ {W : List Dv} {i : Nat}, pC st pa p i (W ++ [d]) ↔ pC st pa p i W ∨ (st.getD (i + W.length) 0 = 2 ∧ (d.k = 5 ∨ d.k = 6) ∧ pa.getD d.a.toNat 0 = p)
  | [], i => by
    rw [List.nil_append, dI]
    constructor
    · rintro (h | ⟨j, e, h, _⟩)
      · exact .inr h
      · simp at h
    · rintro (⟨j, e, h, _⟩ | h)
      · simp at h
      · exact .inl h
  | e :: W, i => by
    rw [List.cons_append, dI, dI, iL (W := W), or_assoc, List.length_cons, show i + 1 + W.length = i + (W.length + 1) by omega]
theorem iJ {st pa : List Int} {p : Int} {d : Dv} : ∀ {W : List Dv} {i : Nat}, pJ st pa p i (W ++ [d]) ↔ pJ st pa p i W ∨ (st.getD (i + W.length) 0 = 2 ∧ d.k = 4 ∧ pa.getD d.a.toNat 0 = p)
  | [], i => by
    rw [List.nil_append, cQ]
    constructor
    · rintro (h | ⟨j, e, h, _⟩)
      · exact .inr h
      · simp at h
    · rintro (⟨j, e, h, _⟩ | h)
      · simp at h
      · exact .inl h
  | e :: W, i => by
    rw [List.cons_append, cQ, cQ, iJ (W := W), or_assoc, List.length_cons, show i + 1 + W.length = i + (W.length + 1) by omega]
theorem srcAt_live {V : List Dv} {n : Nat} {st P : List Int} (hV : ∀ d ∈ V, zj d n = true) (hP : IsPt (clU st) V n P) {x : Nat} (hx : x < n) : (pC st P (P.getD x 0) 0 V ↔ ye V st x) ∧ (pJ st P (P.getD x 0) 0 V ↔ jW V st x) := by
  have hs : ∀ d ∈ V, (P.getD d.a.toNat 0 = P.getD x 0 ↔ Rch (clU st) V [d.a] x) := fun d hd => by
    obtain ⟨a0, a1⟩ := qP (hV d hd)
    have := hP.same hV (x := d.a.toNat) (w := x) (by omega) hx
    rw [Int.toNat_of_nonneg a0] at this
    exact this
  constructor
  · constructor
    · rintro ⟨j, d, h1, h2, h3, h4⟩
      rw [Nat.zero_add] at h2
      exact ⟨j, d, h1, h2, h3, (hs d (List.mem_of_getElem? h1)).1 h4⟩
    · rintro ⟨j, d, h1, h2, h3, h4⟩
      exact ⟨j, d, h1, by rw [Nat.zero_add]; exact h2, h3, (hs d (List.mem_of_getElem? h1)).2 h4⟩
  · constructor
    · rintro ⟨j, d, h1, h2, h3, h4⟩
      rw [Nat.zero_add] at h2
      exact ⟨j, d, h1, h2, h3, (hs d (List.mem_of_getElem? h1)).1 h4⟩
    · rintro ⟨j, d, h1, h2, h3, h4⟩
      exact ⟨j, d, h1, by rw [Nat.zero_add]; exact h2, h3, (hs d (List.mem_of_getElem? h1)).2 h4⟩
def mS (V : List Dv) (st P : List Int) (n i : Nat) (o : List Int) : Prop := o.length = n ∧ ∀ x : Nat, x < n → yu (o.getD x 0) (pC st P (P.getD x 0) 0 (V.take i)) (pJ st P (P.getD x 0) 0 (V.take i))
theorem oF {V : List Dv} {st P : List Int} {n i : Nat} {o : List Int} {d : Dv} (h : mS V st P n i o) (hd : V[i]? = some d) (hs : ¬ st.getD i 0 = 2 ∨ (¬ (d.k = 5 ∨ d.k = 6) ∧ ¬ d.k = 4)) : mS V st P n (i + 1) o := by
  refine ⟨h.1, fun x hx => (h.2 x hx).congr ?_ ?_⟩
  · rw [yr hd, iL, Nat.zero_add, List.length_take, Nat.min_eq_left (Nat.le_of_lt (zM hd))]
    constructor
    · exact .inl
    · rintro (h1 | ⟨h1, h2, _⟩)
      · exact h1
      · rcases hs with h3 | h3
        · exact absurd h1 h3
        · exact absurd h2 h3.1
  · rw [yr hd, iJ, Nat.zero_add, List.length_take, Nat.min_eq_left (Nat.le_of_lt (zM hd))]
    constructor
    · exact .inl
    · rintro (h1 | ⟨h1, h2, _⟩)
      · exact h1
      · rcases hs with h3 | h3
        · exact absurd h1 h3
        · exact absurd h2 h3.2
theorem sA {V : List Dv} {st P : List Int} {n i : Nat} {o q : List Int} {d : Dv} {c : Int} (h : mS V st P n i o) (hd : V[i]? = some d) (hs : st.getD i 0 = 2) (hc : (d.k = 4 ∧ c = 2) ∨ ((d.k = 5 ∨ d.k = 6) ∧ c = 1)) (hq : q.length = n) (hx : ∀ x : Nat, x < n → q.getD x 0 = if P.getD x 0 = P.getD d.a.toNat 0 then bits .or .i64 (o.getD x 0) c else o.getD x 0) : mS V st P n (i + 1) q := by
  refine ⟨hq, fun x hxn => ?_⟩
  rw [hx x hxn, yr hd, iL, iJ, Nat.zero_add, List.length_take, Nat.min_eq_left (Nat.le_of_lt (zM hd))]
  have h0 := h.2 x hxn
  by_cases he : P.getD x 0 = P.getD d.a.toNat 0
  · rw [if_pos he]
    rcases hc with ⟨hk, rfl⟩ | ⟨hk, rfl⟩
    · refine h0.or2.congr ⟨.inl, ?_⟩ ⟨fun _ => .inr ⟨hs, hk, he.symm⟩, fun _ => trivial⟩
      rintro (h1 | ⟨_, h1, _⟩)
      · exact h1
      · omega
    · refine h0.or1.congr ⟨fun _ => .inr ⟨hs, hk, he.symm⟩, fun _ => trivial⟩ ⟨.inl, ?_⟩
      rintro (h1 | ⟨_, h1, _⟩)
      · exact h1
      · omega
  · rw [if_neg he]
    refine h0.congr ⟨.inl, ?_⟩ ⟨.inl, ?_⟩
    · rintro (h1 | ⟨_, _, h1⟩)
      · exact h1
      · exact absurd h1.symm he
    · rintro (h1 | ⟨_, _, h1⟩)
      · exact h1
      · exact absurd h1.symm he
theorem colUp_end {N : List Nd} {V : List Dv} {st o : List Int} (hV : ∀ d ∈ V, zj d N.length = true) (h : mS V st (ptsP N V st) N.length V.length o) : o = zd N V st := by
  have hP : IsPt (clU st) V N.length (ptsP N V st) := iY hV
  obtain ⟨hl, h⟩ := h
  rw [List.take_of_length_le (Nat.le_refl _)] at h
  refine List.ext_getElem? fun x => ?_
  by_cases hx : x < N.length
  · obtain ⟨e1, e2⟩ := srcAt_live hV hP hx
    have h1 := (h x hx).congr e1 e2
    have h2 := cV (N := N) (V := V) (st := st) hV hx
    have e := h1.uniq h2
    obtain ⟨a, ha⟩ := zB (L := o) (k := x) (by omega)
    obtain ⟨b, hb⟩ := zB (L := zd N V st) (k := x) (by rw [jS]; exact hx)
    rw [getD_some ha, getD_some hb] at e
    rw [ha, hb, e]
  · rw [List.getElem?_eq_none (by omega), List.getElem?_eq_none (by rw [jS]; omega)]
set_option maxHeartbeats 16000000 in
theorem rcols_A (N : List Nd) (V : List Dv) (st : List Int) (U : NwU G N V) (S : StOk V st) (hK : ∀ d ∈ V, 1 ≤ d.k ∧ d.k ≤ 6) : zJ Tryz.prog G 52 [yR N V, .sl 1 (st.map iv)] [] (.tu [.sl 1 ((zd N V st).map iv), .v (.int .i64 0)]) [] := by
  have hv := U.v
  have hn := U.n
  have hsl := S.l
  have hV := U.ends
  have hnl : (N.map Nd.av).length = N.length := by simp
  have hvl : (V.map Dv.av).length = V.length := by simp
  have hml : (st.map iv).length = st.length := by simp
  have hpp := rparts_A (G := G) N V st U S
  have hend := fun o => colUp_end (N := N) (V := V) (st := st) (o := o) hV
  have hpl : (ptsP N V st).length = N.length := fA
  generalize ptsP N V st = P at hpp hend hpl
  have hpm : (P.map iv).length = N.length := by rw [List.length_map, hpl]
  refine zE tbOk (zA Tryz.func52 (by kernel_rfl) rfl) Tryz.func52 rfl _ Tryz.ntmps52 (Nat.le_of_ble_eq_true rfl) fun X hX => ?_
  subst hX
  refine zg0 ?_
  refine zG (hpp) (by repeat' (first | exact trivial | exact Ren.sl _ _ | refine zO ?_ | refine ⟨?_, ?_⟩)) (by repeat' (first | exact trivial | exact RenB.v _ | exact RenB.sl _ _ | refine zZ ?_ | refine ⟨?_, ?_⟩)) ?_
  refine zg13 ?_
  with_reducible refine jz ?_
  refine qR (zc := iv 0) tbOk rfl rfl rfl rfl rfl (by decide) rfl (by intro z hz; simp at hz; subst hz; rfl) rfl rfl (by omega) (by omega) rfl ?_
  refine zg0 ?_
  refine zQ (ι := Nat × List Int) (fun s => s.1 ≤ V.length ∧ mS V st P N.length s.1 s.2) (fun s => V.length - s.1) (fun v s => [(1, .sl 1 (st.map iv)), (2, .ptr 2 (v 2) 0), (6, .sl 1 (P.map iv)), (8, .own 25 (v 25)), (9, .v (.int .i64 (s.1 : Nat)))]) (fun v s => [(2, .box [.sl 3 (N.map Nd.av), .sl 5 (V.map Dv.av)]), (25, .buf 3 1 (s.2.map iv))]) ?_ ?_
  · refine ⟨(0, List.replicate N.length 0), ⟨Nat.zero_le _, by simp, fun x hx => ?_⟩, trivial, ⟨rfl, rfl, rfl, rfl, rfl, trivial⟩, ⟨rfl, zq ?_, trivial⟩⟩
    · refine .inl ⟨?_, ?_, ?_⟩
      · rw [List.getD_eq_getElem?_getD, List.getElem?_replicate, if_pos hx]; rfl
      · rintro ⟨j, d, h, _⟩; simp at h
      · rintro ⟨j, d, h, _⟩; simp at h
    · rw [hnl]; simp
  rintro v ⟨i, o⟩ ⟨hi, hUp⟩
  dsimp only at hi hUp ⊢
  have hol := hUp.1
  refine zg6 ?_
  refine zF rfl (fun h => ?_) (fun h => ?_)
  · have hlt : i < V.length := by simpa using h
    obtain ⟨d, hd⟩ := zB hlt
    have hy := gM hd
    have hkd := hK d (List.mem_of_getElem? hd)
    obtain ⟨a0, a1⟩ := qP (hV d (List.mem_of_getElem? hd))
    have hs := yU (L := st) (k := i) (by omega)
    have hya := yU (L := P) (k := d.a.toNat) (by omega)
    refine zg14 ?_
    refine zX rfl rfl (fun c1 => ?_) (fun c1 => ?_)
    · have hU2 := oF hUp hd (.inl (fun e => by rw [e] at c1; simp at c1))
      refine zg7 ?_
      exact ⟨(i + 1, o), ⟨hlt, hU2⟩, by show V.length - (i + 1) < V.length - i; omega, ⟨rfl, rfl, rfl, rfl, rfl, trivial⟩, ⟨rfl, rfl, trivial⟩⟩
    have hcl : st.getD i 0 = 2 := by simpa using c1
    refine zg8 ?_
    refine zG (oV d.k) (by repeat' (first | exact trivial | exact Ren.v _ | refine ⟨?_, ?_⟩)) (by repeat' exact RenB.v _) ?_
    refine zg9 ?_
    refine zF rfl (fun c2 => ?_) (fun c2 => ?_)
    · have hU2 := oF hUp hd (.inr (by unfold yH at c2; simp at c2; omega))
      refine zg2 ?_
      exact ⟨(i + 1, o), ⟨hlt, hU2⟩, by show V.length - (i + 1) < V.length - i; omega, ⟨rfl, rfl, rfl, rfl, rfl, trivial⟩, ⟨rfl, rfl, trivial⟩⟩
    have hnj : 4 ≤ d.k := by unfold yH at c2; simp at c2; omega
    refine zg14 ?_
    refine zF rfl (fun c4 => ?_) (fun c4 => ?_)
    · have hk4 : d.k = 4 := by simpa using c4
      refine zg0 ?_
      refine zQ (ι := Nat × List Int) (fun s => s.1 ≤ N.length ∧ s.2.length = N.length ∧ ∀ x : Nat, x < N.length → s.2.getD x 0 = if x < s.1 ∧ P.getD x 0 = P.getD d.a.toNat 0 then bits .or .i64 (o.getD x 0) 2 else o.getD x 0) (fun s => N.length - s.1) (fun v s => [(1, .sl 1 (st.map iv)), (2, .ptr 2 (v 2) 0), (6, .sl 1 (P.map iv)), (8, .own 25 (v 25)), (9, .v (.int .i64 (i : Nat))), (10, .ptr 10 (v 10) 0), (11, .v (.int .i64 2)), (12, .v (.int .i64 (s.1 : Nat)))]) (fun v s => [(2, .box [.sl 3 (N.map Nd.av), .sl 5 (V.map Dv.av)]), (10, .box [.v (.string d.n), .v (.int .i64 d.k), .v (.int .i64 d.a), .v (.int .i64 d.b), .v (.int .i64 d.co)]), (25, .buf 3 1 (s.2.map iv))]) ?_ ?_
      · exact ⟨(0, o), ⟨Nat.zero_le _, hol, fun x hx => by rw [if_neg (fun h => absurd h.1 (Nat.not_lt_zero _))]⟩, trivial, ⟨rfl, rfl, rfl, rfl, rfl, rfl, rfl, rfl, trivial⟩, ⟨rfl, rfl, rfl, trivial⟩⟩
      clear v h
      rintro v ⟨w, q⟩ ⟨hw, hql, hq⟩
      dsimp only at hw hql hq ⊢
      have hqm : (q.map iv).length = q.length := by simp
      refine zg3 ?_
      refine zF rfl (fun h => ?_) (fun h => ?_)
      · have hltw : w < N.length := by rw [hqm, hql] at h; simpa using h
        have hyw := yU (L := P) (k := w) (by omega)
        refine zg14 ?_
        refine zF rfl (fun c => ?_) (fun c => ?_)
        · have ce : P.getD w 0 = P.getD d.a.toNat 0 := by simpa using c
          have hqw : q.getD w 0 = o.getD w 0 := by rw [hq w hltw, if_neg (fun h => absurd h.1 (Nat.lt_irrefl _))]
          refine zg11 ?_
          (with_reducible refine zH ?_); refine zK tbOk rfl rfl rfl rfl rfl rfl ⟨by omega, by rw [List.length_map]; omega⟩ ?_
          refine zg1 ?_
          (with_reducible refine ze ?_); refine zk tbOk rfl rfl rfl rfl (qG (by omega)) (by rw [List.length_map]; omega) ?_
          refine zg11 ?_
          (with_reducible refine zH ?_); refine zK tbOk rfl rfl rfl rfl rfl rfl ⟨by omega, by rw [List.length_map]; omega⟩ ?_
          refine zg1 ?_
          (with_reducible refine zt ?_); refine zz (L' := (q.set (w : Int).toNat (bits .or .i64 (q.getD (w : Int).toNat 0) 2)).map iv) tbOk rfl rfl rfl rfl rfl rfl rfl rfl rfl (by rw [yS, List.length_map]; omega) (by simp) (yY _) (jt _ _ _) ?_
          refine zg2 ?_
          refine ⟨(w + 1, q.set (w : Int).toNat (bits .or .i64 (q.getD (w : Int).toNat 0) 2)), ⟨hltw, by simp [hql], fun x hx => ?_⟩, by show N.length - (w + 1) < N.length - w; omega, ⟨rfl, rfl, rfl, rfl, rfl, rfl, rfl, rfl, trivial⟩, ⟨rfl, rfl, rfl, trivial⟩⟩
          dsimp only
          rw [Int.toNat_natCast]
          by_cases e : x = w
          · subst e
            rw [bO (by omega), if_pos ⟨Nat.lt_succ_self _, ce⟩, hqw]
          · rw [eD e, hq x hx]
            by_cases e2 : x < w ∧ P.getD x 0 = P.getD d.a.toNat 0
            · rw [if_pos e2, if_pos ⟨by omega, e2.2⟩]
            · rw [if_neg e2, if_neg (fun h => e2 ⟨by omega, h.2⟩)]
        · have ce : ¬ P.getD w 0 = P.getD d.a.toNat 0 := fun e => by rw [e] at c; simp at c
          refine zg2 ?_
          refine ⟨(w + 1, q), ⟨hltw, hql, fun x hx => ?_⟩, by show N.length - (w + 1) < N.length - w; omega, ⟨rfl, rfl, rfl, rfl, rfl, rfl, rfl, rfl, trivial⟩, ⟨rfl, rfl, rfl, trivial⟩⟩
          dsimp only
          rw [hq x hx]
          by_cases e2 : x < w ∧ P.getD x 0 = P.getD d.a.toNat 0
          · rw [if_pos e2, if_pos ⟨by omega, e2.2⟩]
          · rw [if_neg e2, if_neg (fun h => e2 ⟨Nat.lt_of_le_of_ne (by omega) (fun e => ce (by rw [← e]; exact h.2)), h.2⟩)]
      · have hge : ¬ w < N.length := by rw [hqm, hql] at h; simpa using h
        have hU2 : mS V st P N.length (i + 1) q := sA hUp hd hcl (.inl ⟨hk4, rfl⟩) hql (fun x hx => by
          rw [hq x hx]
          by_cases e2 : P.getD x 0 = P.getD d.a.toNat 0
          · rw [if_pos ⟨by omega, e2⟩, if_pos e2]
          · rw [if_neg (fun h => e2 h.2), if_neg e2])
        refine zg2 ?_
        exact ⟨(i + 1, q), ⟨hlt, hU2⟩, by show V.length - (i + 1) < V.length - i; omega, ⟨rfl, rfl, rfl, rfl, rfl, trivial⟩, ⟨rfl, rfl, trivial⟩⟩
    · have hk5 : d.k = 5 ∨ d.k = 6 := by simp at c4; omega
      refine zg0 ?_
      refine zQ (ι := Nat × List Int) (fun s => s.1 ≤ N.length ∧ s.2.length = N.length ∧ ∀ x : Nat, x < N.length → s.2.getD x 0 = if x < s.1 ∧ P.getD x 0 = P.getD d.a.toNat 0 then bits .or .i64 (o.getD x 0) 1 else o.getD x 0) (fun s => N.length - s.1) (fun v s => [(1, .sl 1 (st.map iv)), (2, .ptr 2 (v 2) 0), (6, .sl 1 (P.map iv)), (8, .own 25 (v 25)), (9, .v (.int .i64 (i : Nat))), (10, .ptr 10 (v 10) 0), (11, .v (.int .i64 1)), (12, .v (.int .i64 (s.1 : Nat)))]) (fun v s => [(2, .box [.sl 3 (N.map Nd.av), .sl 5 (V.map Dv.av)]), (10, .box [.v (.string d.n), .v (.int .i64 d.k), .v (.int .i64 d.a), .v (.int .i64 d.b), .v (.int .i64 d.co)]), (25, .buf 3 1 (s.2.map iv))]) ?_ ?_
      · exact ⟨(0, o), ⟨Nat.zero_le _, hol, fun x hx => by rw [if_neg (fun h => absurd h.1 (Nat.not_lt_zero _))]⟩, trivial, ⟨rfl, rfl, rfl, rfl, rfl, rfl, rfl, rfl, trivial⟩, ⟨rfl, rfl, rfl, trivial⟩⟩
      clear v h
      rintro v ⟨w, q⟩ ⟨hw, hql, hq⟩
      dsimp only at hw hql hq ⊢
      have hqm : (q.map iv).length = q.length := by simp
      refine zg3 ?_
      refine zF rfl (fun h => ?_) (fun h => ?_)
      · have hltw : w < N.length := by rw [hqm, hql] at h; simpa using h
        have hyw := yU (L := P) (k := w) (by omega)
        refine zg14 ?_
        refine zF rfl (fun c => ?_) (fun c => ?_)
        · have ce : P.getD w 0 = P.getD d.a.toNat 0 := by simpa using c
          have hqw : q.getD w 0 = o.getD w 0 := by rw [hq w hltw, if_neg (fun h => absurd h.1 (Nat.lt_irrefl _))]
          refine zg11 ?_
          (with_reducible refine zH ?_); refine zK tbOk rfl rfl rfl rfl rfl rfl ⟨by omega, by rw [List.length_map]; omega⟩ ?_
          refine zg1 ?_
          (with_reducible refine ze ?_); refine zk tbOk rfl rfl rfl rfl (qG (by omega)) (by rw [List.length_map]; omega) ?_
          refine zg11 ?_
          (with_reducible refine zH ?_); refine zK tbOk rfl rfl rfl rfl rfl rfl ⟨by omega, by rw [List.length_map]; omega⟩ ?_
          refine zg1 ?_
          (with_reducible refine zt ?_); refine zz (L' := (q.set (w : Int).toNat (bits .or .i64 (q.getD (w : Int).toNat 0) 1)).map iv) tbOk rfl rfl rfl rfl rfl rfl rfl rfl rfl (by rw [yS, List.length_map]; omega) (by simp) (yY _) (jt _ _ _) ?_
          refine zg2 ?_
          refine ⟨(w + 1, q.set (w : Int).toNat (bits .or .i64 (q.getD (w : Int).toNat 0) 1)), ⟨hltw, by simp [hql], fun x hx => ?_⟩, by show N.length - (w + 1) < N.length - w; omega, ⟨rfl, rfl, rfl, rfl, rfl, rfl, rfl, rfl, trivial⟩, ⟨rfl, rfl, rfl, trivial⟩⟩
          dsimp only
          rw [Int.toNat_natCast]
          by_cases e : x = w
          · subst e
            rw [bO (by omega), if_pos ⟨Nat.lt_succ_self _, ce⟩, hqw]
          · rw [eD e, hq x hx]
            by_cases e2 : x < w ∧ P.getD x 0 = P.getD d.a.toNat 0
            · rw [if_pos e2, if_pos ⟨by omega, e2.2⟩]
            · rw [if_neg e2, if_neg (fun h => e2 ⟨by omega, h.2⟩)]
        · have ce : ¬ P.getD w 0 = P.getD d.a.toNat 0 := fun e => by rw [e] at c; simp at c
          refine zg2 ?_
          refine ⟨(w + 1, q), ⟨hltw, hql, fun x hx => ?_⟩, by show N.length - (w + 1) < N.length - w; omega, ⟨rfl, rfl, rfl, rfl, rfl, rfl, rfl, rfl, trivial⟩, ⟨rfl, rfl, rfl, trivial⟩⟩
          dsimp only
          rw [hq x hx]
          by_cases e2 : x < w ∧ P.getD x 0 = P.getD d.a.toNat 0
          · rw [if_pos e2, if_pos ⟨by omega, e2.2⟩]
          · rw [if_neg e2, if_neg (fun h => e2 ⟨Nat.lt_of_le_of_ne (by omega) (fun e => ce (by rw [← e]; exact h.2)), h.2⟩)]
      · have hge : ¬ w < N.length := by rw [hqm, hql] at h; simpa using h
        have hU2 : mS V st P N.length (i + 1) q := sA hUp hd hcl (.inr ⟨hk5, rfl⟩) hql (fun x hx => by
          rw [hq x hx]
          by_cases e2 : P.getD x 0 = P.getD d.a.toNat 0
          · rw [if_pos ⟨by omega, e2⟩, if_pos e2]
          · rw [if_neg (fun h => e2 h.2), if_neg e2])
        refine zg2 ?_
        exact ⟨(i + 1, q), ⟨hlt, hU2⟩, by show V.length - (i + 1) < V.length - i; omega, ⟨rfl, rfl, rfl, rfl, rfl, trivial⟩, ⟨rfl, rfl, trivial⟩⟩
  · have hge : ¬ i < V.length := by simpa using h
    have hiv : i = V.length := by omega
    rw [hiv] at hUp
    rw [← hend o hUp]
    refine zg2 ?_
    refine jH (by first | exact .inr rfl | exact .inl rfl) rfl rfl rfl ?_
    repeat' (first | exact trivial | exact Ren.v _ | exact Ren.own _ _ _ _ ⟨_, rfl⟩ | refine zf ?_ | refine ⟨?_, ?_⟩)
def jK (c : List Int) : Nat → List Int
  | 0 => []
  | n + 1 => if c.getD n 0 = 3 then jK c n ++ [(n : Int)] else jK c n
def fltP (N : List Nd) (V : List Dv) (st : List Int) : List Int := jK (zd N V st) N.length
theorem mD {c : List Int} : ∀ {n : Nat} {v : Int}, v ∈ jK c n ↔ ∃ k : Nat, k < n ∧ v = (k : Int) ∧ c.getD k 0 = 3
  | 0, v => by simp [jK]
  | n + 1, v => by
    rw [jK]
    split
    · rename_i h
      rw [List.mem_append, mD, List.mem_singleton]
      constructor
      · rintro (⟨k, h1, h2⟩ | rfl)
        · exact ⟨k, by omega, h2⟩
        · exact ⟨n, by omega, rfl, h⟩
      · rintro ⟨k, h1, h2, h3⟩
        by_cases e : k = n
        · subst e; exact .inr h2
        · exact .inl ⟨k, by omega, h2, h3⟩
    · rename_i h
      rw [mD]
      constructor
      · rintro ⟨k, h1, h2⟩
        exact ⟨k, by omega, h2⟩
      · rintro ⟨k, h1, h2, h3⟩
        by_cases e : k = n
        · subst e; exact absurd h3 h
        · exact ⟨k, by omega, h2, h3⟩
theorem cA (c : List Int) : ∀ n : Nat, (jK c n).length ≤ n
  | 0 => Nat.le_refl _
  | n + 1 => by
    rw [jK]
    have := cA c n
    split <;> simp <;> omega
set_option maxHeartbeats 4000000 in
theorem rfaults_A (N : List Nd) (V : List Dv) (st : List Int) (U : NwU G N V) (S : StOk V st) (hK : ∀ d ∈ V, 1 ≤ d.k ∧ d.k ≤ 6) : zJ Tryz.prog G 20 [yR N V, .sl 1 (st.map iv)] [] (.tu [.sl 1 ((fltP N V st).map iv), .v (.int .i64 0)]) [] := by
  have hn := U.n
  have hc := rcols_A (G := G) N V st U S hK
  unfold fltP
  have hcl : (zd N V st).length = N.length := jS
  generalize zd N V st = c at hc hcl ⊢
  have hcm : (c.map iv).length = N.length := by rw [List.length_map, hcl]
  refine zE tbOk (zA Tryz.func20 (by kernel_rfl) rfl) Tryz.func20 rfl _ Tryz.ntmps20 (Nat.le_of_ble_eq_true rfl) fun X hX => ?_
  subst hX
  refine zg0 ?_
  refine zG (hc) (by repeat' (first | exact trivial | exact Ren.sl _ _ | refine zO ?_ | refine ⟨?_, ?_⟩)) (by repeat' (first | exact trivial | exact RenB.v _ | exact RenB.sl _ _ | refine zZ ?_ | refine ⟨?_, ?_⟩)) ?_
  refine zg13 ?_
  refine jm (t := 8) (s := 30) 3 1 rfl rfl ?_
  skip
  refine zQ (ι := Nat) (fun i => i ≤ N.length) (fun i => N.length - i) (fun v i => [(6, .sl 1 (c.map iv)), (7, .v (.int .i64 0)), (8, .own 30 (v 30)), (9, .v (.int .i64 (i : Nat)))]) (fun v i => [(30, .buf 3 1 ((jK c i).map iv))]) ?_ ?_
  · exact ⟨0, Nat.zero_le _, trivial, ⟨rfl, rfl, rfl, rfl, trivial⟩, ⟨rfl, trivial⟩⟩
  rintro v i hi
  have hfl := cA c i
  have hfm : ((jK c i).map iv).length = (jK c i).length := by simp
  refine zg6 ?_
  refine zF rfl (fun h => ?_) (fun h => ?_)
  · have hlt : i < N.length := by rw [hcm] at h; simpa using h
    have hyi := yU (L := c) (k := i) (by omega)
    refine zg3 ?_
    refine zF rfl (fun q => ?_) (fun q => ?_)
    · have e : jK c (i + 1) = jK c i ++ [(i : Int)] := by rw [jK, if_pos (by simpa using q)]
      refine zg11 ?_
      refine za tbOk rfl rfl rfl rfl rfl (by decide) rfl rfl rfl rfl rfl (fun x hx => by simp at hx; subst hx; rfl) (by simp only [List.length_map, List.length_cons, List.length_nil]; omega) (by simp only [List.length_map, List.length_cons, List.length_nil]; omega) ?_
      refine zg2 ?_
      exact ⟨i + 1, hlt, by omega, ⟨rfl, rfl, rfl, rfl, trivial⟩, ⟨zq (by rw [e, List.map_append]; rfl), trivial⟩⟩
    · have e : jK c (i + 1) = jK c i := by rw [jK, if_neg (fun h => by rw [h] at q; simp at q)]
      refine zg2 ?_
      exact ⟨i + 1, hlt, by omega, ⟨rfl, rfl, rfl, rfl, trivial⟩, ⟨zq (by rw [e]), trivial⟩⟩
  · have hge : ¬ i < N.length := by rw [hcm] at h; simpa using h
    obtain rfl : i = N.length := by omega
    refine zg2 ?_
    refine jH (by first | exact .inr rfl | exact .inl rfl) rfl rfl rfl ?_
    repeat' (first | exact trivial | exact Ren.v _ | exact Ren.own _ _ _ _ ⟨_, rfl⟩ | refine zf ?_ | refine ⟨?_, ?_⟩)
end Go.Proofs.YtnafokinifbfhaaGreatDoor
