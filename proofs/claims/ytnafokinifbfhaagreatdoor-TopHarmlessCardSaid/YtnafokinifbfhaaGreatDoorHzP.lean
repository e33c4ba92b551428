/- supply.supplied, customers, Supplied, Customers, Worst, by the abstract machine; conditions: a valid network, states of it, the tables of positions and of classes / Hazards, in plain words: which states agree with masks, what is lost, and that the worst case gets no worse where nothing is lost; nothing is walked here; conditions: none. -/
import Derived.Test.YtnafokinifbfhaaGreatDoorMaB
import Derived.Test.YtnafokinifbfhaaGreatDoorAbsJ
import Derived.Test.YtnafokinifbfhaaGreatDoorZg
set_option linter.unusedVariables false
set_option linter.unusedSimpArgs false
namespace Go.Proofs.YtnafokinifbfhaaGreatDoor
open Go Go.RowKit
set_option maxRecDepth 10000
variable {G : Nat → Option (List Value)}
/-- A network as all walks behind it need it. -/
structure NwU (G : Nat → Option (List Value)) (N : List Nd) (V : List Dv) : Prop where
  g : GCls G
  p : GPos G
  n : N.length ≤ 32
  v : V.length ≤ 64
  nn : ∀ x ∈ N, x.n.size ≤ maxLen
  vn : ∀ x ∈ V, x.n.size ≤ maxLen
  e : netE N V = 0
  ends : ∀ d ∈ V, zj d N.length = true
  cu : ∀ x ∈ N, 0 ≤ x.cu ∧ x.cu ≤ 1048576
structure StOk (V : List Dv) (st : List Int) : Prop where
  l : st.length = V.length
  p : ∀ x ∈ st, posB x = true
def jJ (c : List Int) : Nat → List Nd → List Int
  | _, [] => []
  | i, x :: l => if 0 < x.cu ∧ c.getD i 0 = 1 then (i : Int) :: jJ c (i + 1) l else jJ c (i + 1) l
def supP (N : List Nd) (V : List Dv) (st : List Int) : List Int := jJ (zd N V st) 0 N
theorem sG (c : List Int) : ∀ (l : List Nd) (i : Nat), (jJ c i l).length ≤ l.length
  | [], _ => Nat.le_refl _
  | x :: l, i => by
    rw [jJ]
    have := sG c l (i + 1)
    split <;> simp <;> omega
theorem wI (c : List Int) : ∀ (l : List Nd) (i : Nat), ∀ v ∈ jJ c i l, (i : Int) ≤ v ∧ v < ((i + l.length : Nat) : Int)
  | [], i, v, h => by cases h
  | x :: l, i, v, h => by
    rw [jJ] at h
    have ih := wI c l (i + 1)
    split at h
    · rcases List.mem_cons.1 h with rfl | h
      · simp; omega
      · have := ih v h; simp at this ⊢; omega
    · have := ih v h; simp at this ⊢; omega
theorem eU {N : List Nd} {V : List Dv} {st : List Int} : (supP N V st).length ≤ N.length := sG _ _ _
theorem supP_in {N : List Nd} {V : List Dv} {st : List Int} : ∀ v ∈ supP N V st, 0 ≤ v ∧ v < N.length := fun v h => by
  have := wI _ _ _ v h; simp at this; omega
set_option maxHeartbeats 4000000 in
theorem supd_A (N : List Nd) (V : List Dv) (st : List Int) (U : NwU G N V) (S : StOk V st) : zJ Tryz.prog G 42 [yR N V, .sl 1 (st.map iv)] [] (.sl 1 ((supP N V st).map iv)) [] := by
  have hn := U.n
  have hb := nM (G := G) N V st U.ends S.l U.n U.v
  have hcl : (zd N V st).length = N.length := jS
  unfold supP
  generalize zd N V st = c at hb hcl
  refine zE tbOk (zA Tryz.func42 (by kernel_rfl) rfl) Tryz.func42 rfl _ Tryz.ntmps42 (Nat.le_of_ble_eq_true rfl) fun X hX => ?_
  subst hX
  refine zg0 ?_
  refine zG (hb) (by repeat' (first | exact trivial | exact Ren.sl _ _ | refine zO ?_ | refine ⟨?_, ?_⟩)) (by repeat' (first | exact trivial | exact RenB.sl _ _ | refine zZ ?_ | refine ⟨?_, ?_⟩)) ?_
  refine zg13 ?_
  refine jm (t := 7) (s := 37) 3 1 rfl rfl ?_
  refine zQ (ι := Nat × List Int) (fun i => i.1 ≤ N.length ∧ i.2.length ≤ i.1 ∧ i.2 ++ jJ c i.1 (N.drop i.1) = jJ c 0 N) (fun i => N.length - i.1) (fun v i => [(6, .sl 1 (c.map iv)), (7, .own 37 (v 37)), (17, .sl 3 (N.map Nd.av)), (18, .v (.int .i64 (N.map Nd.av).length)), (19, .v (.int .i64 (i.1 : Nat)))]) (fun v i => [(37, .buf 3 1 (i.2.map iv))]) ?_ ?_
  · exact ⟨(0, []), ⟨Nat.zero_le _, Nat.le_refl _, rfl⟩, trivial, ⟨rfl, rfl, rfl, rfl, rfl, trivial⟩, ⟨rfl, trivial⟩⟩
  rintro v ⟨i, E⟩ ⟨hi, hE, hf⟩
  dsimp only at hi hE hf ⊢
  have hml : (E.map iv).length = E.length := by simp
  refine zg1 ?_
  refine zF rfl (fun h => ?_) (fun h => ?_)
  · have hlt : i < N.length := by simpa using h
    obtain ⟨x, hx⟩ := zB hlt
    have hy : (N.map Nd.av)[i]? = some x.av := by rw [List.getElem?_map, hx]; rfl
    have hc := yU (L := c) (k := i) (by omega)
    rw [zv hx, jJ] at hf
    refine zg14 ?_
    by_cases c1 : 0 < x.cu
    · have d1 : decide (x.cu > 0) = true := decide_eq_true c1
      refine zg15 ?_
      refine zF rfl (fun q => ?_) (fun q => ?_)
      · rw [if_pos ⟨c1, by simpa using q⟩] at hf
        refine zg11 ?_
        refine za tbOk rfl rfl rfl rfl rfl (by decide) rfl rfl rfl rfl rfl (fun x hx => by simp at hx; subst hx; rfl) (by simp only [List.length_map, List.length_cons, List.length_nil]; omega) (by simp only [List.length_map, List.length_cons, List.length_nil]; omega) ?_
        refine zg2 ?_
        exact ⟨(i + 1, E ++ [(i : Int)]), ⟨hlt, by simp; omega, by rw [← hf]; simp⟩, by show N.length - (i + 1) < N.length - i; omega, ⟨rfl, rfl, rfl, rfl, rfl, trivial⟩, ⟨zq (by rw [List.map_append]; rfl), trivial⟩⟩
      · rw [if_neg (fun h => by rw [h.2] at q; exact absurd q (by decide))] at hf
        refine zg2 ?_
        exact ⟨(i + 1, E), ⟨hlt, by show E.length ≤ i + 1; omega, hf⟩, by show N.length - (i + 1) < N.length - i; omega, ⟨rfl, rfl, rfl, rfl, rfl, trivial⟩, ⟨rfl, trivial⟩⟩
    · have d1 : decide (x.cu > 0) = false := decide_eq_false c1
      rw [if_neg (fun h => c1 h.1)] at hf
      refine zg10 ?_
      exact ⟨(i + 1, E), ⟨hlt, by show E.length ≤ i + 1; omega, hf⟩, by show N.length - (i + 1) < N.length - i; omega, ⟨rfl, rfl, rfl, rfl, rfl, trivial⟩, ⟨rfl, trivial⟩⟩
  · have hge : ¬ i < N.length := by simpa using h
    rw [List.drop_of_length_le (by omega)] at hf
    have hf' : jJ c 0 N = E := by rw [← hf]; simp [jJ]
    rw [hf']
    refine zg2 ?_
    refine qs (by first | exact .inr rfl | exact .inl rfl) rfl rfl ?_
    repeat' exact Ren.own _ _ _ _ ⟨_, rfl⟩
set_option maxHeartbeats 4000000 in
theorem supd_J (N : List Nd) (V : List Dv) (st : List Int) (U : NwU G N V) (S : StOk V st) : qa Tryz.prog G 42 [yR N V, .sl 1 (st.map iv)] [] (.own (refB + 0) 0) [.buf 3 1 ((supP N V st).map iv)] := by
  have hn := U.n
  have hb := nM (G := G) N V st U.ends S.l U.n U.v
  have hcl : (zd N V st).length = N.length := jS
  unfold supP
  generalize zd N V st = c at hb hcl
  refine aO tbOk (zA Tryz.func42 (by kernel_rfl) rfl) Tryz.func42 rfl _ Tryz.ntmps42 (Nat.le_of_ble_eq_true rfl) fun X hX => ?_
  subst hX
  refine zg0 ?_
  refine zG (hb) (by repeat' (first | exact trivial | exact Ren.sl _ _ | refine zO ?_ | refine ⟨?_, ?_⟩)) (by repeat' (first | exact trivial | exact RenB.sl _ _ | refine zZ ?_ | refine ⟨?_, ?_⟩)) ?_
  refine zg13 ?_
  refine jm (t := 7) (s := 37) 3 1 rfl rfl ?_
  refine zQ (ι := Nat × List Int) (fun i => i.1 ≤ N.length ∧ i.2.length ≤ i.1 ∧ i.2 ++ jJ c i.1 (N.drop i.1) = jJ c 0 N) (fun i => N.length - i.1) (fun v i => [(6, .sl 1 (c.map iv)), (7, .own 37 (v 37)), (17, .sl 3 (N.map Nd.av)), (18, .v (.int .i64 (N.map Nd.av).length)), (19, .v (.int .i64 (i.1 : Nat)))]) (fun v i => [(37, .buf 3 1 (i.2.map iv))]) ?_ ?_
  · exact ⟨(0, []), ⟨Nat.zero_le _, Nat.le_refl _, rfl⟩, trivial, ⟨rfl, rfl, rfl, rfl, rfl, trivial⟩, ⟨rfl, trivial⟩⟩
  rintro v ⟨i, E⟩ ⟨hi, hE, hf⟩
  dsimp only at hi hE hf ⊢
  have hml : (E.map iv).length = E.length := by simp
  refine zg1 ?_
  refine zF rfl (fun h => ?_) (fun h => ?_)
  · have hlt : i < N.length := by simpa using h
    obtain ⟨x, hx⟩ := zB hlt
    have hy : (N.map Nd.av)[i]? = some x.av := by rw [List.getElem?_map, hx]; rfl
    have hc := yU (L := c) (k := i) (by omega)
    rw [zv hx, jJ] at hf
    refine zg14 ?_
    by_cases c1 : 0 < x.cu
    · have d1 : decide (x.cu > 0) = true := decide_eq_true c1
      refine zg15 ?_
      refine zF rfl (fun q => ?_) (fun q => ?_)
      · rw [if_pos ⟨c1, by simpa using q⟩] at hf
        refine zg11 ?_
        refine za tbOk rfl rfl rfl rfl rfl (by decide) rfl rfl rfl rfl rfl (fun x hx => by simp at hx; subst hx; rfl) (by simp only [List.length_map, List.length_cons, List.length_nil]; omega) (by simp only [List.length_map, List.length_cons, List.length_nil]; omega) ?_
        refine zg2 ?_
        exact ⟨(i + 1, E ++ [(i : Int)]), ⟨hlt, by simp; omega, by rw [← hf]; simp⟩, by show N.length - (i + 1) < N.length - i; omega, ⟨rfl, rfl, rfl, rfl, rfl, trivial⟩, ⟨zq (by rw [List.map_append]; rfl), trivial⟩⟩
      · rw [if_neg (fun h => by rw [h.2] at q; exact absurd q (by decide))] at hf
        refine zg2 ?_
        exact ⟨(i + 1, E), ⟨hlt, by show E.length ≤ i + 1; omega, hf⟩, by show N.length - (i + 1) < N.length - i; omega, ⟨rfl, rfl, rfl, rfl, rfl, trivial⟩, ⟨rfl, trivial⟩⟩
    · have d1 : decide (x.cu > 0) = false := decide_eq_false c1
      rw [if_neg (fun h => c1 h.1)] at hf
      refine zg10 ?_
      exact ⟨(i + 1, E), ⟨hlt, by show E.length ≤ i + 1; omega, hf⟩, by show N.length - (i + 1) < N.length - i; omega, ⟨rfl, rfl, rfl, rfl, rfl, trivial⟩, ⟨rfl, trivial⟩⟩
  · have hge : ¬ i < N.length := by simpa using h
    rw [List.drop_of_length_le (by omega)] at hf
    have hf' : jJ c 0 N = E := by rw [← hf]; simp [jJ]
    rw [hf']
    refine zg2 ?_
    exact retJ (by first | exact .inr rfl | exact .inl rfl) (xs := [.own 37 (v 37)]) (fs := [(37, v 37)]) ⟨.tmp 4, trivial⟩ (by simp) (by repeat' exact Ren.ownr _ _ _ rfl) ⟨rfl, trivial⟩
/-- Customers at a node. -/
def cuAt (N : List Nd) (v : Int) : Int := match N[v.toNat]? with
  | some x => x.cu
  | none => 0
def cW (N : List Nd) (l : List Int) : Int := l.foldl (fun s v => s + cuAt N v) 0
theorem mJ {N : List Nd} {l : List Int} {k : Nat} {v : Int} (h : l[k]? = some v) : cW N (l.take (k + 1)) = cW N (l.take k) + cuAt N v := by
  unfold cW; rw [yr h, List.foldl_append]; rfl
set_option maxHeartbeats 1000000 in
theorem cust_A (N : List Nd) (V : List Dv) (l : List Int) (U : NwU G N V) (hl : l.length ≤ 64) (hi : ∀ v ∈ l, 0 ≤ v ∧ v < N.length) : zJ Tryz.prog G 41 [yR N V, .sl 1 (l.map iv)] [] (.v (.int .i64 (cW N l))) [] := by
  have hcu := U.cu
  refine zE tbOk (zA Tryz.func41 (by kernel_rfl) rfl) Tryz.func41 rfl _ Tryz.ntmps41 (Nat.le_of_ble_eq_true rfl) fun X hX => ?_
  subst hX
  refine zg12 ?_
  refine zQ (ι := Nat × Int) (fun i => i.1 ≤ l.length ∧ i.2 = cW N (l.take i.1) ∧ 0 ≤ i.2 ∧ i.2 ≤ 1048576 * (i.1 : Int)) (fun i => l.length - i.1) (fun v i => [(2, .ptr 2 (v 2) 0), (5, .v (.int .i64 i.2)), (8, .sl 1 (l.map iv)), (9, .v (.int .i64 (l.map iv).length)), (10, .v (.int .i64 (i.1 : Nat)))]) (fun v i => [(2, .box [.sl 3 (N.map Nd.av), .sl 5 (V.map Dv.av)])]) ?_ ?_
  · exact ⟨(0, 0), ⟨Nat.zero_le _, rfl, Int.le_refl _, by simp⟩, trivial, ⟨rfl, rfl, rfl, rfl, rfl, trivial⟩, ⟨rfl, trivial⟩⟩
  rintro v ⟨k, s⟩ ⟨hk, hs, s0, s1⟩
  dsimp only at hk hs s0 s1 ⊢
  refine zg1 ?_
  refine zF rfl (fun h => ?_) (fun h => ?_)
  · have hlt : k < l.length := by simpa using h
    obtain ⟨z, hz⟩ := zB hlt
    have hy := qA hz
    have hzr := hi z (List.mem_of_getElem? hz)
    obtain ⟨x, hx⟩ := zB (L := N) (k := z.toNat) (by omega)
    have hx' : (N.map Nd.av)[z.toNat]? = some x.av := by rw [List.getElem?_map, hx]; rfl
    have hc := hcu x (List.mem_of_getElem? hx)
    have ec : cuAt N z = x.cu := by unfold cuAt; rw [hx]
    refine zg15 ?_
    exact ⟨(k + 1, s + x.cu), ⟨hlt, by rw [mJ hz, hs, ec], by show 0 ≤ s + x.cu; omega, by show s + x.cu ≤ 1048576 * ((k + 1 : Nat) : Int); omega⟩, by show l.length - (k + 1) < l.length - k; omega, ⟨rfl, rfl, rfl, rfl, rfl, trivial⟩, ⟨rfl, trivial⟩⟩
  · have hge : ¬ k < l.length := by simpa using h
    rw [List.take_of_length_le (by omega)] at hs
    refine zg2 ?_
    refine zL (by first | exact .inr rfl | exact .inl rfl) rfl rfl ?_
    rw [hs]
theorem Supd_A (N : List Nd) (V : List Dv) (st : List Int) (U : NwU G N V) (S : StOk V st) : zJ Tryz.prog G 43 [yR N V, .sl 1 (st.map iv)] [] (.tu [.sl 1 ((supP N V st).map iv), .v (.int .i64 0)]) [] := by
  have hm := iW (G := G) N V st U.g U.p U.nn U.vn U.n U.v U.e S.l S.p
  have hs := supd_A (G := G) N V st U S
  refine zE tbOk (zA Tryz.func43 (by kernel_rfl) rfl) Tryz.func43 rfl _ Tryz.ntmps43 (Nat.le_of_ble_eq_true rfl) fun X hX => ?_
  subst hX
  refine zg0 ?_
  refine zG (hm) (by repeat' (first | exact trivial | exact Ren.sl _ _ | refine zO ?_ | refine ⟨?_, ?_⟩)) (by repeat' exact RenB.v _) ?_
  refine zg13 ?_
  refine zG (hs) (by repeat' (first | exact trivial | exact Ren.sl _ _ | refine zO ?_ | refine ⟨?_, ?_⟩)) (by repeat' exact RenB.sl _ _) ?_
  refine zg5 ?_
  refine jH (by first | exact .inr rfl | exact .inl rfl) rfl rfl rfl ?_
  repeat' (first | exact trivial | exact Ren.v _ | exact Ren.sl _ _ | refine zf ?_ | refine ⟨?_, ?_⟩)
theorem Supd_J (N : List Nd) (V : List Dv) (st : List Int) (U : NwU G N V) (S : StOk V st) : qa Tryz.prog G 43 [yR N V, .sl 1 (st.map iv)] [] (.tu [.own (refB + 0) 0, .v (.int .i64 0)]) [.buf 3 1 ((supP N V st).map iv)] := by
  have hm := iW (G := G) N V st U.g U.p U.nn U.vn U.n U.v U.e S.l S.p
  have hs := supd_J (G := G) N V st U S
  refine aO tbOk (zA Tryz.func43 (by kernel_rfl) rfl) Tryz.func43 rfl _ Tryz.ntmps43 (Nat.le_of_ble_eq_true rfl) fun X hX => ?_
  subst hX
  refine zg0 ?_
  refine zG (hm) (by repeat' (first | exact trivial | exact Ren.sl _ _ | refine zO ?_ | refine ⟨?_, ?_⟩)) (by repeat' exact RenB.v _) ?_
  refine zg13 ?_
  refine mV (s1 := 900) (y := .own 900 1) hs (by repeat' (first | exact trivial | exact Ren.sl _ _ | refine zO ?_ | refine ⟨?_, ?_⟩)) (by repeat' exact RenB.own _ _ _ rfl) rfl ?_
  refine zg5 ?_
  exact retJ (by first | exact .inr rfl | exact .inl rfl) (xs := [.own 900 1, .v (.int .i64 0)]) (fs := [(900, 1)]) ⟨.tmp 4, .tmp 5, trivial⟩ (by decide) (by repeat' (first | exact trivial | exact Ren.v _ | exact Ren.ownr _ _ _ rfl | refine zf ?_ | refine ⟨?_, ?_⟩)) ⟨rfl, trivial⟩
theorem kZ : ∀ (L : List Int) (i k : Nat), L[k]? = some 3 → ((i + k : Nat) : Int) ∈ jr i L
  | [], i, k, h => by simp at h
  | m :: L, i, k, h => by
    rw [jr]
    cases k with
    | zero => simp at h; subst h; rw [if_pos rfl]; simp
    | succ k =>
      have ih := kZ L (i + 1) k (by simpa using h)
      rw [show i + 1 + k = i + (k + 1) by omega] at ih
      split
      · exact List.mem_cons_of_mem _ ih
      · exact ih
theorem bit12 (n : Nat) : posB (1 + ((n % 2 : Nat) : Int)) = true := by unfold posB; simp; omega
theorem setU_ok (u j : Nat) : ∀ (D : List Int) (i : Nat) (s : List Int), (∀ d ∈ D, 0 ≤ d) → (∀ (k : Nat) (x : Int), s[k]? = some x → posB x = true ∨ (k : Int) ∈ D) → ∀ x ∈ setU u j i D s, posB x = true
  | [], i, s, _, h, x, hx => by
    obtain ⟨k, hk⟩ := List.getElem?_of_mem hx
    rcases h k x hk with h1 | h1
    · exact h1
    · cases h1
  | d :: D, i, s, hd, h, x, hx => by
    rw [setU] at hx
    refine setU_ok u j D (i + 1) _ (fun e he => hd e (by simp [he])) (fun k y hk => ?_) x hx
    have hd0 := hd d (by simp)
    by_cases e : k = d.toNat
    · subst e
      have hlt := zM hk
      rw [List.length_set] at hlt
      rw [List.getElem?_set_self hlt] at hk
      injection hk with hk
      subst hk
      exact .inl (bit12 _)
    · rw [List.getElem?_set_ne (Ne.symm e)] at hk
      rcases h k y hk with h1 | h1
      · exact .inl h1
      · rcases List.mem_cons.1 h1 with h1 | h1
        · exact absurd (by omega) e
        · exact .inr h1
structure MkOk (V : List Dv) (m : List Int) : Prop where
  l : m.length = V.length
  p : ∀ x ∈ m, isB x = true
  u : (unkP m).length ≤ 8
theorem lU {V : List Dv} {m : List Int} (h : MkOk V m) : ∀ s ∈ allP m, StOk V s := fun s hs => by
  unfold allP at hs
  obtain ⟨j, _, rfl⟩ := List.mem_map.1 hs
  refine ⟨by rw [pW]; exact h.l, setU_ok _ _ _ _ _ (fun d hd => (nA d hd).1) (fun k x hk => ?_)⟩
  have hb := h.p x (List.mem_of_getElem? hk)
  by_cases e : x = 3
  · subst e
    have := kZ m 0 k hk
    rw [Nat.zero_add] at this
    exact .inr this
  · left
    unfold isB at hb
    unfold posB
    simp at hb ⊢
    omega
end Go.Proofs.YtnafokinifbfhaaGreatDoor
namespace Go.Proofs.YtnafokinifbfhaaGreatDoor
open Go Go.RowKit
theorem qP {d : Dv} {n : Nat} (h : zj d n = true) : 0 ≤ d.a ∧ d.a < n := by
  unfold zj at h
  split at h
  · cases h
  · omega
theorem eY {d : Dv} {n : Nat} (h : zj d n = true) (hj : yH d.k = true) : 0 ≤ d.b ∧ d.b < n := by
  unfold zj at h
  rw [hj] at h
  split at h
  · cases h
  · simp at h; omega
/-- What the unknown devices of a state say, as a number. -/
def valU (t : List Int) : List Int → Nat
  | [] => 0
  | d :: D => (if t.getD d.toNat 0 = 2 then 1 else 0) * 2 ^ D.length + valU t D
theorem nC (t : List Int) : ∀ D : List Int, valU t D < 2 ^ D.length
  | [] => by simp [valU]
  | d :: D => by
    have := nC t D
    rw [valU, List.length_cons, Nat.pow_succ]
    split <;> omega
theorem wM (u j : Nat) (t : List Int) : ∀ (D : List Int) (i : Nat) (s : List Int), u = i + D.length → j % 2 ^ D.length = valU t D → (∀ d ∈ D, 0 ≤ d ∧ (t.getD d.toNat 0 = 1 ∨ t.getD d.toNat 0 = 2)) → ∀ k : Nat, k < s.length → (setU u j i D s)[k]? = if (k : Int) ∈ D then some (t.getD k 0) else s[k]?
  | [], i, s, _, _, _, k, hk => by simp [setU]
  | d :: D, i, s, hu, hj, hD, k, hk => by
    have hd := hD d (by simp)
    rw [List.length_cons] at hu hj
    have hr := nC t D
    obtain ⟨p, hp⟩ : ∃ p, p = 2 ^ D.length := ⟨_, rfl⟩
    have hp0 : 0 < p := by rw [hp]; exact Nat.pow_pos (by decide)
    rw [Nat.pow_succ, valU] at hj
    rw [← hp] at hj hr
    have e1 : j % p = valU t D := by
      have h1 : j % (p * 2) % p = j % p := Nat.mod_mod_of_dvd j (Nat.dvd_mul_right p 2)
      rw [hj] at h1
      rw [← h1]
      split
      · rw [Nat.one_mul, Nat.add_mod_left, Nat.mod_eq_of_lt hr]
      · rw [Nat.zero_mul, Nat.zero_add, Nat.mod_eq_of_lt hr]
    have e2 : (1 + ((j / p % 2 : Nat) : Int)) = t.getD d.toNat 0 := by
      have h1 : j % (p * 2) / p = j / p % 2 := Nat.mod_mul_right_div_self j p 2
      rw [hj] at h1
      rcases hd.2 with h2 | h2
      · rw [h2, if_neg (by decide), Nat.zero_mul, Nat.zero_add, Nat.div_eq_of_lt hr] at h1
        rw [← h1, h2]; rfl
      · rw [h2, if_pos rfl, Nat.one_mul, Nat.add_comm, Nat.add_div_right _ hp0, Nat.div_eq_of_lt hr] at h1
        rw [← h1, h2]; rfl
    rw [setU, show u - 1 - i = D.length by omega, ← hp, e2, wM u j t D (i + 1) _ (by omega) (by rw [← hp]; exact e1) (fun e he => hD e (by simp [he])) k (by simpa using hk)]
    by_cases h1 : (k : Int) ∈ D
    · rw [if_pos h1, if_pos (by simp [h1])]
    · rw [if_neg h1]
      by_cases h2 : (k : Int) = d
      · rw [if_pos (by simp [h2])]
        have e : d.toNat = k := by omega
        rw [e, List.getElem?_set_self hk]
      · rw [if_neg (by simp [h1, h2]), List.getElem?_set_ne (by omega)]
theorem vP (u j : Nat) : ∀ (D : List Int) (i : Nat) (s : List Int), (∀ d ∈ D, 0 ≤ d) → ∀ k : Nat, ¬ (k : Int) ∈ D → (setU u j i D s)[k]? = s[k]?
  | [], i, s, _, k, _ => rfl
  | d :: D, i, s, hD, k, hk => by
    rw [setU, vP u j D (i + 1) _ (fun e he => hD e (by simp [he])) k (fun h => hk (by simp [h])), List.getElem?_set_ne]
    intro e
    have := hD d (by simp)
    exact hk (by simp; left; omega)
theorem xK : ∀ (L : List Int) (i k : Nat), ((i + k : Nat) : Int) ∈ jr i L → L[k]? = some 3
  | [], i, k, h => by cases h
  | m :: L, i, k, h => by
    rw [jr] at h
    cases k with
    | zero =>
      by_cases e : m = 3
      · rw [e]; rfl
      · rw [if_neg e] at h
        have := pH L (i + 1) _ h
        omega
    | succ k =>
      have ih := xK L (i + 1) k
      rw [show i + 1 + k = i + (k + 1) by omega] at ih
      split at h
      · rcases List.mem_cons.1 h with h | h
        · omega
        · simpa using ih h
      · simpa using ih h
theorem oE {L : List Int} {k : Nat} : (k : Int) ∈ unkP L ↔ L[k]? = some 3 := by
  unfold unkP
  have h1 := xK L 0 k
  have h2 := kZ L 0 k
  rw [Nat.zero_add] at h1 h2
  exact ⟨h1, h2⟩
/-- A state agrees with masks. -/
structure Agr (m s : List Int) : Prop where
  l : s.length = m.length
  at_ : ∀ (k : Nat) (x y : Int), m[k]? = some x → s[k]? = some y → (x = 3 ∧ (y = 1 ∨ y = 2)) ∨ (x ≠ 3 ∧ y = x)
theorem agr_all {m s : List Int} (h : Agr m s) : s ∈ allP m := by
  unfold allP
  refine List.mem_map.2 ⟨valU s (unkP m), List.mem_range.2 (nC s _), ?_⟩
  have hl := pW m (valU s (unkP m))
  refine List.ext_getElem? fun k => ?_
  by_cases hk : k < m.length
  · obtain ⟨x, hx⟩ := zB hk
    obtain ⟨y, hy⟩ := zB (L := s) (k := k) (by rw [h.l]; exact hk)
    have ha := h.at_ k x y hx hy
    unfold ql
    rw [wM _ _ s (unkP m) 0 m (by omega) (Nat.mod_eq_of_lt (nC s _)) (fun d hd => ?_) k hk]
    · by_cases hu : (k : Int) ∈ unkP m
      · rw [if_pos hu, getD_some hy, hy]
      · rw [if_neg hu, hx, hy]
        rcases ha with ⟨ha, _⟩ | ⟨_, ha⟩
        · subst ha; exact absurd (oE.2 hx) hu
        · rw [ha]
    · obtain ⟨q0, q1⟩ := nA d hd
      refine ⟨q0, ?_⟩
      obtain ⟨z, hz⟩ := zB (L := s) (k := d.toNat) (by rw [h.l]; omega)
      have h3 : m[d.toNat]? = some 3 := oE.1 (by rw [Int.toNat_of_nonneg q0]; exact hd)
      rcases h.at_ d.toNat 3 z h3 hz with ⟨_, h4⟩ | ⟨h4, _⟩
      · rw [getD_some hz]; exact h4
      · exact absurd rfl h4
  · rw [List.getElem?_eq_none (by rw [hl]; omega), List.getElem?_eq_none (by rw [h.l]; omega)]
theorem all_agr {V : List Dv} {m s : List Int} (M : MkOk V m) (h : s ∈ allP m) : Agr m s := by
  have hok := lU M s h
  refine ⟨by rw [hok.l, M.l], fun k x y hx hy => ?_⟩
  have hy2 := hok.p y (List.mem_of_getElem? hy)
  by_cases e : x = 3
  · refine .inl ⟨e, ?_⟩
    unfold posB at hy2
    simp at hy2
    omega
  · refine .inr ⟨e, ?_⟩
    unfold allP at h
    obtain ⟨j, _, rfl⟩ := List.mem_map.1 h
    unfold ql at hy
    rw [vP _ _ _ _ _ (fun d hd => (nA d hd).1) k (fun hu => by rw [oE] at hu; rw [hu] at hx; injection hx with hx; exact e hx.symm), hx] at hy
    injection hy with hy
    exact hy.symm
/-- Who is supplied before, and not after. -/
def jZ (N : List Nd) (V : List Dv) (a b : List Int) : List Int := (supP N V a).filter fun v => !hasI (supP N V b) v
theorem qg {L : List Int} {x : Int} : hasI L x = true ↔ x ∈ L := by
  unfold hasI
  rw [List.any_eq_true]
  constructor
  · rintro ⟨y, hy, h⟩; simp at h; subst h; exact hy
  · intro h; exact ⟨x, h, by simp⟩
theorem vT {N : List Nd} {V : List Dv} {a b : List Int} : jZ N V a b = [] ↔ ∀ v ∈ supP N V a, v ∈ supP N V b := by
  unfold jZ
  rw [List.filter_eq_nil_iff]
  constructor
  · intro h v hv
    have := h v hv
    rw [← qg]
    cases hq : hasI (supP N V b) v
    · rw [hq] at this; simp at this
    · rfl
  · intro h v hv
    rw [qg.2 (h v hv)]; decide
theorem xQ {V : List Dv} {s : List Int} {d : Nat} {p : Int} (hp : p = 1 ∨ p = 2) (S : StOk V s) : StOk V (s.set d p) := by
  refine ⟨by simp [S.l], fun x hx => ?_⟩
  rcases List.mem_or_eq_of_mem_set hx with h | h
  · exact S.p x h
  · subst h; unfold posB; simp; omega
theorem pX {s : List Int} {d : Nat} {p : Int} (h : s[d]? = some p) : s.set d p = s := by
  refine List.ext_getElem? fun k => ?_
  by_cases e : k = d
  · subst e; rw [List.getElem?_set_self (zM h), h]
  · rw [List.getElem?_set_ne (Ne.symm e)]
end Go.Proofs.YtnafokinifbfhaaGreatDoor
