/- duty.With, the view's fault, sides, parallel, dead, load and charging, by the abstract machine; conditions: a device whose ends are right, parts and colours for all nodes. -/
import Derived.Test.YtnafokinifbfhaaGreatDoorHzF
import Derived.Test.YtnafokinifbfhaaGreatDoorZg
set_option linter.unusedVariables false
set_option linter.unusedSimpArgs false
namespace Go.Proofs.YtnafokinifbfhaaGreatDoor
open Go Go.RowKit
set_option maxRecDepth 10000
variable {G : Nat → Option (List Value)}
theorem pP {TB : Tabs} {σ : AS} {fn : Func} {r : AV} {e : Exit} {p ty s k m p2 ty2 s2 k2 m2 t : Nat} {cs cs2 : List AV} {z : AV} (he : e = .normal ∨ e = .ret) (hfn : fn.results = #[.cell p ty, .cell p2 ty2, .tmp t]) (hT : σ.T p = .ptr s k 0) (hH : σ.H s = ⟨k, .box cs⟩) (ht : lk TB.ty ty = some (true, m)) (hl : cs.length = m) (hT2 : σ.T p2 = .ptr s2 k2 0) (hH2 : σ.H s2 = ⟨k2, .box cs2⟩) (ht2 : lk TB.ty ty2 = some (true, m2)) (hl2 : cs2.length = m2) (hT3 : vf (σ.T t) = some z) (hr : Ren (bufs σ) (yg 0 []) r (.tu [.ag cs, .ag cs2, z])) : RetQ TB fn 0 r [] e σ := by
  refine ret0 he (xs := [.ag cs, .ag cs2, σ.T t]) ?_ (by rw [qN hT3]; exact hr)
  rw [hfn]
  exact ⟨.agg p ty s k m cs hT hH ht hl, .agg p2 ty2 s2 k2 m2 cs2 hT2 hH2 ht2 hl2, .tmp t, trivial⟩
theorem hup_self {τ : AS} {s : Nat} {h : HC} (e : τ.H s = h) : τ.hup s h = τ := by
  obtain ⟨T, H⟩ := τ
  unfold AS.hup
  congr 1
  funext n
  cases hb : Nat.beq n s with
  | false => rfl
  | true =>
    have := Nat.eq_of_beq_eq_true hb
    subst this
    exact e.symm
section
variable {P : Program} {X : Ctx} {n : Nat} {ops : Array Oper} {os : List Oper} {acc : List Rule} {σ : AS} {K : List Rule → AS → Prop} {gt : List (Nat × AV)} {d : Option Nat} {ty : TypeId} {ps : String} {af : Array Edge} {g : Option (Nat × Bool)}
/-- A call of a closure that only reads the box that it holds. -/
theorem iF {t : Nat} {f : FuncId} {tys : Array TypeId} {xs : List Operand} {cap args c : List AV} {r y : AV} {s k : Nat} (hc : zJ P X.G f args [c] r [c]) (hf : σ.T t = .fn f cap) (hargs : RenL noB (πs [(s, k)]) args (xs.map (ev σ) ++ cap))
    (hH : σ.H s = ⟨k, .box c⟩) (hp : js c = true) (hr : RenB (πs [(s, k)]) r y)
    (h : Exec P X n ops os (mkG gt σ (.tmp t :: xs) [s] d y [] :: acc) (σ.put d y) K) : Op1 P X n ops gt ⟨d, .call ⟨.value (.tmp t), xs.toArray, tys⟩, ty, ps, af, g⟩ os acc σ K := by
  refine ⟨⟨mkR σ (.tmp t :: xs) [s] d y [], fun hlt M ρ τ a w hfi hR K Q hK => ?_, zR _ _ _ _ _ _, h⟩⟩
  have hHs := (zo hfi (s := s) (by simp)).trans hH
  obtain ⟨c1, c2, c3, c4⟩ := cZ (ss := [(s, k)]) (refs := [c]) hR (by simp) (in1 hHs hp)
  obtain ⟨a1, a2, rfl, ha1, ha2⟩ := kA hargs
  obtain ⟨l1, l2⟩ := ju hR (fun x hx => zP hfi (by simp [hx])) ha1 c3
  have hfn := hR.ev (.tmp t)
  rw [zP hfi (by simp), show ev σ (.tmp t) = _ from hf] at hfn
  obtain ⟨vs, hv1, hv2, hv3⟩ : ∃ vs : List Value, a.eval (.tmp t) = .func (.func f) #[] ⟨vs⟩ ∧ vs.length = cap.length ∧ ∀ (j : Nat) (x : AV) (u : Value), cap[j]? = some x → vs[j]? = some u → Rep M ρ x u := by
    generalize a.eval (.tmp t) = q at hfn
    cases hfn with
    | fn _ _ _ vs h1 h2 => exact ⟨vs, rfl, h1, h2⟩
  unfold Oper.wp
  rw [lQ hc.1 hv1, Oper.upon_enter]
  refine (hc.2 M w (gsOf ρ [(s, k)]) _ hR.live hR.glob c1 c2 (by simp [hv2, ha2.spec.1]; simpa using l1) (fun j x u hx hu => ?_)).mono ?_
  · rw [List.getElem?_append] at hx hu
    have hll : a1.length = (xs.map a.eval).length := l1.symm
    split at hx
    · rename_i hj
      rw [if_pos (by omega)] at hu
      exact l2 j x u hx hu
    · rename_i hj
      rw [if_neg (by omega), ← hll] at hu
      obtain ⟨y0, hy0⟩ := zB (L := cap) (k := j - a1.length) (by rw [← ha2.spec.1]; exact zM hx)
      exact Ren.out c3 (fun _ _ e => e) (fun _ _ _ _ _ hb _ => hb.elim) (ha2.spec.2 _ x y0 hx hy0) (hv3 _ y0 u hy0 hu)
  rintro e w' ⟨u, M', gs', rfl, p1, p2, p3, p4, p5, p6, p7, p8, p9, p10, p11, p12⟩
  have hgl : (gsOf ρ [(s, k)]).length = 1 := by simp [gsOf]
  have hg0 : gs' = [] := by
    have := p11.len
    rw [List.length_append, hgl] at this
    simp only [List.length_cons, List.length_nil] at this
    exact List.eq_nil_of_length_eq_zero (by omega)
  subst hg0
  simp only [List.append_nil] at p11 p12
  obtain ⟨b1, b2⟩ := bE (yP (π := πs [(s, k)]) hp)
  have hR' := hR.call (ss := [(s, k)]) (cs' := [c]) (w' := w') (by simp) (by simp) hgl c4 p1 p2 p3 p4 p5 p6 p7 p8 (fun i g' c0' hg' hc' => by
    obtain ⟨c0, hc0⟩ := zB (L := [c]) (k := i) (by have := zM hc'; omega)
    obtain ⟨_, t, us, e1, e2, e3⟩ := p11.at_ i g' c0 hg' hc0
    have hb := (b2 i c0 c0' hc0 hc').spec
    refine ⟨t, us, e1, by omega, fun j x z hx hz => ?_⟩
    obtain ⟨x0, hx0⟩ := zB (L := c0) (k := j) (by have := zM hx; omega)
    exact RenB.back c3 (hb.2 j x0 x hx0 hx) (e3 j x0 z hx0 hz))
  have hself : hups (hwOf [(s, k)] [c]) τ = τ := hup_self hHs
  rw [hself] at hR'
  exact hK M' ρ _ w' (hR'.put (RenB.back c3 hr p12) hlt)
end
theorem uE (st : List Int) (i : Nat) (p : Int) (hi : i < st.length) (hl : st.length ≤ 64) : zJ Tryz.prog G 89 [.sl 1 (st.map iv), .v (.int .i64 (i : Nat)), .v (.int .i64 p)] [] (.sl 1 ((st.set i p).map iv)) [] := by
  have hml : (st.map iv).length = st.length := by simp
  have d0 : decide (((i : Nat) : Int) ≥ 0) = true := decide_eq_true (by omega)
  have d1 : decide (((i : Nat) : Int) < ((st.map iv).length : Nat)) = true := decide_eq_true (by omega)
  refine zE tbOk (zA Tryz.func89 (by kernel_rfl) rfl) Tryz.func89 rfl _ Tryz.ntmps89 (Nat.le_of_ble_eq_true rfl) fun X hX => ?_
  subst hX
  refine zg1 ?_
  refine oS (oW (st.map iv) (oY st) (by omega)) (by repeat' (first | exact trivial | exact Ren.sl _ _ | refine ⟨?_, ?_⟩)) rfl ?_
  refine zg7 ?_
  (with_reducible refine zH ?_); refine zK tbOk rfl rfl rfl rfl rfl rfl ⟨by omega, by rw [List.length_map]; omega⟩ ?_
  refine zg1 ?_
  (with_reducible refine zt ?_); refine zz (L' := (st.set (i : Int).toNat p).map iv) tbOk rfl rfl rfl rfl rfl rfl rfl rfl rfl (by rw [yS, List.length_map]; omega) (by simp) (yY _) (jt _ _ _) ?_
  refine zg6 ?_
  refine qs (by first | exact .inr rfl | exact .inl rfl) rfl rfl ?_
  repeat' exact Ren.own _ _ _ _ ⟨_, rfl⟩
def vwC (N : List Nd) (V : List Dv) (d : Dv) (pt op cl : List Int) : List AV := [.sl 3 (N.map Nd.av), .sl 5 (V.map Dv.av), .v (.string d.n), .v (.int .i64 d.k), .v (.int .i64 d.a), .v (.int .i64 d.b), .v (.int .i64 d.co), .sl 1 (pt.map iv), .sl 1 (op.map iv), .sl 1 (cl.map iv)]
def vwAV (N : List Nd) (V : List Dv) (d : Dv) (pt op cl : List Int) : AV := .ag (vwC N V d pt op cl)
structure VwOk (N : List Nd) (d : Dv) (pt op cl : List Int) : Prop where
  e : zj d N.length = true
  p : pt.length = N.length
  o : op.length = N.length
  c : cl.length = N.length
  n : N.length ≤ 32
section
variable {N : List Nd} {V : List Dv} {d : Dv} {pt op cl : List Int} (H : VwOk N d pt op cl)
include H
theorem xD (x : Int) (h0 : 0 ≤ x) (h1 : x < N.length) : zJ Tryz.prog G 202 [.v (.int .i64 x), .ptr (refB + 0) 0 0] [vwC N V d pt op cl] (.v (.bool (bY op x))) [vwC N V d pt op cl] := by
  have hol : (op.map iv).length = N.length := by rw [List.length_map, H.o]
  have hy := yU (L := op) (k := x.toNat) (by rw [H.o]; omega)
  refine zE tbOk (zA Tryz.func202 (by kernel_rfl) rfl) Tryz.func202 rfl _ Tryz.ntmps202 (Nat.le_of_ble_eq_true rfl) fun X hX => ?_
  subst hX
  refine zg14 ?_
  exact dC (by first | exact .inr rfl | exact .inl rfl) rfl rfl rfl rfl rfl rfl (by repeat' (first | exact trivial | exact Ren.v _ | exact Ren.sl _ _ | refine ⟨?_, ?_⟩))
theorem vfault_A : zJ Tryz.prog G 168 [vwAV N V d pt op cl] [] (.v (.bool (qS cl d))) [] := by
  obtain ⟨a0, a1⟩ := qP H.e
  have hcl : (cl.map iv).length = N.length := by rw [List.length_map, H.c]
  have hya := yU (L := cl) (k := d.a.toNat) (by rw [H.c]; omega)
  unfold qS
  refine zE tbOk (zA Tryz.func168 (by kernel_rfl) rfl) Tryz.func168 rfl _ Tryz.ntmps168 (Nat.le_of_ble_eq_true rfl) fun X hX => ?_
  subst hX
  refine zg14 ?_
  refine zX rfl rfl (fun c1 => ?_) (fun c1 => ?_)
  · rw [c1]
    refine zg7 ?_
    refine zL (by first | exact .inr rfl | exact .inl rfl) rfl rfl ?_
    rfl
  rw [c1]
  refine zg8 ?_
  refine zG (nG d.k) (by repeat' (first | exact trivial | exact Ren.v _ | refine ⟨?_, ?_⟩)) (by repeat' exact RenB.v _) ?_
  refine zg8 ?_
  refine zX rfl rfl (fun c2 => ?_) (fun c2 => ?_)
  · obtain ⟨b0, b1⟩ := eY H.e c2
    have hyb := yU (L := cl) (k := d.b.toNat) (by rw [H.c]; omega)
    rw [c2]
    refine zg15 ?_
    refine zL (by first | exact .inr rfl | exact .inl rfl) rfl rfl ?_
    rfl
  · rw [c2]
    refine zg7 ?_
    refine zL (by first | exact .inr rfl | exact .inl rfl) rfl rfl ?_
    rfl
def SdR.av (s : SdR) : AV := .tu [.ag [.v (.bool s.l0), .v (.bool s.l1)], .ag [.v (.int .i64 s.n0), .v (.int .i64 s.n1)], .v (.bool s.ok)]
theorem vU : zJ Tryz.prog G 191 [vwAV N V d pt op cl] [] ((yL pt op d).av) [] := by
  obtain ⟨a0, a1⟩ := qP H.e
  have hpl : (pt.map iv).length = N.length := by rw [List.length_map, H.p]
  have hya := yU (L := pt) (k := d.a.toNat) (by rw [H.p]; omega)
  have hla := xD (G := G) (V := V) H d.a a0 a1
  unfold yL
  refine zE tbOk (zA Tryz.func191 (by kernel_rfl) rfl) Tryz.func191 rfl _ Tryz.ntmps191 (Nat.le_of_ble_eq_true rfl) fun X hX => ?_
  subst hX
  refine zg14 ?_
  refine zF rfl (fun c1 => ?_) (fun c1 => ?_)
  · rw [if_pos (by simpa using c1)]
    refine zg14 ?_
    refine pP (by first | exact .inr rfl | exact .inl rfl) rfl rfl rfl rfl rfl rfl rfl rfl rfl rfl ?_
    repeat' (first | exact trivial | exact Ren.v _ | refine zO ?_ | refine zf ?_ | refine ⟨?_, ?_⟩)
  rw [if_neg (by simpa using c1)]
  refine zg11 ?_
  refine zG (nG d.k) (by repeat' (first | exact trivial | exact Ren.v _ | refine ⟨?_, ?_⟩)) (by repeat' exact RenB.v _) ?_
  refine zg5 ?_
  refine zF rfl (fun c2 => ?_) (fun c2 => ?_)
  · rw [if_pos (by simpa using c2)]
    refine zg7 ?_
    refine iF (s := 1) (k := 1) hla rfl (by repeat' (first | exact trivial | exact Ren.v _ | exact Ren.ptr _ _ _ _ rfl | refine ⟨?_, ?_⟩)) rfl rfl (by repeat' exact RenB.v _) ?_
    repeat (first | ((with_reducible refine zi ?_); refine zh rfl ?_) | ((with_reducible refine zS ?_); refine zN tbOk rfl rfl rfl rfl ?_) | ((with_reducible refine ze ?_); refine zY tbOk rfl rfl rfl rfl rfl ?_) | ((with_reducible refine zt ?_); refine jn tbOk rfl rfl rfl rfl rfl rfl rfl (Nat.le_of_ble_eq_true rfl) rfl ?_)  | refine dN (by kernel_rfl) ?_ | refine zu rfl ?_ | with_reducible (first | refine zw ?_ | refine yd ?_ | refine jI ?_ | refine yF ?_)  | ((with_reducible refine bN ?_); first | refine bK tbOk Tryz.underlying239 rfl rfl rfl rfl ?_ | refine bK tbOk Tryz.underlying240 rfl rfl rfl rfl ?_))
    refine pP (by first | exact .inr rfl | exact .inl rfl) rfl rfl rfl rfl rfl rfl rfl rfl rfl rfl ?_
    repeat' (first | exact trivial | exact Ren.v _ | refine zO ?_ | refine zf ?_ | refine ⟨?_, ?_⟩)
  have c3 : yH d.k = true := by simpa using c2
  obtain ⟨b0, b1⟩ := eY H.e c3
  have hyb := yU (L := pt) (k := d.b.toNat) (by rw [H.p]; omega)
  have hlb := xD (G := X.G) (V := V) H d.b b0 b1
  rw [if_neg (by rw [c3]; decide)]
  refine zg7 ?_
  refine iF (s := 1) (k := 1) hla rfl (by repeat' (first | exact trivial | exact Ren.v _ | exact Ren.ptr _ _ _ _ rfl | refine ⟨?_, ?_⟩)) rfl rfl (by repeat' exact RenB.v _) ?_
  refine zg11 ?_
  refine iF (s := 1) (k := 1) hlb rfl (by repeat' (first | exact trivial | exact Ren.v _ | exact Ren.ptr _ _ _ _ rfl | refine ⟨?_, ?_⟩)) rfl rfl (by repeat' exact RenB.v _) ?_
  repeat (first | ((with_reducible refine zi ?_); refine zh rfl ?_) | ((with_reducible refine zS ?_); refine zN tbOk rfl rfl rfl rfl ?_) | ((with_reducible refine ze ?_); (first | refine zY tbOk rfl rfl rfl rfl rfl ?_ | refine jV tbOk rfl rfl rfl ?_)) | ((with_reducible refine zt ?_); refine jn tbOk rfl rfl rfl rfl rfl rfl rfl (Nat.le_of_ble_eq_true rfl) rfl ?_) | ((with_reducible refine zH ?_); refine qe tbOk rfl rfl rfl rfl (by omega) (by assumption) ?_) | ((with_reducible refine yZ ?_); refine yI rfl rfl rfl ?_)  | refine dN (by kernel_rfl) ?_ | refine zu rfl ?_ | with_reducible (first | refine zw ?_ | refine yF ?_)  | ((with_reducible refine bN ?_); first | refine bK tbOk Tryz.underlying239 rfl rfl rfl rfl ?_ | refine bK tbOk Tryz.underlying240 rfl rfl rfl rfl ?_))
  refine pP (by first | exact .inr rfl | exact .inl rfl) rfl rfl rfl rfl rfl rfl rfl rfl rfl rfl ?_
  repeat' (first | exact trivial | exact Ren.v _ | refine zO ?_ | refine zf ?_ | refine ⟨?_, ?_⟩)
theorem vpar_A : zJ Tryz.prog G 169 [vwAV N V d pt op cl] [] (.v (.bool (parP (yL pt op d)))) [] := by
  have hs := vU (G := G) (V := V) H
  obtain ⟨s, hsd⟩ : ∃ s, s = yL pt op d := ⟨_, rfl⟩
  rw [← hsd] at hs ⊢
  obtain ⟨l0, l1, n0, n1, ok⟩ := s
  unfold SdR.av at hs
  unfold parP
  refine zE tbOk (zA Tryz.func169 (by kernel_rfl) rfl) Tryz.func169 rfl _ Tryz.ntmps169 (Nat.le_of_ble_eq_true rfl) fun X hX => ?_
  subst hX
  refine zg0 ?_
  refine zG (hs) (by repeat' (first | exact trivial | exact Ren.v _ | exact Ren.sl _ _ | refine zO ?_ | refine ⟨?_, ?_⟩)) (by repeat' (first | exact trivial | exact RenB.v _ | refine gB ?_ | refine zZ ?_ | refine ⟨?_, ?_⟩)) ?_
  refine zg12 ?_
  cases ok with
  | false =>
    refine zg7 ?_
    refine zL (by first | exact .inr rfl | exact .inl rfl) rfl rfl ?_
    rfl
  | true =>
    refine zg8 ?_
    (with_reducible refine zH ?_); refine ya tbOk Tryz.underlying239 rfl rfl rfl (by decide) ?_
    refine zg8 ?_
    cases l0 with
    | false =>
      refine zg7 ?_
      refine zL (by first | exact .inr rfl | exact .inl rfl) rfl rfl ?_
      rfl
    | true =>
      refine zg8 ?_
      (with_reducible refine zH ?_); refine ya tbOk Tryz.underlying239 rfl rfl rfl (by decide) ?_
      refine zg15 ?_
      refine zL (by first | exact .inr rfl | exact .inl rfl) rfl rfl ?_
      rfl
theorem vdead_A : zJ Tryz.prog G 192 [vwAV N V d pt op cl] [] (.tu [.v (.int .i64 (qJ (yL pt op d)).1), .v (.bool (qJ (yL pt op d)).2)]) [] := by
  have hs := vU (G := G) (V := V) H
  obtain ⟨s, hsd⟩ : ∃ s, s = yL pt op d := ⟨_, rfl⟩
  rw [← hsd] at hs ⊢
  obtain ⟨l0, l1, n0, n1, ok⟩ := s
  unfold SdR.av at hs
  unfold qJ
  refine zE tbOk (zA Tryz.func192 (by kernel_rfl) rfl) Tryz.func192 rfl _ Tryz.ntmps192 (Nat.le_of_ble_eq_true rfl) fun X hX => ?_
  subst hX
  refine zg0 ?_
  refine zG (hs) (by repeat' (first | exact trivial | exact Ren.v _ | exact Ren.sl _ _ | refine zO ?_ | refine ⟨?_, ?_⟩)) (by repeat' (first | exact trivial | exact RenB.v _ | refine gB ?_ | refine zZ ?_ | refine ⟨?_, ?_⟩)) ?_
  refine zg12 ?_
  cases ok with
  | false =>
    refine zg6 ?_
    refine jH (by first | exact .inr rfl | exact .inl rfl) rfl rfl rfl ?_
    repeat' (first | exact trivial | exact Ren.v _ | refine zf ?_ | refine ⟨?_, ?_⟩)
  | true =>
    refine zg8 ?_
    (with_reducible refine zH ?_); refine ya tbOk Tryz.underlying239 rfl rfl rfl (by decide) ?_
    refine zg8 ?_
    (with_reducible refine zH ?_); refine ya tbOk Tryz.underlying239 rfl rfl rfl (by decide) ?_
    refine zg9 ?_
    cases l0 <;> cases l1
    · refine zg6 ?_
      refine jH (by first | exact .inr rfl | exact .inl rfl) rfl rfl rfl ?_
      repeat' (first | exact trivial | exact Ren.v _ | refine zf ?_ | refine ⟨?_, ?_⟩)
    · refine zg10 ?_
      (with_reducible refine zH ?_); refine ya tbOk Tryz.underlying239 rfl rfl rfl (by decide) ?_
      refine zg10 ?_
      (with_reducible refine zH ?_); refine ya tbOk Tryz.underlying240 rfl rfl rfl (by decide) ?_
      refine zg6 ?_
      refine jH (by first | exact .inr rfl | exact .inl rfl) rfl rfl rfl ?_
      repeat' (first | exact trivial | exact Ren.v _ | refine zf ?_ | refine ⟨?_, ?_⟩)
    · refine zg10 ?_
      (with_reducible refine zH ?_); refine ya tbOk Tryz.underlying239 rfl rfl rfl (by decide) ?_
      refine zg7 ?_
      (with_reducible refine zH ?_); refine ya tbOk Tryz.underlying240 rfl rfl rfl (by decide) ?_
      refine zg6 ?_
      refine jH (by first | exact .inr rfl | exact .inl rfl) rfl rfl rfl ?_
      repeat' (first | exact trivial | exact Ren.v _ | refine zf ?_ | refine ⟨?_, ?_⟩)
    · refine zg6 ?_
      refine jH (by first | exact .inr rfl | exact .inl rfl) rfl rfl rfl ?_
      repeat' (first | exact trivial | exact Ren.v _ | refine zf ?_ | refine ⟨?_, ?_⟩)
theorem vchg_A : zJ Tryz.prog G 171 [vwAV N V d pt op cl] [] (.v (.bool (qJ (yL pt op d)).2)) [] := by
  have hs := vdead_A (G := G) (V := V) H
  refine zE tbOk (zA Tryz.func171 (by kernel_rfl) rfl) Tryz.func171 rfl _ Tryz.ntmps171 (Nat.le_of_ble_eq_true rfl) fun X hX => ?_
  subst hX
  refine zg0 ?_
  refine zG (hs) (by repeat' (first | exact trivial | exact Ren.v _ | exact Ren.sl _ _ | refine zO ?_ | refine ⟨?_, ?_⟩)) (by repeat' (first | exact trivial | exact RenB.v _ | refine zZ ?_ | refine ⟨?_, ?_⟩)) ?_
  refine zg12 ?_
  refine zL (by first | exact .inr rfl | exact .inl rfl) rfl rfl ?_
  rfl
omit H in
theorem dead_in (H : VwOk N d pt op cl) (h : (qJ (yL pt op d)).2 = true) : 0 ≤ (qJ (yL pt op d)).1 ∧ (qJ (yL pt op d)).1 < N.length := by
  obtain ⟨a0, a1⟩ := qP H.e
  unfold qJ at h ⊢
  split at h
  · cases h
  · rename_i hc
    rw [if_neg hc] at *
    unfold yL at hc ⊢
    by_cases h4 : d.k = 4
    · rw [if_pos h4] at hc; simp at hc
    · rw [if_neg h4] at hc ⊢
      by_cases hj : yH d.k = false
      · rw [if_pos hj] at hc ⊢
        simp
        exact ⟨a0, a1⟩
      · rw [if_neg hj] at hc ⊢
        obtain ⟨b0, b1⟩ := eY H.e (by simpa using hj)
        split <;> simp <;> omega
theorem vload_A : zJ Tryz.prog G 170 [vwAV N V d pt op cl] [] (.v (.bool (bJ N pt (yL pt op d)))) [] := by
  have hs := vdead_A (G := G) (V := V) H
  have hin := dead_in H
  have hn := H.n
  have hpl : (pt.map iv).length = N.length := by rw [List.length_map, H.p]
  unfold bJ
  obtain ⟨z, hz⟩ : ∃ z, z = qJ (yL pt op d) := ⟨_, rfl⟩
  rw [← hz] at hs hin ⊢
  obtain ⟨c, ok⟩ := z
  dsimp only at hs hin ⊢
  refine zE tbOk (zA Tryz.func170 (by kernel_rfl) rfl) Tryz.func170 rfl _ Tryz.ntmps170 (Nat.le_of_ble_eq_true rfl) fun X hX => ?_
  subst hX
  refine zg0 ?_
  refine zG (hs) (by repeat' (first | exact trivial | exact Ren.v _ | exact Ren.sl _ _ | refine zO ?_ | refine ⟨?_, ?_⟩)) (by repeat' (first | exact trivial | exact RenB.v _ | refine zZ ?_ | refine ⟨?_, ?_⟩)) ?_
  refine zg12 ?_
  cases ok with
  | false =>
    refine zg6 ?_
    refine zL (by first | exact .inr rfl | exact .inl rfl) rfl rfl ?_
    rfl
  | true =>
    obtain ⟨c0, c1⟩ := hin rfl
    have hyc := yU (L := pt) (k := c.toNat) (by rw [H.p]; omega)
    rw [if_pos rfl]
    refine zg13 ?_
    refine zQ (ι := Nat) (fun i => i ≤ N.length ∧ iC pt (pt.getD c.toNat 0) i (N.drop i) = iC pt (pt.getD c.toNat 0) 0 N) (fun i => N.length - i) (fun v i => [(1, .ptr 1 (v 1) 0), (3, .v (.int .i64 c)), (16, .sl 3 (N.map Nd.av)), (17, .v (.int .i64 (N.map Nd.av).length)), (18, .v (.int .i64 (i : Nat)))]) (fun v i => [(1, .box (vwC N V d pt op cl))]) ?_ ?_
    · exact ⟨0, ⟨Nat.zero_le _, rfl⟩, trivial, ⟨rfl, rfl, rfl, rfl, rfl, trivial⟩, ⟨rfl, trivial⟩⟩
    rintro v i ⟨hi, hf⟩
    refine zg1 ?_
    refine zF rfl (fun h => ?_) (fun h => ?_)
    · have hlt : i < N.length := by simpa using h
      obtain ⟨x, hx⟩ := zB hlt
      have hy : (N.map Nd.av)[i]? = some x.av := by rw [List.getElem?_map, hx]; rfl
      have hyi := yU (L := pt) (k := i) (by rw [H.p]; omega)
      rw [zv hx, iC] at hf
      refine zg14 ?_
      by_cases d1 : 0 < x.cu
      · have e1 : decide (x.cu > 0) = true := decide_eq_true d1
        refine zg15 ?_
        refine zF rfl (fun q => ?_) (fun q => ?_)
        · rw [if_pos ⟨d1, by simpa using q⟩] at hf
          rw [← hf]
          refine zg6 ?_
          refine zL (by first | exact .inr rfl | exact .inl rfl) rfl rfl ?_
          rfl
        · rw [if_neg (fun h => by rw [h.2] at q; simp at q)] at hf
          refine zg2 ?_
          exact ⟨i + 1, ⟨hlt, hf⟩, by omega, ⟨rfl, rfl, rfl, rfl, rfl, trivial⟩, ⟨rfl, trivial⟩⟩
      · have e1 : decide (x.cu > 0) = false := decide_eq_false d1
        rw [if_neg (fun h => d1 h.1)] at hf
        refine zg10 ?_
        exact ⟨i + 1, ⟨hlt, hf⟩, by omega, ⟨rfl, rfl, rfl, rfl, rfl, trivial⟩, ⟨rfl, trivial⟩⟩
    · have hge : ¬ i < N.length := by simpa using h
      rw [List.drop_of_length_le (by omega)] at hf
      rw [← hf]
      refine zg2 ?_
      refine zL (by first | exact .inr rfl | exact .inl rfl) rfl rfl ?_
      rfl
end
end Go.Proofs.YtnafokinifbfhaaGreatDoor
