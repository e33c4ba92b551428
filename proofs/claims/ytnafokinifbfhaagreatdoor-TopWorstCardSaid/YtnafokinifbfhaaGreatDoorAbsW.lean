/- A row that is handed to a callee which changes it in place: the row as a box, and back as a row that nobody writes any more; conditions: tables of types that agree with the program's. -/
import Derived.Test.YtnafokinifbfhaaGreatDoorNetA
set_option linter.unusedVariables false
set_option linter.unusedSimpArgs false
namespace Go.Proofs.YtnafokinifbfhaaGreatDoor
open Go Go.RowKit
def bsC (L J : List AV) : List AV := L.flatMap AV.cells ++ J
theorem bsC_take {L J : List AV} {sz j : Nat} {y : AV} (hsz : ∀ x ∈ L, x.cells.length = sz) (hy : L[j]? = some y) : ((bsC L J).drop (j * sz)).take sz = y.cells ∧ j * sz + sz ≤ (bsC L J).length := by
  have hl := jH hsz
  have hlt := zi hy
  have hc := hsz y (List.mem_of_getElem? hy)
  have hm : j * sz + sz ≤ L.length * sz := by
    have := Nat.mul_le_mul_right sz (show j + 1 ≤ L.length from hlt)
    rw [Nat.add_mul] at this
    omega
  refine ⟨?_, by unfold bsC; rw [List.length_append, hl]; omega⟩
  obtain ⟨A, B, rfl, rfl⟩ : ∃ A B, L = A ++ y :: B ∧ j = A.length := by
    obtain ⟨h1, h2⟩ := List.getElem?_eq_some_iff.1 hy
    exact ⟨L.take j, L.drop (j + 1), by rw [← h2, List.getElem_cons_drop, List.take_append_drop], by rw [List.length_take]; omega⟩
  have hA : (A.flatMap AV.cells).length = A.length * sz := jH fun x hx => hsz x (by simp [hx])
  unfold bsC
  rw [List.flatMap_append, List.flatMap_cons, List.append_assoc, ← hA, List.drop_left, List.append_assoc, ← hc, List.take_left]
theorem bsC_put {L J : List AV} {sz j : Nat} {y x : AV} (hsz : ∀ x ∈ L, x.cells.length = sz) (hy : L[j]? = some y) (hx : x.cells.length = sz) : putL (bsC L J) (j * sz) x.cells = bsC (L.set j x) J := by
  obtain ⟨A, B, rfl, rfl⟩ : ∃ A B, L = A ++ y :: B ∧ j = A.length := by
    obtain ⟨h1, h2⟩ := List.getElem?_eq_some_iff.1 hy
    exact ⟨L.take j, L.drop (j + 1), by rw [← h2, List.getElem_cons_drop, List.take_append_drop], by rw [List.length_take]; omega⟩
  have hA : (A.flatMap AV.cells).length = A.length * sz := jH fun x hx => hsz x (by simp [hx])
  have hc := hsz y (by simp)
  have key : ∀ (xs ys P Q : List AV), xs.length = ys.length → putL (P ++ (ys ++ Q)) P.length xs = P ++ (xs ++ Q) := by
    intro xs
    induction xs with
    | nil => intro ys P Q h; obtain rfl : ys = [] := List.eq_nil_of_length_eq_zero (by simpa using h.symm); rfl
    | cons a xs ih =>
      intro ys P Q h
      match ys, h with
      | b :: ys, h =>
        rw [putL]
        have e : (P ++ (b :: ys ++ Q)).set P.length a = (P ++ [a]) ++ (ys ++ Q) := by simp
        rw [e]
        have := ih ys (P ++ [a]) Q (by simpa using h)
        rw [List.length_append] at this
        simp only [List.length_cons, List.length_nil] at this
        rw [this]
        simp
  unfold bsC
  rw [List.set_append_right _ _ (Nat.le_refl _), Nat.sub_self]
  simp only [List.set_cons_zero, List.flatMap_append, List.flatMap_cons, List.append_assoc]
  rw [← hA]
  exact key x.cells y.cells _ _ (by omega)
section
variable {P : Program} {X : Ctx} {n : Nat} {σ : AS} {Q : Exit → AS → Prop} {c : Code}
theorem uV {s k e sz : Nat} {L : List AV} (ts : List (Nat × AV)) (hH : σ.H s = ⟨k, .buf e sz L⟩) (hp : 0 < L.length) (hT : ∀ J, RwTs (.own s k) (.bs s (k + 1) sz L.length) ts (σ.hup s ⟨k + 1, .box (bsC L J)⟩))
    (h : ∀ J, (∀ x ∈ J, x = AV.junk) → AWp P X n c Q (tput ts (σ.hup s ⟨k + 1, .box (bsC L J)⟩))) : AWp P X n c Q σ := by
  refine ⟨fun M ρ a w hR => ?_⟩
  have hdead : Rel X n M ρ (σ.hup s ⟨k, .dead⟩) a w := hR.weak ⟨fun _ => .inl rfl, fun s' => by
    simp only [AS.hup]
    by_cases hs' : s' = s
    · subst hs'; rw [Nat.beq_refl]; exact ⟨by rw [hH]; rfl, .inr rfl⟩
    · rw [yF hs']; exact ⟨rfl, .inl rfl⟩⟩
  have hbuf := hR.buf s k e sz L hH
  obtain ⟨u, us, b1, b2, b3, b4, b5, b6⟩ := hbuf
  obtain ⟨b2, b2m⟩ := b2
  rcases b2.2 with ⟨rfl, hn⟩ | ⟨g, cap, cur, rfl, e2, e3, e4, e5, e6, e7⟩
  · omega
  obtain ⟨cl⟩ := cur
  have hMg := b3 g rfl
  have hbs : za ρ s (σ.H s) = some g := by rw [hH]; simp [za, b1, vblk]
  have e7' : cl.take (L.length * sz) = us := e7
  have hfl := jH b5
  have hle : us.length ≤ cl.length := by rw [← e7', List.length_take]; omega
  have hkk : ((σ.hup s ⟨k, .dead⟩).H s).k = k := by simp [AS.hup, Nat.beq_refl]
  have hbox := hdead.addBox s g e (cs := bsC L (List.replicate (cl.length - us.length) .junk)) (us := cl) e3 hMg (b2m g rfl) (fun s' hs' => by
    simp only [AS.hup] at hs'
    by_cases he : s' = s
    · subst he; rw [Nat.beq_refl] at hs'; simp [za] at hs'
    · rw [yF he] at hs'; exact he (hR.sep s' s g hs' hbs)) (by unfold bsC; rw [List.length_append, List.length_replicate, ← b4]; omega) (fun j x z hx hz => by
    unfold bsC at hx
    by_cases hj : j < us.length
    · rw [List.getElem?_append_left (by rw [← b4]; exact hj)] at hx
      refine ((b6 j x z hx ?_).1).mono' (fun _ _ e => e) (fun s k y e => by simp [noρ] at e)
      rw [← e7', List.getElem?_take_of_lt (by rw [← hfl, ← b4]; exact hj)]
      exact hz
    · rw [List.getElem?_append_right (by rw [← b4]; omega)] at hx
      have := List.mem_of_getElem? hx
      rw [List.mem_replicate] at this
      rw [this.2]
      exact .junk _ _)
  rw [hkk] at hbox
  have hup2 : ((σ.hup s ⟨k, .dead⟩).hup s ⟨k + 1, .box (bsC L (List.replicate (cl.length - us.length) .junk))⟩) = σ.hup s ⟨k + 1, .box (bsC L (List.replicate (cl.length - us.length) .junk))⟩ := by
    unfold AS.hup
    congr 1
    funext m
    cases hb : Nat.beq m s <;> simp [hb]
  rw [hup2] at hbox
  refine (h _ (fun x hx => (List.mem_replicate.1 hx).2)).run M _ a w (Rel.rwT (fun u hu => ?_) hbox (hT _))
  have hu' := hu.own_inv
  have hne : updρ ρ s (k + 1) (.pointer (some ⟨g, 0, none⟩)) s k = ρ s k := by
    unfold updρ
    rw [if_neg (by omega)]
  rw [hne, b1] at hu'
  injection hu' with hu'
  subst hu'
  exact .bs _ s (k + 1) sz _ g _ (by simp [updρ]) e4 e5
theorem wE {s k sz : Nat} {L J : List AV} (hgs : X.gs = []) (ts : List (Nat × AV)) (hH : σ.H s = ⟨k, .box (bsC L J)⟩) (hsz : ∀ x ∈ L, x.cells.length = sz) (hpos : 0 < sz) (hpu : ∀ x ∈ L, qI x.cells = true) (hm : L.length ≤ maxLen) (hT : RwTs (.bs s k sz L.length) (.sl sz L) ts (σ.hup s ⟨k, .dead⟩))
    (h : AWp P X n c Q (tput ts (σ.hup s ⟨k, .dead⟩))) : AWp P X n c Q σ := by
  refine ⟨fun M ρ a w hR => ?_⟩
  have hdead : Rel X n M ρ (σ.hup s ⟨k, .dead⟩) a w := hR.weak ⟨fun _ => .inl rfl, fun s' => by
    simp only [AS.hup]
    by_cases hs' : s' = s
    · subst hs'; rw [Nat.beq_refl]; exact ⟨by rw [hH]; rfl, .inr rfl⟩
    · rw [yF hs']; exact ⟨rfl, .inl rfl⟩⟩
  obtain ⟨g, t, us, b1, b2, b3, b4, b5, b6⟩ := hR.box s k _ hH
  have hX : X.w0.heap.size ≤ g := by
    rcases b4 with b4 | b4
    · exact b4
    · rw [hgs] at b4; simp at b4
  have hbs : za ρ s (σ.H s) = some g := by rw [hH]; simp [za, b1, vblk]
  have hA := hdead.addM (g := g) b2 b3 (.inl hX) (fun s' hs' => by
    simp only [AS.hup] at hs'
    by_cases he : s' = s
    · subst he; rw [Nat.beq_refl] at hs'; simp [za] at hs'
    · rw [yF he] at hs'; exact he (hR.sep s' s g hs' hbs))
  have hMg : updM M g ⟨us⟩ g = some ⟨us⟩ := by simp [updM]
  refine h.run _ ρ a w (Rel.rwT (fun u hu => ?_) hA hT)
  cases hu with
  | bs _ _ _ _ _ g' c' h1 hc hm' =>
    rw [b1] at h1
    injection h1 with h1
    injection h1 with h1
    injection h1 with h1
    injection h1 with h1
    subst h1
    have hfl := jH hsz
    have hmono : ∀ g' x, M g' = some x → updM M g ⟨us⟩ g' = some x := fun g' x e => by
      unfold updM
      rw [if_neg (by rintro rfl; rw [b3] at e; cases e)]
      exact e
    have hul : (L.flatMap AV.cells).length ≤ us.length := by rw [b5]; unfold bsC; rw [List.length_append]; omega
    refine .sl _ sz L (some ⟨g, 0, none⟩) c' (fun k j => (us[k * sz + j]?).getD undef) hc hm' (fun k x j y hx hy => ?_) (fun k x hx => ?_)
    · have hf := buf_at (M' := updM M g ⟨us⟩) (us := us) hsz k x j y hx hy
      obtain ⟨z, hz⟩ := zT (L := us) (k := k * sz + j) (by have := zi hf; omega)
      rw [hz]
      have hb := b6 _ y z (by unfold bsC; rw [List.getElem?_append_left (zi hf)]; exact hf) hz
      exact (kC (ρ' := noρ) hb (iE (hpu x (List.mem_of_getElem? hx)) y (List.mem_of_getElem? hy))).mono' hmono (fun _ _ _ e => e)
    · refine ⟨hsz x (List.mem_of_getElem? hx), g, 0, ⟨us⟩, rfl, hMg, fun j hj => ?_⟩
      have hk := zi hx
      have hlt : k * sz + j < L.length * sz := by
        have : (k + 1) * sz ≤ L.length * sz := Nat.mul_le_mul_right _ hk
        rw [Nat.succ_mul] at this
        omega
      obtain ⟨z, hz⟩ := zT (L := us) (k := k * sz + j) (by omega)
      rw [Nat.zero_add, hz]
      simpa using hz
end
section
variable {P : Program} {X : Ctx} {n : Nat} {ops : Array Oper} {os : List Oper} {acc : List Rule} {σ : AS} {K : List Rule → AS → Prop} {gt : List (Nat × AV)} {ty : TypeId} {ps : String} {af : Array Edge} {g : Option (Nat × Bool)} {d : Option Nat} {TB : Tabs} (hTB : TabsOk P TB)
include hTB
theorem dP {t : TypeId} {x i : Operand} {s k sz sz' len e : Nat} {b : Bool} {kk : IntKind} {z : Int} (hs : lk TB.sle t = some e) (hz : lk TB.ty e = some (b, sz)) (hx : ev σ x = .bs s k sz' len) (hi : ev σ i = .v (.int kk z)) (h0 : 0 ≤ z ∧ z < (len : Int))
    (h : Exec P X n ops os (mkG gt σ [x, i] [] d (.ptr s k (z.toNat * sz)) [] :: acc) (σ.put d (.ptr s k (z.toNat * sz))) K) : Op1 P X n ops gt ⟨d, .indexAddr t x i, ty, ps, af, g⟩ os acc σ K :=
  jF (fun M ρ τ a w he hR => by
    have h1 := hR.ev x
    rw [he x (by simp), hx] at h1
    have h2 := zv hR (he i (by simp)) hi
    generalize hu : a.eval x = u at h1
    cases h1 with
    | bs _ _ _ _ _ g c e1 hc hm =>
      refine ⟨.pointer (some ⟨g, z.toNat * sz, none⟩), ?_, .ptr _ s k _ g e1⟩
      unfold execOp
      simp only [hu, h2, Instr.indexAt, asIntOf, Sem.run_bind, Sem.run_pure, run_underlying (yl hTB hs), Result.andThen_ok, Sem.run_ite, if_pos h0, yd hTB hz, Addr.add_mid, Nat.zero_add]) h
theorem wO {t : TypeId} {x y : Operand} {s k k' off j m : Nat} {b : Bool} {L J : List AV} {z y0 : AV} (ht : lk TB.ty t = some (b, m)) (hx : ev σ x = .ptr s k off) (hH : σ.H s = ⟨k', .box (bsC L J)⟩) (hk : k = k') (ho : off = j * m) (hsz : ∀ x ∈ L, x.cells.length = m) (hj : L[j]? = some y0) (hz : ev σ y = z) (hl : z.cells.length = m) (hone : yU z.cells = true)
    (h : Exec P X n ops os (mkG gt σ [x, y] [s] none (.v undef) [(s, ⟨k', .box (bsC (L.set j z) J)⟩)] :: acc) (σ.hup s ⟨k', .box (bsC (L.set j z) J)⟩) K) : Op1 P X n ops gt ⟨none, .store t x y, ty, ps, af, g⟩ os acc σ K := by
  subst ho
  obtain ⟨h1, h2⟩ := bsC_take (J := J) hsz hj
  have h3 := bsC_put (J := J) hsz hj hl
  exact x_store hTB ht hx hH hk z hz rfl hl h2 hone (by rw [h3]; exact h)
end
theorem wS {P : Program} {TB : Tabs} {G : Nat → Option (List Value)} {f : FuncId} {args : List AV} {r : AV} (hTB : TabsOk P TB) {fn : Func} {c : Code} (he : qQ P f) (hf : P.funcs[f]? = some fn) (hb : fn.body = some c) (n : Nat) (hn : fn.ntmps = n) (hle : args.length ≤ n)
    (h : ∀ X : Ctx, X.G = G → X.gs = [] → AWp P X n c (RetQ TB fn 0 r []) (dO args [])) : zl P G f args [] r [] := by
  refine ⟨he, fun M w gs vs hl hG hnd hr hv hrep => ?_⟩
  have hgs : gs = [] := List.eq_nil_of_length_eq_zero hr.len
  subst hgs
  refine calls_of_wp hf hb ?_
  rw [hn]
  have hR := pS (n := n) hl hG hnd hr hv hrep hle
  refine wp_mono ((h ⟨w, [], [], G, M⟩ rfl rfl).run M (refρ []) _ w hR) ?_
  rintro e a' w' ⟨M', ρ', σ', hR', hQ⟩
  exact pP hTB hnd hl (by simp) hR' hQ
section
variable {P : Program} {X : Ctx} {n : Nat} {ops : Array Oper} {os : List Oper} {acc : List Rule} {σ : AS} {K : List Rule → AS → Prop} {gt : List (Nat × AV)} {ty : TypeId} {ps : String} {af : Array Edge} {g : Option (Nat × Bool)}
theorem x_max {d : Option Nat} {t t' : TypeId} {x y : Operand} {k k' : IntKind} {a b : Int} (hx : ev σ x = .v (.int k a)) (hy : ev σ y = .v (.int k' b))
    (h : Exec P X n ops os (mkG gt σ [x, y] [] d (.v (.int k (max a b))) [] :: acc) (σ.put d (.v (.int k (max a b)))) K) : Op1 P X n ops gt ⟨d, .call ⟨.builtin .max, #[x, y], #[t, t']⟩, ty, ps, af, g⟩ os acc σ K :=
  jF (fun M ρ τ a' w he hR => by
    have h1 := zv hR (he x (by simp)) hx
    have h2 := zv hR (he y (by simp)) hy
    have e : (if b > a then b else a) = max a b := by
      rw [Int.max_def]
      split <;> split <;> omega
    refine ⟨.int k (max a b), ?_, .v _ _⟩
    unfold execOp
    simp [resolve, invoke, builtin, h1, h2, Builtin.max_, Builtin.max2, e]) h
theorem x_min {d : Option Nat} {t t' : TypeId} {x y : Operand} {k k' : IntKind} {a b : Int} (hx : ev σ x = .v (.int k a)) (hy : ev σ y = .v (.int k' b))
    (h : Exec P X n ops os (mkG gt σ [x, y] [] d (.v (.int k (min a b))) [] :: acc) (σ.put d (.v (.int k (min a b)))) K) : Op1 P X n ops gt ⟨d, .call ⟨.builtin .min, #[x, y], #[t, t']⟩, ty, ps, af, g⟩ os acc σ K :=
  jF (fun M ρ τ a' w he hR => by
    have h1 := zv hR (he x (by simp)) hx
    have h2 := zv hR (he y (by simp)) hy
    have e : (if b < a then b else a) = min a b := by
      rw [Int.min_def]
      split <;> split <;> omega
    refine ⟨.int k (min a b), ?_, .v _ _⟩
    unfold execOp
    simp [resolve, invoke, builtin, h1, h2, Builtin.min_, Builtin.min2, e]) h
end
end Go.Proofs.YtnafokinifbfhaaGreatDoor
