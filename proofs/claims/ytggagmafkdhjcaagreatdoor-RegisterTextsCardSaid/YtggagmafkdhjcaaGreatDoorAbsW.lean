/- A row that is handed to a callee which changes it in place: the row as a box, and back as a row that nobody writes any more; conditions: tables of types that agree with the program's. -/
import Derived.Test.YtggagmafkdhjcaaGreatDoorAbsX
set_option linter.unusedVariables false
set_option linter.unusedSimpArgs false
namespace Go.Proofs.YtggagmafkdhjcaaGreatDoor
open Go Go.RowKit
/-- A box that holds a row's elements, and behind them what nobody knows. -/
def bsC (L J : List AV) : List AV := L.flatMap AV.cells ++ J
theorem lR {L J : List AV} {sz j : Nat} {y : AV} (hsz : ∀ x ∈ L, x.cells.length = sz) (hy : L[j]? = some y) : ((bsC L J).drop (j * sz)).take sz = y.cells ∧ j * sz + sz ≤ (bsC L J).length := by
  have hl := jw hsz
  have hlt := jG hy
  have hc := hsz y (List.mem_of_getElem? hy)
  have hm : j * sz + sz ≤ L.length * sz := by
    have := Nat.mul_le_mul_right sz (show j + 1 ≤ L.length from hlt)
    rw [Nat.add_mul] at this
    omega
  refine ⟨?_, by unfold bsC; rw [List.length_append, hl]; omega⟩
  obtain ⟨A, B, rfl, rfl⟩ : ∃ A B, L = A ++ y :: B ∧ j = A.length := by
    obtain ⟨h1, h2⟩ := List.getElem?_eq_some_iff.1 hy
    exact ⟨L.take j, L.drop (j + 1), by rw [← h2, List.getElem_cons_drop, List.take_append_drop], by rw [List.length_take]; omega⟩
  have hA : (A.flatMap AV.cells).length = A.length * sz := jw fun x hx => hsz x (by simp [hx])
  unfold bsC
  rw [List.flatMap_append, List.flatMap_cons, List.append_assoc, ← hA, List.drop_left, List.append_assoc, ← hc, List.take_left]
theorem vG {L J : List AV} {sz j : Nat} {y x : AV} (hsz : ∀ x ∈ L, x.cells.length = sz) (hy : L[j]? = some y) (hx : x.cells.length = sz) : putL (bsC L J) (j * sz) x.cells = bsC (L.set j x) J := by
  obtain ⟨A, B, rfl, rfl⟩ : ∃ A B, L = A ++ y :: B ∧ j = A.length := by
    obtain ⟨h1, h2⟩ := List.getElem?_eq_some_iff.1 hy
    exact ⟨L.take j, L.drop (j + 1), by rw [← h2, List.getElem_cons_drop, List.take_append_drop], by rw [List.length_take]; omega⟩
  have hA : (A.flatMap AV.cells).length = A.length * sz := jw fun x hx => hsz x (by simp [hx])
  have hc := hsz y (by simp)
  have key : ∀ (xs ys P Q : List AV), xs.length = ys.length → putL (P ++ (ys ++ Q)) P.length xs = P ++ (xs ++ Q) := by
    intro xs
    induction xs with
    | nil => intro ys P Q h; obtain rfl : ys = [] := List.eq_nil_of_length_eq_zero (by simpa using h.symm); rfl
    | cons a xs ih =>
      intro ys P Q h
      match ys, h with
      | b :: ys, h =>
        rw [putL]
        have e : (P ++ (b :: ys ++ Q)).set P.length a = (P ++ [a]) ++ (ys ++ Q) := by simp
        rw [e]
        have := ih ys (P ++ [a]) Q (by simpa using h)
        rw [List.length_append] at this
        simp only [List.length_cons, List.length_nil] at this
        rw [this]
        simp
  unfold bsC
  rw [List.set_append_right _ _ (Nat.le_refl _), Nat.sub_self]
  simp only [List.set_cons_zero, List.flatMap_append, List.flatMap_cons, List.append_assoc]
  rw [← hA]
  exact key x.cells y.cells _ _ (by omega)
section
variable {P : Program} {X : Ctx} {n : Nat} {σ : AS} {Q : Exit → AS → Prop} {c : Code}
/-- An own buffer becomes a box, in some slots. -/
theorem iO {s k e sz : Nat} {L : List AV} (ts : List (Nat × AV)) (hH : σ.H s = ⟨k, .buf e sz L⟩) (hp : 0 < L.length) (hT : ∀ J, RwTs (.own s k) (.bs s (k + 1) sz L.length) ts (σ.hup s ⟨k + 1, .box (bsC L J)⟩))
    (h : ∀ J, (∀ x ∈ J, x = AV.junk) → AWp P X n c Q (tput ts (σ.hup s ⟨k + 1, .box (bsC L J)⟩))) : AWp P X n c Q σ := by
  refine ⟨fun M ρ a w hR => ?_⟩
  have hdead : Rel X n M ρ (σ.hup s ⟨k, .dead⟩) a w := hR.weak ⟨fun _ => .inl rfl, fun s' => by
    simp only [AS.hup]
    by_cases hs' : s' = s
    · subst hs'; rw [Nat.beq_refl]; exact ⟨by rw [hH]; rfl, .inr rfl⟩
    · rw [jS hs']; exact ⟨rfl, .inl rfl⟩⟩
  have hbuf := hR.buf s k e sz L hH
  obtain ⟨u, us, b1, b2, b3, b4, b5, b6⟩ := hbuf
  obtain ⟨b2, b2m⟩ := b2
  rcases b2.2 with ⟨rfl, hn⟩ | ⟨g, cap, cur, rfl, e2, e3, e4, e5, e6, e7⟩
  · omega
  obtain ⟨cl⟩ := cur
  have hMg := b3 g rfl
  have hbs : jC ρ s (σ.H s) = some g := by rw [hH]; simp [jC, b1, vblk]
  have e7' : cl.take (L.length * sz) = us := e7
  have hfl := jw b5
  have hle : us.length ≤ cl.length := by rw [← e7', List.length_take]; omega
  have hkk : ((σ.hup s ⟨k, .dead⟩).H s).k = k := by simp [AS.hup, Nat.beq_refl]
  have hbox := hdead.addBox s g e (cs := bsC L (List.replicate (cl.length - us.length) .junk)) (us := cl) e3 hMg (b2m g rfl) (fun s' hs' => by
    simp only [AS.hup] at hs'
    by_cases he : s' = s
    · subst he; rw [Nat.beq_refl] at hs'; simp [jC] at hs'
    · rw [jS he] at hs'; exact he (hR.sep s' s g hs' hbs)) (by unfold bsC; rw [List.length_append, List.length_replicate, ← b4]; omega) (fun j x z hx hz => by
    unfold bsC at hx
    by_cases hj : j < us.length
    · rw [List.getElem?_append_left (by rw [← b4]; exact hj)] at hx
      refine ((b6 j x z hx ?_).1).mono' (fun _ _ e => e) (fun s k y e => by simp [noρ] at e)
      rw [← e7', List.getElem?_take_of_lt (by rw [← hfl, ← b4]; exact hj)]
      exact hz
    · rw [List.getElem?_append_right (by rw [← b4]; omega)] at hx
      have := List.mem_of_getElem? hx
      rw [List.mem_replicate] at this
      rw [this.2]
      exact .junk _ _)
  rw [hkk] at hbox
  have hup2 : ((σ.hup s ⟨k, .dead⟩).hup s ⟨k + 1, .box (bsC L (List.replicate (cl.length - us.length) .junk))⟩) = σ.hup s ⟨k + 1, .box (bsC L (List.replicate (cl.length - us.length) .junk))⟩ := by
    unfold AS.hup
    congr 1
    funext m
    cases hb : Nat.beq m s <;> simp [hb]
  rw [hup2] at hbox
  refine (h _ (fun x hx => (List.mem_replicate.1 hx).2)).run M _ a w (Rel.rwT (fun u hu => ?_) hbox (hT _))
  have hu' := hu.own_inv
  have hne : updρ ρ s (k + 1) (.pointer (some ⟨g, 0, none⟩)) s k = ρ s k := by
    unfold updρ
    rw [if_neg (by omega)]
  rw [hne, b1] at hu'
  injection hu' with hu'
  subst hu'
  exact .bs _ s (k + 1) sz _ g _ (by simp [updρ]) e4 e5
/-- A box that holds a row becomes a row that nobody writes any more, in some slots. -/
theorem mC {s k sz : Nat} {L J : List AV} (hgs : X.gs = []) (ts : List (Nat × AV)) (hH : σ.H s = ⟨k, .box (bsC L J)⟩) (hsz : ∀ x ∈ L, x.cells.length = sz) (hpos : 0 < sz) (hpu : ∀ x ∈ L, qC x.cells = true) (hm : L.length ≤ maxLen) (hT : RwTs (.bs s k sz L.length) (.sl sz L) ts (σ.hup s ⟨k, .dead⟩))
    (h : AWp P X n c Q (tput ts (σ.hup s ⟨k, .dead⟩))) : AWp P X n c Q σ := by
  refine ⟨fun M ρ a w hR => ?_⟩
  have hdead : Rel X n M ρ (σ.hup s ⟨k, .dead⟩) a w := hR.weak ⟨fun _ => .inl rfl, fun s' => by
    simp only [AS.hup]
    by_cases hs' : s' = s
    · subst hs'; rw [Nat.beq_refl]; exact ⟨by rw [hH]; rfl, .inr rfl⟩
    · rw [jS hs']; exact ⟨rfl, .inl rfl⟩⟩
  obtain ⟨g, t, us, b1, b2, b3, b4, b5, b6⟩ := hR.box s k _ hH
  have hX : X.w0.heap.size ≤ g := by
    rcases b4 with b4 | b4
    · exact b4
    · rw [hgs] at b4; simp at b4
  have hbs : jC ρ s (σ.H s) = some g := by rw [hH]; simp [jC, b1, vblk]
  have hA := hdead.addM (g := g) b2 b3 (.inl hX) (fun s' hs' => by
    simp only [AS.hup] at hs'
    by_cases he : s' = s
    · subst he; rw [Nat.beq_refl] at hs'; simp [jC] at hs'
    · rw [jS he] at hs'; exact he (hR.sep s' s g hs' hbs))
  have hMg : updM M g ⟨us⟩ g = some ⟨us⟩ := by simp [updM]
  refine h.run _ ρ a w (Rel.rwT (fun u hu => ?_) hA hT)
  cases hu with
  | bs _ _ _ _ _ g' c' h1 hc hm' =>
    rw [b1] at h1
    injection h1 with h1
    injection h1 with h1
    injection h1 with h1
    injection h1 with h1
    subst h1
    have hfl := jw hsz
    have hmono : ∀ g' x, M g' = some x → updM M g ⟨us⟩ g' = some x := fun g' x e => by
      unfold updM
      rw [if_neg (by rintro rfl; rw [b3] at e; cases e)]
      exact e
    have hul : (L.flatMap AV.cells).length ≤ us.length := by rw [b5]; unfold bsC; rw [List.length_append]; omega
    refine .sl _ sz L (some ⟨g, 0, none⟩) c' (fun k j => (us[k * sz + j]?).getD undef) hc hm' (fun k x j y hx hy => ?_) (fun k x hx => ?_)
    · have hf := sW (M' := updM M g ⟨us⟩) (us := us) hsz k x j y hx hy
      obtain ⟨z, hz⟩ := yr (L := us) (k := k * sz + j) (by have := jG hf; omega)
      rw [hz]
      have hb := b6 _ y z (by unfold bsC; rw [List.getElem?_append_left (jG hf)]; exact hf) hz
      exact (gA (ρ' := noρ) hb (bU (hpu x (List.mem_of_getElem? hx)) y (List.mem_of_getElem? hy))).mono' hmono (fun _ _ _ e => e)
    · refine ⟨hsz x (List.mem_of_getElem? hx), g, 0, ⟨us⟩, rfl, hMg, fun j hj => ?_⟩
      have hk := jG hx
      have hlt : k * sz + j < L.length * sz := by
        have : (k + 1) * sz ≤ L.length * sz := Nat.mul_le_mul_right _ hk
        rw [Nat.succ_mul] at this
        omega
      obtain ⟨z, hz⟩ := yr (L := us) (k := k * sz + j) (by omega)
      rw [Nat.zero_add, hz]
      simpa using hz
end
section
variable {P : Program} {X : Ctx} {n : Nat} {ops : Array Oper} {os : List Oper} {acc : List Rule} {σ : AS} {K : List Rule → AS → Prop} {gt : List (Nat × AV)} {ty : TypeId} {ps : String} {af : Array Edge} {g : Option (Nat × Bool)} {d : Option Nat} {TB : Tabs} (hTB : TabsOk P TB)
include hTB
theorem pY {t : TypeId} {x : Operand} {s k sz len e : Nat} (hs : lk TB.sle t = some e) (hx : ev σ x = .bs s k sz len)
    (h : Exec P X n ops os (mkG gt σ [x] [] d (.v (.int .i64 len)) [] :: acc) (σ.put d (.v (.int .i64 len))) K) : Op1 P X n ops gt ⟨d, .call ⟨.builtin .len, #[x], #[t]⟩, ty, ps, af, g⟩ os acc σ K :=
  jT (fun M ρ τ a w he hR => by
    have h1 := hR.ev x
    rw [he x (by simp), hx] at h1
    generalize hu : a.eval x = u at h1
    cases h1 with
    | bs _ _ _ _ _ g c e1 hc hm =>
      refine ⟨goInt len, ?_, .v _ _⟩
      unfold execOp
      simp [resolve, invoke, builtin, hu, Builtin.len_, run_underlying (qL hTB hs)]) h
theorem jd {t : TypeId} {x i : Operand} {s k sz sz' len e : Nat} {b : Bool} {kk : IntKind} {z : Int} (hs : lk TB.sle t = some e) (hz : lk TB.ty e = some (b, sz)) (hx : ev σ x = .bs s k sz' len) (hi : ev σ i = .v (.int kk z)) (h0 : 0 ≤ z ∧ z < (len : Int))
    (h : Exec P X n ops os (mkG gt σ [x, i] [] d (.ptr s k (z.toNat * sz)) [] :: acc) (σ.put d (.ptr s k (z.toNat * sz))) K) : Op1 P X n ops gt ⟨d, .indexAddr t x i, ty, ps, af, g⟩ os acc σ K :=
  jT (fun M ρ τ a w he hR => by
    have h1 := hR.ev x
    rw [he x (by simp), hx] at h1
    have h2 := jc hR (he i (by simp)) hi
    generalize hu : a.eval x = u at h1
    cases h1 with
    | bs _ _ _ _ _ g c e1 hc hm =>
      refine ⟨.pointer (some ⟨g, z.toNat * sz, none⟩), ?_, .ptr _ s k _ g e1⟩
      unfold execOp
      simp only [hu, h2, Instr.indexAt, asIntOf, Sem.run_bind, Sem.run_pure, run_underlying (qL hTB hs), Result.andThen_ok, Sem.run_ite, if_pos h0, qZ hTB hz, Addr.add_mid, Nat.zero_add]) h
theorem bB {t : TypeId} {x : Operand} {s k k' off j m : Nat} {L J : List AV} {cs : List AV} (ht : lk TB.ty t = some (true, m)) (hx : ev σ x = .ptr s k off) (hH : σ.H s = ⟨k', .box (bsC L J)⟩) (hk : k = k') (ho : off = j * m) (hsz : ∀ x ∈ L, x.cells.length = m) (hy : L[j]? = some (.ag cs))
    (h : Exec P X n ops os (mkG gt σ [x] [s] d (.ag cs) [] :: acc) (σ.put d (.ag cs)) K) : Op1 P X n ops gt ⟨d, .load t x, ty, ps, af, g⟩ os acc σ K := by
  subst ho
  obtain ⟨h1, h2⟩ := lR (J := J) hsz hy
  exact zj hTB ht hx hH hk h2 (by rw [h1]; exact h)
theorem dX {t : TypeId} {x y : Operand} {s k k' off j m : Nat} {b : Bool} {L J : List AV} {z y0 : AV} (ht : lk TB.ty t = some (b, m)) (hx : ev σ x = .ptr s k off) (hH : σ.H s = ⟨k', .box (bsC L J)⟩) (hk : k = k') (ho : off = j * m) (hsz : ∀ x ∈ L, x.cells.length = m) (hj : L[j]? = some y0) (hz : ev σ y = z) (hl : z.cells.length = m) (hone : jY z.cells = true)
    (h : Exec P X n ops os (mkG gt σ [x, y] [s] none (.v undef) [(s, ⟨k', .box (bsC (L.set j z) J)⟩)] :: acc) (σ.hup s ⟨k', .box (bsC (L.set j z) J)⟩) K) : Op1 P X n ops gt ⟨none, .store t x y, ty, ps, af, g⟩ os acc σ K := by
  subst ho
  obtain ⟨h1, h2⟩ := lR (J := J) hsz hj
  have h3 := vG (J := J) hsz hj hl
  exact oC hTB ht hx hH hk z hz rfl hl h2 hone (by rw [h3]; exact h)
end
/-- A function's law out of a walk of its body, where it is handed no box. -/
theorem lW {P : Program} {TB : Tabs} {G : Nat → Option (List Value)} {f : FuncId} {args : List AV} {r : AV} (hTB : TabsOk P TB) {fn : Func} {c : Code} (he : aT P f) (hf : P.funcs[f]? = some fn) (hb : fn.body = some c) (n : Nat) (hn : fn.ntmps = n) (hle : args.length ≤ n)
    (h : ∀ X : Ctx, X.G = G → X.gs = [] → AWp P X n c (RetQ TB fn 0 r []) (aI args [])) : jD P G f args [] r [] := by
  refine ⟨he, fun M w gs vs hl hG hnd hr hv hrep => ?_⟩
  have hgs : gs = [] := List.eq_nil_of_length_eq_zero hr.len
  subst hgs
  refine calls_of_wp hf hb ?_
  rw [hn]
  have hR := fI (n := n) hl hG hnd hr hv hrep hle
  refine wp_mono ((h ⟨w, [], [], G, M⟩ rfl rfl).run M (refρ []) _ w hR) ?_
  rintro e a' w' ⟨M', ρ', σ', hR', hQ⟩
  exact fL hTB hnd hl (by simp) hR' hQ
def PJ (c : List AV) : Prop := ∀ x ∈ c, eD x = true ∨ x = .junk
theorem cC {B : Nat → Nat → Nat → List AV → Prop} {π : Nat → Option (Nat × Nat)} : ∀ {cs : List AV}, PJ cs → RenL B π cs cs
  | [], _ => trivial
  | x :: cs, h => by
    refine ⟨?_, cC fun y hy => h y (List.mem_cons_of_mem _ hy)⟩
    rcases h x (List.mem_cons_self) with hx | rfl
    · cases x <;> first | exact .v _ | exact .sl _ _ | exact .ep _ | cases hx | (rename_i f cs; cases cs <;> first | exact .fn _ _ _ rfl (fun j x u hj => by simp at hj) | cases hx)
    · exact .junk _
theorem lJ {π : Nat → Option (Nat × Nat)} : ∀ {cs : List AV}, PJ cs → aH π cs cs
  | [], _ => trivial
  | x :: cs, h => by
    refine ⟨?_, lJ fun y hy => h y (List.mem_cons_of_mem _ hy)⟩
    rcases h x (List.mem_cons_self) with hx | rfl
    · cases x <;> first | exact .v _ | exact .sl _ _ | exact .ep _ | cases hx | (rename_i f cs; cases cs <;> first | exact .fn _ _ _ rfl (fun j x u hj => by simp at hj) | cases hx)
    · exact .junk _
theorem qw {L J : List AV} (hL : ∀ x ∈ L, qC x.cells = true) (hJ : ∀ x ∈ J, x = AV.junk) : PJ (bsC L J) := fun x hx => by
  rcases List.mem_append.1 hx with hx | hx
  · obtain ⟨y, hy, hx⟩ := List.mem_flatMap.1 hx
    exact .inl (bU (hL y hy) x hx)
  · exact .inr (hJ x hx)
theorem eJ {π : Nat → Option (Nat × Nat)} {c : List AV} (h : PJ c) : qb π [c] [c] := ⟨lJ h, trivial⟩
theorem mV {σ : AS} {π : Nat → Option (Nat × Nat)} {s k : Nat} {c : List AV} (hH : σ.H s = ⟨k, .box c⟩) (h : PJ c) : qk σ π [(s, k)] [c] := ⟨⟨c, hH, cC h⟩, trivial⟩
section
variable {P : Program} {X : Ctx} {n : Nat} {ops : Array Oper} {os : List Oper} {acc : List Rule} {σ : AS} {K : List Rule → AS → Prop} {gt : List (Nat × AV)} {ty : TypeId} {ps : String} {af : Array Edge} {g : Option (Nat × Bool)}
end
end Go.Proofs.YtggagmafkdhjcaaGreatDoor
