/- A slice of numbers of any kind that came in, as an immutable slice of the abstract machine; nothing of the program stands here / A row that is handed to a callee which changes it in place: the row as a box, and back as a row that nobody writes any more; conditions: tables of types that agree with the program's. -/
import Derived.Test.YtggagmafkdhjcaaGreatDoorOpen
import Derived.Test.YtggagmafkdhjcaaGreatDoorAbsX
set_option linter.unusedVariables false
set_option linter.unusedSimpArgs false
namespace Go.Proofs.YtggagmafkdhjcaaGreatDoor
open Go Go.ChangeShapes Go.WideShapes Go.ChangeAt Go.RowKit
section
variable {H : Type} {enc : TypeId × Value → H} {P : Program}
end
end Go.Proofs.YtggagmafkdhjcaaGreatDoor
namespace Go.Proofs.YtggagmafkdhjcaaGreatDoor
open Go Go.RowKit
/-- A box that holds a row's elements, and behind them what nobody knows. -/
def bsC (L J : List AV) : List AV := L.flatMap AV.cells ++ J
section
variable {P : Program} {X : Ctx} {n : Nat} {σ : AS} {Q : Exit → AS → Prop} {c : Code}
/-- An own buffer becomes a box, in some slots. -/
theorem awp_buf_box {s k e sz : Nat} {L : List AV} (ts : List (Nat × AV)) (hH : σ.H s = ⟨k, .buf e sz L⟩) (hp : 0 < L.length) (hT : ∀ J, RwTs (.own s k) (.bs s (k + 1) sz L.length) ts (σ.hup s ⟨k + 1, .box (bsC L J)⟩))
    (h : ∀ J, (∀ x ∈ J, x = AV.junk) → AWp P X n c Q (tput ts (σ.hup s ⟨k + 1, .box (bsC L J)⟩))) : AWp P X n c Q σ := by
  refine ⟨fun M ρ a w hR => ?_⟩
  have hdead : Rel X n M ρ (σ.hup s ⟨k, .dead⟩) a w := hR.weak ⟨fun _ => .inl rfl, fun s' => by
    simp only [AS.hup]
    by_cases hs' : s' = s
    · subst hs'; rw [Nat.beq_refl]; exact ⟨by rw [hH]; rfl, .inr rfl⟩
    · rw [beq_ne hs']; exact ⟨rfl, .inl rfl⟩⟩
  have hbuf := hR.buf s k e sz L hH
  obtain ⟨u, us, b1, b2, b3, b4, b5, b6⟩ := hbuf
  obtain ⟨b2, b2m⟩ := b2
  rcases b2.2 with ⟨rfl, hn⟩ | ⟨g, cap, cur, rfl, e2, e3, e4, e5, e6, e7⟩
  · omega
  obtain ⟨cl⟩ := cur
  have hMg := b3 g rfl
  have hbs : blkOf ρ s (σ.H s) = some g := by rw [hH]; simp [blkOf, b1, vblk]
  have e7' : cl.take (L.length * sz) = us := e7
  have hfl := flat_len' b5
  have hle : us.length ≤ cl.length := by rw [← e7', List.length_take]; omega
  have hkk : ((σ.hup s ⟨k, .dead⟩).H s).k = k := by simp [AS.hup, Nat.beq_refl]
  have hbox := hdead.addBox s g e (cs := bsC L (List.replicate (cl.length - us.length) .junk)) (us := cl) e3 hMg (b2m g rfl) (fun s' hs' => by
    simp only [AS.hup] at hs'
    by_cases he : s' = s
    · subst he; rw [Nat.beq_refl] at hs'; simp [blkOf] at hs'
    · rw [beq_ne he] at hs'; exact he (hR.sep s' s g hs' hbs)) (by unfold bsC; rw [List.length_append, List.length_replicate, ← b4]; omega) (fun j x z hx hz => by
    unfold bsC at hx
    by_cases hj : j < us.length
    · rw [List.getElem?_append_left (by rw [← b4]; exact hj)] at hx
      refine ((b6 j x z hx ?_).1).mono' (fun _ _ e => e) (fun s k y e => by simp [noρ] at e)
      rw [← e7', List.getElem?_take_of_lt (by rw [← hfl, ← b4]; exact hj)]
      exact hz
    · rw [List.getElem?_append_right (by rw [← b4]; omega)] at hx
      have := List.mem_of_getElem? hx
      rw [List.mem_replicate] at this
      rw [this.2]
      exact .junk _ _)
  rw [hkk] at hbox
  have hup2 : ((σ.hup s ⟨k, .dead⟩).hup s ⟨k + 1, .box (bsC L (List.replicate (cl.length - us.length) .junk))⟩) = σ.hup s ⟨k + 1, .box (bsC L (List.replicate (cl.length - us.length) .junk))⟩ := by
    unfold AS.hup
    congr 1
    funext m
    cases hb : Nat.beq m s <;> simp [hb]
  rw [hup2] at hbox
  refine (h _ (fun x hx => (List.mem_replicate.1 hx).2)).run M _ a w (Rel.rwT (fun u hu => ?_) hbox (hT _))
  have hu' := hu.own_inv
  have hne : updρ ρ s (k + 1) (.pointer (some ⟨g, 0, none⟩)) s k = ρ s k := by
    unfold updρ
    rw [if_neg (by omega)]
  rw [hne, b1] at hu'
  injection hu' with hu'
  subst hu'
  exact .bs _ s (k + 1) sz _ g _ (by simp [updρ]) e4 e5
/-- A box that holds a row becomes a row that nobody writes any more, in some slots. -/
theorem awp_box_sl {s k sz : Nat} {L J : List AV} (hgs : X.gs = []) (ts : List (Nat × AV)) (hH : σ.H s = ⟨k, .box (bsC L J)⟩) (hsz : ∀ x ∈ L, x.cells.length = sz) (hpos : 0 < sz) (hpu : ∀ x ∈ L, pureL x.cells = true) (hm : L.length ≤ maxLen) (hT : RwTs (.bs s k sz L.length) (.sl sz L) ts (σ.hup s ⟨k, .dead⟩))
    (h : AWp P X n c Q (tput ts (σ.hup s ⟨k, .dead⟩))) : AWp P X n c Q σ := by
  refine ⟨fun M ρ a w hR => ?_⟩
  have hdead : Rel X n M ρ (σ.hup s ⟨k, .dead⟩) a w := hR.weak ⟨fun _ => .inl rfl, fun s' => by
    simp only [AS.hup]
    by_cases hs' : s' = s
    · subst hs'; rw [Nat.beq_refl]; exact ⟨by rw [hH]; rfl, .inr rfl⟩
    · rw [beq_ne hs']; exact ⟨rfl, .inl rfl⟩⟩
  obtain ⟨g, t, us, b1, b2, b3, b4, b5, b6⟩ := hR.box s k _ hH
  have hX : X.w0.heap.size ≤ g := by
    rcases b4 with b4 | b4
    · exact b4
    · rw [hgs] at b4; simp at b4
  have hbs : blkOf ρ s (σ.H s) = some g := by rw [hH]; simp [blkOf, b1, vblk]
  have hA := hdead.addM (g := g) b2 b3 (.inl hX) (fun s' hs' => by
    simp only [AS.hup] at hs'
    by_cases he : s' = s
    · subst he; rw [Nat.beq_refl] at hs'; simp [blkOf] at hs'
    · rw [beq_ne he] at hs'; exact he (hR.sep s' s g hs' hbs))
  have hMg : updM M g ⟨us⟩ g = some ⟨us⟩ := by simp [updM]
  refine h.run _ ρ a w (Rel.rwT (fun u hu => ?_) hA hT)
  cases hu with
  | bs _ _ _ _ _ g' c' h1 hc hm' =>
    rw [b1] at h1
    injection h1 with h1
    injection h1 with h1
    injection h1 with h1
    injection h1 with h1
    subst h1
    have hfl := flat_len' hsz
    have hmono : ∀ g' x, M g' = some x → updM M g ⟨us⟩ g' = some x := fun g' x e => by
      unfold updM
      rw [if_neg (by rintro rfl; rw [b3] at e; cases e)]
      exact e
    have hul : (L.flatMap AV.cells).length ≤ us.length := by rw [b5]; unfold bsC; rw [List.length_append]; omega
    refine .sl _ sz L (some ⟨g, 0, none⟩) c' (fun k j => (us[k * sz + j]?).getD undef) hc hm' (fun k x j y hx hy => ?_) (fun k x hx => ?_)
    · have hf := buf_at (M' := updM M g ⟨us⟩) (us := us) hsz k x j y hx hy
      obtain ⟨z, hz⟩ := some_at (L := us) (k := k * sz + j) (by have := lt_at hf; omega)
      rw [hz]
      have hb := b6 _ y z (by unfold bsC; rw [List.getElem?_append_left (lt_at hf)]; exact hf) hz
      exact (rep_pure1 (ρ' := noρ) hb (pureL_at (hpu x (List.mem_of_getElem? hx)) y (List.mem_of_getElem? hy))).mono' hmono (fun _ _ _ e => e)
    · refine ⟨hsz x (List.mem_of_getElem? hx), g, 0, ⟨us⟩, rfl, hMg, fun j hj => ?_⟩
      have hk := lt_at hx
      have hlt : k * sz + j < L.length * sz := by
        have : (k + 1) * sz ≤ L.length * sz := Nat.mul_le_mul_right _ hk
        rw [Nat.succ_mul] at this
        omega
      obtain ⟨z, hz⟩ := some_at (L := us) (k := k * sz + j) (by omega)
      rw [Nat.zero_add, hz]
      simpa using hz
end
section
variable {P : Program} {X : Ctx} {n : Nat} {ops : Array Oper} {os : List Oper} {acc : List Rule} {σ : AS} {K : List Rule → AS → Prop} {gt : List (Nat × AV)} {ty : TypeId} {ps : String} {af : Array Edge} {g : Option (Nat × Bool)} {d : Option Nat} {TB : Tabs} (hTB : TabsOk P TB)
include hTB
end
/-- A function's law out of a walk of its body, where it is handed no box. -/
theorem acalls_of0 {P : Program} {TB : Tabs} {G : Nat → Option (List Value)} {f : FuncId} {args : List AV} {r : AV} (hTB : TabsOk P TB) {fn : Func} {c : Code} (he : Enter P f) (hf : P.funcs[f]? = some fn) (hb : fn.body = some c) (n : Nat) (hn : fn.ntmps = n) (hle : args.length ≤ n)
    (h : ∀ X : Ctx, X.G = G → X.gs = [] → AWp P X n c (RetQ TB fn 0 r []) (start0 args [])) : ACalls P G f args [] r [] := by
  refine ⟨he, fun M w gs vs hl hG hnd hr hv hrep => ?_⟩
  have hgs : gs = [] := List.eq_nil_of_length_eq_zero hr.len
  subst hgs
  refine calls_of_wp hf hb ?_
  rw [hn]
  have hR := start_rel (n := n) hl hG hnd hr hv hrep hle
  refine wp_mono ((h ⟨w, [], [], G, M⟩ rfl rfl).run M (refρ []) _ w hR) ?_
  rintro e a' w' ⟨M', ρ', σ', hR', hQ⟩
  exact retQ_post hTB hnd hl (by simp) hR' hQ
def PJ (c : List AV) : Prop := ∀ x ∈ c, pure1 x = true ∨ x = .junk
theorem renl_pj {B : Nat → Nat → Nat → List AV → Prop} {π : Nat → Option (Nat × Nat)} : ∀ {cs : List AV}, PJ cs → RenL B π cs cs
  | [], _ => trivial
  | x :: cs, h => by
    refine ⟨?_, renl_pj fun y hy => h y (List.mem_cons_of_mem _ hy)⟩
    rcases h x (List.mem_cons_self) with hx | rfl
    · cases x <;> first | exact .v _ | exact .sl _ _ | exact .ep _ | cases hx | (rename_i f cs; cases cs <;> first | exact .fn _ _ _ rfl (fun j x u hj => by simp at hj) | cases hx)
    · exact .junk _
theorem renbl_pj {π : Nat → Option (Nat × Nat)} : ∀ {cs : List AV}, PJ cs → RenBL π cs cs
  | [], _ => trivial
  | x :: cs, h => by
    refine ⟨?_, renbl_pj fun y hy => h y (List.mem_cons_of_mem _ hy)⟩
    rcases h x (List.mem_cons_self) with hx | rfl
    · cases x <;> first | exact .v _ | exact .sl _ _ | exact .ep _ | cases hx | (rename_i f cs; cases cs <;> first | exact .fn _ _ _ rfl (fun j x u hj => by simp at hj) | cases hx)
    · exact .junk _
theorem bsC_pj {L J : List AV} (hL : ∀ x ∈ L, pureL x.cells = true) (hJ : ∀ x ∈ J, x = AV.junk) : PJ (bsC L J) := fun x hx => by
  rcases List.mem_append.1 hx with hx | hx
  · obtain ⟨y, hy, hx⟩ := List.mem_flatMap.1 hx
    exact .inl (pureL_at (hL y hy) x hx)
  · exact .inr (hJ x hx)
theorem back1_pj {π : Nat → Option (Nat × Nat)} {c : List AV} (h : PJ c) : RefsBack π [c] [c] := ⟨renbl_pj h, trivial⟩
theorem in1_pj {σ : AS} {π : Nat → Option (Nat × Nat)} {s k : Nat} {c : List AV} (hH : σ.H s = ⟨k, .box c⟩) (h : PJ c) : RefsIn σ π [(s, k)] [c] := ⟨⟨c, hH, renl_pj h⟩, trivial⟩
section
variable {P : Program} {X : Ctx} {n : Nat} {ops : Array Oper} {os : List Oper} {acc : List Rule} {σ : AS} {K : List Rule → AS → Prop} {gt : List (Nat × AV)} {ty : TypeId} {ps : String} {af : Array Edge} {g : Option (Nat × Bool)}
end
end Go.Proofs.YtggagmafkdhjcaaGreatDoor
