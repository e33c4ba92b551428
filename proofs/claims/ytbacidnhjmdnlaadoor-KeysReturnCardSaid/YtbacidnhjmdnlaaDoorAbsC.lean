/- A region that draws its order: its walk in the text's order is sound for each order; loops; nothing of the program stands here; conditions: none. -/
import Derived.Test.YtbacidnhjmdnlaaDoorAbsB
set_option linter.unusedVariables false
set_option linter.unusedSimpArgs false
namespace Go.Proofs.YtbacidnhjmdnlaaDoor
open Go Go.RowKit
theorem as_ext {σ τ : AS} (h1 : ∀ t, σ.T t = τ.T t) (h2 : ∀ s, σ.H s = τ.H s) : σ = τ := by
  cases σ; cases τ
  simp only [AS.mk.injEq]
  exact ⟨funext h1, funext h2⟩
theorem apart_T {r q : Rule} (h : apart r q = true) {t : Nat} {y : AV} (hw : r.wT t = some y) : t ∉ q.tr.map (·.1) ∧ q.wT t = none := by
  unfold apart at h
  simp only [Bool.and_eq_true] at h
  have hm := wT_mem hw
  refine ⟨fun hx => disj_at h.1.1.1 hm (List.mem_append_left _ hx), ?_⟩
  cases hq : q.wT t with
  | none => rfl
  | some z => exact (disj_at h.1.1.1 hm (List.mem_append_right _ (wT_mem hq))).elim
theorem apart_T' {r q : Rule} (h : apart r q = true) {t : Nat} {y : AV} (hw : q.wT t = some y) : t ∉ r.tr.map (·.1) ∧ r.wT t = none := by
  unfold apart at h
  simp only [Bool.and_eq_true] at h
  have hm := wT_mem hw
  refine ⟨fun hx => disj_at h.1.1.2 hm hx, ?_⟩
  cases hq : r.wT t with
  | none => rfl
  | some z => exact (disj_at h.1.1.1 (wT_mem hq) (List.mem_append_right _ hm)).elim
theorem apart_H {r q : Rule} (h : apart r q = true) {s : Nat} {y : HC} (hw : lastH r.hw s = some y) : s ∉ q.hr.map (·.1) ∧ lastH q.hw s = none := by
  unfold apart at h
  simp only [Bool.and_eq_true] at h
  have hm := lastH_mem hw
  refine ⟨fun hx => disj_at h.1.2 hm (List.mem_append_left _ hx), ?_⟩
  cases hq : lastH q.hw s with
  | none => rfl
  | some z => exact (disj_at h.1.2 hm (List.mem_append_right _ (lastH_mem hq))).elim
theorem apart_H' {r q : Rule} (h : apart r q = true) {s : Nat} {y : HC} (hw : lastH q.hw s = some y) : s ∉ r.hr.map (·.1) ∧ lastH r.hw s = none := by
  unfold apart at h
  simp only [Bool.and_eq_true] at h
  have hm := lastH_mem hw
  refine ⟨fun hx => disj_at h.2 hm hx, ?_⟩
  cases hq : lastH r.hw s with
  | none => rfl
  | some z => exact (disj_at h.1.2 (lastH_mem hq) (List.mem_append_right _ hm)).elim
section
variable {P : Program} {X : Ctx} {n : Nat} {ops : Array Oper} {rs : List Rule} {σ : AS} {Q : Exit → Act → World → Prop}
/-- An operation that is ready fires where some of those that stand before it, and some behind it that are not ordered with it, have been taken. -/
theorem fires_D {D : Nat → Bool} (hl : rs.length = ops.size) (hind : indepB ops.toList rs = true) {i : Nat} {r : Rule} (hr : rs[i]? = some r) (hf : r.fires (runR (rs.take i) σ))
    (hpre : ∀ m, Pre ops m i → D m = true) (hD : D i = false) (hdown : ∀ m j, Pre ops m j → D j = true → D m = true) : r.fires (runN rs D σ ops.size) := by
  have hi : i < ops.size := by have := lt_at hr; omega
  rw [← runN_take rs (fun _ => true) σ i fun _ _ => rfl] at hf
  constructor
  · intro p hp
    have h1 := hf.1 p hp
    rw [runN_T] at h1 ⊢
    rw [← h1]
    rw [valN_none (i := i) (by omega) (fun j h2 h3 => by
      cases hj : D j
      · rfl
      · simp only [cond_true]
        cases hq : rs[j]? with
        | none => rfl
        | some q =>
          simp only [Option.bind_some]
          cases hw : q.wT p.1 with
          | none => rfl
          | some y =>
            exfalso
            have hne : i ≠ j := by rintro rfl; rw [hD] at hj; cases hj
            rcases indep_at hind hr hq (by omega) with h4 | h4
            · rw [hdown i j h4 hj] at hD; cases hD
            · exact (apart_T' h4 hw).1 (List.mem_map_of_mem hp))]
    refine valN_congr fun j hj => ?_
    simp only [cond_true]
    cases hq : rs[j]? with
    | none => cases D j <;> rfl
    | some q =>
      cases hw : q.wT p.1 with
      | none => cases D j <;> simp [hw]
      | some y =>
        rcases indep_at hind hq hr hj with h4 | h4
        · rw [hpre j h4]; rfl
        · exact absurd (List.mem_map_of_mem hp) (apart_T h4 hw).1
  · intro p hp
    have h1 := hf.2 p hp
    rw [runN_H] at h1 ⊢
    rw [← h1]
    rw [valN_none (i := i) (by omega) (fun j h2 h3 => by
      cases hj : D j
      · rfl
      · simp only [cond_true]
        cases hq : rs[j]? with
        | none => rfl
        | some q =>
          simp only [Option.bind_some]
          cases hw : lastH q.hw p.1 with
          | none => rfl
          | some y =>
            exfalso
            have hne : i ≠ j := by rintro rfl; rw [hD] at hj; cases hj
            rcases indep_at hind hr hq (by omega) with h4 | h4
            · rw [hdown i j h4 hj] at hD; cases hD
            · exact (apart_H' h4 hw).1 (List.mem_map_of_mem hp))]
    refine valN_congr fun j hj => ?_
    simp only [cond_true]
    cases hq : rs[j]? with
    | none => cases D j <;> rfl
    | some q =>
      cases hw : lastH q.hw p.1 with
      | none => cases D j <;> simp [hw]
      | some y =>
        rcases indep_at hind hq hr hj with h4 | h4
        · rw [hpre j h4]; rfl
        · exact absurd (List.mem_map_of_mem hp) (apart_H h4 hw).1
theorem apply_D {D : Nat → Bool} (hl : rs.length = ops.size) (hind : indepB ops.toList rs = true) {i : Nat} {r : Rule} (hr : rs[i]? = some r)
    (hD : D i = false) (hdown : ∀ m j, Pre ops m j → D j = true → D m = true) : r.apply (runN rs D σ ops.size) = runN rs (fun j => Nat.beq j i || D j) σ ops.size := by
  have hi : i < ops.size := by have := lt_at hr; omega
  have hself : Nat.beq i i = true := Nat.beq_refl i
  have hlate : ∀ j, i < j → D j = true → ∀ q, rs[j]? = some q → apart r q = true := fun j h1 hj q hq => by
    rcases indep_at hind hr hq h1 with h4 | h4
    · rw [hdown i j h4 hj] at hD; cases hD
    · exact h4
  refine as_ext (fun t => ?_) (fun s => ?_)
  · rw [apply_T, runN_T, runN_T]
    cases hw : r.wT t with
    | some y =>
      refine (valN_some (i := i) hi (by simp only [hself, Bool.true_or, cond_true, hr, Option.bind_some]; exact hw) (fun j h1 h2 => ?_)).symm
      rw [show Nat.beq j i = false from beq_ne (by omega), Bool.false_or]
      cases hj : D j
      · rfl
      · simp only [cond_true]
        cases hq : rs[j]? with
        | none => rfl
        | some q => exact (apart_T (hlate j h1 hj q hq) hw).2
    | none =>
      refine valN_congr fun j hj => ?_
      by_cases he : j = i
      · subst he
        simp only [hD, hself, Bool.true_or, cond_true, cond_false, hr, Option.bind_some, hw]
      · rw [beq_ne he, Bool.false_or]
  · rw [apply_H, runN_H, runN_H]
    cases hw : lastH r.hw s with
    | some y =>
      refine (valN_some (i := i) hi (by simp only [hself, Bool.true_or, cond_true, hr, Option.bind_some]; exact hw) (fun j h1 h2 => ?_)).symm
      rw [show Nat.beq j i = false from beq_ne (by omega), Bool.false_or]
      cases hj : D j
      · rfl
      · simp only [cond_true]
        cases hq : rs[j]? with
        | none => rfl
        | some q => exact (apart_H (hlate j h1 hj q hq) hw).2
    | none =>
      refine valN_congr fun j hj => ?_
      by_cases he : j = i
      · subst he
        simp only [hD, hself, Bool.true_or, cond_true, cond_false, hr, Option.bind_some, hw]
      · rw [beq_ne he, Bool.false_or]
def leftN (l : List Bool) : Nat := l.countP (fun b => !b)
theorem leftN_set : ∀ (l : List Bool) (i : Nat), l[i]? = some false → leftN (l.set i true) + 1 = leftN l
  | [], i, h => by simp at h
  | b :: l, 0, h => by
    simp at h
    subst h
    simp [leftN, List.countP_cons]
  | b :: l, i + 1, h => by
    have := leftN_set l i (by simpa using h)
    simp only [leftN, List.set_cons_succ, List.countP_cons] at this ⊢
    omega
theorem leftN_zero : ∀ (l : List Bool), leftN l = 0 → ∀ i, i < l.length → l[i]? = some true
  | [], _, i, h => by simp at h
  | b :: l, h0, i, hi => by
    simp only [leftN, List.countP_cons] at h0
    cases b
    · simp at h0
    · cases i with
      | zero => rfl
      | succ i => simpa using leftN_zero l (by simpa [leftN] using h0) i (by simpa using hi)
theorem all_listed (hl : rs.length = ops.size) (hind : indepB ops.toList rs = true) {listed : Array Bool} (hs : listed.size = ops.size) (hr : Region.ready .any ops listed = []) :
    ∀ j, j < ops.size → listed.getD j false = true := by
  intro j
  induction j using Nat.strongRecOn with
  | _ j ih =>
    intro hj
    cases hc : listed.getD j false with
    | true => rfl
    | false =>
      exfalso
      have hm : j ∈ Region.ready .any ops listed := by
        rw [mem_ready]
        refine ⟨?_, ops[j], Array.getElem?_eq_getElem hj, fun e he hb => ?_⟩
        · simp only [Array.getD] at hc ⊢
          rw [dif_pos (by omega)] at hc ⊢
          exact hc
        · have := back_at hind (Array.getElem?_eq_getElem hj) he hb
          exact ih e.on this (by omega)
      rw [hr] at hm
      cases hm
theorem any_of (hl : rs.length = ops.size) (hd : dstsB n ops.toList = true) (hind : indepB ops.toList rs = true)
    (hr : ∀ i o, ops[i]? = some o → ∃ r, rs[i]? = some r ∧ RuleG P X n ops o r ∧ r.fires (runR (rs.take i) σ))
    (hQ : ∀ M ρ a w, Rel X n M ρ (runR rs σ) a w → Q .normal a w) :
    ∀ (fuel : Nat) (listed : Array Bool), listed.size = ops.size → leftN listed.toList ≤ fuel → (∀ m j, Pre ops m j → listed.getD j false = true → listed.getD m false = true) →
      ∀ M ρ a w, Rel X n M ρ (runN rs (fun j => listed.getD j false) σ ops.size) a w → wpAny P .any ops Q fuel listed a w := by
  have hdone : ∀ (listed : Array Bool), listed.size = ops.size → Region.ready .any ops listed = [] → ∀ M ρ a w, Rel X n M ρ (runN rs (fun j => listed.getD j false) σ ops.size) a w → Q .normal a w := by
    intro listed hs h0 M ρ a w hR
    rw [runN_take rs _ σ ops.size (fun j hj => all_listed hl hind hs h0 j hj), List.take_of_length_le (by omega)] at hR
    exact hQ M ρ a w hR
  intro fuel
  induction fuel with
  | zero =>
    intro listed hs hn hdown M ρ a w hR
    have hall : Region.ready .any ops listed = [] := by
      rw [List.eq_nil_iff_forall_not_mem]
      intro j hj
      rw [mem_ready] at hj
      obtain ⟨h1, o, ho, _⟩ := hj
      have hlt : j < ops.size := (Array.getElem?_eq_some_iff.1 ho).1
      have h2 := leftN_zero listed.toList (by omega) j (by simpa using (by omega))
      simp only [Array.getD] at h1
      rw [dif_pos (by omega)] at h1
      simp at h2
      rw [Array.getElem?_eq_getElem (by omega)] at h2
      injection h2 with h2
      simp [h2] at h1
    exact ⟨hall, hdone listed hs hall M ρ a w hR⟩
  | succ fuel ih =>
    intro listed hs hn hdown M ρ a w hR
    refine ⟨fun h0 => hdone listed hs h0 M ρ a w hR, fun i hi => ?_⟩
    rw [mem_ready] at hi
    obtain ⟨h1, o, ho, hpr⟩ := hi
    have hlt : i < ops.size := (Array.getElem?_eq_some_iff.1 ho).1
    have hDi : listed.getD i false = false := by
      simp only [Array.getD] at h1 ⊢
      rw [dif_pos (by omega)] at h1 ⊢
      exact h1
    have hpre : ∀ m, Pre ops m i → listed.getD m false = true := by
      intro m hm
      cases hm with
      | one ho' he hb hi' =>
        rw [ho] at ho'; injection ho' with ho'; subst ho'
        rw [← hi']; exact hpr _ he hb
      | more hp ho' he hb hi' =>
        rw [ho] at ho'; injection ho' with ho'; subst ho'
        exact hdown _ _ hp (by rw [← hi']; exact hpr _ he hb)
    obtain ⟨r, hri, hG, hf⟩ := hr i o ho
    have hfi := fires_D (D := fun j => listed.getD j false) hl hind hri hf hpre hDi hdown
    have hap := apply_D (D := fun j => listed.getD j false) (σ := σ) hl hind hri hDi hdown
    have hset : ∀ j, (listed.setIfInBounds i true).getD j false = (Nat.beq j i || listed.getD j false) := by
      intro j
      by_cases he : j = i
      · subst he
        rw [Nat.beq_refl]
        simp [hs, hlt]
      · rw [beq_ne he, getD_set_ne false (Ne.symm he), Bool.false_or]
    have hcount : leftN (listed.setIfInBounds i true).toList ≤ fuel := by
      have h3 : listed.toList[i]? = some false := by
        simp only [Array.getD] at hDi
        rw [dif_pos (by omega)] at hDi
        simp
        rw [Array.getElem?_eq_getElem (by omega)]
        exact congrArg some hDi
      have := leftN_set listed.toList i h3
      rw [Array.toList_setIfInBounds]
      omega
    have hdown' : ∀ m j, Pre ops m j → (listed.setIfInBounds i true).getD j false = true → (listed.setIfInBounds i true).getD m false = true := by
      intro m j hp hj
      rw [hset] at hj ⊢
      rw [Bool.or_eq_true] at hj ⊢
      rcases hj with hj | hj
      · rw [Nat.eq_of_beq_eq_true hj] at hp
        exact .inr (hpre m hp)
      · exact .inr (hdown m j hp hj)
    have := hG (dstsB_at hd ho) M ρ _ a w hfi hR (wpAny P .any ops Q fuel (listed.setIfInBounds i true)) Q (fun M' ρ' a' w' hh => by
      refine ih _ (by simpa using hs) hcount hdown' M' ρ' a' w' ?_
      rw [show (fun j => (listed.setIfInBounds i true).getD j false) = fun j => (Nat.beq j i || listed.getD j false) from funext hset, ← hap]
      exact hh)
    unfold wpOp
    rw [ho]
    simp only
    split
    · rename_i hw; rw [if_pos hw] at this; exact .inl this
    · rename_i hw; rw [if_neg hw] at this; exact this
end
section
variable {P : Program} {X : Ctx} {n : Nat} {σ : AS} {Q : Exit → AS → Prop}
theorem Rel.drawn {M : Nat → Option (Array Value)} {ρ : Nat → Nat → Option Value} {a : Act} {w : World} (h : Rel X n M ρ σ a w) (k : Nat) : Rel X n M ρ σ a { w with drawn := k } :=
  ⟨h.live, h.sz, h.tm, h.box, h.buf, h.sep, h.fresh, h.glob, h.base, h.root, h.os, h.tape, h.output, h.size, h.frame, h.df⟩
theorem awp_draw {id : Nat} {ops : Array Oper} (hm : P.follows .mixedOrders = true) (hd : dstsB n ops.toList = true) (h : Exec P X n ops ops.toList [] σ (fun rs τ => indepB ops.toList rs = true ∧ Q .normal τ)) : AWp P X n (.region id ops true) Q σ := by
  refine ⟨?_⟩
  intro M ρ a w hR
  obtain ⟨rs, hl, _, hr, hind, hK⟩ := Exec0.rules ops.toList [] σ h.run
  simp at hl hr
  refine wp_region_any hm ?_
  refine any_of (X := X) (rs := rs) (σ := σ) hl hd hind (fun i o ho => hr i o ho) (fun M' ρ' a' w' hh => ⟨M', ρ', _, hh, hK⟩) ops.size _ (by simp) (by simp [leftN]; exact Nat.le_trans List.countP_le_length (by simp)) (fun m j _ h => by simp [Array.getD] at h) M ρ a _ ?_
  have : runN rs (fun j => (Array.replicate ops.size false).getD j false) σ ops.size = σ := by
    have : ∀ m, runN rs (fun j => (Array.replicate ops.size false).getD j false) σ m = σ := by
      intro m
      induction m with
      | zero => rfl
      | succ m ih =>
        rw [runN, ih]
        have h0 : (Array.replicate ops.size false).getD m false = false := by simp [Array.getD]
        rw [h0]
        cases rs[m]? <;> rfl
    exact this _
  rw [this]
  exact hR.drawn _
/-- What is less known is less. -/
def Wk (σ τ : AS) : Prop := (∀ t, τ.T t = σ.T t ∨ τ.T t = .junk) ∧ ∀ s, (τ.H s).k = (σ.H s).k ∧ ((τ.H s).c = (σ.H s).c ∨ (τ.H s).c = .dead)
theorem Rel.weak {M : Nat → Option (Array Value)} {ρ : Nat → Nat → Option Value} {a : Act} {w : World} {τ : AS} (h : Rel X n M ρ σ a w) (hw : Wk σ τ) : Rel X n M ρ τ a w := by
  have hH : ∀ s, τ.H s = σ.H s ∨ τ.H s = ⟨(σ.H s).k, .dead⟩ := fun s => by
    obtain ⟨h1, h2⟩ := hw.2 s
    rcases h2 with h2 | h2
    · left; cases hx : τ.H s; cases hy : σ.H s; rw [hx, hy] at h1 h2; simp at h1 h2; rw [h1, h2]
    · right; cases hx : τ.H s; rw [hx] at h1 h2; simp at h1 h2; rw [h1, h2]
  refine ⟨h.live, h.sz, fun i => ?_, fun s k cs e => ?_, fun s k e' sz L e => ?_, fun s s' g e e' => ?_, fun s k hk => ?_, h.glob, h.base, h.root, h.os, h.tape, h.output, h.size, h.frame, h.df⟩
  · rcases hw.1 i with e | e
    · rw [e]; exact h.tm i
    · rw [e]; exact .junk _ _
  · rcases hH s with e1 | e1
    · exact h.box s k cs (by rw [← e1]; exact e)
    · rw [e1] at e; injection e with _ e; cases e
  · rcases hH s with e1 | e1
    · exact h.buf s k e' sz L (by rw [← e1]; exact e)
    · rw [e1] at e; injection e with _ e; cases e
  · have hb : ∀ s g, blkOf ρ s (τ.H s) = some g → blkOf ρ s (σ.H s) = some g := fun s g e => by
      rcases hH s with e1 | e1
      · rw [← e1]; exact e
      · rw [e1] at e; simp [blkOf] at e
    exact h.sep s s' g (hb s g e) (hb s' g e')
  · exact h.fresh s k (by rw [← (hw.2 s).1]; exact hk)
def look : List (Nat × AV) → Nat → AV
  | [], _ => .junk
  | (i, x) :: l, t => bif Nat.beq t i then x else look l t
def lookC : List (Nat × Cont) → Nat → Cont
  | [], _ => .dead
  | (i, x) :: l, s => bif Nat.beq s i then x else lookC l s
def st (v : Nat → Nat) (lT : List (Nat × AV)) (lH : List (Nat × Cont)) : AS := ⟨look lT, fun s => ⟨v s, lookC lH s⟩⟩
def allT (σ : AS) : List (Nat × AV) → Prop
  | [] => True
  | (i, x) :: l => σ.T i = x ∧ allT σ l
def allH (σ : AS) : List (Nat × Cont) → Prop
  | [] => True
  | (i, x) :: l => (σ.H i).c = x ∧ allH σ l
theorem look_wk : ∀ (l : List (Nat × AV)), allT σ l → ∀ t, look l t = σ.T t ∨ look l t = .junk
  | [], _, t => .inr rfl
  | (i, x) :: l, h, t => by
    unfold look
    cases hb : Nat.beq t i
    · exact look_wk l h.2 t
    · left; rw [Nat.eq_of_beq_eq_true hb]; exact h.1.symm
theorem lookC_wk : ∀ (l : List (Nat × Cont)), allH σ l → ∀ s, lookC l s = (σ.H s).c ∨ lookC l s = .dead
  | [], _, s => .inr rfl
  | (i, x) :: l, h, s => by
    unfold lookC
    cases hb : Nat.beq s i
    · exact lookC_wk l h.2 s
    · left; rw [Nat.eq_of_beq_eq_true hb]; exact h.1.symm
theorem st_wk {lT : List (Nat × AV)} {lH : List (Nat × Cont)} (h1 : allT σ lT) (h2 : allH σ lH) : Wk σ (st (fun s => (σ.H s).k) lT lH) :=
  ⟨fun t => look_wk lT h1 t, fun s => ⟨rfl, lookC_wk lH h2 s⟩⟩
theorem AWp.weak {c : Code} {τ : AS} (hw : Wk σ τ) (h : AWp P X n c Q τ) : AWp P X n c Q σ := ⟨fun M ρ a w hR => h.run M ρ a w (hR.weak hw)⟩
/-- Does the state answer to what a loop's head says? -/
def At {ι : Type} (ok : (Nat → Nat) → ι → Prop) (lT : (Nat → Nat) → ι → List (Nat × AV)) (lH : (Nat → Nat) → ι → List (Nat × Cont)) (σ : AS) (p : ι → Prop) : Prop :=
  ∃ i, ok (fun s => (σ.H s).k) i ∧ p i ∧ allT σ (lT (fun s => (σ.H s).k) i) ∧ allH σ (lH (fun s => (σ.H s).k) i)
theorem awp_loopv {ι : Type} (ok : (Nat → Nat) → ι → Prop) (μ : ι → Nat) (lT : (Nat → Nat) → ι → List (Nat × AV)) (lH : (Nat → Nat) → ι → List (Nat × Cont)) {c : Code}
    (h0 : At ok lT lH σ fun _ => True)
    (round : ∀ v i, ok v i → AWp P X n c (thenA (fun τ => At ok lT lH τ fun j => μ j < μ i) Q) (st v (lT v i) (lH v i))) : AWp P X n (.loop c) Q σ := by
  have key : ∀ m v i, μ i < m → ok v i → ∀ M ρ a w, Rel X n M ρ (st v (lT v i) (lH v i)) a w → Code.rounds P c (fun e a' w' => ∃ M' ρ' σ', Rel X n M' ρ' σ' a' w' ∧ Q e σ') m a w := by
    intro m
    induction m with
    | zero => intro v i h; omega
    | succ m ih =>
      intro v i hlt hi M ρ a w hR
      rw [rounds_succ]
      refine wp_mono ((round v i hi).run M ρ a w hR) ?_
      rintro e a' w' ⟨M', ρ', σ', hR', hQ⟩
      cases e with
      | normal =>
        obtain ⟨j, hj, hμ, h1, h2⟩ := hQ
        exact ih _ j (by omega) hj M' ρ' a' w' (hR'.weak (st_wk h1 h2))
      | _ => exact ⟨M', ρ', σ', hR', hQ⟩
  refine ⟨?_⟩
  intro M ρ a w hR
  obtain ⟨i, hi, _, h1, h2⟩ := h0
  exact wp_loop_rounds (μ i + 1) (key _ _ i (by omega) hi M ρ a w (hR.weak (st_wk h1 h2)))
theorem awp_loop {ι : Type} (ok : ι → Prop) (μ : ι → Nat) (lT : (Nat → Nat) → ι → List (Nat × AV)) (lH : (Nat → Nat) → ι → List (Nat × Cont)) {c : Code}
    (h0 : At (fun _ => ok) lT lH σ fun _ => True)
    (round : ∀ v i, ok i → AWp P X n c (thenA (fun τ => At (fun _ => ok) lT lH τ fun j => μ j < μ i) Q) (st v (lT v i) (lH v i))) : AWp P X n (.loop c) Q σ :=
  awp_loopv (fun _ => ok) μ lT lH h0 round
end
end Go.Proofs.YtbacidnhjmdnlaaDoor
