/- The executor's regions are sound, in the text's order and in any; nothing of the program stands here; conditions: tables that agree with the program's / The executor is sound: code by fuel, calls, results; nothing of the program stands here; conditions: tables that agree with the program's. -/
import Derived.Test.YtnafokinifbfhaaGreatDoorCxS
set_option linter.unusedVariables false
set_option linter.unusedSimpArgs false
namespace Go.Proofs.YtnafokinifbfhaaGreatDoor.Cx
open Go Go.RowKit
theorem nZ : ∀ {l : List (Nat × CO)} {q : Nat}, q ∈ l.map (·.1) → ∃ h, yC l q = some h
  | p :: l, q, h => by
    unfold yC
    cases hl : yC l q with
    | some x => exact ⟨x, rfl⟩
    | none =>
      rcases List.mem_cons.1 h with h | h
      · subst h; rw [Nat.beq_refl]; exact ⟨_, rfl⟩
      · obtain ⟨x, hx⟩ := nZ h; rw [hx] at hl; cases hl
theorem fO {l : List (Nat × CO)} {q : Nat} (h : q ∉ l.map (·.1)) : yC l q = none := by
  cases hl : yC l q with
  | none => rfl
  | some x => exact absurd (yw hl) h
/-- What rules write last to a name. -/
def wrH : List Rule → Nat → Option CO
  | [], _ => none
  | r :: rs, q => match wrH rs q with
    | some h => some h
    | none => yC r.hw q
theorem uC : ∀ (rs : List Rule) (σ : AS) (q : Nat), (runR rs σ).H q = (wrH rs q).getD (σ.H q)
  | [], _, _ => rfl
  | r :: rs, σ, q => by
    rw [runR, uC rs, wrH]
    cases h : wrH rs q with
    | some x => rfl
    | none => simp only [Option.getD_none]; exact bD r σ q
def wrT : List Rule → Nat → Option CV
  | [], _ => none
  | r :: rs, q => match wrT rs q with
    | some h => some h
    | none => r.wT q
theorem xM : ∀ (rs : List Rule) (σ : AS) (q : Nat), (runR rs σ).T q = (wrT rs q).getD (σ.T q)
  | [], _, _ => rfl
  | r :: rs, σ, q => by
    rw [runR, xM rs, wrT]
    cases h : wrT rs q with
    | some x => rfl
    | none => simp only [Option.getD_none]; exact dJ r σ q
theorem wrH_in : ∀ {rs : List Rule} {q : Nat}, (∃ r ∈ rs, q ∈ r.hw.map (·.1)) → ∃ h, wrH rs q = some h
  | r :: rs, q, ⟨r', h1, h2⟩ => by
    unfold wrH
    cases hl : wrH rs q with
    | some x => exact ⟨x, rfl⟩
    | none =>
      rcases List.mem_cons.1 h1 with rfl | h1
      · exact nZ h2
      · obtain ⟨x, hx⟩ := wrH_in ⟨r', h1, h2⟩; rw [hx] at hl; cases hl
theorem uA : ∀ {rs : List Rule} {q : Nat}, (∀ r ∈ rs, q ∉ r.hw.map (·.1)) → wrH rs q = none
  | [], _, _ => rfl
  | r :: rs, q, h => by
    unfold wrH
    rw [uA fun r' hr => h r' (by simp [hr])]
    exact fO (h r (by simp))
theorem vD {W : Nat} {H1 H0 : Nat → CO} (h : ∀ q, Bt W q → H0 q = H1 q) : ovr W H1 H0 = H0 := by
  funext q
  by_cases hq : Bt W q
  · rw [bA hq, h q hq]
  · rw [jv hq]
section
variable {P : Program} {X : Ctx} {n : Nat} {ops : Array Oper} {TB : Tabs} {tb : Tb} {call : CallF}
theorem wE {o : Oper} {l : List Oper} {s s' : CS} (h : runOps tb call ops (o :: l) s = some s') : ∃ s1, oneOp tb call ops o s = some s1 ∧ runOps tb call ops l s1 = some s' := by
  change (match oneOp tb call ops o s with | some s => runOps tb call ops l s | none => none) = some s' at h
  cases h1 : oneOp tb call ops o s with
  | none => rw [h1] at h; cases h
  | some s1 => rw [h1] at h; exact ⟨s1, rfl, h⟩
/-- A region in the text's order. -/
theorem rN (hT : TbOk P TB tb) (hC : gW P call) (hd : qI n ops.toList = true) : ∀ (l : List Oper) (i : Nat) (s s' : CS), (∀ k : Nat, ops[i + k]? = l[k]?) → runOps tb call ops l s = some s' →
    (∀ q, Bt s.R q → Bt s'.R q) ∧ (∀ q, Bt s.W q → Bt s'.W q) ∧ (∀ q, ¬ Bt s'.W q → hg s'.H q = hg s.H q) ∧
    ∀ (X : Ctx) (H0 : Nat → CO), (∀ q, Bt s'.R q ∨ Bt s.W q → H0 q = hg s.H q) → ∀ (Q : Exit → Act → World → Prop), (∀ ρ' a' w', Rel X n () ρ' ⟨tg s'.T, ovr s'.W (hg s'.H) H0⟩ a' w' → Q .normal a' w') → ∀ ρ a w, Rel X n () ρ ⟨tg s.T, H0⟩ a w → qc P ops Q (List.range' i l.length) a w
  | [], i, s, s', hk, h => by
    injection h with h
    subst h
    refine ⟨fun _ h => h, fun _ h => h, fun _ _ => rfl, fun X H0 hH Q hQ ρ a w hR => ?_⟩
    exact opsAt_nil (hQ ρ a w (by rw [vD fun q hq => hH q (.inr hq)]; exact hR))
  | o :: l, i, s, s', hk, h => by
    obtain ⟨s1, h1, h2⟩ := wE h
    have ho : ops[i]? = some o := by have := hk 0; simpa using this
    obtain ⟨r, hr⟩ := wN hT hC ho (aN hd ho) h1
    obtain ⟨i1, i2, i3, i4⟩ := rN hT hC hd l (i + 1) s1 s' (fun k => by have := hk (k + 1); simpa [Nat.add_assoc, Nat.add_comm 1 k] using this) h2
    have hHq : ∀ q, hg s1.H q = (yC r.hw q).getD (hg s.H q) := fun q => by
      have := congrArg (fun σ : AS => σ.H q) hr.app
      rw [bD] at this
      exact this.symm
    refine ⟨fun q hq => i1 q (hr.mono q hq), fun q hq => i2 q ((hr.wW q).2 (.inl hq)), fun q hq => ?_, fun X H0 hH Q hQ ρ a w hR => ?_⟩
    · rw [i3 q hq, hHq, fO fun hin => hq (i2 q ((hr.wW q).2 (.inr hin)))]; rfl
    · have hf : r.fires ⟨tg s.T, H0⟩ := ⟨hr.fires.1, fun p hp => (hH p.1 (.inl (i1 _ (hr.hrR p hp)))).trans (hr.fires.2 p hp)⟩
      have hap : r.apply ⟨tg s.T, H0⟩ = ⟨tg s1.T, fun q => (yC r.hw q).getD (H0 q)⟩ := by
        refine dB (fun t => ?_) (fun q => bD r _ q)
        have := congrArg (fun σ : AS => σ.T t) hr.app
        rw [dJ] at this ⊢
        exact this
      rw [List.length_cons, List.range'_succ]
      refine hr.sound X ρ ⟨tg s.T, H0⟩ a w hf hR Q _ fun ρ' a' w' hR' => ?_
      rw [hap] at hR'
      refine i4 X (fun q => (yC r.hw q).getD (H0 q)) (fun q hq => ?_) Q (fun ρ2 a2 w2 hR2 => hQ ρ2 a2 w2 ?_) ρ' a' w' hR'
      · rw [hHq]
        by_cases hin : q ∈ r.hw.map (·.1)
        · obtain ⟨x, hx⟩ := nZ hin; rw [hx]; rfl
        · rw [fO hin]
          simp only [Option.getD_none]
          refine hH q (hq.imp id fun hq => ?_)
          rcases (hr.wW q).1 hq with h | h
          · exact h
          · exact absurd h hin
      · have e : ovr s'.W (hg s'.H) (fun q => (yC r.hw q).getD (H0 q)) = ovr s'.W (hg s'.H) H0 := by
          funext q
          by_cases hq : Bt s'.W q
          · rw [bA hq, bA hq]
          · rw [jv hq, jv hq, fO fun hin => hq (i2 q ((hr.wW q).2 (.inr hin)))]; rfl
        rw [← e]; exact hR2
/-- What stands of a drawn region's operation. -/
structure InfoAt (P : Program) (n : Nat) (ops : Array Oper) (o : Oper) (p : Nat × Nat) (r : Rule) : Prop where
  dst : r.dst = o.dst
  tr : ∀ x ∈ r.tr, Bt (readM ops o) x.1
  hr : ∀ x ∈ r.hr, Bt p.1 x.1
  hw : ∀ x ∈ r.hw.map (·.1), Bt p.2 x
  G : iK o.op = false → ∀ X, qi P X n ops o r
theorem cO : ∀ (l : List Operand) (m t : Nat), Bt (opdM l m) t ↔ Bt m t ∨ Operand.tmp t ∈ l
  | [], m, t => by simp [opdM]
  | .tmp u :: l, m, t => by
    show Bt (opdM l (Nat.lor m (Nat.pow 2 u))) t ↔ _
    rw [cO l, eE, show Nat.pow 2 u = 2 ^ u from rfl, oT, List.mem_cons, Operand.tmp.injEq, or_assoc]
  | .const v :: l, m, t => by
    show Bt (opdM l m) t ↔ _
    rw [cO l]; simp
  | .global g :: l, m, t => by
    show Bt (opdM l m) t ↔ _
    rw [cO l]; simp
  | .func f :: l, m, t => by
    show Bt (opdM l m) t ↔ _
    rw [cO l]; simp
theorem wO {σ : AS} {gd : Option (Nat × Bool)} : ∀ p ∈ gtOf ops σ gd, Bt (guardM ops gd) p.1 := by
  intro p hp
  unfold gtOf at hp
  unfold guardM
  split at hp
  · cases hp
  · rename_i j b
    cases hj : ops.toList[j]? with
    | none => rw [hj] at hp; cases hp
    | some o =>
      rw [hj] at hp
      simp only at hp ⊢
      cases hd : o.dst with
      | none => rw [hd] at hp; cases hp
      | some d =>
        rw [hd] at hp
        simp at hp
        subst hp
        rw [hj]
        show Bt (dstM o.dst) d
        rw [hd]
        exact (oT d d).2 rfl
theorem tJ {o : Oper} {l : List Oper} {s s' : CS} {inf : List (Nat × Nat)} (h : infoOps tb call ops (o :: l) s = some (s', inf)) : ∃ c inf', oneOp tb call ops o ⟨s.T, s.H, s.nx, 0, 0⟩ = some c ∧ infoOps tb call ops l ⟨c.T, c.H, c.nx, Nat.lor s.R c.R, Nat.lor s.W c.W⟩ = some (s', inf') ∧ inf = (c.R, c.W) :: inf' := by
  change (match oneOp tb call ops o ⟨s.T, s.H, s.nx, 0, 0⟩ with | some c => (match infoOps tb call ops l ⟨c.T, c.H, c.nx, Nat.lor s.R c.R, Nat.lor s.W c.W⟩ with | some (z, l) => some (z, (c.R, c.W) :: l) | none => none) | none => none) = some (s', inf) at h
  cases h1 : oneOp tb call ops o ⟨s.T, s.H, s.nx, 0, 0⟩ with
  | none => rw [h1] at h; cases h
  | some c =>
    rw [h1] at h
    simp only at h
    cases h2 : infoOps tb call ops l ⟨c.T, c.H, c.nx, Nat.lor s.R c.R, Nat.lor s.W c.W⟩ with
    | none => rw [h2] at h; cases h
    | some p =>
      obtain ⟨z, inf'⟩ := p
      rw [h2] at h
      injection h with h
      injection h with e1 e2
      subst e1
      exact ⟨c, inf', rfl, h2, e2.symm⟩
theorem pD (hT : TbOk P TB tb) (hC : gW P call) (hd : qI n ops.toList = true) : ∀ (l : List Oper) (i : Nat) (s s' : CS) (inf : List (Nat × Nat)), (∀ k : Nat, ops[i + k]? = l[k]?) → infoOps tb call ops l s = some (s', inf) →
    ∃ rs : List Rule, rs.length = l.length ∧ inf.length = l.length ∧ (∀ (k : Nat) (o : Oper) (p : Nat × Nat) (r : Rule), l[k]? = some o → inf[k]? = some p → rs[k]? = some r → InfoAt P n ops o p r) ∧ runR rs (stOf s.T s.H) = stOf s'.T s'.H ∧ (∀ (k : Nat) (r : Rule), rs[k]? = some r → r.fires (runR (rs.take k) (stOf s.T s.H))) ∧
      (∀ q, Bt s.R q → Bt s'.R q) ∧ (∀ r ∈ rs, ∀ p ∈ r.hr, Bt s'.R p.1) ∧ (∀ q, Bt s'.W q ↔ Bt s.W q ∨ ∃ r ∈ rs, q ∈ r.hw.map (·.1))
  | [], i, s, s', inf, hk, h => by
    injection h with h
    injection h with e1 e2
    subst e1; subst e2
    exact ⟨[], rfl, rfl, fun k o p r h => (by simp at h), rfl, fun k r h => (by simp at h), fun _ h => h, fun r h => (by cases h), fun q => (by simp)⟩
  | o :: l, i, s, s', inf, hk, h => by
    obtain ⟨c, inf', h1, h2, rfl⟩ := tJ h
    have ho : ops[i]? = some o := by have := hk 0; simpa using this
    obtain ⟨r, hr⟩ := wN hT hC ho (aN hd ho) h1
    obtain ⟨rs, j1, j2, j3, j4, j5, j6, j7, j8⟩ := pD hT hC hd l (i + 1) _ s' inf' (fun k => by have := hk (k + 1); simpa [Nat.add_assoc, Nat.add_comm 1 k] using this) h2
    have hap : r.apply (stOf s.T s.H) = stOf c.T c.H := hr.app
    refine ⟨r :: rs, by simp [j1], by simp [j2], fun k o' p r' a b d => ?_, by rw [runR, hap]; exact j4, fun k r' hk' => ?_, fun q hq => j6 q ((eE _ _ _).2 (.inl hq)), fun r' hr' p hp => ?_, fun q => ?_⟩
    · cases k with
      | zero =>
        simp at a b d
        subst a; subst b; subst d
        refine ⟨hr.dst, fun x hx => ?_, fun x hx => hr.hrR x hx, fun x hx => (hr.wW x).2 (.inr hx), hr.soundG⟩
        unfold readM
        rw [cO]
        rcases hr.tr x hx with h | ⟨y, y1, y2⟩
        · exact .inl (wO x h)
        · exact .inr (by rw [← y2]; exact y1)
      | succ k => exact j3 k o' p r' (by simpa using a) (by simpa using b) (by simpa using d)
    · cases k with
      | zero => simp at hk'; subst hk'; exact hr.fires
      | succ k =>
        rw [List.take_succ_cons, runR, hap]
        exact j5 k r' (by simpa using hk')
    · rcases List.mem_cons.1 hr' with rfl | hr'
      · exact j6 p.1 ((eE _ _ _).2 (.inr (hr.hrR p hp)))
      · exact j7 r' hr' p hp
    · rw [j8, eE, hr.wW]
      constructor
      · rintro ((h | h | h) | ⟨r', h3, h4⟩)
        · exact .inl h
        · exact absurd h (bt_zero q)
        · exact .inr ⟨r, by simp, h⟩
        · exact .inr ⟨r', by simp [h3], h4⟩
      · rintro (h | ⟨r', h3, h4⟩)
        · exact .inl (.inl h)
        · rcases List.mem_cons.1 h3 with rfl | h3
          · exact .inl (.inr (.inr h4))
          · exact .inr ⟨r', h3, h4⟩
end
theorem gF {a b q : Nat} (h : Nat.beq (Nat.land a b) 0 = true) (h1 : Bt a q) (h2 : Bt b q) : False := by
  have h0 : a &&& b = 0 := Nat.eq_of_beq_eq_true h
  have : (a &&& b).testBit q = true := by rw [Nat.testBit_and, h1, h2]; rfl
  rw [h0] at this
  simp at this
theorem lL {d : Option Nat} {t : Nat} (h : t ∈ d.toList) : Bt (dstM d) t := by
  cases d with
  | none => simp at h
  | some d => simp at h; subst h; exact (oT t t).2 rfl
theorem mO {b : Nat} {y : Ft} : ∀ (l : List Ft) (i : Nat), oU b y l i = true → ∀ (m : Nat) (x : Ft), l[m]? = some x → b.testBit (i + m) = true ∨ oM x y = true
  | [], i, h, m, x, hx => by simp at hx
  | x0 :: l, i, h, m, x, hx => by
    unfold oU at h
    cases hb : (Nat.testBit b i || oM x0 y) with
    | false => rw [hb] at h; cases h
    | true =>
      rw [hb] at h
      cases m with
      | zero => simp at hx; subst hx; rw [Bool.or_eq_true] at hb; exact hb
      | succ m =>
        have := mO l (i + 1) h m x (by simpa using hx)
        rwa [show i + 1 + m = i + (m + 1) by omega] at this
noncomputable def ftOf (ops : Array Oper) (o : Oper) (p : Nat × Nat) : Ft := ⟨readM ops o, dstM o.dst, p.1, p.2⟩
theorem tA {ops : Array Oper} : ∀ (os : List Oper) (bs : List Nat) (inf : List (Nat × Nat)) (j : Nat) (acc : List Ft), okGo ops os bs inf j acc = true → acc.length = j → ∀ (k : Nat) (o : Oper), os[k]? = some o → ∃ b p, bs[k]? = some b ∧ inf[k]? = some p ∧ backB (j + k) o = true ∧ iK o.op = false ∧
    (∀ (m : Nat) (x : Ft), acc[m]? = some x → b.testBit m = true ∨ oM x (ftOf ops o p) = true) ∧ ∀ (m : Nat) (o' : Oper) (p' : Nat × Nat), m < k → os[m]? = some o' → inf[m]? = some p' → b.testBit (j + m) = true ∨ oM (ftOf ops o' p') (ftOf ops o p) = true
  | [], bs, inf, j, acc, h, hl, k, o, ho => by simp at ho
  | o0 :: os, [], inf, j, acc, h, hl, k, o, ho => by cases h
  | o0 :: os, b0 :: bs, [], j, acc, h, hl, k, o, ho => by cases h
  | o0 :: os, b0 :: bs, p0 :: inf, j, acc, h, hl, k, o, ho => by
    unfold okGo at h
    simp only [qF] at h
    cases hb : ((backB j o0 && !iK o0.op) && oU b0 ⟨readM ops o0, dstM o0.dst, p0.1, p0.2⟩ acc 0) with
    | false => rw [hb] at h; cases h
    | true =>
      rw [hb, cond_true] at h
      simp only [Bool.and_eq_true, Bool.not_eq_true'] at hb
      have hw := mO acc 0 hb.2
      cases k with
      | zero =>
        simp at ho
        subst ho
        exact ⟨b0, p0, rfl, rfl, hb.1.1, hb.1.2, fun m x hx => by have := hw m x hx; rwa [Nat.zero_add] at this, fun m o' p' hm => by omega⟩
      | succ k =>
        obtain ⟨b, p, e1, e2, e3, e4, e5, e6⟩ := tA os bs inf (j + 1) (acc ++ [ftOf ops o0 p0]) h (by simp [hl]) k o (by simpa using ho)
        refine ⟨b, p, by simpa using e1, by simpa using e2, by rw [show j + (k + 1) = j + 1 + k by omega]; exact e3, e4, fun m x hx => e5 m x ?_, fun m o' p' hm h1 h2 => ?_⟩
        · rw [List.getElem?_append_left (zM hx)]; exact hx
        · cases m with
          | zero =>
            simp at h1 h2
            subst h1; subst h2
            rw [Nat.add_zero]
            exact e5 j _ (by rw [List.getElem?_append_right (by omega), hl, Nat.sub_self]; rfl)
          | succ m =>
            have := e6 m o' p' (by omega) (by simpa using h1) (by simpa using h2)
            rwa [show j + 1 + m = j + (m + 1) by omega] at this
section
variable {P : Program} {n : Nat} {ops : Array Oper}
theorem meet_apart {o o' : Oper} {p p' : Nat × Nat} {r r' : Rule} (h : oM (ftOf ops o p) (ftOf ops o' p') = true) (h1 : InfoAt P n ops o p r) (h2 : InfoAt P n ops o' p' r') : apart r r' = true := by
  unfold oM ftOf at h
  simp only [Bool.and_eq_true] at h
  obtain ⟨m1, m2, m3, m4⟩ := h
  have hdj : ∀ {l l' : List Nat}, (∀ x ∈ l, x ∈ l' → False) → disj l l' = true := fun {l l'} hh => by
    unfold disj
    rw [List.all_eq_true]
    intro x hx
    rw [List.all_eq_true]
    intro y hy
    cases hb : Nat.beq x y with
    | false => rfl
    | true => exact (hh x hx (Nat.eq_of_beq_eq_true hb ▸ hy)).elim
  unfold apart
  simp only [Bool.and_eq_true]
  refine ⟨⟨⟨hdj fun x hx hy => ?_, hdj fun x hx hy => ?_⟩, hdj fun x hx hy => ?_⟩, hdj fun x hx hy => ?_⟩
  · rw [h1.dst] at hx
    refine gF m1 (lL hx) ((eE _ _ _).2 ?_)
    rcases List.mem_append.1 hy with hy | hy
    · obtain ⟨z, hz, rfl⟩ := List.mem_map.1 hy; exact .inl (h2.tr z hz)
    · rw [h2.dst] at hy; exact .inr (lL hy)
  · rw [h2.dst] at hx
    obtain ⟨z, hz, rfl⟩ := List.mem_map.1 hy
    exact gF m2 (lL hx) (h1.tr z hz)
  · refine gF m3 (h1.hw x hx) ((eE _ _ _).2 ?_)
    rcases List.mem_append.1 hy with hy | hy
    · obtain ⟨z, hz, rfl⟩ := List.mem_map.1 hy; exact .inl (h2.hr z hz)
    · exact .inr (h2.hw x hy)
  · obtain ⟨z, hz, rfl⟩ := List.mem_map.1 hy
    exact gF m4 (h2.hw _ hx) (h1.hr z hz)
theorem indep_of {inf : List (Nat × Nat)} {rs : List Rule} (h : okDraw ops inf = true) (hl : rs.length = ops.size) (hI : ∀ (k : Nat) (o : Oper) (p : Nat × Nat) (r : Rule), ops.toList[k]? = some o → inf[k]? = some p → rs[k]? = some r → InfoAt P n ops o p r) : Indep ops rs ∧ ∀ (k : Nat) (o : Oper), ops[k]? = some o → iK o.op = false := by
  unfold okDraw at h
  have key := tA ops.toList (befs ops.toList []) inf 0 [] h rfl
  refine ⟨⟨fun i j r q hi hj hlt => ?_, fun j o e ho he hb => ?_⟩, fun k o ho => ?_⟩
  · have hjl := zM hj
    obtain ⟨oj, hoj⟩ := zB (L := ops.toList) (k := j) (by simp; omega)
    obtain ⟨oi, hoi⟩ := zB (L := ops.toList) (k := i) (by simp; omega)
    obtain ⟨b, p, e1, e2, e3, e4, e5, e6⟩ := key j oj hoj
    obtain ⟨bi, pi, f1, f2, _⟩ := key i oi hoi
    rcases e6 i oi pi hlt hoi f2 with h5 | h5
    · rw [Nat.zero_add] at h5
      refine .inl (eM ops.toList [] (fun k => by simp) (by simp) j i ?_)
      rw [List.getD_eq_getElem?_getD, e1]
      exact h5
    · exact .inr (meet_apart h5 (hI i oi pi r hoi f2 hi) (hI j oj p q hoj e2 hj))
  · obtain ⟨b, p, e1, e2, e3, e4, e5, e6⟩ := key j o (by simpa using ho)
    rw [Nat.zero_add] at e3
    unfold backB at e3
    have := List.all_eq_true.1 e3 e (by simpa using he)
    rw [hb] at this
    simp only [Bool.not_true, Bool.false_or] at this
    exact Nat.le_of_ble_eq_true this
  · obtain ⟨b, p, e1, e2, e3, e4, e5, e6⟩ := key k o (by simpa using ho)
    exact e4
end
end Go.Proofs.YtnafokinifbfhaaGreatDoor.Cx
namespace Go.Proofs.YtnafokinifbfhaaGreatDoor.Cx
open Go Go.RowKit
def iB : Ex → Exit
  | .normal => .normal
  | .exit id => .exit id
  | .ret => .ret
/-- A loop by its rounds, other code as it is. -/
def cwp (P : Program) (m : Nat) (c : Code) (Q : Exit → Act → World → Prop) (a : Act) (w : World) : Prop := match c with
  | .loop b => Code.rounds P b Q m a w
  | c => c.wp P Q a w
theorem aV {P : Program} {m : Nat} {c : Code} {Q : Exit → Act → World → Prop} {a : Act} {w : World} (h : cwp P m c Q a w) : c.wp P Q a w := by
  cases c with
  | loop b => exact wp_loop_rounds m h
  | _ => exact h
/-- What code that was reckoned does, so many rounds if it is a loop. -/
def Runs (P : Program) (n : Nat) (c : Code) (s : CS) (e : Ex) (s' : CS) (m : Nat) : Prop :=
  ∀ (X : Ctx) (H0 : Nat → CO), (∀ q, Bt s'.R q ∨ Bt s.W q → H0 q = hg s.H q) → ∀ (Q : Exit → Act → World → Prop), (∀ ρ' a' w', Rel X n () ρ' ⟨tg s'.T, ovr s'.W (hg s'.H) H0⟩ a' w' → Q (iB e) a' w') → ∀ ρ a w, Rel X n () ρ ⟨tg s.T, H0⟩ a w → cwp P m c Q a w
structure CodeOk (P : Program) (n : Nat) (c : Code) (s : CS) (e : Ex) (s' : CS) : Prop where
  mr : ∀ q, Bt s.R q → Bt s'.R q
  mw : ∀ q, Bt s.W q → Bt s'.W q
  cov : ∀ q, ¬ Bt s'.W q → hg s'.H q = hg s.H q
  run : ∃ m, Runs P n c s e s' m
def RecOk (P : Program) (rec : RecF) : Prop := ∀ n c s e s', rec c s = some (e, s') → dstC n c = true → CodeOk P n c s e s'
section
variable {P : Program} {X : Ctx} {n : Nat} {s s1 s' : CS}
theorem oZ {H0 : Nat → CO} (w1 : ∀ q, Bt s.W q → Bt s1.W q) (v1 : ∀ q, ¬ Bt s1.W q → hg s1.H q = hg s.H q) (h : ∀ q, Bt s'.R q ∨ Bt s.W q → H0 q = hg s.H q) : ∀ q, Bt s'.R q ∨ Bt s1.W q → ovr s1.W (hg s1.H) H0 q = hg s1.H q := fun q hq => by
  by_cases hw : Bt s1.W q
  · exact bA hw
  · rw [jv hw, v1 q hw]
    exact h q (hq.imp id fun h => absurd h hw)
theorem vJ {H0 : Nat → CO} (w2 : ∀ q, Bt s1.W q → Bt s'.W q) : ovr s'.W (hg s'.H) (ovr s1.W (hg s1.H) H0) = ovr s'.W (hg s'.H) H0 := by
  funext q
  by_cases hw : Bt s'.W q
  · rw [bA hw, bA hw]
  · rw [jv hw, jv hw, jv fun h => hw (w2 q h)]
theorem eG {c : Code} {e : Ex} (h : ∀ (Q : Exit → Act → World → Prop) a w, Q (iB e) a w → cwp P 0 c Q a w) : CodeOk P n c s e s :=
  ⟨fun _ h => h, fun _ h => h, fun _ _ => rfl, 0, fun X H0 hH Q hQ ρ a w hR => h Q a w (hQ ρ a w (by rw [vD fun q hq => hH q (.inr hq)]; exact hR))⟩
theorem CodeOk.seq {a b : Code} {e : Ex} (h1 : CodeOk P n a s .normal s1) (h2 : CodeOk P n b s1 e s') : CodeOk P n (.seq a b) s e s' := by
  obtain ⟨m1, r1⟩ := h1.run
  obtain ⟨m2, r2⟩ := h2.run
  refine ⟨fun q h => h2.mr q (h1.mr q h), fun q h => h2.mw q (h1.mw q h), fun q h => (h2.cov q h).trans (h1.cov q fun hw => h (h2.mw q hw)), 0, fun X H0 hH Q hQ ρ ac w hR => ?_⟩
  refine wp_seq (aV (r1 X H0 (fun q hq => hH q (hq.imp (h2.mr q) id)) (Exit.then (b.wp P Q) Q) (fun ρ' a' w' hR' => ?_) ρ ac w hR))
  refine aV (r2 X _ (oZ h1.mw h1.cov hH) Q (fun ρ2 a2 w2 hR2 => hQ ρ2 a2 w2 ?_) ρ' a' w' hR')
  rw [vJ h2.mw] at hR2
  exact hR2
theorem wQ {K : Act → World → Prop} {Q : Exit → Act → World → Prop} {e : Ex} (he : e ≠ .normal) {a : Act} {w : World} (h : Q (iB e) a w) : Exit.then K Q (iB e) a w := by
  cases e with
  | normal => exact absurd rfl he
  | exit id => exact h
  | ret => exact h
theorem CodeOk.seq_out {a b : Code} {e : Ex} (h1 : CodeOk P n a s e s') (he : e ≠ .normal) : CodeOk P n (.seq a b) s e s' := by
  obtain ⟨m1, r1⟩ := h1.run
  exact ⟨h1.mr, h1.mw, h1.cov, 0, fun X H0 hH Q hQ ρ ac w hR => wp_seq (aV (r1 X H0 hH (Exit.then (b.wp P Q) Q) (fun ρ' a' w' hR' => wQ he (hQ ρ' a' w' hR')) ρ ac w hR))⟩
theorem CodeOk.loop {c : Code} {e : Ex} (h1 : CodeOk P n c s .normal s1) (h2 : CodeOk P n (.loop c) s1 e s') : CodeOk P n (.loop c) s e s' := by
  obtain ⟨m1, r1⟩ := h1.run
  obtain ⟨m2, r2⟩ := h2.run
  refine ⟨fun q h => h2.mr q (h1.mr q h), fun q h => h2.mw q (h1.mw q h), fun q h => (h2.cov q h).trans (h1.cov q fun hw => h (h2.mw q hw)), m2 + 1, fun X H0 hH Q hQ ρ ac w hR => ?_⟩
  show Code.rounds P c Q (m2 + 1) ac w
  rw [rounds_succ]
  refine aV (r1 X H0 (fun q hq => hH q (hq.imp (h2.mr q) id)) (Exit.then (Code.rounds P c Q m2) Q) (fun ρ' a' w' hR' => ?_) ρ ac w hR)
  refine r2 X _ (oZ h1.mw h1.cov hH) Q (fun ρ2 a2 w2 hR2 => hQ ρ2 a2 w2 ?_) ρ' a' w' hR'
  rw [vJ h2.mw] at hR2
  exact hR2
theorem CodeOk.loop_out {c : Code} {e : Ex} (h1 : CodeOk P n c s e s') (he : e ≠ .normal) : CodeOk P n (.loop c) s e s' := by
  obtain ⟨m1, r1⟩ := h1.run
  refine ⟨h1.mr, h1.mw, h1.cov, 1, fun X H0 hH Q hQ ρ ac w hR => ?_⟩
  show Code.rounds P c Q 1 ac w
  rw [rounds_succ]
  exact aV (r1 X H0 hH (Exit.then (Code.rounds P c Q 0) Q) (fun ρ' a' w' hR' => wQ he (hQ ρ' a' w' hR')) ρ ac w hR)
theorem CodeOk.block {id : Nat} {c : Code} {e e' : Ex} (h1 : CodeOk P n c s e s') (he : ∀ (Q : Exit → Act → World → Prop) a w, Q (iB e') a w → Exit.inBlock id Q (iB e) a w) : CodeOk P n (.block id c) s e' s' := by
  obtain ⟨m1, r1⟩ := h1.run
  exact ⟨h1.mr, h1.mw, h1.cov, 0, fun X H0 hH Q hQ ρ ac w hR => wp_block (aV (r1 X H0 hH (Exit.inBlock id Q) (fun ρ' a' w' hR' => he Q a' w' (hQ ρ' a' w' hR')) ρ ac w hR))⟩
theorem CodeOk.scope {c : Code} {e : Ex} (h1 : CodeOk P n c s e s') : CodeOk P n (.scope c) s e s' := by
  obtain ⟨m1, r1⟩ := h1.run
  refine ⟨h1.mr, h1.mw, h1.cov, 0, fun X H0 hH Q hQ ρ ac w hR => ?_⟩
  refine wp_scope_straight (wp_mono (aV (r1 X H0 hH (fun e' a' w' => e' = iB e ∧ Q e' a' w') (fun ρ' a' w' hR' => ⟨rfl, hQ ρ' a' w' hR'⟩) ρ ac w hR)) ?_)
  rintro e' a' w' ⟨rfl, h⟩
  cases e <;> exact h
theorem CodeOk.cond {t : Operand} {x y : Code} {e : Ex} {b : Bool} (hc : eT t s.T = .v (.bool b)) (h1 : CodeOk P n (if b then x else y) s e s') : CodeOk P n (.cond t x y) s e s' := by
  obtain ⟨m1, r1⟩ := h1.run
  refine ⟨h1.mr, h1.mw, h1.cov, 0, fun X H0 hH Q hQ ρ ac w hR => ?_⟩
  have h2 := hR.ev t
  have h3 : ev ⟨tg s.T, H0⟩ t = .v (.bool b) := by rw [← hc]; cases t <;> rfl
  rw [h3] at h2
  exact wp_cond h2.v_inv (aV (r1 X H0 hH Q hQ ρ ac w hR))
end
section
variable {P : Program} {n : Nat} {TB : Tabs} {tb : Tb}
theorem region_ok (hT : TbOk P TB tb) {call : CallF} (hC : gW P call) {id : Nat} {ops : Array Oper} {s s' : CS} (hd : qI n ops.toList = true) (h : runOps tb call ops ops.toList s = some s') : CodeOk P n (.region id ops false) s .normal s' := by
  obtain ⟨h1, h2, h3, h4⟩ := rN (n := n) hT hC hd ops.toList 0 s s' (fun k => by simp) h
  refine ⟨h1, h2, h3, 0, fun X H0 hH Q hQ ρ a w hR => ?_⟩
  show (Code.region id ops false).wp P Q a w
  intro b k cs
  obtain ⟨e, a', w', q, r⟩ := h4 X H0 hH Q hQ ρ a w hR b k cs
  refine ⟨e, a', w', q, .of_steps (.one step_region) ?_⟩
  rw [List.range_eq_range']
  simpa using r
theorem draw_ok (hT : TbOk P TB tb) {call : CallF} (hC : gW P call) {id : Nat} {ops : Array Oper} {s s' : CS} {inf : List (Nat × Nat)} (hd : qI n ops.toList = true) (h : infoOps tb call ops ops.toList s = some (s', inf)) (hok : okDraw ops inf = true) : CodeOk P n (.region id ops true) s .normal s' := by
  obtain ⟨rs, j1, j2, j3, j4, j5, j6, j7, j8⟩ := pD (n := n) hT hC hd ops.toList 0 s s' inf (fun k => by simp) h
  have hl : rs.length = ops.size := by simpa using j1
  obtain ⟨hI, hcm⟩ := indep_of hok hl j3
  have hH' : ∀ q, hg s'.H q = (wrH rs q).getD (hg s.H q) := fun q => by
    have := congrArg (fun σ : AS => σ.H q) j4
    rw [uC] at this
    exact this.symm
  refine ⟨j6, fun q hq => (j8 q).2 (.inl hq), fun q hq => ?_, 0, fun X H0 hH Q hQ ρ a w hR => ?_⟩
  · rw [hH', uA fun r hr hin => hq ((j8 q).2 (.inr ⟨r, hr, hin⟩))]; rfl
  show (Code.region id ops true).wp P Q a w
  have hfin : runR rs ⟨tg s.T, H0⟩ = ⟨tg s'.T, ovr s'.W (hg s'.H) H0⟩ := by
    refine dB (fun t => ?_) (fun q => ?_)
    · have := congrArg (fun σ : AS => σ.T t) j4
      rw [xM] at this ⊢
      exact this
    · rw [uC]
      by_cases hq : Bt s'.W q
      · show _ = ovr s'.W (hg s'.H) H0 q
        rw [bA hq, hH']
        by_cases hin : ∃ r ∈ rs, q ∈ r.hw.map (·.1)
        · obtain ⟨x, hx⟩ := wrH_in hin; rw [hx]; rfl
        · rcases (j8 q).1 hq with h | h
          · show (wrH rs q).getD (H0 q) = _
            rw [hH q (.inr h)]
          · exact absurd h hin
      · show _ = ovr s'.W (hg s'.H) H0 q
        rw [jv hq, uA fun r hr hin => hq ((j8 q).2 (.inr ⟨r, hr, hin⟩))]; rfl
  have hfire : ∀ (k : Nat) (r : Rule), rs[k]? = some r → r.fires (runR (rs.take k) ⟨tg s.T, H0⟩) := fun k r hr => by
    have h0 := j5 k r hr
    refine ⟨fun p hp => ?_, fun p hp => ?_⟩
    · have := h0.1 p hp
      rw [xM] at this ⊢
      exact this
    · have := h0.2 p hp
      rw [uC] at this ⊢
      rw [← this]
      show (wrH (rs.take k) p.1).getD (H0 p.1) = (wrH (rs.take k) p.1).getD (hg s.H p.1)
      rw [hH p.1 (.inl (j7 r (List.mem_of_getElem? hr) p hp))]
  refine wp_region_any hT.mix ?_
  refine uG (X := X) (rs := rs) (σ := ⟨tg s.T, H0⟩) hl hd hI (fun i o ho => ?_) (fun M' ρ' a' w' hh => hQ ρ' a' w' (by rw [← hfin]; exact hh)) ops.size _ (by simp) (by simp [jp]; exact Nat.le_trans List.countP_le_length (by simp)) (fun m j _ h => by simp [Array.getD] at h) () ρ a _ ?_
  · obtain ⟨r, hr⟩ := zB (L := rs) (k := i) (by have := (Array.getElem?_eq_some_iff.1 ho).1; omega)
    obtain ⟨p, hp⟩ := zB (L := inf) (k := i) (by have := (Array.getElem?_eq_some_iff.1 ho).1; simp at j2; omega)
    exact ⟨r, hr, (j3 i o p r (by simpa using ho) hp hr).G (hcm i o ho) X, hfire i r hr⟩
  · have : runN rs (fun j => (Array.replicate ops.size false).getD j false) ⟨tg s.T, H0⟩ ops.size = ⟨tg s.T, H0⟩ := by
      have : ∀ m, runN rs (fun j => (Array.replicate ops.size false).getD j false) ⟨tg s.T, H0⟩ m = ⟨tg s.T, H0⟩ := by
        intro m
        induction m with
        | zero => rfl
        | succ m ih =>
          rw [runN, ih]
          have h0 : (Array.replicate ops.size false).getD m false = false := by simp [Array.getD]
          rw [h0]
          cases rs[m]? <;> rfl
      exact this _
    rw [this]
    exact hR.drawn _
end
end Go.Proofs.YtnafokinifbfhaaGreatDoor.Cx
