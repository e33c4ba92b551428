/- The executor's operation in its region is sound: guards, calls, sends and receives; nothing of the program stands here; conditions: tables that agree with the program's / The executor's operation in its region is sound, whatever it is; regions and their orders; nothing of the program stands here; conditions: tables that agree with the program's. -/
import Derived.Test.YtnafokinifbfhaaGreatDoorCxQ
set_option linter.unusedVariables false
set_option linter.unusedSimpArgs false
namespace Go.Proofs.YtnafokinifbfhaaGreatDoor.Cx
open Go Go.RowKit
def btL (m : Nat) : List Nat := (List.range (m + 1)).filter fun q => m.testBit q
theorem iU {m q : Nat} : q ∈ btL m ↔ Bt m q := by
  unfold btL Bt
  rw [List.mem_filter, List.mem_range]
  refine ⟨fun h => h.2, fun h => ⟨?_, h⟩⟩
  have h1 := Nat.ge_two_pow_of_testBit h
  have h2 : q < 2 ^ q := Nat.lt_two_pow_self
  omega
theorem sY (f : Nat → CO) : ∀ (l : List Nat) (s : Nat), yC (l.map fun q => (q, f q)) s = if s ∈ l then some (f s) else none
  | [], s => rfl
  | q :: l, s => by
    rw [List.map_cons, yC, sY f l s]
    by_cases h : s ∈ l
    · rw [if_pos h, if_pos (by simp [h])]
    · rw [if_neg h]
      by_cases e : s = q
      · subst e; rw [Nat.beq_refl, if_pos (by simp)]; rfl
      · rw [zV e, if_neg (by simp [h, e])]; rfl
/-- Names that were written read as behind, the others as before. -/
def ovr (W : Nat) (H1 H0 : Nat → CO) : Nat → CO := fun q => bif W.testBit q then H1 q else H0 q
theorem bA {W : Nat} {H1 H0 : Nat → CO} {q : Nat} (h : Bt W q) : ovr W H1 H0 q = H1 q := by unfold ovr; rw [show W.testBit q = true from h]; rfl
theorem jv {W : Nat} {H1 H0 : Nat → CO} {q : Nat} (h : ¬ Bt W q) : ovr W H1 H0 q = H0 q := by
  unfold ovr
  cases hb : W.testBit q with
  | true => exact absurd hb h
  | false => rfl
theorem xA (W : Nat) (H1 : Nat → CO) (σ : AS) : hups ((btL W).map fun q => (q, H1 q)) σ = ⟨σ.T, ovr W H1 σ.H⟩ := by
  refine dB (fun t => by rw [qt]) (fun s => ?_)
  rw [mA, sY]
  by_cases h : Bt W s
  · rw [if_pos (iU.2 h)]; exact (bA h).symm
  · rw [if_neg (fun e => h (iU.1 e))]; exact (jv h).symm
theorem Desc.ctx {X Y : Ctx} {ρ : Rho} {w : World} {s : Nat} {co : CO} (h : Desc X ρ w s co) (e : X.w0 = Y.w0) : Desc Y ρ w s co := by
  cases co with
  | none => trivial
  | dead => trivial
  | row cs => obtain ⟨g, b, us, t, h1, h2, h3, h4⟩ := h; exact ⟨g, b, us, t, h1, h2, e ▸ h3, h4⟩
  | ro cs => obtain ⟨h1, h2⟩ := h; exact ⟨e ▸ h1, h2⟩
  | map es => obtain ⟨g, en, h1, h2, h3, h4⟩ := h; exact ⟨g, en, h1, h2, e ▸ h3, h4⟩
  | chan cap buf ns nr => obtain ⟨g, us, h1, h2, h3, h4⟩ := h; exact ⟨g, us, h1, h2, e ▸ h3, h4⟩
theorem HRel.ctx {X Y : Ctx} {ρ : Rho} {H : Nat → CO} {w : World} (h : HRel X ρ H w) (e : X.w0 = Y.w0) (hr : ∀ s y, Y.r0 s = some y → ρ s = some y) : HRel Y ρ H w :=
  ⟨fun s => (h.ob s).ctx e, h.sep, h.fresh, hr, e ▸ h.os, e ▸ h.tape, e ▸ h.output, e ▸ h.size, by rw [← e]; exact h.frame⟩
/-- A call that was reckoned is a call of the machine. -/
def gW (P : Program) (call : CallF) : Prop := ∀ f args H nx y c, call f args H nx = some (y, c) → (∀ q, ¬ Bt c.W q → hg c.H q = hg H q) ∧ qK P f ∧
  ∀ (X : Ctx) (H0 : Nat → CO), (∀ q, Bt c.R q → H0 q = hg H q) → ∀ (ρ : Rho) (w : World) (vs : List Value), HRel X ρ H0 w → vs.length = args.length → (∀ (j : Nat) (x : CV) (u : Value), args[j]? = some x → vs[j]? = some u → Rep ρ x u) →
    Calls P f ⟨vs⟩ w fun e w' => ∃ u, ∃ ρ' : Rho, e = .returned u ∧ (∀ s y, ρ s = some y → ρ' s = some y) ∧ HRel X ρ' (ovr c.W (hg c.H) H0) w' ∧ Rep ρ' y u
def gtOf (ops : Array Oper) (σ : AS) : Option (Nat × Bool) → List (Nat × CV)
  | none => []
  | some (j, _) => match ops.toList[j]? with
    | some o => (match o.dst with
      | some d => [(d, σ.T d)]
      | none => [])
    | none => []
theorem fS (ops : Array Oper) (σ : AS) (gd : Option (Nat × Bool)) : ∀ p ∈ gtOf ops σ gd, σ.T p.1 = p.2 := by
  intro p hp
  unfold gtOf at hp
  split at hp
  · cases hp
  · split at hp
    · split at hp
      · simp at hp; subst hp; rfl
      · cases hp
    · cases hp
/-- An operation in its region, as reckoned and as done. -/
structure OpOk (P : Program) (n : Nat) (ops : Array Oper) (i : Nat) (o : Oper) (s s' : CS) (r : Rule) : Prop where
  mono : ∀ q, Bt s.R q → Bt s'.R q
  fires : r.fires (stOf s.T s.H)
  app : r.apply (stOf s.T s.H) = stOf s'.T s'.H
  hrR : ∀ p ∈ r.hr, Bt s'.R p.1
  wW : ∀ q, Bt s'.W q ↔ Bt s.W q ∨ q ∈ r.hw.map (·.1)
  dst : r.dst = o.dst
  tr : ∀ p ∈ r.tr, p ∈ gtOf ops (stOf s.T s.H) o.guard ∨ ∃ x ∈ o.op.operands.toList, x = .tmp p.1
  sound : ∀ (X : Ctx) (ρ : Rho) (σ : AS) (a : Act) (w : World), r.fires σ → Rel X n () ρ σ a w → ∀ (Q : Exit → Act → World → Prop) (rest : List Nat), (∀ ρ' a' w', Rel X n () ρ' (r.apply σ) a' w' → qc P ops Q rest a' w') → qc P ops Q (i :: rest) a w
  soundG : iK o.op = false → ∀ X, qi P X n ops o r
theorem bI {σ : AS} : ∀ (xs : List Operand), ∀ p ∈ otr σ xs, ∃ x ∈ xs, x = .tmp p.1
  | [], p, h => by cases h
  | .tmp t :: r, p, h => by
    rcases List.mem_cons.1 h with rfl | h
    · exact ⟨_, by simp, rfl⟩
    · obtain ⟨x, h1, h2⟩ := bI r p h; exact ⟨x, by simp [h1], h2⟩
  | .const _ :: r, p, h => by obtain ⟨x, h1, h2⟩ := bI r p h; exact ⟨x, by simp [h1], h2⟩
  | .global _ :: r, p, h => by obtain ⟨x, h1, h2⟩ := bI r p h; exact ⟨x, by simp [h1], h2⟩
  | .func _ :: r, p, h => by obtain ⟨x, h1, h2⟩ := bI r p h; exact ⟨x, by simp [h1], h2⟩
section
variable {P : Program} {X : Ctx} {n : Nat} {ops : Array Oper} {o : Oper} {s s' : CS} {i : Nat}
theorem kY {b : Bool} (h : wantG ops s.T o.guard = some b) {ρ : Rho} {σ : AS} {a : Act} {w : World} (hR : Rel X n () ρ σ a w) (hg : ∀ p ∈ gtOf ops (stOf s.T s.H) o.guard, σ.T p.1 = p.2) : Region.wanted o (yielded ops a.tmps) = b := by
  unfold Region.wanted
  unfold wantG at h
  unfold gtOf at hg
  cases hgd : o.guard with
  | none => rw [hgd] at h; injection h with h
  | some p =>
    obtain ⟨j, want⟩ := p
    rw [hgd] at h hg
    simp only at h hg ⊢
    cases hj : ops.toList[j]? with
    | none =>
      rw [hj] at h
      injection h with h
      subst h
      have : yielded ops a.tmps j = none := by
        unfold yielded
        rw [show ops[j]? = none by rw [← Array.getElem?_toList]; exact hj]
        rfl
      rw [this]; rfl
    | some o' =>
      rw [hj] at h hg
      simp only at h hg
      have hj' : ops[j]? = some o' := by rw [← Array.getElem?_toList]; exact hj
      cases hd : o'.dst with
      | none =>
        rw [hd] at h
        injection h with h
        subst h
        have : yielded ops a.tmps j = none := by
          unfold yielded
          rw [hj', Option.bind_some, hd]; rfl
        rw [this]; rfl
      | some d =>
        rw [hd] at h hg
        simp only at h hg
        have hT : σ.T d = tg s.T d := hg (d, tg s.T d) (by simp [stOf])
        have h0 := hR.tm d
        rw [hT] at h0
        unfold yieldV at h
        have hy : yielded ops a.tmps j = match a.tmps[d]? with | some (.bool b) => some b | _ => none := by
          unfold yielded
          rw [hj', Option.bind_some, hd]; rfl
        split at h
        · rename_i c hc
          injection h with h
          subst h
          rw [hc] at h0
          have h1 := h0.v_inv
          have : a.tmps[d]? = some (.bool c) := by
            cases hx : a.tmps[d]? with
            | none => simp [hx] at h1; cases h1
            | some v => simp [hx] at h1; subst h1; rfl
          rw [hy, this]
          cases c <;> cases want <;> rfl
        · rename_i v hne hc
          injection h with h
          subst h
          rw [hc] at h0
          have h1 := h0.v_inv
          rw [hy]
          cases hx : a.tmps[d]? with
          | none => rfl
          | some v' =>
            simp [hx] at h1
            subst h1
            cases v' <;> first | rfl | exact absurd rfl (hne _)
        · cases h
/-- What qi says, said of the machine in the region. -/
theorem oO {r : Rule} (ho : ops[i]? = some o) (hd : ∀ d, o.dst = some d → d < n) (hG : ∀ X, qi P X n ops o r) : ∀ (X : Ctx) (ρ : Rho) (σ : AS) (a : Act) (w : World), r.fires σ → Rel X n () ρ σ a w → ∀ (Q : Exit → Act → World → Prop) (rest : List Nat), (∀ ρ' a' w', Rel X n () ρ' (r.apply σ) a' w' → qc P ops Q rest a' w') → qc P ops Q (i :: rest) a w := by
  intro X ρ σ a w hf hR Q rest hK
  have h := hG X hd () ρ σ a w hf hR (qc P ops Q rest) (fun _ _ _ => False) (fun _ ρ' a' w' hh => hK ρ' a' w' hh)
  cases hw : Region.wanted o (yielded ops a.tmps) with
  | true => rw [if_pos hw] at h; exact opsAt_op ho hw h
  | false => rw [if_neg (by rw [hw]; simp)] at h; exact opsAt_skip ho hw h
theorem oneOp_skip (hw : wantG ops s.T o.guard = some false) (ho : ops[i]? = some o) (hd : ∀ d, o.dst = some d → d < n) (h : putT o.dst s.T (.v undef) (fun T => some ⟨T, s.H, s.nx, s.R, s.W⟩) = some s') : ∃ r, OpOk P n ops i o s s' r := by
  obtain ⟨T', h1, h2⟩ := lY o.dst s.T (.v undef) fun T => (some ⟨T, s.H, s.nx, s.R, s.W⟩ : Option CS)
  rw [h1] at h
  injection h with h
  subst h
  have hG : ∀ X, qi P X n ops o ⟨gtOf ops (stOf s.T s.H) o.guard, [], o.dst, .v undef, []⟩ := fun X hlt M ρ σ a w hf hR K Q hK => by
    have := kY hw hR hf.1
    rw [if_neg (by rw [this]; simp)]
    exact hK () ρ _ w (hR.put (.v _) hlt)
  exact ⟨⟨gtOf ops (stOf s.T s.H) o.guard, [], o.dst, .v undef, []⟩, fun q h => h, ⟨fS _ _ _, fun p hp => (by cases hp)⟩, (h2 (hg s.H)).symm, fun p hp => (by cases hp), fun q => (by simp), rfl, fun p hp => .inl hp, oO ho hd hG, fun _ => hG⟩
/-- A rule under its guard. -/
theorem guarded {r : Rule} (hw : wantG ops s.T o.guard = some true) (hO : zb P X n o r) : qi P X n ops o ⟨gtOf ops (stOf s.T s.H) o.guard ++ r.tr, r.hr, r.dst, r.y, r.hw⟩ := fun hlt M ρ σ a w hf hR K Q hK => by
  have := kY hw hR (fun p hp => hf.1 p (List.mem_append_left _ hp))
  rw [if_pos this]
  exact hO hlt M ρ σ a w ⟨fun p hp => hf.1 p (List.mem_append_right _ hp), hf.2⟩ hR K Q hK
theorem tE {d : Option Nat} {y : CV} {ss : List Nat} {hw : List (Nat × CO)} {nx : Nat} (h : putV d s y ss hw nx = some s') : stOf s'.T s'.H = (hups hw (stOf s.T s.H)).put d y ∧ (∀ q, Bt s'.R q ↔ Bt s.R q ∨ q ∈ ss) ∧ (∀ q, Bt s'.W q ↔ Bt s.W q ∨ q ∈ hw.map (·.1)) := by
  unfold putV at h
  obtain ⟨H', W', h1, h2, h3⟩ := rZ hw s.H s.W fun H W => putT d s.T y fun T => orL ss s.R fun R => (some ⟨T, H, nx, R, W⟩ : Option CS)
  rw [h1] at h
  obtain ⟨T', h4, h5⟩ := lY d s.T y fun T => orL ss s.R fun R => (some ⟨T, H', nx, R, W'⟩ : Option CS)
  rw [h4] at h
  obtain ⟨R', h6, h7⟩ := nN ss s.R fun R => (some ⟨T', H', nx, R, W'⟩ : Option CS)
  rw [h6] at h
  injection h with h
  subst h
  refine ⟨?_, h7, h3⟩
  show (⟨tg T', hg H'⟩ : AS) = _
  rw [h5 (hg H'), ← h2 (tg s.T)]
  congr 1
  refine dB (fun t => by rw [qt]; rfl) (fun q => rfl)
/-- An operation that is reckoned by its value. -/
theorem sM {y : CV} {ss : List Nat} {hw : List (Nat × CO)} {nx : Nat} {xs : List Operand} (hwt : wantG ops s.T o.guard = some true) (ho : ops[i]? = some o) (hd : ∀ d, o.dst = some d → d < n) (h : putV o.dst s y ss hw nx = some s') (hx : ∀ x ∈ xs, x ∈ o.op.operands.toList) (hO : ∀ X, zb P X n o (mkR (stOf s.T s.H) xs ss o.dst y hw)) : ∃ r, OpOk P n ops i o s s' r := by
  obtain ⟨h1, h2, h3⟩ := tE h
  have hG : ∀ X, qi P X n ops o _ := fun X => guarded hwt (hO X)
  refine ⟨⟨gtOf ops (stOf s.T s.H) o.guard ++ (mkR (stOf s.T s.H) xs ss o.dst y hw).tr, (mkR (stOf s.T s.H) xs ss o.dst y hw).hr, o.dst, y, hw⟩, fun q hq => (h2 q).2 (.inl hq), ⟨fun p hp => ?_, (zR (stOf s.T s.H) xs ss o.dst y hw).2⟩, h1.symm, fun p hp => ?_, h3, rfl, fun p hp => ?_, oO ho hd hG, fun _ => hG⟩
  · rcases List.mem_append.1 hp with hp | hp
    · exact fS _ _ _ p hp
    · exact (zR (stOf s.T s.H) xs ss o.dst y hw).1 p hp
  · simp only [mkR, ohr, List.mem_map] at hp
    obtain ⟨q, hq, rfl⟩ := hp
    exact (h2 q).2 (.inr hq)
  · rcases List.mem_append.1 hp with hp | hp
    · exact .inl hp
    · obtain ⟨x, h4, h5⟩ := bI xs p hp
      exact .inr ⟨x, hx x h4, h5⟩
/-- A call. -/
theorem oneOp_go {call : CallF} (hC : gW P call) {f : Nat} {args : List CV} {y : CV} {c : CS} {xs : List Operand} (hwt : wantG ops s.T o.guard = some true) (ho : ops[i]? = some o) (hd : ∀ d, o.dst = some d → d < n) (hcall : call f args s.H s.nx = some (y, c))
    (h : putT o.dst s.T y (fun T => fN (Nat.lor s.R c.R) fun R => fN (Nat.lor s.W c.W) fun W => some ⟨T, c.H, c.nx, R, W⟩) = some s') (hx : ∀ x ∈ xs, x ∈ o.op.operands.toList)
    (hgo : ∀ X M ρ τ a w, (∀ x ∈ xs, ev τ x = ev (stOf s.T s.H) x) → Rel X n M ρ τ a w → ∃ vs : List Value, (qK P f → (execOp a.eval o).run P w = .ok (.enter f ⟨vs⟩) w) ∧ vs.length = args.length ∧ ∀ (j : Nat) (x : CV) (u : Value), args[j]? = some x → vs[j]? = some u → Rep ρ x u) : ∃ r, OpOk P n ops i o s s' r := by
  obtain ⟨c1, c2, c3⟩ := hC _ _ _ _ _ _ hcall
  obtain ⟨T', h1, h2⟩ := lY o.dst s.T y fun T => fN (Nat.lor s.R c.R) fun R => fN (Nat.lor s.W c.W) fun W => (some ⟨T, c.H, c.nx, R, W⟩ : Option CS)
  rw [h1, qF, qF] at h
  injection h with h
  subst h
  have hO : ∀ X, zb P X n o ⟨otr (stOf s.T s.H) xs, (btL c.R).map fun q => (q, hg s.H q), o.dst, y, (btL c.W).map fun q => (q, hg c.H q)⟩ := fun X hlt M ρ σ a w hf hR K Q hK => by
    obtain ⟨vs, v1, v2, v3⟩ := hgo X M ρ σ a w (fI xs hf.1) hR
    unfold Oper.wp
    rw [v1 c2, Oper.upon_enter]
    have hX := c3 ⟨X.w0, ρ⟩ σ.H (fun q hq => hf.2 (q, hg s.H q) (by simp only [List.mem_map]; exact ⟨q, iU.2 hq, rfl⟩)) ρ w vs (hR.toHRel.ctx rfl fun _ _ e => e) v2 v3
    refine hX.mono ?_
    rintro e w' ⟨u, ρ', rfl, p1, p2, p3⟩
    refine hK () ρ' _ w' (Rel.put (σ := ⟨σ.T, ovr c.W (hg c.H) σ.H⟩) ?_ p3 hlt |> fun hh => by
      have e : (Rule.apply ⟨otr (stOf s.T s.H) xs, (btL c.R).map fun q => (q, hg s.H q), o.dst, y, (btL c.W).map fun q => (q, hg c.H q)⟩ σ) = AS.put ⟨σ.T, ovr c.W (hg c.H) σ.H⟩ o.dst y := by
        unfold Rule.apply
        rw [xA]
      rw [e]; exact hh)
    exact ⟨p2.ctx rfl fun s y e => p1 s y (hR.ext s y e), hR.sz, fun t => (hR.tm t).mono p1, hR.df⟩
  have hG : ∀ X, qi P X n ops o _ := fun X => guarded hwt (hO X)
  refine ⟨⟨gtOf ops (stOf s.T s.H) o.guard ++ otr (stOf s.T s.H) xs, (btL c.R).map fun q => (q, hg s.H q), o.dst, y, (btL c.W).map fun q => (q, hg c.H q)⟩, fun q hq => (eE _ _ _).2 (.inl hq), ⟨fun p hp => ?_, fun p hp => ?_⟩, ?_, fun p hp => ?_, fun q => ?_, rfl, fun p hp => ?_, oO ho hd hG, fun _ => hG⟩
  · rcases List.mem_append.1 hp with hp | hp
    · exact fS _ _ _ p hp
    · exact jB _ xs p hp
  · simp only [List.mem_map] at hp
    obtain ⟨q, hq, rfl⟩ := hp
    rfl
  · unfold Rule.apply
    rw [xA]
    show AS.put ⟨tg s.T, ovr c.W (hg c.H) (hg s.H)⟩ o.dst y = (⟨tg T', hg c.H⟩ : AS)
    rw [h2 (hg c.H)]
    congr 1
    refine dB (fun _ => rfl) fun q => ?_
    by_cases hq : Bt c.W q
    · exact bA hq
    · exact (jv hq).trans (c1 q hq).symm
  · simp only [List.mem_map] at hp
    obtain ⟨q, hq, rfl⟩ := hp
    exact (eE _ _ _).2 (.inr (iU.1 hq))
  · rw [eE]
    simp only [List.map_map]
    have : ((fun p : Nat × CO => p.1) ∘ fun q => (q, hg c.H q)) = id := rfl
    rw [this, List.map_id, iU]
  · rcases List.mem_append.1 hp with hp | hp
    · exact .inl hp
    · obtain ⟨x, h4, h5⟩ := bI xs p hp
      exact .inr ⟨x, hx x h4, h5⟩
end
end Go.Proofs.YtnafokinifbfhaaGreatDoor.Cx
namespace Go.Proofs.YtnafokinifbfhaaGreatDoor.Cx
open Go Go.RowKit
section
variable {P : Program} {X : Ctx} {n : Nat} {ops : Array Oper} {o : Oper} {s s' : CS} {i : Nat}
variable {TB : Tabs} {tb : Tb}
theorem Rel.setChan {ρ : Rho} {σ : AS} {a : Act} {w : World} (h : Rel X n () ρ σ a w) {q g cap ns nr ns' nr' : Nat} {buf buf' : List CV} {us : List Value} (hH : σ.H q = .chan cap buf ns nr) (hr : ρ q = some (g, 0, 0)) (hl : us.length = buf'.length)
    (hx : ∀ (j : Nat) (x : CV) (u : Value), buf'[j]? = some x → us[j]? = some u → Rep ρ x u) (hg : g < w.heap.size) (hge : X.w0.heap.size ≤ g) : Rel X n () ρ (σ.hup q (.chan cap buf' ns' nr')) a (w.setChan g cap ⟨us⟩ false ns' nr' false) :=
  h.chg (s := q) (by rw [hH]; rfl) hr (.chan cap buf' ns' nr') (by simp) (fun g' hg' => by simp only [World.setChan]; rw [Array.getElem?_setIfInBounds_ne (Ne.symm hg')]) rfl rfl rfl (by simp [World.setChan]) ⟨g, us, hr, Conc.heap_setChan w g cap ⟨us⟩ false ns' nr' false hg, hge, hl, hx⟩
theorem chan_at {ρ : Rho} {σ : AS} {a : Act} {w : World} (h : Rel X n () ρ σ a w) {q cap ns nr : Nat} {buf : List CV} {v : Value} (hH : σ.H q = .chan cap buf ns nr) (hv : Rep ρ (.ch q) v) : ∃ g, ∃ us : List Value, v = .chan (some g) ∧ ρ q = some (g, 0, 0) ∧ w.heap[g]? = some (.chan cap ⟨us⟩ false ns nr false) ∧ X.w0.heap.size ≤ g ∧ us.length = buf.length ∧ (∀ (j : Nat) (x : CV) (u : Value), buf[j]? = some x → us[j]? = some u → Rep ρ x u) ∧ g < w.heap.size := by
  have h0 := h.ob q
  rw [hH] at h0
  obtain ⟨g, us, h1, h2, h3, h4, h5⟩ := h0
  cases hv with
  | ch _ g1 hr =>
    rw [h1] at hr
    injection hr with hr; injection hr with hr _
    subst hr
    exact ⟨_, us, rfl, h1, h2, h3, h4, h5, (Array.getElem?_eq_some_iff.1 h2).1⟩
/-- A rule of one name in its region, by what the machine does there. -/
theorem nW {y : CV} {q : Nat} {hw : List (Nat × CO)} {nx : Nat} {xs : List Operand} (hc : iK o.op = true) (hwt : wantG ops s.T o.guard = some true) (ho : ops[i]? = some o) (hd : ∀ d, o.dst = some d → d < n) (h : putV o.dst s y [q] hw nx = some s') (hx : ∀ x ∈ xs, x ∈ o.op.operands.toList)
    (hS : ∀ (X : Ctx) (ρ : Rho) (σ : AS) (a : Act) (w : World), Region.wanted o (yielded ops a.tmps) = true → (∀ x ∈ xs, ev σ x = ev (stOf s.T s.H) x) → σ.H q = hg s.H q → Rel X n () ρ σ a w → ∀ (Q : Exit → Act → World → Prop) (rest : List Nat), (∀ (w' : World) (u : Value), Rep ρ y u → Rel X n () ρ (hups hw σ) a w' → qc P ops Q rest (a.put o.dst u) w') → qc P ops Q (i :: rest) a w) : ∃ r, OpOk P n ops i o s s' r := by
  obtain ⟨h1, h2, h3⟩ := tE h
  refine ⟨⟨gtOf ops (stOf s.T s.H) o.guard ++ otr (stOf s.T s.H) xs, [(q, hg s.H q)], o.dst, y, hw⟩, fun q hq => (h2 q).2 (.inl hq), ⟨fun p hp => ?_, fun p hp => ?_⟩, h1.symm, fun p hp => ?_, h3, rfl, fun p hp => ?_, fun X ρ σ a w hf hR Q rest hK => ?_, fun e => by rw [hc] at e; cases e⟩
  · rcases List.mem_append.1 hp with hp | hp
    · exact fS _ _ _ p hp
    · exact jB _ xs p hp
  · simp at hp; subst hp; rfl
  · simp at hp; subst hp; exact (h2 q).2 (.inr (by simp))
  · rcases List.mem_append.1 hp with hp | hp
    · exact .inl hp
    · obtain ⟨x, h4, h5⟩ := bI xs p hp
      exact .inr ⟨x, hx x h4, h5⟩
  · have hw := kY hwt hR (fun p hp => hf.1 p (List.mem_append_left _ hp))
    refine hS X ρ σ a w hw (fI xs fun p hp => hf.1 p (List.mem_append_right _ hp)) (hf.2 (q, hg s.H q) (by simp)) hR Q rest fun w' u hu hR' => ?_
    exact hK ρ _ w' (hR'.put hu hd)
theorem oneOp_send {ch x : Operand} (hop : o.op = .send ch x) {call : CallF} (hwt : wantG ops s.T o.guard = some true) (ho : ops[i]? = some o) (hd : ∀ d, o.dst = some d → d < n) (h : stepR call o.dst s (oSend ch x tb s.T s.H s.nx) = some s') : ∃ r, OpOk P n ops i o s s' r := by
  unfold oSend at h
  rw [yQ s.T s.H, yQ s.T s.H] at h
  unfold sendX at h
  split at h
  · rename_i q hq
    split at h
    · rename_i cap buf ns nr hH
      cases hb : Nat.blt buf.length cap with
      | false => rw [hb] at h; cases h
      | true =>
        rw [hb, cond_true, fJ, qF] at h
        unfold stepR at h
        simp only [Nat.beq_refl, cond_true] at h
        have hroom : buf.length < cap := Nat.le_of_ble_eq_true hb
        refine nW (xs := [ch, x]) (by rw [hop]; rfl) hwt ho hd h (by rw [hop]; simp [Op.operands]) fun X ρ σ a w hw he hHq hR Q rest hK => ?_
        have h1 := hR.ev ch
        rw [he ch (by simp), hq] at h1
        have h2 := hR.ev x
        rw [he x (by simp)] at h2
        have hHs : σ.H q = .chan cap buf ns nr := hHq.trans hH
        obtain ⟨g, us, e1, e2, e3, e4, e5, e6, e7⟩ := chan_at hR hHs h1
        have hrun : (execOp a.eval o).run P w = .ok (.comm #[Conc.scase g (a.eval x) (.tuple #[])] true .send) w := by
          unfold execOp
          rw [hop]
          simp only [e1]
          rfl
        refine opsAt_send ho hw hrun e3 (by simp; omega) ?_
        have hpush : (⟨us⟩ : Array Value).push (a.eval x) = ⟨us ++ [a.eval x]⟩ := by simp
        rw [hpush]
        refine hK _ undef (.v _) ?_
        exact hR.setChan hHs e2 (by simp [e5]) (fun j y u hy hu => by
          rw [List.getElem?_append] at hy hu
          rw [e5] at hu
          split at hy
          · rename_i hj; rw [if_pos hj] at hu; exact e6 j y u hy hu
          · rename_i hj
            rw [if_neg hj] at hu
            have : j - buf.length = 0 := by have := zM hy; simp at this; omega
            rw [this] at hy hu
            simp at hy hu
            subst hy; subst hu
            exact h2) e7 e4
    · cases h
  · cases h
theorem xT (hT : TbOk P TB tb) {t : Nat} {ch : Operand} {ok : Bool} (hop : o.op = .recv t ch ok) {call : CallF} (hwt : wantG ops s.T o.guard = some true) (ho : ops[i]? = some o) (hd : ∀ d, o.dst = some d → d < n) (h : stepR call o.dst s (oRecv t ch ok tb s.T s.H s.nx) = some s') : ∃ r, OpOk P n ops i o s s' r := by
  unfold oRecv at h
  rw [yQ s.T s.H] at h
  cases ok with
  | true => cases h
  | false =>
    simp only [cond_false] at h
    split at h
    · rename_i b hch
      obtain ⟨dir, e, ti, z, t1, t2, t3, t4⟩ := hT.ch _ _ hch
      unfold recvX at h
      split at h
      · rename_i q hq
        split at h
        · rename_i cap y buf ns nr hH
          rw [qF] at h
          unfold stepR at h
          simp only [Nat.beq_refl, cond_true] at h
          refine nW (xs := [ch]) (by rw [hop]; rfl) hwt ho hd h (by rw [hop]; simp [Op.operands]) fun X ρ σ a w hw he hHq hR Q rest hK => ?_
          have h1 := hR.ev ch
          rw [he ch (by simp), hq] at h1
          have hHs : σ.H q = .chan cap (y :: buf) ns nr := hHq.trans hH
          obtain ⟨g, us, e1, e2, e3, e4, e5, e6, e7⟩ := chan_at hR hHs h1
          obtain ⟨u, us', rfl⟩ : ∃ u us', us = u :: us' := by
            cases us with
            | nil => simp at e5
            | cons u us' => exact ⟨u, us', rfl⟩
          have hrun : (execOp a.eval o).run P w = .ok (.comm #[Conc.rcase g z] true (.recv false)) w := by
            unfold execOp
            rw [hop]
            simp [e1, Sem.run_bind, run_underlying t1, zeroValue, typeInfo, t2, t4, Conc.rcase]
          refine xX (v := u) ho hw hrun e3 (by simp) (by simp) ?_
          have hex : (⟨u :: us'⟩ : Array Value).extract 1 (⟨u :: us'⟩ : Array Value).size = ⟨us'⟩ := by
            apply Array.toList_inj.1
            simp
          rw [hex]
          refine hK _ u (e6 0 y u rfl rfl) ?_
          exact hR.setChan hHs e2 (by simpa using e5) (fun j x v hx hv => e6 (j + 1) x v (by simpa using hx) (by simpa using hv)) e7 e4
        · cases h
      · cases h
    · cases h
/-- Whatever the operation. -/
theorem wN (hT : TbOk P TB tb) {call : CallF} (hC : gW P call) (ho : ops[i]? = some o) (hd : ∀ d, o.dst = some d → d < n) (h : oneOp tb call ops o s = some s') : ∃ r, OpOk P n ops i o s s' r := by
  unfold oneOp at h
  cases hw : wantG ops s.T o.guard with
  | none => rw [hw] at h; cases h
  | some b =>
    rw [hw] at h
    cases b with
    | false => exact oneOp_skip hw ho hd h
    | true =>
      unfold oneW at h
      simp only at h
      by_cases hs : ∃ c x, o.op = .send c x
      · obtain ⟨c, x, hop⟩ := hs
        rw [hop] at h
        exact oneOp_send (tb := tb) hop hw ho hd h
      · by_cases hr : ∃ t c ok, o.op = .recv t c ok
        · obtain ⟨t, c, ok, hop⟩ := hr
          rw [hop] at h
          exact xT hT hop hw ho hd h
        · have hS := fun X => opOf_snd (X := X) (n := n) (T := s.T) (H := s.H) (nx := s.nx) hT (o := o) (fun c x e => hs ⟨c, x, e⟩) (fun t c ok e => hr ⟨t, c, ok, e⟩)
          cases hres : opOf o.op tb s.T s.H s.nx with
          | no => rw [hres] at h; cases h
          | go f args =>
            rw [hres] at h
            unfold stepR at h
            simp only at h
            split at h
            · rename_i y c hcall
              have key : ∀ X, ∃ xs : List Operand, (∀ x ∈ xs, x ∈ o.op.operands.toList) ∧ ∀ M ρ τ a w, (∀ x ∈ xs, ev τ x = ev (stOf s.T s.H) x) → Rel X n M ρ τ a w → ∃ vs : List Value, (qK P f → (execOp a.eval o).run P w = .ok (.enter f ⟨vs⟩) w) ∧ vs.length = args.length ∧ ∀ (j : Nat) (x : CV) (u : Value), args[j]? = some x → vs[j]? = some u → Rep ρ x u := fun X => by
                have := hS X
                rw [hres] at this
                exact this
              refine oneOp_go hC (xs := o.op.operands.toList) hw ho hd hcall h (fun x hx => hx) fun X M ρ τ a w he hR => ?_
              obtain ⟨xs, k1, k2⟩ := key X
              exact k2 M ρ τ a w (fun x hx => he x (k1 x hx)) hR
            · cases h
          | val y ss hws nx' =>
            rw [hres] at h
            unfold stepR at h
            simp only at h
            have key : (nx' ≠ s.nx → hg s.H s.nx = .none) → ∀ X, zb P X n o (mkR (stOf s.T s.H) o.op.operands.toList ss o.dst y hws) := fun h0 X => by
              have := hS X
              rw [hres] at this
              obtain ⟨xs, k1, k2⟩ := this h0
              intro hlt M ρ τ a w hf hR K Q hK
              refine k2 hlt M ρ τ a w ⟨fun p hp => ?_, hf.2⟩ hR K Q hK
              obtain ⟨x, x1, x2⟩ := bI xs p hp
              have := fI _ hf.1 x (k1 x x1)
              rw [x2] at this
              have hp2 := jB (stOf s.T s.H) xs p hp
              rw [← hp2]
              exact this
            cases hb : Nat.beq nx' s.nx with
            | true =>
              rw [hb, cond_true] at h
              exact sM hw ho hd h (fun x hx => hx) (key fun hne => absurd (Nat.eq_of_beq_eq_true hb) hne)
            | false =>
              rw [hb, cond_false] at h
              cases hn : hg s.H s.nx with
              | none =>
                rw [hn] at h
                simp only [isNew, cond_true, qF] at h
                exact sM hw ho hd h (fun x hx => hx) (key fun _ => hn)
              | _ => rw [hn] at h; cases h
end
end Go.Proofs.YtnafokinifbfhaaGreatDoor.Cx
