/- The executor's tries, and its dispatch: any operation but those on channels is sound; nothing of the program stands here; conditions: tables that agree with the program's / The executor's regions as the machine goes through them, sends and receives among them; nothing of the program stands here; conditions: none. -/
import Derived.Test.YtnafokinifbfhaaGreatDoorCxO
import Derived.Conc.LoneCalls
set_option linter.unusedVariables false
set_option linter.unusedSimpArgs false
namespace Go.Proofs.YtnafokinifbfhaaGreatDoor.Cx
open Go Go.RowKit
section
variable {α : Type}
theorem jQ (d : α) (l : Tr α) (x : α) (r : Tr α) (k : Nat) : (Tr.node l x r).get d k = bif Nat.beq k 0 then x else bif Nat.beq (k % 2) 1 then l.get d (k / 2) else r.get d (k / 2 - 1) := by
  show @Bool.rec (fun _ => α) (@Bool.rec (fun _ => α) (r.get d (Nat.sub (Nat.div k 2) 1)) (l.get d (Nat.div k 2)) (Nat.beq (Nat.mod k 2) 1)) x (Nat.beq k 0) = _
  cases Nat.beq k 0
  · show @Bool.rec (fun _ => α) (r.get d (Nat.sub (Nat.div k 2) 1)) (l.get d (Nat.div k 2)) (Nat.beq (Nat.mod k 2) 1) = bif Nat.beq (Nat.mod k 2) 1 then l.get d (Nat.div k 2) else r.get d (Nat.sub (Nat.div k 2) 1)
    cases Nat.beq (Nat.mod k 2) 1 <;> rfl
  · rfl
theorem gD (d : α) (k : Nat) : (Tr.nil : Tr α).get d k = d := rfl
theorem setK_succ {β : Type} (d v : α) (f k : Nat) (t : Tr α) (K : Tr α → β) : ∃ l x r, (∀ j, t.get d j = (Tr.node l x r).get d j) ∧ setK d v (f + 1) k t K = bif Nat.beq k 0 then K (.node l v r) else bif Nat.beq (k % 2) 1 then setK d v f (k / 2) l (fun l' => K (.node l' x r)) else setK d v f (k / 2 - 1) r (fun r' => K (.node l x r')) := by
  have key : ∀ (l : Tr α) (x : α) (r : Tr α), @Bool.rec (fun _ => β) (@Bool.rec (fun _ => β) (setK d v f (Nat.sub (Nat.div k 2) 1) r fun r' => K (.node l x r')) (setK d v f (Nat.div k 2) l fun l' => K (.node l' x r)) (Nat.beq (Nat.mod k 2) 1)) (K (.node l v r)) (Nat.beq k 0) =
      bif Nat.beq k 0 then K (.node l v r) else bif Nat.beq (k % 2) 1 then setK d v f (k / 2) l (fun l' => K (.node l' x r)) else setK d v f (k / 2 - 1) r (fun r' => K (.node l x r')) := fun l x r => by
    cases Nat.beq k 0
    · show @Bool.rec (fun _ => β) _ _ (Nat.beq (Nat.mod k 2) 1) = bif Nat.beq (Nat.mod k 2) 1 then _ else _
      cases Nat.beq (Nat.mod k 2) 1 <;> rfl
    · rfl
  cases t with
  | nil =>
    refine ⟨.nil, d, .nil, fun j => ?_, (key .nil d .nil)⟩
    rw [jQ, gD, gD, gD]
    cases Nat.beq j 0 <;> cases Nat.beq (j % 2) 1 <;> rfl
  | node l x r => exact ⟨l, x, r, fun j => rfl, key l x r⟩
theorem cI {β : Type} (d v : α) : ∀ (f k : Nat) (t : Tr α) (K : Tr α → β), k < f → ∃ t' : Tr α, setK d v f k t K = K t' ∧ ∀ j, t'.get d j = if j = k then v else t.get d j
  | 0, k, t, K, h => by omega
  | f + 1, k, t, K, h => by
    obtain ⟨l, x, r, h1, h2⟩ := setK_succ d v f k t K
    rw [h2]
    by_cases hk : k = 0
    · subst hk
      refine ⟨.node l v r, rfl, fun j => ?_⟩
      rw [h1, jQ, jQ]
      by_cases hj : j = 0
      · subst hj; rfl
      · rw [if_neg hj, zV hj]; rfl
    · rw [zV hk, cond_false]
      by_cases hodd : k % 2 = 1
      · rw [hodd]
        obtain ⟨l', e1, e2⟩ := cI d v f (k / 2) l (fun l' => K (.node l' x r)) (by omega)
        refine ⟨.node l' x r, e1, fun j => ?_⟩
        rw [h1, jQ, jQ, e2]
        by_cases hj : j = 0
        · subst hj
          show x = if 0 = k then v else x
          exact (if_neg (fun e => hk e.symm)).symm
        · rw [zV hj, cond_false, cond_false]
          by_cases hjo : j % 2 = 1
          · rw [hjo]
            show (if j / 2 = k / 2 then v else l.get d (j / 2)) = if j = k then v else l.get d (j / 2)
            by_cases e : j = k
            · rw [if_pos (by rw [e]), if_pos e]
            · rw [if_neg (by omega), if_neg e]
          · rw [zV hjo, cond_false, cond_false, if_neg (by omega)]
      · rw [zV hodd, cond_false]
        obtain ⟨r', e1, e2⟩ := cI d v f (k / 2 - 1) r (fun r' => K (.node l x r')) (by omega)
        refine ⟨.node l x r', e1, fun j => ?_⟩
        rw [h1, jQ, jQ, e2]
        by_cases hj : j = 0
        · subst hj
          show x = if 0 = k then v else x
          exact (if_neg (fun e => hk e.symm)).symm
        · rw [zV hj, cond_false, cond_false]
          by_cases hjo : j % 2 = 1
          · rw [hjo]
            show l.get d (j / 2) = if j = k then v else l.get d (j / 2)
            rw [if_neg (by omega)]
          · rw [zV hjo, cond_false, cond_false]
            by_cases e : j = k
            · rw [if_pos (by rw [e]), if_pos e]
            · rw [if_neg (by omega), if_neg e]
end
/-- A number's bits, as a set. -/
def Bt (m q : Nat) : Prop := m.testBit q = true
theorem oT (s q : Nat) : Bt (2 ^ s) q ↔ q = s := by unfold Bt; rw [Nat.testBit_two_pow]; simp [eq_comm]
theorem eE (m k q : Nat) : Bt (Nat.lor m k) q ↔ Bt m q ∨ Bt k q := by
  unfold Bt
  show (m ||| k).testBit q = true ↔ _
  rw [Nat.testBit_or, Bool.or_eq_true]
theorem bt_zero (q : Nat) : ¬ Bt 0 q := by unfold Bt; simp
theorem lY {β : Type} (d : Option Nat) (T : Tr CV) (y : CV) (K : Tr CV → β) : ∃ T' : Tr CV, putT d T y K = K T' ∧ ∀ H0, (⟨tg T', H0⟩ : AS) = AS.put ⟨tg T, H0⟩ d y := by
  cases d with
  | none => exact ⟨T, rfl, fun _ => rfl⟩
  | some d =>
    obtain ⟨T', h1, h2⟩ := cI (.v undef) y (Nat.succ d) d T K (Nat.lt_succ_self d)
    refine ⟨T', h1, fun H0 => dB (fun t => ?_) (fun _ => rfl)⟩
    show T'.get (.v undef) t = bif Nat.beq t d then y else tg T t
    rw [h2]
    by_cases h : t = d
    · rw [if_pos h, h, Nat.beq_refl]; rfl
    · rw [if_neg h, zV h]; rfl
theorem rZ {β : Type} : ∀ (l : List (Nat × CO)) (H : Tr CO) (W : Nat) (K : Tr CO → Nat → β), ∃ (H' : Tr CO) (W' : Nat), setL l H W K = K H' W' ∧ (∀ T0, (hups l ⟨T0, hg H⟩).H = hg H') ∧ ∀ q, Bt W' q ↔ Bt W q ∨ q ∈ l.map (·.1)
  | [], H, W, K => ⟨H, W, rfl, fun _ => rfl, fun q => by simp⟩
  | p :: l, H, W, K => by
    obtain ⟨H1, h1, h2⟩ := cI .none p.2 (Nat.succ p.1) p.1 H (fun H => fN (Nat.lor W (Nat.pow 2 p.1)) fun W => setL l H W K) (Nat.lt_succ_self _)
    obtain ⟨H2, W2, h3, h4, h5⟩ := rZ l H1 (Nat.lor W (Nat.pow 2 p.1)) K
    refine ⟨H2, W2, h1.trans h3, fun T0 => ?_, fun q => ?_⟩
    · rw [← h4 T0, hups]
      congr 2
      unfold AS.hup
      congr 1
      funext s
      show (bif Nat.beq s p.1 then p.2 else hg H s) = H1.get .none s
      rw [h2]
      by_cases h : s = p.1
      · rw [if_pos h, h, Nat.beq_refl]; rfl
      · rw [if_neg h, zV h]; rfl
    · rw [h5, eE, show Nat.pow 2 p.1 = 2 ^ p.1 from rfl, oT, List.map_cons, List.mem_cons, or_assoc]
theorem nN {β : Type} : ∀ (l : List Nat) (m : Nat) (K : Nat → β), ∃ m', orL l m K = K m' ∧ ∀ q, Bt m' q ↔ Bt m q ∨ q ∈ l
  | [], m, K => ⟨m, rfl, fun q => by simp⟩
  | s :: l, m, K => by
    obtain ⟨m', h1, h2⟩ := nN l (Nat.lor m (Nat.pow 2 s)) K
    refine ⟨m', h1, fun q => ?_⟩
    rw [h2, eE, show Nat.pow 2 s = 2 ^ s from rfl, oT, List.mem_cons, or_assoc]
theorem oH {β : Type} : ∀ (l : List CV) (i : Nat) (T : Tr CV) (K : Tr CV → β), ∃ T' : Tr CV, start l i T K = K T' ∧ ∀ j, tg T' j = if i ≤ j ∧ j < i + l.length then (l[j - i]?).getD (.v undef) else tg T j
  | [], i, T, K => ⟨T, rfl, fun j => by rw [if_neg (by simp)]⟩
  | x :: l, i, T, K => by
    obtain ⟨T1, h1, h2⟩ := cI (.v undef) x (Nat.succ i) i T (fun T => start l (Nat.succ i) T K) (Nat.lt_succ_self _)
    obtain ⟨T2, h3, h4⟩ := oH l (i + 1) T1 K
    refine ⟨T2, h1.trans h3, fun j => ?_⟩
    rw [h4]
    by_cases hj : j = i
    · subst hj
      rw [if_neg (by omega), if_pos (by simp)]
      show T1.get (.v undef) j = _
      rw [h2, if_pos rfl, Nat.sub_self]; rfl
    · by_cases hc : i + 1 ≤ j ∧ j < i + 1 + l.length
      · rw [if_pos hc, if_pos (by simp; omega), show j - i = (j - (i + 1)) + 1 by omega, List.getElem?_cons_succ]
      · rw [if_neg hc, if_neg (by simp; omega)]
        show T1.get (.v undef) j = T.get (.v undef) j
        rw [h2, if_neg hj]
section
variable {P : Program} {X : Ctx} {n : Nat} {d : Option Nat} {ty : TypeId} {ps : String} {af : Array Edge} {g : Option (Nat × Bool)} {T : Tr CV} {H : Tr CO} {nx : Nat}
variable {TB : Tabs} {tb : Tb} (hT : TbOk P TB tb)
theorem snd_call {f : Operand} {args : Array Operand} {tys : Array TypeId} : Snd P X n ⟨d, .call ⟨.value f, args, tys⟩, ty, ps, af, g⟩ (stOf T H) nx (callX args.toList T (eT f T)) := by
  rw [yQ T H]
  unfold callX
  split
  · rename_i g1 as1 bs hf
    rw [tX, fJ, map_ev (H := H)]
    refine ⟨f :: args.toList, by simp [Op.operands, Call.operands], fun M ρ τ a w he hR => ?_⟩
    have h1 := hR.ev f
    rw [he f (by simp), hf] at h1
    obtain ⟨us, vs, e1, e2, e3, e4, e5⟩ : ∃ us vs : List Value, a.eval f = .func (.func g1) ⟨us⟩ ⟨vs⟩ ∧ us.length = as1.length ∧ (∀ (j : Nat) (x : CV) (u : Value), as1[j]? = some x → us[j]? = some u → Rep ρ x u) ∧ vs.length = bs.length ∧ (∀ (j : Nat) (x : CV) (u : Value), bs[j]? = some x → vs[j]? = some u → Rep ρ x u) := by
      generalize a.eval f = q at h1
      cases h1 with
      | fn _ _ _ us vs a1 a2 a3 a4 => exact ⟨us, vs, rfl, a1, a2, a3, a4⟩
    refine ⟨us ++ args.toList.map a.eval ++ vs, fun hE => ?_, by simp [e2, e4], fun j x u hx hu => ?_⟩
    · have hq : (⟨us⟩ ++ args.map a.eval ++ ⟨vs⟩ : Array Value) = ⟨us ++ args.toList.map a.eval ++ vs⟩ := by apply Array.toList_inj.1; simp
      unfold execOp
      simp only [resolve, e1, Deferred.ofValue, Sem.run_bind, Sem.run_pure, Result.andThen_ok, invoke]
      rw [hq]
      exact hE _ w
    · rw [List.getElem?_append] at hx hu
      simp only [List.length_append, List.length_map] at hx hu
      rw [e2] at hu
      split at hx
      · rename_i hj
        rw [if_pos hj] at hu
        rw [List.getElem?_append] at hx hu
        rw [e2] at hu
        split at hx
        · rename_i hj2
          rw [if_pos hj2] at hu
          exact e3 j x u hx hu
        · rename_i hj2
          rw [if_neg hj2] at hu
          rw [List.getElem?_map] at hx hu
          cases ho : args.toList[j - as1.length]? with
          | none => rw [ho] at hx; cases hx
          | some o =>
            rw [ho] at hx hu
            injection hx with hx; injection hu with hu
            subst hx; subst hu
            have := hR.ev o
            rwa [he o (by simp [Array.mem_toList_iff.1 (List.mem_of_getElem? ho)])] at this
      · rename_i hj
        rw [if_neg hj] at hu
        exact e5 _ x u hx hu
  · trivial
include hT
theorem snd_callop {c : Call} : Snd P X n ⟨d, .call c, ty, ps, af, g⟩ (stOf T H) nx (oCall c tb T H nx) := by
  obtain ⟨callee, args, tys⟩ := c
  cases callee with
  | value f => exact snd_call
  | invoke r m => trivial
  | builtin b =>
    show Snd P X n _ _ nx (biX b args.toList tys.toList tb T H nx)
    generalize hr : biX b args.toList tys.toList = r
    unfold biX at hr
    split at hr <;> subst hr
    · rename_i x t h1 h2
      show Snd P X n _ _ nx (lenX tb H t nx (eT x T))
      rw [yQ T H]
      obtain rfl := arr1 h1
      obtain rfl := arr1 h2
      exact snd_len hT
    · rename_i x y t t' h1 h2
      show Snd P X n _ _ nx (bif Nat.beq t t' then appE H nx (eT x T) (eT y T) (mK tb (tb.sle t)) else .no)
      rw [yQ T H, yQ T H]
      obtain rfl := arr2 h1
      obtain rfl := arr2 h2
      refine yN fun hb => ?_
      obtain rfl := Nat.eq_of_beq_eq_true hb
      exact snd_append hT
    · rename_i x y t t' h1 h2
      show Snd P X n _ _ nx (minX nx (eT x T) (eT y T))
      rw [yQ T H, yQ T H]
      obtain rfl := arr2 h1
      obtain rfl := arr2 h2
      exact snd_min
    · trivial
/-- Any operation but a send or a receive. -/
theorem opOf_snd {o : Oper} (hs : ∀ c x, o.op ≠ .send c x) (hr : ∀ t c ok, o.op ≠ .recv t c ok) : Snd P X n o (stOf T H) nx (opOf o.op tb T H nx) := by
  obtain ⟨d, op, ty, ps, af, g⟩ := o
  cases op with
  | move x => exact snd_move (tb := tb)
  | assign x => exact xZ (tb := tb)
  | pick c a b => exact snd_pick (tb := tb)
  | alloc e => exact snd_alloc hT
  | box e x => exact snd_box (tb := tb)
  | build t parts => exact snd_build hT
  | buildSlice t len parts => exact snd_bsl hT
  | load t x => exact snd_load hT
  | store t x y => exact snd_store hT
  | nilCheck x => exact snd_nil (tb := tb)
  | binOp op tx x y yt => exact snd_bin hT
  | unOp op tx x => exact snd_un (tb := tb)
  | convert s d x => exact snd_conv hT
  | makeInterface t x => exact snd_mkif hT
  | makeFunc f a b => exact snd_mkf (tb := tb)
  | makeMap t r => exact snd_mkmap (tb := tb)
  | makeChan t m => exact snd_mkch hT
  | makeSlice t l c => exact snd_mksl hT
  | slice t x lo hi mx => exact snd_slice hT
  | fieldAddr t x f => exact snd_field hT
  | indexAddr t x i => exact rB hT
  | index t x i => exact snd_index hT
  | lookup t m k ok => exact snd_look hT
  | mapUpdate t m k v => exact snd_upd hT
  | typeAssert x t a ok => exact snd_tya hT
  | extract t i => exact snd_ext (tb := tb)
  | send c x => exact absurd rfl (hs c x)
  | recv t c ok => exact absurd rfl (hr t c ok)
  | call c => exact snd_callop hT
  | _ => trivial
end
end Go.Proofs.YtnafokinifbfhaaGreatDoor.Cx
namespace Go.Proofs.YtnafokinifbfhaaGreatDoor.Cx
open Go Go.RowKit
/-- The machine stands in a region, so many operations before its end. -/
def qc (P : Program) (ops : Array Oper) (Q : Exit → Act → World → Prop) (l : List Nat) (a : Act) (w : World) : Prop :=
  ∀ (b : Frame) (k : List Item) (cs : List Frame), ∃ e a' w', Q e a' w' ∧ Arrives P (lone (b.at a (.inRegion ops l :: k)) cs w) b k cs e a' w'
section
variable {P : Program} {ops : Array Oper} {Q : Exit → Act → World → Prop} {a : Act} {w : World} {i : Nat} {rest : List Nat} {o : Oper}
theorem opsAt_nil (h : Q .normal a w) : qc P ops Q [] a w := fun b k cs => ⟨.normal, a, w, h, .one step_region_end⟩
theorem opsAt_skip (ho : ops[i]? = some o) (hw : Region.wanted o (yielded ops a.tmps) = false) (h : qc P ops Q rest (a.put o.dst undef) w) : qc P ops Q (i :: rest) a w := by
  intro b k cs
  obtain ⟨e, a', w', hq, harr⟩ := h b k cs
  have hs := step_op_skip (P := P) (b := b) (a := a) (k := k) (cs := cs) (w := w) (ops := ops) (i := i) (rest := rest) (by simp [ho, hw])
  simp only [ho, Option.bind_some] at hs
  exact ⟨e, a', w', hq, .of_steps (.one hs) harr⟩
theorem gE (ho : ops[i]? = some o) (b : Frame) (k : List Item) (v : Value) : (b.at a (.inRegion ops (i :: rest) :: k)).finish v = b.at (a.put o.dst v) (.inRegion ops rest :: k) := by
  rw [Frame.finish_at, ho]; rfl
/-- One operation that does not talk to a channel. -/
theorem opsAt_op (ho : ops[i]? = some o) (hw : Region.wanted o (yielded ops a.tmps) = true) (h : Oper.wp P o a w (qc P ops Q rest) fun _ _ _ => False) : qc P ops Q (i :: rest) a w := by
  intro b k cs
  simp only [Oper.wp, Oper.upon] at h
  have hg := stepG_op (P := P) (b := b) (k := k) (cs := cs) (w := w) (rest := rest) ho hw
  have hfin := fun v => gE (a := a) (rest := rest) ho b k v
  split at h
  · rename_i v w' hr
    obtain ⟨e, a', w'', hq, harr⟩ := h b k cs
    refine ⟨e, a', w'', hq, .of_steps (.one (step_lone_go ?_)) harr⟩
    rw [hg, ← hfin]; simp [stepG.apply, hr]
  · rename_i w' hr
    obtain ⟨e, a', w'', hq, harr⟩ := h b k cs
    refine ⟨e, a', w'', hq, .of_steps (.one (step_lone_go ?_)) harr⟩
    rw [hg, ← hfin]; simp [stepG.apply, hr]
  · rename_i d w' hr
    obtain ⟨e, a', w'', hq, harr⟩ := h b k cs
    refine ⟨e, a', w'', hq, .of_steps (.one (step_lone_go ?_)) harr⟩
    have : ({ b.at a (.inRegion ops (i :: rest) :: k) with defers := d :: a.defers } : Frame).finish undef = b.at ({ a with defers := d :: a.defers }.put o.dst undef) (.inRegion ops rest :: k) := gE (a := { a with defers := d :: a.defers }) (rest := rest) ho b k undef
    rw [hg]
    simp only [stepG.apply, Sem.runT_eq, hr, GStep.bare_after]
    exact congrArg (fun fr => GStep.go { frame := fr, callers := cs, status := .running, dying := none } w') this
  · rename_i f args w' hr
    obtain ⟨e, w'', fr, hR, hsteps, _, hleave⟩ := h (b.at a (.inRegion ops (i :: rest) :: k) :: cs)
    have henter : step P (lone (b.at a (.inRegion ops (i :: rest) :: k)) cs w) = .next (lone (Frame.enter P f args .normal) (b.at a (.inRegion ops (i :: rest) :: k) :: cs) w') :=
      step_lone_go (by rw [hg]; simp [stepG.apply, hr, Frame.at])
    cases e with
    | returned v =>
      obtain ⟨e, a', w₃, hq, harr⟩ := hR b k cs
      refine ⟨e, a', w₃, hq, .of_steps (.head henter (hsteps.trans (.one ?_))) harr⟩
      rw [← hfin]; exact step_leave_returned hleave
    | panicked chain => exact hR.elim
    | outgrown =>
      obtain ⟨a₀, w₀, hq⟩ := hR
      exact hq.elim
  · rename_i row args w' hr
    obtain ⟨v, w'', hR, hsteps⟩ := h (b.at a (.inRegion ops (i :: rest) :: k)) cs
    have henter : step P (lone (b.at a (.inRegion ops (i :: rest) :: k)) cs w) = .next (lone (Frame.ofRow P row args .normal) (b.at a (.inRegion ops (i :: rest) :: k) :: cs) w') :=
      step_lone_go (by rw [hg]; simp [stepG.apply, hr, Frame.at])
    obtain ⟨e, a', w₃, hq, harr⟩ := hR b k cs
    refine ⟨e, a', w₃, hq, .of_steps (.head henter ?_) harr⟩
    rw [← hfin]; exact hsteps
  · exact h.elim
  · exact h.elim
theorem opsAt_send (ho : ops[i]? = some o) (hw : Region.wanted o (yielded ops a.tmps) = true) {c cap s r : Nat} {buf : Array Value} {z v : Value} (hrun : (execOp a.eval o).run P w = .ok (.comm #[Conc.scase c v z] true .send) w) (hc : w.heap[c]? = some (.chan cap buf false s r false)) (hroom : buf.size < cap)
    (h : qc P ops Q rest (a.put o.dst undef) (w.setChan c cap (buf.push v) false (s + 1) r false)) : qc P ops Q (i :: rest) a w := by
  intro b k cs
  obtain ⟨e, a', w', hq, harr⟩ := h b k cs
  have hg := stepG_op (P := P) (b := b) (k := k) (cs := cs) (w := w) (rest := rest) ho hw
  have hs : ∃ es, stepG P true (Conc.G (b.at a (.inRegion ops (i :: rest) :: k)) cs) w = .comm (Conc.G (b.at a (.inRegion ops (i :: rest) :: k)) cs) #[Conc.scase c v z] true .send w es := by
    show ∃ es, stepG P true { frame := b.at a (.inRegion ops (i :: rest) :: k), callers := cs, status := .running, dying := none } w = .comm _ #[Conc.scase c v z] true .send w es
    rw [hg]
    simp only [stepG.apply, Sem.runT_eq, hrun]
    exact ⟨_, rfl⟩
  obtain ⟨es, hs⟩ := hs
  have h1 := Conc.step_lone_send_room hs hc hroom
  rw [gE ho b k undef] at h1
  exact ⟨e, a', w', hq, .of_steps (.one h1) harr⟩
theorem xX (ho : ops[i]? = some o) (hw : Region.wanted o (yielded ops a.tmps) = true) {c cap s r : Nat} {buf : Array Value} {z v : Value} (hrun : (execOp a.eval o).run P w = .ok (.comm #[Conc.rcase c z] true (.recv false)) w) (hc : w.heap[c]? = some (.chan cap buf false s r false)) (hsome : 0 < buf.size) (hv : buf.getD 0 undef = v)
    (h : qc P ops Q rest (a.put o.dst v) (w.setChan c cap (buf.extract 1 buf.size) false s (r + 1) false)) : qc P ops Q (i :: rest) a w := by
  intro b k cs
  obtain ⟨e, a', w', hq, harr⟩ := h b k cs
  have hg := stepG_op (P := P) (b := b) (k := k) (cs := cs) (w := w) (rest := rest) ho hw
  have hs : ∃ es, stepG P true (Conc.G (b.at a (.inRegion ops (i :: rest) :: k)) cs) w = .comm (Conc.G (b.at a (.inRegion ops (i :: rest) :: k)) cs) #[Conc.rcase c z] true (.recv false) w es := by
    show ∃ es, stepG P true { frame := b.at a (.inRegion ops (i :: rest) :: k), callers := cs, status := .running, dying := none } w = .comm _ #[Conc.rcase c z] true (.recv false) w es
    rw [hg]
    simp only [stepG.apply, Sem.runT_eq, hrun]
    exact ⟨_, rfl⟩
  obtain ⟨es, hs⟩ := hs
  have h1 := Conc.step_lone_recv_buf false hs hc hsome
  rw [gE ho b k _] at h1
  subst hv
  exact ⟨e, a', w', hq, .of_steps (.one h1) harr⟩
end
end Go.Proofs.YtnafokinifbfhaaGreatDoor.Cx
