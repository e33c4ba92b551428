/- A region that draws its order, walked once in the text's order, where operations that are not ordered do not meet; nothing of the program stands here; conditions: none. -/
import Derived.Test.YtbacidnhjmdnlaaDoorAbsA
set_option linter.unusedVariables false
set_option linter.unusedSimpArgs false
namespace Go.Proofs.YtbacidnhjmdnlaaDoor
open Go Go.RowKit
def Rule.wT (r : Rule) (t : Nat) : Option AV := match r.dst with
  | some d => bif Nat.beq t d then some r.y else none
  | none => none
def lastH : List (Nat × HC) → Nat → Option HC
  | [], _ => none
  | p :: l, s => match lastH l s with
    | some h => some h
    | none => bif Nat.beq s p.1 then some p.2 else none
theorem hups_T : ∀ (l : List (Nat × HC)) (σ : AS), (hups l σ).T = σ.T
  | [], _ => rfl
  | p :: l, σ => hups_T l _
theorem hups_H : ∀ (l : List (Nat × HC)) (σ : AS) (s : Nat), (hups l σ).H s = (lastH l s).getD (σ.H s)
  | [], _, _ => rfl
  | p :: l, σ, s => by
    unfold hups lastH
    rw [hups_H l]
    cases h : lastH l s with
    | some x => rfl
    | none =>
      simp only [AS.hup]
      cases Nat.beq s p.1 <;> rfl
theorem apply_T (r : Rule) (σ : AS) (t : Nat) : (r.apply σ).T t = (r.wT t).getD (σ.T t) := by
  unfold Rule.apply Rule.wT
  cases r.dst with
  | none => simp [AS.put, hups_T]
  | some d =>
    simp only [AS.put, hups_T]
    cases Nat.beq t d <;> rfl
theorem apply_H (r : Rule) (σ : AS) (s : Nat) : (r.apply σ).H s = (lastH r.hw s).getD (σ.H s) := by
  unfold Rule.apply
  rw [← hups_H]
  cases r.dst <;> rfl
def valN {α : Type} (f : Nat → Option α) (d : α) : Nat → α
  | 0 => d
  | m + 1 => (f m).getD (valN f d m)
theorem valN_congr {α : Type} {f g : Nat → Option α} {d : α} : ∀ {m : Nat}, (∀ j, j < m → f j = g j) → valN f d m = valN g d m
  | 0, _ => rfl
  | m + 1, h => by rw [valN, valN, h m (by omega), valN_congr fun j hj => h j (by omega)]
theorem valN_none {α : Type} {f : Nat → Option α} {d : α} {i : Nat} : ∀ {m : Nat}, i ≤ m → (∀ j, i ≤ j → j < m → f j = none) → valN f d m = valN f d i
  | 0, h, _ => by obtain rfl : i = 0 := by omega
                  rfl
  | m + 1, h, hn => by
    by_cases he : i = m + 1
    · rw [he]
    · rw [valN, hn m (by omega) (by omega)]
      exact valN_none (by omega) fun j h1 h2 => hn j h1 (by omega)
theorem valN_some {α : Type} {f : Nat → Option α} {d y : α} {i m : Nat} (hi : i < m) (hf : f i = some y) (hn : ∀ j, i < j → j < m → f j = none) : valN f d m = y := by
  rw [valN_none (i := i + 1) (by omega) fun j h1 h2 => hn j (by omega) h2, valN, hf]; rfl
def runN (rs : List Rule) (p : Nat → Bool) (σ : AS) : Nat → AS
  | 0 => σ
  | m + 1 => match rs[m]? with
    | some r => bif p m then r.apply (runN rs p σ m) else runN rs p σ m
    | none => runN rs p σ m
theorem runN_T (rs : List Rule) (p : Nat → Bool) (σ : AS) (t : Nat) : ∀ m, (runN rs p σ m).T t = valN (fun j => bif p j then (rs[j]?).bind (·.wT t) else none) (σ.T t) m
  | 0 => rfl
  | m + 1 => by
    rw [runN, valN, ← runN_T rs p σ t m]
    cases h : rs[m]? with
    | none => cases p m <;> rfl
    | some r =>
      cases p m
      · rfl
      · simp only [cond_true, Option.bind_some]; exact apply_T r _ t
theorem runN_H (rs : List Rule) (p : Nat → Bool) (σ : AS) (s : Nat) : ∀ m, (runN rs p σ m).H s = valN (fun j => bif p j then (rs[j]?).bind (fun r => lastH r.hw s) else none) (σ.H s) m
  | 0 => rfl
  | m + 1 => by
    rw [runN, valN, ← runN_H rs p σ s m]
    cases h : rs[m]? with
    | none => cases p m <;> rfl
    | some r =>
      cases p m
      · rfl
      · simp only [cond_true, Option.bind_some]; exact apply_H r _ s
theorem runN_take (rs : List Rule) (p : Nat → Bool) (σ : AS) : ∀ m, (∀ j, j < m → p j = true) → runN rs p σ m = runR (rs.take m) σ
  | 0, _ => rfl
  | m + 1, h => by
    rw [runN, runN_take rs p σ m fun j hj => h j (by omega), h m (by omega)]
    cases hr : rs[m]? with
    | none =>
      have : rs.length ≤ m := by simpa using hr
      rw [List.take_of_length_le this, List.take_of_length_le (by omega)]
    | some r => rw [take_at hr, runR_snoc]; rfl
def disj (l l' : List Nat) : Bool := l.all fun x => l'.all fun y => !Nat.beq x y
theorem disj_at {l l' : List Nat} (h : disj l l' = true) {x : Nat} (h1 : x ∈ l) (h2 : x ∈ l') : False := by
  have := List.all_eq_true.1 (List.all_eq_true.1 h x h1) x h2
  simp [Nat.beq_refl] at this
def apart (r q : Rule) : Bool :=
  disj r.dst.toList (q.tr.map (·.1) ++ q.dst.toList) && disj q.dst.toList (r.tr.map (·.1)) && disj (r.hw.map (·.1)) (q.hr.map (·.1) ++ q.hw.map (·.1)) && disj (q.hw.map (·.1)) (r.hr.map (·.1))
theorem wT_mem {r : Rule} {t : Nat} {y : AV} (h : r.wT t = some y) : t ∈ r.dst.toList := by
  unfold Rule.wT at h
  cases hd : r.dst with
  | none => rw [hd] at h; cases h
  | some d =>
    rw [hd] at h
    cases hb : Nat.beq t d
    · simp [hb] at h
    · simp [Nat.eq_of_beq_eq_true hb]
theorem lastH_mem : ∀ {l : List (Nat × HC)} {s : Nat} {h : HC}, lastH l s = some h → s ∈ l.map (·.1)
  | p :: l, s, h, e => by
    unfold lastH at e
    cases hl : lastH l s with
    | some x => exact List.mem_cons_of_mem _ (lastH_mem hl)
    | none =>
      rw [hl] at e
      cases hb : Nat.beq s p.1
      · simp [hb] at e
      · rw [Nat.eq_of_beq_eq_true hb]; simp
def force {α : Type} (n : Nat) (k : Nat → α) : α := match n with
  | 0 => k 0
  | m + 1 => k (m + 1)
theorem force_eq {α : Type} (n : Nat) (k : Nat → α) : force n k = k n := by cases n <;> rfl
def bef1 (acc : List Nat) : List Edge → Nat → Nat
  | [], s => s
  | e :: es, s => bif Region.binds .any e then force (s ||| 2 ^ e.on ||| acc.getD e.on 0) (bef1 acc es) else bef1 acc es s
def befs : List Oper → List Nat → List Nat
  | [], acc => acc
  | o :: os, acc => force (bef1 acc o.after.toList 0) fun b => befs os (acc ++ [b])
inductive Pre (ops : Array Oper) : Nat → Nat → Prop where
  | one {i j : Nat} {o : Oper} {e : Edge} (ho : ops[j]? = some o) (he : e ∈ o.after) (hb : Region.binds .any e = true) (hi : e.on = i) : Pre ops i j
  | more {i m j : Nat} {o : Oper} {e : Edge} (h : Pre ops i m) (ho : ops[j]? = some o) (he : e ∈ o.after) (hb : Region.binds .any e = true) (hi : e.on = m) : Pre ops i j
theorem bef1_pre {ops : Array Oper} {acc : List Nat} {j : Nat} {o : Oper} (ho : ops[j]? = some o) (hacc : ∀ m i, (acc.getD m 0).testBit i = true → Pre ops i m) :
    ∀ (es : List Edge) (s : Nat), (∀ e ∈ es, e ∈ o.after) → (∀ i, s.testBit i = true → Pre ops i j) → ∀ i, (bef1 acc es s).testBit i = true → Pre ops i j
  | [], s, _, hs, i, h => hs i h
  | e :: es, s, he, hs, i, h => by
    unfold bef1 at h
    cases hb : Region.binds .any e
    · rw [hb] at h
      exact bef1_pre ho hacc es s (fun x hx => he x (by simp [hx])) hs i h
    · rw [hb, cond_true, force_eq] at h
      refine bef1_pre ho hacc es _ (fun x hx => he x (by simp [hx])) (fun i hi => ?_) i h
      rw [Nat.testBit_or, Nat.testBit_or, Bool.or_eq_true, Bool.or_eq_true] at hi
      rcases hi with (h1 | h1) | h1
      · exact hs i h1
      · rw [Nat.testBit_two_pow] at h1
        exact .one ho (he e (by simp)) hb (by simpa using h1)
      · exact .more (hacc e.on i h1) ho (he e (by simp)) hb rfl
theorem befs_pre {ops : Array Oper} : ∀ (os : List Oper) (acc : List Nat), (∀ k, ops[acc.length + k]? = os[k]?) → (∀ m i, (acc.getD m 0).testBit i = true → Pre ops i m) →
    ∀ m i, ((befs os acc).getD m 0).testBit i = true → Pre ops i m
  | [], acc, _, hacc => hacc
  | o :: os, acc, hk, hacc => by
    unfold befs
    rw [force_eq]
    refine befs_pre os _ (fun k => by have := hk (k + 1); simpa [Nat.add_assoc, Nat.add_comm 1 k] using this) (fun m i h => ?_)
    rw [List.getD_eq_getElem?_getD, List.getElem?_append] at h
    split at h
    · exact hacc m i (by rw [List.getD_eq_getElem?_getD]; exact h)
    · rename_i hm
      have ho : ops[acc.length]? = some o := by simpa using hk 0
      by_cases he : m = acc.length
      · subst he
        simp at h
        exact bef1_pre ho hacc _ 0 (fun e he => by simpa using he) (by simp) i h
      · rw [List.getElem?_eq_none (by simp; omega)] at h
        simp at h
def indepB (ops : List Oper) (rs : List Rule) : Bool :=
  let b := befs ops []
  (rs.zipIdx.all fun (q, j) => force (b.getD j 0) fun bj => rs.zipIdx.all fun (r, i) => !Nat.blt i j || Nat.testBit bj i || apart r q) &&
  ops.zipIdx.all fun (o, j) => o.after.toList.all fun e => !Region.binds .any e || Nat.blt e.on j
theorem indep_at {ops : Array Oper} {rs : List Rule} (h : indepB ops.toList rs = true) {i j : Nat} {r q : Rule} (hi : rs[i]? = some r) (hj : rs[j]? = some q) (hlt : i < j) : Pre ops i j ∨ apart r q = true := by
  unfold indepB at h
  rw [Bool.and_eq_true] at h
  have h1 := List.all_eq_true.1 h.1 (q, j) (by rw [List.mem_zipIdx_iff_getElem?]; simpa using hj)
  simp only [force_eq] at h1
  have h2 := List.all_eq_true.1 h1 (r, i) (by rw [List.mem_zipIdx_iff_getElem?]; simpa using hi)
  simp only [Bool.or_eq_true] at h2
  rcases h2 with (h3 | h3) | h3
  · have : Nat.blt i j = true := by simp [Nat.blt, Nat.ble_eq]; omega
    simp [this] at h3
  · exact .inl (befs_pre ops.toList [] (fun k => by simp) (by simp) j i h3)
  · exact .inr h3
theorem back_at {ops : Array Oper} {rs : List Rule} (h : indepB ops.toList rs = true) {j : Nat} {o : Oper} (ho : ops[j]? = some o) {e : Edge} (he : e ∈ o.after) (hb : Region.binds .any e = true) : e.on < j := by
  unfold indepB at h
  rw [Bool.and_eq_true] at h
  have h1 := List.all_eq_true.1 h.2 (o, j) (by rw [List.mem_zipIdx_iff_getElem?]; simpa using ho)
  have h2 := List.all_eq_true.1 h1 e (by simpa using he)
  rw [hb] at h2
  simp only [Bool.not_true, Bool.false_or] at h2
  exact Nat.le_of_ble_eq_true h2
end Go.Proofs.YtbacidnhjmdnlaaDoor
