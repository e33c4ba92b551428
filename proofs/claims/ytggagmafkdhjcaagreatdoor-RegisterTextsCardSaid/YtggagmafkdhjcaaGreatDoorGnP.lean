/- Texts of lines of words, names of a network found again, by plain functions; nothing of the program stands here. -/
import Derived.Test.YtggagmafkdhjcaaGreatDoorLxA
import Derived.Test.YtggagmafkdhjcaaGreatDoorWdP
import Derived.Test.YtggagmafkdhjcaaGreatDoorLnP
import Derived.Test.YtggagmafkdhjcaaGreatDoorRnP
import Derived.Test.YtggagmafkdhjcaaGreatDoorLxB
set_option linter.unusedVariables false
set_option linter.unusedSimpArgs false
namespace Go.Proofs.YtggagmafkdhjcaaGreatDoor
open Go Go.RowKit
def jz (L : List (List UInt8)) : List UInt8 := L.flatMap fun l => l ++ [10]
def okC (c : UInt8) : Prop := 32 ≤ c.toNat ∧ c.toNat ≤ 126
theorem nQ : ∀ (l cur r : List UInt8), (∀ c ∈ l, c ≠ 10) → ll cur (l ++ 10 :: r) = (cur ++ l) :: ll [] r
  | [], cur, r, _ => by simp [ll]
  | c :: l, cur, r, h => by
    rw [List.cons_append, ll, if_neg (h c (by simp)), nQ l _ r (fun x hx => h x (by simp [hx]))]
    simp
theorem rG : ∀ {L : List (List UInt8)}, (∀ l ∈ L, ∀ c ∈ l, c ≠ 10) → ll [] (jz L) = L
  | [], _ => rfl
  | l :: L, h => by
    unfold jz
    rw [List.flatMap_cons, List.append_assoc, List.singleton_append, nQ l [] _ (h l (by simp))]
    have := rG (L := L) (fun x hx => h x (by simp [hx]))
    unfold jz at this
    rw [this]; rfl
theorem iM : ∀ {L : List (List UInt8)}, L ≠ [] → (jz L).getLast? = some 10 := by
  intro L h
  obtain ⟨A, x, rfl⟩ : ∃ A x, L = A ++ [x] := ⟨L.dropLast, L.getLast h, (List.dropLast_concat_getLast h).symm⟩
  unfold jz
  rw [List.flatMap_append, List.flatMap_cons, List.flatMap_nil, List.append_nil, ← List.append_assoc]
  simp
def wAt (W : List (List UInt8)) (k : Nat) : List UInt8 := (W[k]?).getD []
theorem uT {l : List UInt8} (h : ql l = true) : l ≠ [] ∧ (∀ c ∈ l, c ≠ 32) ∧ l.length ≤ 12 := by
  unfold ql at h
  simp only [Bool.and_eq_true, decide_eq_true_eq] at h
  obtain ⟨⟨h1, h2⟩, h3⟩ := h
  refine ⟨by rintro rfl; simp at h2, ?_, h3⟩
  have key : ∀ (l : List UInt8) (f : Bool), qD l f = true → ∀ c ∈ l, c ≠ 32 := by
    intro l
    induction l with
    | nil => intro f _ c hc; cases hc
    | cons x r ih =>
      intro f hf c hc
      rw [qD, Bool.and_eq_true] at hf
      rcases List.mem_cons.1 hc with rfl | hc
      · rintro rfl
        have : bV (32 : UInt8).toNat f = false := by cases f <;> decide +kernel
        rw [this] at hf; cases hf.1
      · exact ih _ hf.2 c hc
  exact key l true h1
theorem kJ {d : Nat} (h : d < 10) : UInt8.ofNat (48 + d) ≠ 32 := by
  intro e
  have := congrArg UInt8.toNat e
  simp at this
  omega
theorem rT : ∀ n : Nat, ∀ c ∈ Lib.decDigits n, c ≠ (32 : UInt8) := by
  intro n
  induction n using Nat.strongRecOn with
  | _ n ih =>
    intro c hc
    rw [Lib.decDigits] at hc
    split at hc
    · rename_i h
      rw [List.mem_singleton.1 hc]
      exact kJ h
    · rename_i h
      rcases List.mem_append.1 hc with hc | hc
      · exact ih (n / 10) (by omega) c hc
      · rw [List.mem_singleton.1 hc]
        exact kJ (Nat.mod_lt _ (by decide))
theorem nC (n : Int) : ∀ c ∈ Lib.itoa n, c ≠ (32 : UInt8) := by
  intro c hc
  unfold Lib.itoa at hc
  split at hc
  · rcases List.mem_cons.1 hc with rfl | hc
    · decide
    · exact rT _ c hc
  · exact rT _ c hc
theorem eZ : ∀ (W : List (List UInt8)) (b : Nat), (∀ w ∈ W, w.length ≤ b) → (jq W).length ≤ W.length * (b + 1)
  | [], b, _ => by simp [fP]
  | [w], b, h => by have := h w (by simp); rw [cS]; simp; omega
  | w :: x :: r, b, h => by
    have h1 := h w (by simp)
    have h2 := eZ (x :: r) b (fun y hy => h y (List.mem_cons_of_mem _ hy))
    rw [bR, List.length_append]
    have e : (w :: x :: r).length = (x :: r).length + 1 := rfl
    rw [e, Nat.succ_mul]
    simp only [List.length_cons] at h2 ⊢
    omega
instance (c : UInt8) : Decidable (okC c) := by unfold okC; infer_instance
theorem wY {L : List (List UInt8)} (h : ∀ l ∈ L, ∀ c ∈ l, okC c) : (jz L).all okB = true := by
  rw [List.all_eq_true]
  intro c hc
  unfold jz at hc
  obtain ⟨l, hl, hc⟩ := List.mem_flatMap.1 hc
  rcases List.mem_append.1 hc with hc | hc
  · exact cA.2 (.inr (h l hl c hc))
  · simp at hc; subst hc; exact cA.2 (.inl rfl)
theorem pK {L : List (List UInt8)} (h : ∀ l ∈ L, ∀ c ∈ l, okC c) (hl : (jz L).length ≤ 65536) : jy (jz L) = some L := by
  by_cases h0 : L = []
  · subst h0; rfl
  · have hne : jz L ≠ [] := fun e => by have := iM h0; rw [e] at this; cases this
    rw [eT hne hl (iM h0) (wY h), rG (fun l hl c hc e => by have := (h l hl c hc).1; rw [e] at this; exact absurd this (by decide))]
theorem tR {c : UInt8} (h : aE c.toNat = true) : okC c ∧ c ≠ 35 ∧ c ≠ 32 := by
  unfold aE qB fA at h
  simp only [Bool.or_eq_true, Bool.and_eq_true, decide_eq_true_eq, beq_iff_eq] at h
  refine ⟨⟨by omega, by omega⟩, fun e => ?_, fun e => ?_⟩ <;> (subst e; simp at h)
theorem gH : ∀ {l : List UInt8}, qJ l = true → ∀ c ∈ l, okC c ∧ c ≠ 35 ∧ c ≠ 32
  | [], _, c, hc => by cases hc
  | x :: r, h, c, hc => by
    rw [qJ, Bool.and_eq_true] at h
    rcases List.mem_cons.1 hc with rfl | hc
    · exact tR h.1
    · exact gH h.2 c hc
theorem tC {l : List UInt8} (h : ql l = true) : ∀ c ∈ l, okC c ∧ c ≠ 35 ∧ c ≠ 32 := by
  rw [← iT] at h
  cases l with
  | nil => cases h
  | cons c r =>
    unfold aR at h
    simp only [Bool.and_eq_true] at h
    exact gH h.2
theorem fZ {d : Nat} (h : d < 10) : okC (UInt8.ofNat (48 + d)) := by
  have e : (UInt8.ofNat (48 + d)).toNat = 48 + d := by simp; omega
  unfold okC
  rw [e]
  omega
theorem nP : ∀ n : Nat, ∀ c ∈ Lib.decDigits n, okC c := by
  intro n
  induction n using Nat.strongRecOn with
  | _ n ih =>
    intro c hc
    rw [Lib.decDigits] at hc
    split at hc
    · rename_i h
      rw [List.mem_singleton.1 hc]
      exact fZ h
    · rename_i h
      rcases List.mem_append.1 hc with hc | hc
      · exact ih (n / 10) (by omega) c hc
      · rw [List.mem_singleton.1 hc]
        exact fZ (Nat.mod_lt _ (by decide))
theorem lM (n : Int) : ∀ c ∈ Lib.itoa n, okC c := by
  intro c hc
  unfold Lib.itoa at hc
  split at hc
  · rcases List.mem_cons.1 hc with rfl | hc
    · decide
    · exact nP _ c hc
  · exact nP _ c hc
theorem lF : ∀ {W : List (List UInt8)}, (∀ w ∈ W, ∀ c ∈ w, okC c) → ∀ c ∈ jq W, okC c
  | [], _, c, hc => by rw [fP] at hc; cases hc
  | [w], h, c, hc => by rw [cS] at hc; exact h w (by simp) c hc
  | w :: x :: r, h, c, hc => by
    rw [bR] at hc
    rcases List.mem_append.1 hc with hc | hc
    · exact h w (by simp) c hc
    · rcases List.mem_cons.1 hc with rfl | hc
      · decide
      · exact lF (fun y hy => h y (List.mem_cons_of_mem _ hy)) c hc
/-- A word of a programme. -/
def WdOk (w : List UInt8) : Prop := w ≠ [] ∧ (∀ c ∈ w, c ≠ 32) ∧ (∀ c ∈ w, okC c) ∧ w.length ≤ 20
instance (w : List UInt8) : Decidable (∀ c ∈ w, okC c) := by unfold okC; infer_instance
instance (w : List UInt8) : Decidable (WdOk w) := by unfold WdOk; infer_instance
theorem nO : ∀ {L : List (List UInt8)} {b : Nat}, (∀ l ∈ L, l.length ≤ b) → (jz L).length ≤ L.length * (b + 1)
  | [], b, _ => by simp [jz]
  | l :: L, b, h => by
    have h1 := h l (by simp)
    have h2 := nO (L := L) (b := b) (fun x hx => h x (by simp [hx]))
    unfold jz at h2 ⊢
    rw [List.flatMap_cons, List.length_append, List.length_append]
    have e : (l :: L).length = L.length + 1 := rfl
    rw [e, Nat.succ_mul]
    simp only [List.length_singleton]
    omega
theorem mQ : ∀ (l cur : List UInt8), ∀ w ∈ ll cur l, w.length ≤ cur.length + l.length
  | [], cur, w, h => by simp [ll] at h
  | c :: l, cur, w, h => by
    rw [ll] at h
    split at h
    · rcases List.mem_cons.1 h with rfl | h
      · simp
      · have := mQ l [] w h
        simp at this ⊢; omega
    · have := mQ l _ w h
      simp at this ⊢; omega
theorem mT : ∀ (l cur : List UInt8), (ll cur l).length ≤ l.length
  | [], cur => by simp [ll]
  | c :: l, cur => by
    rw [ll]
    split
    · have := mT l []
      simp; omega
    · have := mT l (cur ++ [c])
      simp; omega
theorem oQ {l : List UInt8} : ((jy l).getD []).length ≤ l.length ∧ ∀ w ∈ (jy l).getD [], w.length ≤ l.length := by
  unfold jy
  split
  · simp
  split
  · simp
  split
  · refine ⟨mT l [], fun w hw => ?_⟩
    have := mQ l [] w hw
    simpa using this
  · simp
end Go.Proofs.YtggagmafkdhjcaaGreatDoor
