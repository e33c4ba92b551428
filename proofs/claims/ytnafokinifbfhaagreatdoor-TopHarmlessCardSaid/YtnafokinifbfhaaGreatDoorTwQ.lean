/- Ways in a network, in plain words: what is reached from some nodes over the devices that may be used, by how many of them, and that a way has fewer devices than there are nodes; nothing of the program stands here; conditions: none / The law of TopWays in plain words: a zone is isolated exactly if no way leads from it to a node that is fed; nothing of the program stands here; conditions: none. -/
import Derived.Test.YtnafokinifbfhaaGreatDoorNetP
set_option linter.unusedVariables false
set_option linter.unusedSimpArgs false
namespace Go.Proofs.YtnafokinifbfhaaGreatDoor
open Go Go.RowKit
/-- The other node of a device that joins; -1: none. -/
def acr (d : Dv) (v : Int) : Int := if yH d.k = true then (if d.a = v then d.b else if d.b = v then d.a else -1) else -1
theorem oQ {d : Dv} {n : Nat} (h : zj d n = true) {v w : Int} (hw : acr d v = w) (h0 : 0 ≤ w) : w < n ∧ acr d w = v := by
  unfold acr at hw ⊢
  unfold zj at h
  split at h
  · cases h
  · rename_i ha
    split at h
    · rename_i hj
      rw [hj] at hw
      simp at hw
      omega
    · rename_i hj
      have hj : yH d.k = true := by cases hq : yH d.k <;> simp_all
      rw [hj] at hw ⊢
      simp only [if_true] at hw ⊢
      simp at h
      split at hw
      · rename_i e
        subst hw
        refine ⟨by omega, ?_⟩
        rw [if_neg (by omega), if_pos rfl, e]
      · split at hw
        · rename_i e1 e2
          subst hw
          refine ⟨by omega, ?_⟩
          rw [if_pos rfl, e2]
        · omega
/-- How far a flood has come: for each node how many devices lead to it, -1 where it is not reached; and who waits. -/
abbrev Fl := List Int × List Int
def bdev (U : Nat → Bool) (v : Int) (i : Nat) (d : Dv) (S : Fl) : Fl :=
  if 0 ≤ acr d v ∧ U i = true ∧ S.1.getD (acr d v).toNat 0 < 0 then (S.1.set (acr d v).toNat (S.1.getD v.toNat 0 + 1), S.2 ++ [acr d v]) else S
def dO (U : Nat → Bool) (v : Int) : Nat → List Dv → Fl → Fl
  | _, [], S => S
  | i, d :: V, S => dO U v (i + 1) V (bdev U v i d S)
/-- The first one that waits, done. -/
def qn (U : Nat → Bool) (V : List Dv) (S : Fl) : Fl := match S.2 with
  | [] => S
  | v :: Q => dO U v 0 V (S.1, Q)
def brun (U : Nat → Bool) (V : List Dv) : Nat → Fl → Fl
  | 0, S => S
  | k + 1, S => brun U V k (qn U V S)
def yn (n : Nat) (L : List Int) : List Int := L.foldl (fun O v => O.set v.toNat 0) (List.replicate n (-1))
/-- How many wait, and how many are not reached yet. -/
def mu (S : Fl) : Nat := 2 * S.1.countP (fun x => decide (x < 0)) + S.2.length
inductive Rch (U : Nat → Bool) (V : List Dv) (L : List Int) : Int → Prop where
  | base {v : Int} (h : v ∈ L) : Rch U V L v
  | step {v w : Int} {i : Nat} {d : Dv} (h : Rch U V L v) (hd : V[i]? = some d) (hu : U i = true) (hw : acr d v = w) (h0 : 0 ≤ w) : Rch U V L w
theorem Rch.tail {U : Nat → Bool} {V : List Dv} {L : List Int} {v w : Int} (h : Rch U V [v] w) (hv : Rch U V L v) : Rch U V L w := by
  induction h with
  | base h => simp at h; subst h; exact hv
  | step h hd hu hw h0 ih => exact .step ih hd hu hw h0
theorem Rch.symm {U : Nat → Bool} {V : List Dv} {n : Nat} (hV : ∀ d ∈ V, zj d n = true) {v w : Int} (h : Rch U V [v] w) (h0 : 0 ≤ v) : Rch U V [w] v ∧ 0 ≤ w := by
  induction h with
  | base h => simp at h; subst h; exact ⟨.base (by simp), h0⟩
  | step h hd hu hw h0 ih =>
    obtain ⟨_, h2⟩ := oQ (hV _ (List.mem_of_getElem? hd)) hw h0
    refine ⟨?_, h0⟩
    refine Rch.tail ih.1 ?_
    exact .step (.base (by simp)) hd hu h2 ih.2
/-- What holds of a flood: nodes below i of the waiting ones. -/
structure FlOk (U : Nat → Bool) (V : List Dv) (L : List Int) (n : Nat) (S : Fl) : Prop where
  len : S.1.length = n
  wait : ∀ q ∈ S.2, 0 ≤ q ∧ ∃ k : Nat, S.1[q.toNat]? = some (k : Int)
  low : ∀ (x : Nat) (z : Int), S.1[x]? = some z → -1 ≤ z
  rch : ∀ (x : Nat) (k : Nat), S.1[x]? = some (k : Int) → Rch U V L (x : Int)
  pre : ∀ (x k : Nat), S.1[x]? = some ((k + 1 : Nat) : Int) → ∃ (i : Nat) (d : Dv), V[i]? = some d ∧ U i = true ∧ 0 ≤ acr d x ∧ S.1[(acr d x).toNat]? = some (k : Int)
/-- A node's neighbours are reached, as far as devices below i lead. -/
def Clo (U : Nat → Bool) (V : List Dv) (O : List Int) (x : Int) (m : Nat) : Prop := ∀ (i : Nat) (d : Dv), i < m → V[i]? = some d → U i = true → 0 ≤ acr d x → ∃ k : Nat, O[(acr d x).toNat]? = some (k : Int)
section
variable {U : Nat → Bool} {V : List Dv} {L : List Int} {n : Nat}
theorem getD_some {O : List Int} {x : Nat} {z : Int} (h : O[x]? = some z) : O.getD x 0 = z := by rw [List.getD_eq_getElem?_getD, h]; rfl
theorem neg_or {S : Fl} (h : FlOk U V L n S) {x : Nat} (hx : x < n) : S.1[x]? = some (-1) ∨ ∃ k : Nat, S.1[x]? = some (k : Int) := by
  obtain ⟨z, hz⟩ := zB (L := S.1) (k := x) (by rw [h.len]; exact hx)
  have := h.low x z hz
  by_cases h0 : z = -1
  · exact .inl (by rw [hz, h0])
  · obtain ⟨k, hk⟩ := Int.eq_ofNat_of_zero_le (show 0 ≤ z by omega)
    exact .inr ⟨k, by rw [hz, hk]⟩
/-- One device of the node that is done. -/
theorem bdev_ok (hV : ∀ d ∈ V, zj d n = true) {S : Fl} (h : FlOk U V L n S) {v : Int} (hv0 : 0 ≤ v) {kv : Nat} (hv : S.1[v.toNat]? = some (kv : Int)) {i : Nat} {d : Dv} (hd : V[i]? = some d) :
    FlOk U V L n (bdev U v i d S) ∧ (∀ (x k : Nat), S.1[x]? = some (k : Int) → (bdev U v i d S).1[x]? = some (k : Int)) ∧ (∀ q ∈ S.2, q ∈ (bdev U v i d S).2) ∧ (∀ x : Nat, (∃ k : Nat, (bdev U v i d S).1[x]? = some (k : Int)) → (∃ k : Nat, S.1[x]? = some (k : Int)) ∨ (x : Int) ∈ (bdev U v i d S).2) ∧
      (U i = true → 0 ≤ acr d v → ∃ k : Nat, (bdev U v i d S).1[(acr d v).toNat]? = some (k : Int)) ∧ mu (bdev U v i d S) ≤ mu S := by
  by_cases hc : 0 ≤ acr d v ∧ U i = true ∧ S.1.getD (acr d v).toNat 0 < 0
  · obtain ⟨c1, c2, c3⟩ := hc
    obtain ⟨w1, w2⟩ := oQ (hV d (List.mem_of_getElem? hd)) rfl c1
    have e : bdev U v i d S = (S.1.set (acr d v).toNat ((kv : Int) + 1), S.2 ++ [acr d v]) := by unfold bdev; rw [if_pos ⟨c1, c2, c3⟩, getD_some hv]
    obtain ⟨w, hw⟩ : ∃ w : Nat, acr d v = w := ⟨_, (Int.toNat_of_nonneg c1).symm⟩
    rw [hw] at c1 c3 w1 w2 e ⊢
    simp only [Int.toNat_natCast] at c3 e ⊢
    have hwn : w < n := by omega
    have hneg : S.1[w]? = some (-1) := by
      rcases neg_or h hwn with h1 | ⟨k, h1⟩
      · exact h1
      · rw [getD_some h1] at c3; omega
    have hwl : w < S.1.length := by rw [h.len]; exact hwn
    have keep : ∀ (x k : Nat), S.1[x]? = some (k : Int) → (S.1.set w ((kv : Int) + 1))[x]? = some (k : Int) := fun x k hx => by
      rw [List.getElem?_set_ne (fun e => by subst e; rw [hneg] at hx; injection hx with hx; omega)]; exact hx
    have hself : (S.1.set w ((kv : Int) + 1))[w]? = some ((kv : Int) + 1) := List.getElem?_set_self hwl
    rw [e]
    refine ⟨⟨by simp [h.len], fun q hq => ?_, fun x z hx => ?_, fun x k hx => ?_, fun x k hx => ?_⟩, keep, fun q hq => List.mem_append_left _ hq, fun x ⟨k, hk⟩ => ?_, fun _ _ => ⟨kv + 1, by rw [hself]; simp⟩, ?_⟩
    · rcases List.mem_append.1 hq with hq | hq
      · obtain ⟨q0, k, hk⟩ := h.wait q hq
        exact ⟨q0, k, keep _ k hk⟩
      · simp at hq
        subst hq
        exact ⟨c1, kv + 1, by rw [Int.toNat_natCast, hself]; simp⟩
    · by_cases hxw : x = w
      · subst hxw; rw [hself] at hx; injection hx with hx; omega
      · rw [List.getElem?_set_ne (Ne.symm hxw)] at hx; exact h.low x z hx
    · by_cases hxw : x = w
      · subst hxw
        have hr := h.rch v.toNat kv hv
        rw [Int.toNat_of_nonneg hv0] at hr
        exact .step hr hd c2 hw c1
      · rw [List.getElem?_set_ne (Ne.symm hxw)] at hx; exact h.rch x k hx
    · by_cases hxw : x = w
      · subst hxw
        rw [hself] at hx
        injection hx with hx
        have hk : k = kv := by omega
        subst hk
        refine ⟨i, d, hd, c2, by rw [w2]; exact hv0, ?_⟩
        rw [w2]
        exact keep _ _ hv
      · rw [List.getElem?_set_ne (Ne.symm hxw)] at hx
        obtain ⟨i', d', p1, p2, p3, p4⟩ := h.pre x k hx
        exact ⟨i', d', p1, p2, p3, keep _ _ p4⟩
    · by_cases hxw : x = w
      · subst hxw; exact .inr (by simp)
      · simp only at hk
        rw [List.getElem?_set_ne (Ne.symm hxw)] at hk; exact .inl ⟨k, hk⟩
    · have cnt : ∀ (O : List Int) (w : Nat) (y : Int), O[w]? = some (-1) → 0 ≤ y → (O.set w y).countP (fun x => decide (x < 0)) + 1 = O.countP (fun x => decide (x < 0)) := by
        intro O
        induction O with
        | nil => intro w y h; simp at h
        | cons z O ih =>
          intro w y h hy
          cases w with
          | zero =>
            simp at h
            subst h
            simp [List.countP_cons]
            omega
          | succ w =>
            have := ih w y (by simpa using h) hy
            simp only [List.set_cons_succ, List.countP_cons] at this ⊢
            omega
      have := cnt S.1 w ((kv : Int) + 1) hneg (by omega)
      unfold mu
      simp only [List.length_append, List.length_cons, List.length_nil]
      omega
  · have e : bdev U v i d S = S := by unfold bdev; rw [if_neg hc]
    rw [e]
    refine ⟨h, fun _ _ h => h, fun _ h => h, fun x hx => .inl hx, fun hu h0 => ?_, Nat.le_refl _⟩
    obtain ⟨w1, w2⟩ := oQ (hV d (List.mem_of_getElem? hd)) rfl h0
    rcases neg_or h (x := (acr d v).toNat) (by omega) with h1 | h1
    · exact absurd ⟨h0, hu, by rw [getD_some h1]; omega⟩ hc
    · exact h1
theorem uZ (hV : ∀ d ∈ V, zj d n = true) {v : Int} (hv0 : 0 ≤ v) {kv : Nat} : ∀ (W : List Dv) (i : Nat) (S : Fl), (∀ k : Nat, V[i + k]? = W[k]?) → FlOk U V L n S → S.1[v.toNat]? = some (kv : Int) → Clo U V S.1 v i →
    FlOk U V L n (dO U v i W S) ∧ (∀ (x k : Nat), S.1[x]? = some (k : Int) → (dO U v i W S).1[x]? = some (k : Int)) ∧ (∀ q ∈ S.2, q ∈ (dO U v i W S).2) ∧ (∀ x : Nat, (∃ k : Nat, (dO U v i W S).1[x]? = some (k : Int)) → (∃ k : Nat, S.1[x]? = some (k : Int)) ∨ (x : Int) ∈ (dO U v i W S).2) ∧
      Clo U V (dO U v i W S).1 v (i + W.length) ∧ mu (dO U v i W S) ≤ mu S
  | [], i, S, hk, h, hv, hc => ⟨h, fun _ _ h => h, fun _ h => h, fun x hx => .inl hx, hc, Nat.le_refl _⟩
  | d :: W, i, S, hk, h, hv, hc => by
    have hd : V[i]? = some d := by have := hk 0; simpa using this
    obtain ⟨b1, b2, b3, b4, b5, b6⟩ := bdev_ok hV h hv0 hv hd
    obtain ⟨c1, c2, c3, c4, c5, c6⟩ := uZ hV hv0 W (i + 1) (bdev U v i d S) (fun k => by have := hk (k + 1); simpa [Nat.add_assoc, Nat.add_comm 1 k] using this) b1 (b2 _ _ hv) (fun j d' hj hd' hu h0 => by
      by_cases hji : j = i
      · subst hji
        rw [hd] at hd'
        injection hd' with hd'
        subst hd'
        exact b5 hu h0
      · obtain ⟨k, hk⟩ := hc j d' (by omega) hd' hu h0
        exact ⟨k, b2 _ _ hk⟩)
    refine ⟨c1, fun x k hx => c2 x k (b2 x k hx), fun q hq => c3 q (b3 q hq), fun x hx => ?_, by rw [List.length_cons, show i + (W.length + 1) = i + 1 + W.length by omega]; exact c5, Nat.le_trans c6 b6⟩
    rcases c4 x hx with h1 | h1
    · rcases b4 x h1 with h2 | h2
      · exact .inl h2
      · exact .inr (c3 _ h2)
    · exact .inr h1
/-- A flood whose reached nodes either wait or are done. -/
structure FlInv (U : Nat → Bool) (V : List Dv) (L : List Int) (n : Nat) (S : Fl) : Prop where
  ok : FlOk U V L n S
  done : ∀ (x k : Nat), S.1[x]? = some (k : Int) → (x : Int) ∈ S.2 ∨ Clo U V S.1 x V.length
  goal : ∀ v ∈ L, ∃ k : Nat, S.1[v.toNat]? = some (k : Int)
theorem fU (hV : ∀ d ∈ V, zj d n = true) {S : Fl} (h : FlInv U V L n S) : FlInv U V L n (qn U V S) ∧ (S.2 ≠ [] → mu (qn U V S) < mu S) := by
  unfold qn
  cases hq : S.2 with
  | nil => exact ⟨h, fun h => absurd rfl h⟩
  | cons v Q =>
    simp only
    obtain ⟨hv0, kv, hv⟩ := h.ok.wait v (by rw [hq]; simp)
    have h0 : FlOk U V L n (S.1, Q) := ⟨h.ok.len, fun q hq' => h.ok.wait q (by rw [hq]; simp [hq']), h.ok.low, h.ok.rch, h.ok.pre⟩
    obtain ⟨c1, c2, c3, c4, c5, c6⟩ := uZ hV hv0 V 0 (S.1, Q) (fun k => by simp) h0 hv (fun i d hi => by omega)
    refine ⟨⟨c1, fun x k hx => ?_, fun w hw => ?_⟩, fun _ => Nat.lt_of_le_of_lt c6 ?_⟩
    · rcases c4 x ⟨k, hx⟩ with ⟨k', h1⟩ | h1
      · rcases h.done x k' h1 with h2 | h2
        · rw [hq] at h2
          rcases List.mem_cons.1 h2 with h2 | h2
          · right
            rw [h2]
            have := c5
            rwa [Nat.zero_add] at this
          · exact .inl (c3 _ h2)
        · right
          intro i d hi hd hu h0
          obtain ⟨k2, hk2⟩ := h2 i d hi hd hu h0
          exact ⟨k2, c2 _ _ hk2⟩
      · exact .inl h1
    · obtain ⟨k, hk⟩ := h.goal w hw
      exact ⟨k, c2 _ _ hk⟩
    · unfold mu
      rw [hq]
      simp
theorem brun_ok (hV : ∀ d ∈ V, zj d n = true) : ∀ (k : Nat) {S : Fl}, FlInv U V L n S → FlInv U V L n (brun U V k S)
  | 0, S, h => h
  | k + 1, S, h => brun_ok hV k (fU hV h).1
theorem nX (hV : ∀ d ∈ V, zj d n = true) : ∀ (k : Nat) {S : Fl}, FlInv U V L n S → mu S ≤ k → (brun U V k S).2 = []
  | 0, S, h, hm => by
    unfold mu at hm
    exact List.eq_nil_of_length_eq_zero (by show S.2.length = 0; omega)
  | k + 1, S, h, hm => by
    by_cases hq : S.2 = []
    · have e : qn U V S = S := by unfold qn; rw [hq]
      rw [brun, e]
      have key : ∀ m, brun U V m S = S := by
        intro m
        induction m with
        | zero => rfl
        | succ m ih => rw [brun, e, ih]
      rw [key]; exact hq
    · have := (fU hV h).2 hq
      exact nX hV k (fU hV h).1 (by omega)
theorem lJ {S : Fl} (hq : S.2 = []) : ∀ m, brun U V m S = S
  | 0 => rfl
  | m + 1 => by
    have e : qn U V S = S := by unfold qn; rw [hq]
    rw [brun, e, lJ hq m]
theorem oN (k m : Nat) (S : Fl) : brun U V (k + m) S = brun U V m (brun U V k S) := by
  induction k generalizing S with
  | zero => rw [Nat.zero_add]; rfl
  | succ k ih => rw [Nat.succ_add, brun, brun, ih]
end
/-- The flood's end. -/
def flood (U : Nat → Bool) (V : List Dv) (n : Nat) (L : List Int) : List Int := (brun U V (mu (yn n L, L)) (yn n L, L)).1
section
variable {U : Nat → Bool} {V : List Dv} {L : List Int} {n : Nat}
theorem fW : (yn n L).length = n := by
  unfold yn
  have : ∀ (L : List Int) (O : List Int), (L.foldl (fun O v => O.set v.toNat 0) O).length = O.length := by
    intro L
    induction L with
    | nil => intro O; rfl
    | cons v L ih => intro O; rw [List.foldl_cons, ih]; simp
  rw [this]; simp
theorem marks_get (hL : ∀ v ∈ L, 0 ≤ v ∧ v < n) (x : Nat) (hx : x < n) : (yn n L)[x]? = if (x : Int) ∈ L then some 0 else some (-1) := by
  unfold yn
  have : ∀ (L : List Int) (O : List Int), (∀ v ∈ L, 0 ≤ v ∧ v < n) → O.length = n → (L.foldl (fun O v => O.set v.toNat 0) O)[x]? = if (x : Int) ∈ L then some 0 else O[x]? := by
    intro L
    induction L with
    | nil => intro O _ _; simp
    | cons v L ih =>
      intro O hL hO
      rw [List.foldl_cons, ih _ (fun w hw => hL w (by simp [hw])) (by simp [hO])]
      have hv := hL v (by simp)
      by_cases h1 : (x : Int) ∈ L
      · rw [if_pos h1, if_pos (by simp [h1])]
      · rw [if_neg h1]
        by_cases h2 : (x : Int) = v
        · rw [if_pos (by simp [h2])]
          have : v.toNat = x := by omega
          rw [this, List.getElem?_set_self (by omega)]
        · rw [if_neg (by simp [h1, h2]), List.getElem?_set_ne (by omega)]
  rw [this L _ hL (by simp), List.getElem?_replicate, if_pos hx]
theorem kG (hL : ∀ v ∈ L, 0 ≤ v ∧ v < n) : FlInv U V L n (yn n L, L) := by
  have hget := marks_get hL
  have hin : ∀ (x : Nat) (z : Int), (yn n L)[x]? = some z → x < n ∧ (z = 0 ∧ (x : Int) ∈ L ∨ z = -1) := fun x z hx => by
    have hlt := zM hx
    rw [fW] at hlt
    rw [hget x hlt] at hx
    refine ⟨hlt, ?_⟩
    split at hx
    · injection hx with hx; exact .inl ⟨hx.symm, by assumption⟩
    · injection hx with hx; exact .inr hx.symm
  have hgoal : ∀ v ∈ L, (yn n L)[v.toNat]? = some 0 := fun v hv => by
    have := hL v hv
    rw [hget v.toNat (by omega), if_pos (by rw [Int.toNat_of_nonneg this.1]; exact hv)]
  refine ⟨⟨fW, fun q hq => ⟨(hL q hq).1, 0, hgoal q hq⟩, fun x z hx => ?_, fun x k hx => ?_, fun x k hx => ?_⟩, fun x k hx => ?_, fun v hv => ⟨0, hgoal v hv⟩⟩
  · have := (hin x z hx).2; omega
  · rcases (hin x _ hx).2 with ⟨_, h⟩ | h
    · exact .base h
    · omega
  · rcases (hin x _ hx).2 with ⟨h, _⟩ | h <;> omega
  · rcases (hin x _ hx).2 with ⟨_, h⟩ | h
    · exact .inl h
    · omega
theorem lO (hV : ∀ d ∈ V, zj d n = true) (hL : ∀ v ∈ L, 0 ≤ v ∧ v < n) : FlInv U V L n (flood U V n L, []) := by
  have h := brun_ok hV (mu (yn n L, L)) (kG (U := U) (V := V) hL)
  have he := nX hV (mu (yn n L, L)) (kG (U := U) (V := V) hL) (Nat.le_refl _)
  have : (flood U V n L, ([] : List Int)) = brun U V (mu (yn n L, L)) (yn n L, L) := by
    unfold flood
    rw [← he]
  rw [this]; exact h
/-- A node is reached exactly if its number is none below zero. -/
theorem flood_rch (hV : ∀ d ∈ V, zj d n = true) (hL : ∀ v ∈ L, 0 ≤ v ∧ v < n) {x : Nat} (hx : x < n) : (∃ k : Nat, (flood U V n L)[x]? = some (k : Int)) ↔ Rch U V L x := by
  have h := lO (U := U) hV hL
  constructor
  · rintro ⟨k, hk⟩; exact h.ok.rch x k hk
  · intro hr
    have key : ∀ y : Int, Rch U V L y → 0 ≤ y → ∃ k : Nat, (flood U V n L)[y.toNat]? = some (k : Int) := by
      intro y hy
      induction hy with
      | base hv => intro _; exact h.goal _ hv
      | @step v w i d hv hd hu hw h0 ih =>
        intro _
        have hv0 : 0 ≤ v := by
          rcases hv with hb | _
          · exact (hL _ hb).1
          · assumption
        obtain ⟨k, hk⟩ := ih hv0
        rcases h.done v.toNat k hk with h1 | h1
        · cases h1
        · have := h1 i d (zM hd) hd hu (by rw [Int.toNat_of_nonneg hv0, hw]; exact h0)
          rw [Int.toNat_of_nonneg hv0, hw] at this
          exact this
    have := key x hr (by omega)
    simpa using this
theorem mem_all {O : List Int} : ∀ (k : Nat), (∀ j : Nat, j < k → (j : Int) ∈ O) → k ≤ O.length
  | k, h => by
    induction k generalizing O with
    | zero => omega
    | succ k ih =>
      have hk := h k (by omega)
      have := ih (O := O.erase (k : Int)) (fun j hj => (List.mem_erase_of_ne (by omega)).2 (h j (by omega)))
      rw [List.length_erase_of_mem hk] at this
      have hp : 0 < O.length := List.length_pos_of_mem hk
      omega
end
end Go.Proofs.YtnafokinifbfhaaGreatDoor
namespace Go.Proofs.YtnafokinifbfhaaGreatDoor
open Go Go.RowKit
/-- A node that is reached. -/
def at0 (O : List Int) (x : Int) : Bool := decide (0 ≤ O.getD x.toNat (-1))
section
variable {U : Nat → Bool} {V : List Dv} {n : Nat} {z : List Int}
theorem at0_rch (hV : ∀ d ∈ V, zj d n = true) {L : List Int} (hL : ∀ v ∈ L, 0 ≤ v ∧ v < n) {x : Int} (h0 : 0 ≤ x) (h1 : x < n) : at0 (flood U V n L) x = true ↔ Rch U V L x := by
  have hI := lO (U := U) hV hL
  have key := flood_rch (U := U) hV hL (x := x.toNat) (by omega)
  rw [Int.toNat_of_nonneg h0] at key
  rw [← key]
  obtain ⟨y, hy⟩ := zB (L := flood U V n L) (k := x.toNat) (by rw [show (flood U V n L).length = n from hI.ok.len]; omega)
  unfold at0
  rw [List.getD_eq_getElem?_getD, hy]
  simp only [Option.getD_some, decide_eq_true_eq]
  constructor
  · intro h
    obtain ⟨k, hk⟩ := Int.eq_ofNat_of_zero_le h
    exact ⟨k, by rw [hk]⟩
  · rintro ⟨k, hk⟩
    injection hk with hk
    omega
end
end Go.Proofs.YtnafokinifbfhaaGreatDoor
