/- Texts of lines of words, names of a network found again, by plain functions; nothing of the program stands here / Locks, by plain functions: which lists are valid, and lists to which one adds; nothing of the program stands here / Documents, by plain functions: which are valid; nothing of the program stands here. -/
import Derived.Test.YtjamibeffalhaaaGreatDoorNetP
import Derived.Test.YtjamibeffalhaaaGreatDoorLexP
import Derived.Test.YtjamibeffalhaaaGreatDoorNmA
import Derived.Test.YtjamibeffalhaaaGreatDoorLxB
set_option linter.unusedVariables false
set_option linter.unusedSimpArgs false
namespace Go.Proofs.YtjamibeffalhaaaGreatDoor
open Go Go.RowKit
def devN (V : List Dv) (d : Int) : List UInt8 := match V[d.toNat]? with
  | some x => x.n.data.toList
  | none => []
def nodN (N : List Nd) (d : Int) : List UInt8 := match N[d.toNat]? with
  | some x => x.n.data.toList
  | none => []
def jY (L : List (List UInt8)) : List UInt8 := L.flatMap fun l => l ++ [10]
def okC (c : UInt8) : Prop := 32 ≤ c.toNat ∧ c.toNat ≤ 126
def devI (s : List UInt8) : Int → List Dv → Int
  | _, [] => -1
  | i, d :: l => if d.n.data.toList = s then i else devI s (i + 1) l
def nodI (s : List UInt8) : Int → List Nd → Int
  | _, [] => -1
  | i, d :: l => if d.n.data.toList = s then i else nodI s (i + 1) l
def wAt (W : List (List UInt8)) (k : Nat) : List UInt8 := (W[k]?).getD []
/-- What a valid network says of its devices' names. -/
theorem rK (m : Int) : ∀ (V : List Dv) (U : List ByteArray), dvGo m U V = 0 → (∀ d ∈ V, jd d.n.data.toList = true ∧ d.n ∉ U) ∧ (V.map Dv.n).Nodup
  | [], _, _ => ⟨by simp, by simp⟩
  | d :: l, U, h => by
    rw [dvGo] at h
    split at h
    · cases h
    rename_i h1
    split at h
    · cases h
    rename_i h2
    split at h
    · cases h
    split at h
    · cases h
    split at h
    · cases h
    obtain ⟨i1, i2⟩ := rK m l (U ++ [d.n]) h
    have hu : d.n ∉ U := fun hin => h2 (by unfold jc; rw [List.any_eq_true]; exact ⟨d.n, hin, by simp⟩)
    refine ⟨fun x hx => ?_, ?_⟩
    · rcases List.mem_cons.1 hx with rfl | hx
      · exact ⟨by simpa using h1, hu⟩
      · exact ⟨(i1 x hx).1, fun hin => (i1 x hx).2 (by simp [hin])⟩
    · rw [List.map_cons, List.nodup_cons]
      refine ⟨fun hin => ?_, i2⟩
      obtain ⟨x, hx, e⟩ := List.mem_map.1 hin
      exact (i1 x hx).2 (by simp [e])
theorem lQ {N : List Nd} {V : List Dv} (h : netE N V = 0) : (∀ d ∈ V, jd d.n.data.toList = true) ∧ (V.map Dv.n).Nodup := by
  unfold netE at h
  split at h
  · cases h
  split at h
  · rename_i h2; exact absurd h h2
  obtain ⟨i1, i2⟩ := rK _ _ _ h
  exact ⟨fun d hd => (i1 d hd).1, i2⟩
theorem tN {a b : ByteArray} (h : a.data.toList = b.data.toList) : a = b := by
  cases a; cases b
  congr 1
  exact Array.toList_inj.1 h
theorem aA {l : List UInt8} (h : jd l = true) : l ≠ [] ∧ (∀ c ∈ l, c ≠ 32) ∧ l.length ≤ 12 := by
  unfold jd at h
  simp only [Bool.and_eq_true, decide_eq_true_eq] at h
  obtain ⟨⟨h1, h2⟩, h3⟩ := h
  refine ⟨by rintro rfl; simp at h2, ?_, h3⟩
  have key : ∀ (l : List UInt8) (f : Bool), qN l f = true → ∀ c ∈ l, c ≠ 32 := by
    intro l
    induction l with
    | nil => intro f _ c hc; cases hc
    | cons x r ih =>
      intro f hf c hc
      rw [qN, Bool.and_eq_true] at hf
      rcases List.mem_cons.1 hc with rfl | hc
      · rintro rfl
        have : fK (32 : UInt8).toNat f = false := by cases f <;> decide +kernel
        rw [this] at hf; cases hf.1
      · exact ih _ hf.2 c hc
  exact key l true h1
theorem pN {d : Nat} (h : d < 10) : UInt8.ofNat (48 + d) ≠ 32 := by
  intro e
  have := congrArg UInt8.toNat e
  simp at this
  omega
theorem xG : ∀ n : Nat, ∀ c ∈ Lib.decDigits n, c ≠ (32 : UInt8) := by
  intro n
  induction n using Nat.strongRecOn with
  | _ n ih =>
    intro c hc
    rw [Lib.decDigits] at hc
    split at hc
    · rename_i h
      rw [List.mem_singleton.1 hc]
      exact pN h
    · rename_i h
      rcases List.mem_append.1 hc with hc | hc
      · exact ih (n / 10) (by omega) c hc
      · rw [List.mem_singleton.1 hc]
        exact pN (Nat.mod_lt _ (by decide))
theorem tE (n : Int) : ∀ c ∈ Lib.itoa n, c ≠ (32 : UInt8) := by
  intro c hc
  unfold Lib.itoa at hc
  split at hc
  · rcases List.mem_cons.1 hc with rfl | hc
    · decide
    · exact xG _ c hc
  · exact xG _ c hc
theorem iV : ∀ (W : List (List UInt8)) (b : Nat), (∀ w ∈ W, w.length ≤ b) → (yl W).length ≤ W.length * (b + 1)
  | [], b, _ => by simp [lK]
  | [w], b, h => by have := h w (by simp); rw [jq]; simp; omega
  | w :: x :: r, b, h => by
    have h1 := h w (by simp)
    have h2 := iV (x :: r) b (fun y hy => h y (List.mem_cons_of_mem _ hy))
    rw [yX, List.length_append]
    have e : (w :: x :: r).length = (x :: r).length + 1 := rfl
    rw [e, Nat.succ_mul]
    simp only [List.length_cons] at h2 ⊢
    omega
theorem nK {V : List Dv} {d : Int} (h : 0 ≤ d ∧ d < V.length) : ∃ x, V[d.toNat]? = some x ∧ devN V d = x.n.data.toList := by
  obtain ⟨x, hx⟩ := zd (L := V) (k := d.toNat) (by omega)
  exact ⟨x, hx, by unfold devN; rw [hx]⟩
instance (c : UInt8) : Decidable (okC c) := by unfold okC; infer_instance
theorem char_okC {c : UInt8} (h : cG c.toNat = true) : okC c ∧ c ≠ 35 ∧ c ≠ 32 := by
  unfold cG qX iR at h
  simp only [Bool.or_eq_true, Bool.and_eq_true, decide_eq_true_eq, beq_iff_eq] at h
  refine ⟨⟨by omega, by omega⟩, fun e => ?_, fun e => ?_⟩ <;> (subst e; simp at h)
theorem mC : ∀ {l : List UInt8}, qf l = true → ∀ c ∈ l, okC c ∧ c ≠ 35 ∧ c ≠ 32
  | [], _, c, hc => by cases hc
  | x :: r, h, c, hc => by
    rw [qf, Bool.and_eq_true] at h
    rcases List.mem_cons.1 hc with rfl | hc
    · exact char_okC h.1
    · exact mC h.2 c hc
theorem xC {l : List UInt8} (h : jd l = true) : ∀ c ∈ l, okC c ∧ c ≠ 35 ∧ c ≠ 32 := by
  rw [← oF] at h
  cases l with
  | nil => cases h
  | cons c r =>
    unfold cK at h
    simp only [Bool.and_eq_true] at h
    exact mC h.2
theorem lR {d : Nat} (h : d < 10) : okC (UInt8.ofNat (48 + d)) := by
  have e : (UInt8.ofNat (48 + d)).toNat = 48 + d := by simp; omega
  unfold okC
  rw [e]
  omega
theorem tG : ∀ n : Nat, ∀ c ∈ Lib.decDigits n, okC c := by
  intro n
  induction n using Nat.strongRecOn with
  | _ n ih =>
    intro c hc
    rw [Lib.decDigits] at hc
    split at hc
    · rename_i h
      rw [List.mem_singleton.1 hc]
      exact lR h
    · rename_i h
      rcases List.mem_append.1 hc with hc | hc
      · exact ih (n / 10) (by omega) c hc
      · rw [List.mem_singleton.1 hc]
        exact lR (Nat.mod_lt _ (by decide))
theorem oI (n : Int) : ∀ c ∈ Lib.itoa n, okC c := by
  intro c hc
  unfold Lib.itoa at hc
  split at hc
  · rcases List.mem_cons.1 hc with rfl | hc
    · decide
    · exact tG _ c hc
  · exact tG _ c hc
theorem pT : ∀ {W : List (List UInt8)}, (∀ w ∈ W, ∀ c ∈ w, okC c) → ∀ c ∈ yl W, okC c
  | [], _, c, hc => by rw [lK] at hc; cases hc
  | [w], h, c, hc => by rw [jq] at hc; exact h w (by simp) c hc
  | w :: x :: r, h, c, hc => by
    rw [yX] at hc
    rcases List.mem_append.1 hc with hc | hc
    · exact h w (by simp) c hc
    · rcases List.mem_cons.1 hc with rfl | hc
      · decide
      · exact pT (fun y hy => h y (List.mem_cons_of_mem _ hy)) c hc
theorem lV {N : List Nd} {V : List Dv} (h : netE N V = 0) : (∀ d ∈ N, jd d.n.data.toList = true) ∧ (N.map Nd.n).Nodup := by
  have key : ∀ (N : List Nd) (U : List ByteArray), ndGo U N = 0 → (∀ d ∈ N, jd d.n.data.toList = true ∧ d.n ∉ U) ∧ (N.map Nd.n).Nodup := by
    intro N
    induction N with
    | nil => intro U _; exact ⟨by simp, by simp⟩
    | cons d l ih =>
      intro U h
      rw [ndGo] at h
      split at h
      · cases h
      rename_i h1
      split at h
      · cases h
      rename_i h2
      split at h
      · cases h
      obtain ⟨i1, i2⟩ := ih (U ++ [d.n]) h
      have hu : d.n ∉ U := fun hin => h2 (by unfold jc; rw [List.any_eq_true]; exact ⟨d.n, hin, by simp⟩)
      refine ⟨fun x hx => ?_, ?_⟩
      · rcases List.mem_cons.1 hx with rfl | hx
        · exact ⟨by simpa using h1, hu⟩
        · exact ⟨(i1 x hx).1, fun hin => (i1 x hx).2 (by simp [hin])⟩
      · rw [List.map_cons, List.nodup_cons]
        refine ⟨fun hin => ?_, i2⟩
        obtain ⟨x, hx, e⟩ := List.mem_map.1 hin
        exact (i1 x hx).2 (by simp [e])
  unfold netE at h
  split at h
  · cases h
  split at h
  · rename_i h2; exact absurd h h2
  rename_i h2
  have h3 : ndGo [] N = 0 := by simpa using h2
  obtain ⟨i1, i2⟩ := key N [] h3
  exact ⟨fun d hd => (i1 d hd).1, i2⟩
theorem oD {V : List Nd} {d : Int} (h : 0 ≤ d ∧ d < V.length) : ∃ x, V[d.toNat]? = some x ∧ nodN V d = x.n.data.toList := by
  obtain ⟨x, hx⟩ := zd (L := V) (k := d.toNat) (by omega)
  exact ⟨x, hx, by unfold nodN; rw [hx]⟩
/-- A word of a programme. -/
def WdOk (w : List UInt8) : Prop := w ≠ [] ∧ (∀ c ∈ w, c ≠ 32) ∧ (∀ c ∈ w, okC c) ∧ w.length ≤ 20
instance (w : List UInt8) : Decidable (∀ c ∈ w, okC c) := by unfold okC; infer_instance
instance (w : List UInt8) : Decidable (WdOk w) := by unfold WdOk; infer_instance
theorem iF {l : List UInt8} (h : jd l = true) : WdOk l :=
  ⟨(aA h).1, (aA h).2.1, fun c hc => (xC h c hc).1, by have := (aA h).2.2; omega⟩
theorem sU {n : Int} (h1 : 0 ≤ n) (h2 : n ≤ 65536) : WdOk (Lib.itoa n) := ⟨sQ n, tE n, oI n, qY (by omega) (by omega)⟩
theorem qk {W : List (List UInt8)} (h : ∀ w ∈ W, WdOk w) : (∀ c ∈ yl W, okC c) ∧ (yl W).length ≤ W.length * 21 :=
  ⟨pT fun w hw => (h w hw).2.2.1, iV W 20 fun w hw => (h w hw).2.2.2⟩
theorem iJ : ∀ {L : List (List UInt8)} {b : Nat}, (∀ l ∈ L, l.length ≤ b) → (jY L).length ≤ L.length * (b + 1)
  | [], b, _ => by simp [jY]
  | l :: L, b, h => by
    have h1 := h l (by simp)
    have h2 := iJ (L := L) (b := b) (fun x hx => h x (by simp [hx]))
    unfold jY at h2 ⊢
    rw [List.flatMap_cons, List.length_append, List.length_append]
    have e : (l :: L).length = L.length + 1 := rfl
    rw [e, Nat.succ_mul]
    simp only [List.length_singleton]
    omega
theorem rW : ∀ (l cur : List UInt8), ∀ w ∈ ll cur l, w.length ≤ cur.length + l.length
  | [], cur, w, h => by simp [ll] at h
  | c :: l, cur, w, h => by
    rw [ll] at h
    split at h
    · rcases List.mem_cons.1 h with rfl | h
      · simp
      · have := rW l [] w h
        simp at this ⊢; omega
    · have := rW l _ w h
      simp at this ⊢; omega
theorem rS : ∀ (l cur : List UInt8), (ll cur l).length ≤ l.length
  | [], cur => by simp [ll]
  | c :: l, cur => by
    rw [ll]
    split
    · have := rS l []
      simp; omega
    · have := rS l (cur ++ [c])
      simp; omega
theorem lL {l : List UInt8} : ((qC l).getD []).length ≤ l.length ∧ ∀ w ∈ (qC l).getD [], w.length ≤ l.length := by
  unfold qC
  split
  · simp
  split
  · simp
  split
  · refine ⟨rS l [], fun w hw => ?_⟩
    have := rW l [] w hw
    simpa using this
  · simp
end Go.Proofs.YtjamibeffalhaaaGreatDoor
namespace Go.Proofs.YtjamibeffalhaaaGreatDoor
open Go Go.RowKit
structure Lk where
  d : Int
  p : Int
  k : Int
  deriving DecidableEq
theorem netE_len {N : List Nd} {V : List Dv} (h : netE N V = 0) : N.length ≤ 32 ∧ V.length ≤ 64 := by
  unfold netE at h
  split at h
  · cases h
  · omega

def iW (V : List Dv) (d : Int) : Int := match V[d.toNat]? with
  | some x => x.k
  | none => 0
def jB (V : List Dv) (k : Lk) : Int := if k.d < 0 ∨ (V.length : Int) ≤ k.d then 8 else if iW V k.d = 5 then 6 else if k.p ≠ 1 ∧ k.p ≠ 2 then 10 else if k.k < 0 ∨ 65536 < k.k then 5 else 0
def befB (a b : Lk) : Bool := decide (a.d < b.d) || (decide (a.d = b.d) && decide (a.k < b.k))
def qm (P : List Lk) (k : Lk) : Bool := match P.getLast? with
  | some q => befB q k
  | none => true
def qc (P : List Lk) (k : Lk) : Bool := P.any fun x => decide (x.d = k.d) && !decide (x.p = k.p)
def keyB (P : List Lk) (k : Int) : Bool := P.any fun x => decide (x.k = k)
def lkE (V : List Dv) (P : List Lk) (k : Lk) : Int := if jB V k ≠ 0 then jB V k else if qm P k = false then 14 else if qc P k = true then 18 else if keyB P k.k = true then 4 else 0
def lkGo (V : List Dv) : List Lk → List Lk → Int
  | _, [] => 0
  | P, k :: l => if lkE V P k ≠ 0 then lkE V P k else lkGo V (P ++ [k]) l
def lksE (N : List Nd) (V : List Dv) (L : List Lk) : Int := if netE N V ≠ 0 then netE N V else if 128 < L.length then 1 else lkGo V [] L
def jL (L : List Lk) (d : Int) : Int × Bool := match L.find? fun x => decide (x.d = d) with
  | some x => (x.p, true)
  | none => (0, false)
theorem dU {L : List Lk} {i : Nat} (hi : 0 < i) {q : Lk} (h : L[i - 1]? = some q) : (L.take i).getLast? = some q := by
  have := yO h
  rw [List.getLast?_eq_getElem?, List.length_take, List.getElem?_take, show min i L.length - 1 = i - 1 by omega, if_pos (by omega), h]
theorem tH {V : List Dv} {L : List Lk} {i : Nat} {k : Lk} (h : L[i]? = some k) : lkGo V (L.take i) (L.drop i) = if lkE V (L.take i) k ≠ 0 then lkE V (L.take i) k else lkGo V (L.take (i + 1)) (L.drop (i + 1)) := by
  rw [yT h, jk h]; rfl
theorem gS {L : List Lk} {j : Nat} {x k : Lk} (h : L[j]? = some x) : qc (L.take (j + 1)) k = (qc (L.take j) k || (decide (x.d = k.d) && !decide (x.p = k.p))) := by
  rw [jk h]; unfold qc; rw [List.any_append]; simp
theorem mL {L : List Lk} {j : Nat} {x : Lk} {k : Int} (h : L[j]? = some x) : keyB (L.take (j + 1)) k = (keyB (L.take j) k || decide (x.k = k)) := by
  rw [jk h]; unfold keyB; rw [List.any_append]; simp
theorem sM {L : List Lk} {i j : Nat} {x k : Lk} (h : L[j]? = some x) (hj : j < i) (h1 : x.d = k.d) (h2 : ¬ x.p = k.p) : qc (L.take i) k = true := by
  unfold qc
  rw [List.any_eq_true]
  exact ⟨x, List.mem_of_getElem? (show (L.take i)[j]? = some x by rw [List.getElem?_take, if_pos hj]; exact h), by simp [h1, h2]⟩
theorem pI {L : List Lk} {i j : Nat} {x : Lk} {k : Int} (h : L[j]? = some x) (hj : j < i) (h1 : x.k = k) : keyB (L.take i) k = true := by
  unfold keyB
  rw [List.any_eq_true]
  exact ⟨x, List.mem_of_getElem? (show (L.take i)[j]? = some x by rw [List.getElem?_take, if_pos hj]; exact h), by simp [h1]⟩
theorem lkE_f {V : List Dv} {P : List Lk} {k : Lk} (h : jB V k ≠ 0) : lkE V P k = jB V k := by unfold lkE; rw [if_pos h]
theorem wR {V : List Dv} {P : List Lk} {k : Lk} (h : jB V k = 0) (h1 : qm P k = false) : lkE V P k = 14 := by unfold lkE; rw [if_neg (by omega), if_pos h1]
theorem lkE_18 {V : List Dv} {P : List Lk} {k : Lk} (h : jB V k = 0) (h1 : qm P k = true) (h2 : qc P k = true) : lkE V P k = 18 := by unfold lkE; rw [if_neg (by omega), if_neg (by rw [h1]; decide), if_pos h2]
theorem lkE_4 {V : List Dv} {P : List Lk} {k : Lk} (h : jB V k = 0) (h1 : qm P k = true) (h2 : qc P k = false) (h3 : keyB P k.k = true) : lkE V P k = 4 := by unfold lkE; rw [if_neg (by omega), if_neg (by rw [h1]; decide), if_neg (by rw [h2]; decide), if_pos h3]
theorem wM {V : List Dv} {P : List Lk} {k : Lk} (h : jB V k = 0) (h1 : qm P k = true) (h2 : qc P k = false) (h3 : keyB P k.k = false) : lkE V P k = 0 := by unfold lkE; rw [if_neg (by omega), if_neg (by rw [h1]; decide), if_neg (by rw [h2]; decide), if_neg (by rw [h3]; decide)]
def Rk (a b : Lk) : Prop := befB a b = true ∧ (a.d = b.d → a.p = b.p) ∧ ¬ a.k = b.k
def LkOk (V : List Dv) (L : List Lk) : Prop := (∀ x ∈ L, jB V x = 0) ∧ L.Pairwise Rk
theorem nI (a b : Lk) : befB a b = true ↔ a.d < b.d ∨ a.d = b.d ∧ a.k < b.k := by unfold befB; simp
theorem tV {V : List Dv} : ∀ (L P : List Lk), (∀ x ∈ L, jB V x = 0) → (P ++ L).Pairwise Rk → lkGo V P L = 0
  | [], _, _, _ => rfl
  | k :: L, P, hf, hp => by
    have hk : ∀ q ∈ P, Rk q k := fun q hq => (List.pairwise_append.1 hp).2.2 q hq k (by simp)
    have h1 : qm P k = true := by
      unfold qm
      split
      · rename_i q hq
        exact (hk q (List.mem_of_getLast? hq)).1
      · rfl
    have h2 : qc P k = false := by
      unfold qc
      rw [List.any_eq_false]
      intro x hx
      have := (hk x hx).2.1
      by_cases e : x.d = k.d
      · simp [e, this e]
      · simp [e]
    have h3 : keyB P k.k = false := by
      unfold keyB
      rw [List.any_eq_false]
      intro x hx
      simpa using (hk x hx).2.2
    unfold lkGo
    rw [wM (hf k (by simp)) h1 h2 h3, if_neg (by decide)]
    exact tV L (P ++ [k]) (fun x hx => hf x (by simp [hx])) (by rw [List.append_assoc]; exact hp)
theorem LkOk.lksE {N : List Nd} {V : List Dv} {L : List Lk} (h : LkOk V L) (hn : netE N V = 0) (hl : L.length ≤ 128) : lksE N V L = 0 := by
  unfold Go.Proofs.YtjamibeffalhaaaGreatDoor.lksE
  rw [if_neg (by omega), if_neg (by omega)]
  exact tV L [] h.1 h.2
def insK (k : Lk) : List Lk → List Lk
  | [] => [k]
  | x :: l => if befB x k = true then x :: insK k l else k :: x :: l
def lowK (k : Lk) : List Lk → Nat
  | [] => 0
  | x :: l => if befB x k = true then lowK k l + 1 else 0
theorem tY (k : Lk) : ∀ L : List Lk, lowK k L ≤ L.length
  | [] => Nat.le_refl _
  | x :: l => by unfold lowK; split <;> simp [tY k l]
theorem oJ (k : Lk) : ∀ L : List Lk, L.take (lowK k L) ++ k :: L.drop (lowK k L) = insK k L
  | [] => rfl
  | x :: l => by
    unfold lowK insK
    split
    · simp only [List.take_succ_cons, List.drop_succ_cons, List.cons_append, oJ k l]
    · rfl
theorem kL {k y : Lk} : ∀ {L : List Lk}, y ∈ insK k L → y = k ∨ y ∈ L
  | [], h => by simp [insK] at h; exact .inl h
  | x :: l, h => by
    unfold insK at h
    split at h
    · rcases List.mem_cons.1 h with h | h
      · exact .inr (by simp [h])
      · rcases kL h with h | h
        · exact .inl h
        · exact .inr (by simp [h])
    · rcases List.mem_cons.1 h with h | h
      · exact .inl h
      · exact .inr h
theorem oX (k : Lk) : ∀ L : List Lk, (insK k L).length = L.length + 1
  | [] => rfl
  | x :: l => by unfold insK; split <;> simp [oX k l]
theorem tM {k : Lk} : ∀ {L : List Lk}, L.Pairwise Rk → (∀ x ∈ L, (x.d = k.d → x.p = k.p) ∧ ¬ x.k = k.k) → (insK k L).Pairwise Rk
  | [], _, _ => by simp [insK]
  | x :: l, hp, hk => by
    obtain ⟨p1, p2⟩ := List.pairwise_cons.1 hp
    obtain ⟨x1, x2⟩ := hk x (by simp)
    unfold insK
    split
    · rename_i hb
      refine List.pairwise_cons.2 ⟨fun y hy => ?_, tM p2 fun y hy => hk y (by simp [hy])⟩
      rcases kL hy with rfl | hy
      · exact ⟨hb, x1, x2⟩
      · exact p1 y hy
    · rename_i hb
      rw [nI] at hb
      have hkx : befB k x = true := by rw [nI]; omega
      refine List.pairwise_cons.2 ⟨fun y hy => ?_, hp⟩
      obtain ⟨y1, y2⟩ := hk y hy
      refine ⟨?_, fun e => (y1 e.symm).symm, fun e => y2 e.symm⟩
      rcases List.mem_cons.1 hy with rfl | hy
      · exact hkx
      · have := (p1 y hy).1
        rw [nI] at this hkx ⊢
        omega
theorem rO {L : List Lk} {k : Lk} (hp : L.Pairwise Rk) (h : (jL L k.d).2 = true → (jL L k.d).1 = k.p) : ∀ x ∈ L, x.d = k.d → x.p = k.p := by
  induction L with
  | nil => intro x hx; simp at hx
  | cons y L ih =>
    obtain ⟨p1, p2⟩ := List.pairwise_cons.1 hp
    intro x hx hd
    by_cases hy : y.d = k.d
    · have e : jL (y :: L) k.d = (y.p, true) := by unfold jL; rw [List.find?_cons_of_pos (by simpa using hy)]
      rw [e] at h
      have hyp : y.p = k.p := h rfl
      rcases List.mem_cons.1 hx with rfl | hx
      · exact hyp
      · rw [← hyp]; exact ((p1 x hx).2.1 (by omega)).symm
    · have e : jL (y :: L) k.d = jL L k.d := by unfold jL; rw [List.find?_cons_of_neg (by simpa using hy)]
      rw [e] at h
      rcases List.mem_cons.1 hx with rfl | hx
      · exact absurd hd hy
      · exact ih p2 h x hx hd
def addK (N : List Nd) (V : List Dv) (L : List Lk) (k : Lk) : List Lk × Int :=
  if lksE N V L ≠ 0 then ([], lksE N V L) else if jB V k ≠ 0 then ([], jB V k) else if keyB L k.k = true then ([], 4)
  else if (jL L k.d).2 = true ∧ (jL L k.d).1 ≠ k.p then ([], 18) else if 128 ≤ L.length then ([], 1)
  else (L.take (lowK k L) ++ k :: L.drop (lowK k L), 0)
theorem addK_ok {N : List Nd} {V : List Dv} {L : List Lk} {k : Lk} (hL : LkOk V L) (h : (addK N V L k).2 = 0) : LkOk V (addK N V L k).1 ∧ (addK N V L k).1.length = L.length + 1 := by
  unfold addK at h ⊢
  split at h
  · rename_i c; exact absurd h c
  rename_i c1
  split at h
  · rename_i c; exact absurd h c
  rename_i c2
  split at h
  · cases h
  rename_i c3
  split at h
  · cases h
  rename_i c4
  split at h
  · cases h
  rename_i c5
  rw [if_neg c1, if_neg c2, if_neg c3, if_neg c4, if_neg c5]
  simp only [oJ]
  refine ⟨⟨fun x hx => ?_, tM hL.2 fun x hx => ⟨rO hL.2 (fun a => Decidable.byContradiction fun b => c4 ⟨a, b⟩) x hx, fun e => c3 ?_⟩⟩, oX k L⟩
  · rcases kL hx with rfl | hx
    · simpa using c2
    · exact hL.1 x hx
  · unfold keyB
    rw [List.any_eq_true]
    exact ⟨x, hx, by simpa using e⟩
end Go.Proofs.YtjamibeffalhaaaGreatDoor
namespace Go.Proofs.YtjamibeffalhaaaGreatDoor
open Go Go.RowKit
structure Dc where
  num : Int
  kind : Int
  st : Int
  rd : Int
  zone : List Int
  safe : Int
  lk : List Lk
  iss : ByteArray
  hol : ByteArray
  f : Int
  u : Int
  ce : List Int
def gT (f u : Int) : Bool := decide (0 ≤ f) && decide (f < u) && decide (u ≤ 16777216)
/-- Numbers that ascend from a number on, below a number. -/
def risB (n : Int) : Int → List Int → Bool
  | _, [] => true
  | p, x :: l => if x ≤ p ∨ n ≤ x then false else risB n x l
theorem fI {n p x : Int} {L : List Int} {k : Nat} (h : L[k]? = some x) : risB n p (L.drop k) = if x ≤ p ∨ n ≤ x then false else risB n x (L.drop (k + 1)) := by rw [yT h, risB]
def fO (N : List Nd) (V : List Dv) (Z : List Int) : Int := if netE N V ≠ 0 then netE N V else if Z.length = 0 then 16 else if risB N.length (-1) Z = false then 7 else 0
def cesE (L : List Int) : Int := if 16 < L.length then 1 else if risB 65537 0 L = false then 48 else 0
def docE (N : List Nd) (V : List Dv) (d : Dc) : Int :=
  if netE N V ≠ 0 then netE N V else if d.num < 1 ∨ 65536 < d.num then 5 else if d.kind < 1 ∨ 3 < d.kind then 6 else if d.st < 1 ∨ 5 < d.st then 42 else if d.rd < 0 ∨ 65536 < d.rd then 5
  else if fO N V d.zone ≠ 0 then fO N V d.zone else if d.safe < 1 ∨ 16 < d.safe then 41 else if lksE N V d.lk ≠ 0 then lksE N V d.lk
  else if jd d.iss.data.toList = false ∨ jd d.hol.data.toList = false then 3 else if d.iss = d.hol then 4 else if gT d.f d.u = false then 11 else cesE d.ce
/-- What a valid document is. -/
structure DcOk (N : List Nd) (V : List Dv) (d : Dc) : Prop where
  net : netE N V = 0
  num : 1 ≤ d.num ∧ d.num ≤ 65536
  kind : 1 ≤ d.kind ∧ d.kind ≤ 3
  st : 1 ≤ d.st ∧ d.st ≤ 5
  rd : 0 ≤ d.rd ∧ d.rd ≤ 65536
  zone : fO N V d.zone = 0
  safe : 1 ≤ d.safe ∧ d.safe ≤ 16
  lk : lksE N V d.lk = 0
  iss : jd d.iss.data.toList = true
  hol : jd d.hol.data.toList = true
  apart : d.iss ≠ d.hol
  span : gT d.f d.u = true
  ce : cesE d.ce = 0
theorem fE {N : List Nd} {V : List Dv} {d : Dc} : docE N V d = 0 ↔ DcOk N V d := by
  unfold docE
  constructor
  · intro h
    split at h
    · rename_i q; exact absurd h q
    rename_i q1
    split at h
    · cases h
    rename_i q2
    split at h
    · cases h
    rename_i q3
    split at h
    · cases h
    rename_i q4
    split at h
    · cases h
    rename_i q5
    split at h
    · rename_i q; exact absurd h q
    rename_i q6
    split at h
    · cases h
    rename_i q7
    split at h
    · rename_i q; exact absurd h q
    rename_i q8
    split at h
    · cases h
    rename_i q9
    split at h
    · cases h
    rename_i q10
    split at h
    · cases h
    rename_i q11
    refine ⟨by simpa using q1, by omega, by omega, by omega, by omega, by simpa using q6, by omega, by simpa using q8, ?_, ?_, q10, by simpa using q11, h⟩
    · cases e : jd d.iss.data.toList with
      | true => rfl
      | false => exact absurd (.inl e) q9
    · cases e : jd d.hol.data.toList with
      | true => rfl
      | false => exact absurd (.inr e) q9
  · rintro ⟨h1, h2, h3, h4, h5, h6, h7, h8, h9, h10, h11, h12, h13⟩
    rw [if_neg (by simpa using h1), if_neg (by omega), if_neg (by omega), if_neg (by omega), if_neg (by omega), if_neg (by simpa using h6), if_neg (by omega), if_neg (by simpa using h8), if_neg (by rw [h9, h10]; simp), if_neg h11, if_neg (by rw [h12]; simp), h13]
theorem mW {n : Int} : ∀ {L : List Int} {p : Int}, risB n p L = true → (∀ x ∈ L, p < x ∧ x < n) ∧ (L.Pairwise fun a b => a < b)
  | [], p, _ => ⟨by simp, by simp⟩
  | x :: l, p, h => by
    rw [risB] at h
    split at h
    · cases h
    rename_i c
    obtain ⟨h1, h2⟩ := mW (L := l) h
    refine ⟨fun y hy => ?_, List.pairwise_cons.2 ⟨fun y hy => (h1 y hy).1, h2⟩⟩
    rcases List.mem_cons.1 hy with rfl | hy
    · omega
    · have := h1 y hy; omega
theorem fL {N : List Nd} {V : List Dv} {Z : List Int} (h : fO N V Z = 0) : Z ≠ [] ∧ (∀ x ∈ Z, 0 ≤ x ∧ x < N.length) ∧ Z.length ≤ N.length := by
  unfold fO at h
  split at h
  · rename_i q; exact absurd h q
  split at h
  · cases h
  rename_i q2
  split at h
  · cases h
  rename_i q3
  obtain ⟨h1, h2⟩ := mW (n := (N.length : Int)) (p := -1) (L := Z) (by simpa using q3)
  refine ⟨fun e => q2 (by rw [e]; rfl), fun x hx => by have := h1 x hx; omega, ?_⟩
  have key : ∀ (L : List Int) (n : Nat) (p : Int), risB n p L = true → -1 ≤ p → p < n → (L.length : Int) ≤ n - 1 - p := by
    intro L
    induction L with
    | nil => intro n p _ h1 h2; simp; omega
    | cons x l ih =>
      intro n p h h1 h2
      rw [risB] at h
      split at h
      · cases h
      have := ih n x h (by omega) (by omega)
      simp only [List.length_cons]
      omega
  have hN : 0 < N.length := by
    cases Z with
    | nil => exact absurd rfl q2
    | cons x l => have := h1 x (by simp); omega
  have := key Z N.length (-1) (by simpa using q3) (by omega) (by omega)
  omega
theorem iK {L : List Int} (h : cesE L = 0) : L.length ≤ 16 ∧ ∀ x ∈ L, 1 ≤ x ∧ x ≤ 65536 := by
  unfold cesE at h
  split at h
  · cases h
  rename_i q1
  split at h
  · cases h
  rename_i q2
  obtain ⟨h1, h2⟩ := mW (n := 65537) (p := 0) (L := L) (by simpa using q2)
  exact ⟨by omega, fun x hx => by have := h1 x hx; omega⟩
theorem mA {V : List Dv} : ∀ (L P : List Lk), lkGo V P L = 0 → ∀ x ∈ L, jB V x = 0
  | [], _, _, x, hx => by cases hx
  | k :: L, P, h, x, hx => by
    rw [lkGo] at h
    split at h
    · rename_i q; exact absurd h q
    rename_i q
    have hf : jB V k = 0 := by
      unfold lkE at q
      by_cases e : jB V k = 0
      · exact e
      · rw [if_pos e] at q; exact absurd e q
    rcases List.mem_cons.1 hx with rfl | hx
    · exact hf
    · exact mA L _ h x hx
theorem vM {V : List Dv} {k : Lk} (h : jB V k = 0) : (0 ≤ k.d ∧ k.d < V.length) ∧ (k.p = 1 ∨ k.p = 2) ∧ 0 ≤ k.k ∧ k.k ≤ 65536 := by
  unfold jB at h
  split at h
  · cases h
  split at h
  · cases h
  split at h
  · cases h
  split at h
  · cases h
  omega
theorem kJ {N : List Nd} {V : List Dv} {L : List Lk} (h : lksE N V L = 0) : L.length ≤ 128 ∧ ∀ k ∈ L, (0 ≤ k.d ∧ k.d < V.length) ∧ (k.p = 1 ∨ k.p = 2) ∧ 0 ≤ k.k ∧ k.k ≤ 65536 := by
  unfold lksE at h
  split at h
  · rename_i q; exact absurd h q
  split at h
  · cases h
  exact ⟨by omega, fun k hk => vM (mA L [] h k hk)⟩
end Go.Proofs.YtjamibeffalhaaaGreatDoor
