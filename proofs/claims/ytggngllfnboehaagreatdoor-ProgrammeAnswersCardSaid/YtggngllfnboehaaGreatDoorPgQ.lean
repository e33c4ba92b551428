/- Switching programmes, by plain functions: which are valid, their text, what a text is read as, and that the text leads back; nothing of the program stands here / The text of a valid programme, read again; nothing of the program stands here. -/
import Derived.Test.YtggngllfnboehaaGreatDoorNetP
import Derived.Test.YtggngllfnboehaaGreatDoorWdP
import Derived.Test.YtggngllfnboehaaGreatDoorLnP
import Derived.Test.YtggngllfnboehaaGreatDoorRnP
import Derived.Test.YtggngllfnboehaaGreatDoorLxB
set_option linter.unusedVariables false
set_option linter.unusedSimpArgs false
namespace Go.Proofs.YtggngllfnboehaaGreatDoor
open Go Go.RowKit
structure St where
  k : Int
  d : Int
  n : Int
  p : Int
  y : Int
  deriving DecidableEq
def St.zer : St := ⟨0, 0, 0, 0, 0⟩
structure Pg where
  n : ByteArray
  st : List St
def Pg.zer : Pg := ⟨ByteArray.empty, []⟩
def qt (nN nV : Int) (s : St) : Int :=
  if s.k < 1 ∨ 6 < s.k then 6 else if s.k ≠ 5 ∧ (s.d < 0 ∨ nV ≤ s.d) then 8 else if s.k = 5 ∧ (s.n < 0 ∨ nN ≤ s.n) then 7
  else if (s.k = 3 ∨ s.k = 6) ∧ s.p ≠ 1 ∧ s.p ≠ 2 then 10 else if (s.k = 3 ∨ s.k = 4) ∧ (s.y < 0 ∨ 65536 < s.y) then 5
  else if (s.k = 5 ∧ s.d ≠ 0) ∨ (s.k ≠ 5 ∧ s.n ≠ 0) ∨ (¬(s.k = 3 ∨ s.k = 6) ∧ s.p ≠ 0) ∨ (¬(s.k = 3 ∨ s.k = 4) ∧ s.y ≠ 0) then 14 else 0
def qr (nN nV : Int) : List St → Int
  | [] => 0
  | s :: l => if qt nN nV s ≠ 0 then qt nN nV s else qr nN nV l
def jv (N : List Nd) (V : List Dv) (P : Pg) : Int :=
  if netE N V ≠ 0 then netE N V else if je P.n.data.toList = false then 3 else if 64 < P.st.length then 1 else qr N.length V.length P.st
def ql : List UInt8 := [111, 112, 101, 110]
def qq : List UInt8 := [99, 108, 111, 115, 101]
def closedL : List UInt8 := [99, 108, 111, 115, 101, 100]
def lockL : List UInt8 := [108, 111, 99, 107]
def js : List UInt8 := [117, 110, 108, 111, 99, 107]
def qm : List UInt8 := [112, 114, 111, 118, 101]
def qN : List UInt8 := [99, 104, 101, 99, 107]
def keyL : List UInt8 := [107, 101, 121]
def progL : List UInt8 := [112, 114, 111, 103, 114, 97, 109, 109, 101]
def devN (V : List Dv) (d : Int) : List UInt8 := match V[d.toNat]? with
  | some x => x.n.data.toList
  | none => []
def nodN (N : List Nd) (d : Int) : List UInt8 := match N[d.toNat]? with
  | some x => x.n.data.toList
  | none => []
def posW (p : Int) : List UInt8 := if p = 1 then ql else closedL
def qV (N : List Nd) (V : List Dv) (s : St) : List (List UInt8) :=
  if s.k = 1 then [ql, devN V s.d] else if s.k = 2 then [qq, devN V s.d] else if s.k = 3 then [lockL, devN V s.d, posW s.p, keyL, Lib.itoa s.y]
  else if s.k = 4 then [js, devN V s.d, keyL, Lib.itoa s.y] else if s.k = 5 then [qm, nodN N s.n] else [qN, devN V s.d, posW s.p]
def headL (P : Pg) : List (List UInt8) := [progL, P.n.data.toList]
def qU (N : List Nd) (V : List Dv) (P : Pg) : List (List UInt8) := qE (headL P) :: P.st.map fun s => qE (qV N V s)
def qu (L : List (List UInt8)) : List UInt8 := L.flatMap fun l => l ++ [10]
def okC (c : UInt8) : Prop := 32 ≤ c.toNat ∧ c.toNat ≤ 126
def printG (N : List Nd) (V : List Dv) (P : Pg) : ByteArray × Int := if jv N V P ≠ 0 then (ByteArray.empty, jv N V P) else (⟨(qu (qU N V P)).toArray⟩, 0)
def devI (s : List UInt8) : Int → List Dv → Int
  | _, [] => -1
  | i, d :: l => if d.n.data.toList = s then i else devI s (i + 1) l
def nodI (s : List UInt8) : Int → List Nd → Int
  | _, [] => -1
  | i, d :: l => if d.n.data.toList = s then i else nodI s (i + 1) l
def wAt (W : List (List UInt8)) (k : Nat) : List UInt8 := (W[k]?).getD []
def posI (w : List UInt8) : Int := if w = ql then 1 else if w = closedL then 2 else 0
/-- The kind, the position and the number of the words of a step. -/
def jU (W : List (List UInt8)) : Option (Int × Int × Int) :=
  if W.length = 2 ∧ wAt W 0 = ql then some (1, 0, 0)
  else if W.length = 2 ∧ wAt W 0 = qq then some (2, 0, 0)
  else if W.length = 5 ∧ wAt W 0 = lockL ∧ posI (wAt W 2) ≠ 0 ∧ wAt W 3 = keyL then (numP (wAt W 4) 1073741824).map fun n => (3, posI (wAt W 2), n)
  else if W.length = 4 ∧ wAt W 0 = js ∧ wAt W 2 = keyL then (numP (wAt W 3) 1073741824).map fun n => (4, 0, n)
  else if W.length = 2 ∧ wAt W 0 = qm then some (5, 0, 0)
  else if W.length = 3 ∧ wAt W 0 = qN ∧ posI (wAt W 2) ≠ 0 then some (6, posI (wAt W 2), 0)
  else none
def jz (N : List Nd) (V : List Dv) (W : List (List UInt8)) : St × Int := match jU W with
  | none => (St.zer, 2)
  | some (k, p, y) => if k = 5 then (if nodI (wAt W 1) 0 N < 0 then (St.zer, 7) else (⟨k, 0, nodI (wAt W 1) 0 N, p, y⟩, 0))
    else if devI (wAt W 1) 0 V < 0 then (St.zer, 8) else (⟨k, devI (wAt W 1) 0 V, 0, p, y⟩, 0)
/-- The lines of a programme, from the line of a number on. -/
def goL (N : List Nd) (V : List Dv) : Nat → Option (List UInt8) → List St → List (List UInt8) → Except (Int × Int) (Option (List UInt8) × List St)
  | _, nm, S, [] => .ok (nm, S)
  | i, nm, S, l :: ls =>
    if (jK l).length = 0 ∨ (wAt (jK l) 0)[0]? = some 35 then goL N V (i + 1) nm S ls
    else match nm with
      | none => if (jK l).length ≠ 2 ∨ wAt (jK l) 0 ≠ progL then .error ((i : Int) + 1, 2) else goL N V (i + 1) (some (wAt (jK l) 1)) S ls
      | some n => if (jz N V (jK l)).2 ≠ 0 then .error ((i : Int) + 1, (jz N V (jK l)).2) else goL N V (i + 1) (some n) (S ++ [(jz N V (jK l)).1]) ls
def endG (N : List Nd) (V : List Dv) : Except (Int × Int) (Option (List UInt8) × List St) → Pg × Int × Int
  | .error (i, e) => (Pg.zer, i, e)
  | .ok (none, _) => (Pg.zer, 0, 2)
  | .ok (some n, S) => if jv N V ⟨⟨n.toArray⟩, S⟩ ≠ 0 then (Pg.zer, 0, jv N V ⟨⟨n.toArray⟩, S⟩) else (⟨⟨n.toArray⟩, S⟩, 0, 0)
def jV (N : List Nd) (V : List Dv) (s : List UInt8) : Pg × Int × Int :=
  if netE N V ≠ 0 then (Pg.zer, 0, netE N V) else match jZ s with
  | none => (Pg.zer, 0, 2)
  | some L => endG N V (goL N V 0 none [] L)
/-- What a valid network says of its devices' names. -/
theorem dvGo_inv (m : Int) : ∀ (V : List Dv) (U : List ByteArray), dvGo m U V = 0 → (∀ d ∈ V, je d.n.data.toList = true ∧ d.n ∉ U) ∧ (V.map Dv.n).Nodup
  | [], _, _ => ⟨by simp, by simp⟩
  | d :: l, U, h => by
    rw [dvGo] at h
    split at h
    · cases h
    rename_i h1
    split at h
    · cases h
    rename_i h2
    split at h
    · cases h
    split at h
    · cases h
    split at h
    · cases h
    obtain ⟨i1, i2⟩ := dvGo_inv m l (U ++ [d.n]) h
    have hu : d.n ∉ U := fun hin => h2 (by unfold jg; rw [List.any_eq_true]; exact ⟨d.n, hin, by simp⟩)
    refine ⟨fun x hx => ?_, ?_⟩
    · rcases List.mem_cons.1 hx with rfl | hx
      · exact ⟨by simpa using h1, hu⟩
      · exact ⟨(i1 x hx).1, fun hin => (i1 x hx).2 (by simp [hin])⟩
    · rw [List.map_cons, List.nodup_cons]
      refine ⟨fun hin => ?_, i2⟩
      obtain ⟨x, hx, e⟩ := List.mem_map.1 hin
      exact (i1 x hx).2 (by simp [e])
theorem net_names {N : List Nd} {V : List Dv} (h : netE N V = 0) : (∀ d ∈ V, je d.n.data.toList = true) ∧ (V.map Dv.n).Nodup := by
  unfold netE at h
  split at h
  · cases h
  split at h
  · rename_i h2; exact absurd h h2
  obtain ⟨i1, i2⟩ := dvGo_inv _ _ _ h
  exact ⟨fun d hd => (i1 d hd).1, i2⟩
theorem qy {a b : ByteArray} (h : a.data.toList = b.data.toList) : a = b := by
  cases a; cases b
  congr 1
  exact Array.toList_inj.1 h
theorem name_sp {l : List UInt8} (h : je l = true) : l ≠ [] ∧ (∀ c ∈ l, c ≠ 32) ∧ l.length ≤ 12 := by
  unfold je at h
  simp only [Bool.and_eq_true, decide_eq_true_eq] at h
  obtain ⟨⟨h1, h2⟩, h3⟩ := h
  refine ⟨by rintro rfl; simp at h2, ?_, h3⟩
  have key : ∀ (l : List UInt8) (f : Bool), qR l f = true → ∀ c ∈ l, c ≠ 32 := by
    intro l
    induction l with
    | nil => intro f _ c hc; cases hc
    | cons x r ih =>
      intro f hf c hc
      rw [qR, Bool.and_eq_true] at hf
      rcases List.mem_cons.1 hc with rfl | hc
      · rintro rfl
        have : fitsB (32 : UInt8).toNat f = false := by cases f <;> decide +kernel
        rw [this] at hf; cases hf.1
      · exact ih _ hf.2 c hc
  exact key l true h1
theorem digit_sp {d : Nat} (h : d < 10) : UInt8.ofNat (48 + d) ≠ 32 := by
  intro e
  have := congrArg UInt8.toNat e
  simp at this
  omega
theorem dec_sp : ∀ n : Nat, ∀ c ∈ Lib.decDigits n, c ≠ (32 : UInt8) := by
  intro n
  induction n using Nat.strongRecOn with
  | _ n ih =>
    intro c hc
    rw [Lib.decDigits] at hc
    split at hc
    · rename_i h
      rw [List.mem_singleton.1 hc]
      exact digit_sp h
    · rename_i h
      rcases List.mem_append.1 hc with hc | hc
      · exact ih (n / 10) (by omega) c hc
      · rw [List.mem_singleton.1 hc]
        exact digit_sp (Nat.mod_lt _ (by decide))
theorem itoa_sp (n : Int) : ∀ c ∈ Lib.itoa n, c ≠ (32 : UInt8) := by
  intro c hc
  unfold Lib.itoa at hc
  split at hc
  · rcases List.mem_cons.1 hc with rfl | hc
    · decide
    · exact dec_sp _ c hc
  · exact dec_sp _ c hc
theorem joinW_len2 : ∀ (W : List (List UInt8)) (b : Nat), (∀ w ∈ W, w.length ≤ b) → (qE W).length ≤ W.length * (b + 1)
  | [], b, _ => by simp [joinW_nil]
  | [w], b, h => by have := h w (by simp); rw [jx]; simp; omega
  | w :: x :: r, b, h => by
    have h1 := h w (by simp)
    have h2 := joinW_len2 (x :: r) b (fun y hy => h y (List.mem_cons_of_mem _ hy))
    rw [jm, List.length_append]
    have e : (w :: x :: r).length = (x :: r).length + 1 := rfl
    rw [e, Nat.succ_mul]
    simp only [List.length_cons] at h2 ⊢
    omega
theorem devN_at {V : List Dv} {d : Int} (h : 0 ≤ d ∧ d < V.length) : ∃ x, V[d.toNat]? = some x ∧ devN V d = x.n.data.toList := by
  obtain ⟨x, hx⟩ := zl (L := V) (k := d.toNat) (by omega)
  exact ⟨x, hx, by unfold devN; rw [hx]⟩
end Go.Proofs.YtggngllfnboehaaGreatDoor
namespace Go.Proofs.YtggngllfnboehaaGreatDoor
open Go Go.RowKit
instance (c : UInt8) : Decidable (okC c) := by unfold okC; infer_instance
theorem char_okC {c : UInt8} (h : charB c.toNat = true) : okC c ∧ c ≠ 35 ∧ c ≠ 32 := by
  unfold charB qM digitB at h
  simp only [Bool.or_eq_true, Bool.and_eq_true, decide_eq_true_eq, beq_iff_eq] at h
  refine ⟨⟨by omega, by omega⟩, fun e => ?_, fun e => ?_⟩ <;> (subst e; simp at h)
theorem chars_okC : ∀ {l : List UInt8}, qd l = true → ∀ c ∈ l, okC c ∧ c ≠ 35 ∧ c ≠ 32
  | [], _, c, hc => by cases hc
  | x :: r, h, c, hc => by
    rw [qd, Bool.and_eq_true] at h
    rcases List.mem_cons.1 hc with rfl | hc
    · exact char_okC h.1
    · exact chars_okC h.2 c hc
theorem name_okC {l : List UInt8} (h : je l = true) : ∀ c ∈ l, okC c ∧ c ≠ 35 ∧ c ≠ 32 := by
  rw [← rname_eq] at h
  cases l with
  | nil => cases h
  | cons c r =>
    unfold rnameB at h
    simp only [Bool.and_eq_true] at h
    exact chars_okC h.2
theorem digit_okC {d : Nat} (h : d < 10) : okC (UInt8.ofNat (48 + d)) := by
  have e : (UInt8.ofNat (48 + d)).toNat = 48 + d := by simp; omega
  unfold okC
  rw [e]
  omega
theorem dec_okC : ∀ n : Nat, ∀ c ∈ Lib.decDigits n, okC c := by
  intro n
  induction n using Nat.strongRecOn with
  | _ n ih =>
    intro c hc
    rw [Lib.decDigits] at hc
    split at hc
    · rename_i h
      rw [List.mem_singleton.1 hc]
      exact digit_okC h
    · rename_i h
      rcases List.mem_append.1 hc with hc | hc
      · exact ih (n / 10) (by omega) c hc
      · rw [List.mem_singleton.1 hc]
        exact digit_okC (Nat.mod_lt _ (by decide))
theorem itoa_okC (n : Int) : ∀ c ∈ Lib.itoa n, okC c := by
  intro c hc
  unfold Lib.itoa at hc
  split at hc
  · rcases List.mem_cons.1 hc with rfl | hc
    · decide
    · exact dec_okC _ c hc
  · exact dec_okC _ c hc
theorem join_okC : ∀ {W : List (List UInt8)}, (∀ w ∈ W, ∀ c ∈ w, okC c) → ∀ c ∈ qE W, okC c
  | [], _, c, hc => by rw [joinW_nil] at hc; cases hc
  | [w], h, c, hc => by rw [jx] at hc; exact h w (by simp) c hc
  | w :: x :: r, h, c, hc => by
    rw [jm] at hc
    rcases List.mem_append.1 hc with hc | hc
    · exact h w (by simp) c hc
    · rcases List.mem_cons.1 hc with rfl | hc
      · decide
      · exact join_okC (fun y hy => h y (List.mem_cons_of_mem _ hy)) c hc
theorem net_nodes {N : List Nd} {V : List Dv} (h : netE N V = 0) : (∀ d ∈ N, je d.n.data.toList = true) ∧ (N.map Nd.n).Nodup := by
  have key : ∀ (N : List Nd) (U : List ByteArray), ndGo U N = 0 → (∀ d ∈ N, je d.n.data.toList = true ∧ d.n ∉ U) ∧ (N.map Nd.n).Nodup := by
    intro N
    induction N with
    | nil => intro U _; exact ⟨by simp, by simp⟩
    | cons d l ih =>
      intro U h
      rw [ndGo] at h
      split at h
      · cases h
      rename_i h1
      split at h
      · cases h
      rename_i h2
      split at h
      · cases h
      obtain ⟨i1, i2⟩ := ih (U ++ [d.n]) h
      have hu : d.n ∉ U := fun hin => h2 (by unfold jg; rw [List.any_eq_true]; exact ⟨d.n, hin, by simp⟩)
      refine ⟨fun x hx => ?_, ?_⟩
      · rcases List.mem_cons.1 hx with rfl | hx
        · exact ⟨by simpa using h1, hu⟩
        · exact ⟨(i1 x hx).1, fun hin => (i1 x hx).2 (by simp [hin])⟩
      · rw [List.map_cons, List.nodup_cons]
        refine ⟨fun hin => ?_, i2⟩
        obtain ⟨x, hx, e⟩ := List.mem_map.1 hin
        exact (i1 x hx).2 (by simp [e])
  unfold netE at h
  split at h
  · cases h
  split at h
  · rename_i h2; exact absurd h h2
  rename_i h2
  have h3 : ndGo [] N = 0 := by simpa using h2
  obtain ⟨i1, i2⟩ := key N [] h3
  exact ⟨fun d hd => (i1 d hd).1, i2⟩
theorem nodN_at {V : List Nd} {d : Int} (h : 0 ≤ d ∧ d < V.length) : ∃ x, V[d.toNat]? = some x ∧ nodN V d = x.n.data.toList := by
  obtain ⟨x, hx⟩ := zl (L := V) (k := d.toNat) (by omega)
  exact ⟨x, hx, by unfold nodN; rw [hx]⟩
/-- A word of a programme. -/
def WdOk (w : List UInt8) : Prop := w ≠ [] ∧ (∀ c ∈ w, c ≠ 32) ∧ (∀ c ∈ w, okC c) ∧ w.length ≤ 20
instance (w : List UInt8) : Decidable (∀ c ∈ w, okC c) := by unfold okC; infer_instance
instance (w : List UInt8) : Decidable (WdOk w) := by unfold WdOk; infer_instance
theorem name_wd {l : List UInt8} (h : je l = true) : WdOk l :=
  ⟨(name_sp h).1, (name_sp h).2.1, fun c hc => (name_okC h c hc).1, by have := (name_sp h).2.2; omega⟩
theorem itoa_wd {n : Int} (h1 : 0 ≤ n) (h2 : n ≤ 65536) : WdOk (Lib.itoa n) := ⟨itoa_ne n, itoa_sp n, itoa_okC n, itoa_len (by omega) (by omega)⟩
theorem posW_wd (p : Int) : WdOk (posW p) := by unfold posW; split <;> decide
/-- A step that is right. -/
structure StOk (nN nV : Int) (s : St) : Prop where
  k : 1 ≤ s.k ∧ s.k ≤ 6
  d : s.k ≠ 5 → 0 ≤ s.d ∧ s.d < nV
  d0 : s.k = 5 → s.d = 0
  n : s.k = 5 → 0 ≤ s.n ∧ s.n < nN
  n0 : s.k ≠ 5 → s.n = 0
  p : s.k = 3 ∨ s.k = 6 → s.p = 1 ∨ s.p = 2
  p0 : ¬(s.k = 3 ∨ s.k = 6) → s.p = 0
  y : s.k = 3 ∨ s.k = 4 → 0 ≤ s.y ∧ s.y ≤ 65536
  y0 : ¬(s.k = 3 ∨ s.k = 4) → s.y = 0
theorem stepE_iff {nN nV : Int} {s : St} : qt nN nV s = 0 ↔ StOk nN nV s := by
  unfold qt
  constructor
  · intro h
    split at h
    · cases h
    split at h
    · cases h
    split at h
    · cases h
    split at h
    · cases h
    split at h
    · cases h
    split at h
    · cases h
    constructor <;> omega
  · intro h
    obtain ⟨k, d, d0, n, n0, p, p0, y, y0⟩ := h
    rw [if_neg (by omega), if_neg (by omega), if_neg (by omega), if_neg (by omega), if_neg (by omega), if_neg (by omega)]
theorem stepsE_iff {nN nV : Int} : ∀ {S : List St}, qr nN nV S = 0 ↔ ∀ s ∈ S, StOk nN nV s
  | [] => by simp [qr]
  | s :: l => by
    rw [qr, List.forall_mem_cons, ← stepE_iff, ← stepsE_iff (S := l)]
    by_cases h : qt nN nV s = 0
    · rw [if_neg (by simpa using h)]; exact ⟨fun e => ⟨h, e⟩, fun e => e.2⟩
    · rw [if_pos h]; exact ⟨fun e => absurd e h, fun e => absurd e.1 h⟩
structure PgOk (N : List Nd) (V : List Dv) (P : Pg) : Prop where
  net : netE N V = 0
  n : je P.n.data.toList = true
  l : P.st.length ≤ 64
  s : ∀ s ∈ P.st, StOk N.length V.length s
theorem progE_iff {N : List Nd} {V : List Dv} {P : Pg} : jv N V P = 0 ↔ PgOk N V P := by
  unfold jv
  constructor
  · intro h
    split at h
    · rename_i h1; exact absurd h h1
    rename_i h1
    split at h
    · cases h
    rename_i h2
    split at h
    · cases h
    exact ⟨by simpa using h1, by simpa using h2, by omega, stepsE_iff.1 h⟩
  · rintro ⟨h1, h2, h3, h4⟩
    rw [if_neg (by simpa using h1), if_neg (by rw [h2]; simp), if_neg (by omega)]
    exact stepsE_iff.2 h4
theorem step_words {N : List Nd} {V : List Dv} {s : St} (hn : netE N V = 0) (h : StOk N.length V.length s) : (∀ w ∈ qV N V s, WdOk w) ∧ (qV N V s).length ≤ 5 ∧ (∀ w, (qV N V s)[0]? = some w → w[0]? ≠ some 35) ∧ 0 < (qV N V s).length := by
  have hd : s.k ≠ 5 → WdOk (devN V s.d) := fun e => by
    obtain ⟨x, hx, e⟩ := devN_at (h.d e)
    rw [e]
    exact name_wd ((net_names hn).1 x (List.mem_of_getElem? hx))
  have hp := posW_wd s.p
  unfold qV
  split
  · rename_i h1
    refine ⟨?_, by simp, fun w hw => by simp at hw; subst hw; decide, by simp⟩
    simp only [List.mem_cons, List.not_mem_nil, or_false]
    rintro w (rfl | rfl)
    · decide
    · exact hd (by omega)
  split
  · refine ⟨?_, by simp, fun w hw => by simp at hw; subst hw; decide, by simp⟩
    simp only [List.mem_cons, List.not_mem_nil, or_false]
    rintro w (rfl | rfl)
    · decide
    · exact hd (by omega)
  split
  · rename_i h3
    have hy := h.y (.inl h3)
    refine ⟨?_, by simp, fun w hw => by simp at hw; subst hw; decide, by simp⟩
    simp only [List.mem_cons, List.not_mem_nil, or_false]
    rintro w (rfl | rfl | rfl | rfl | rfl)
    · decide
    · exact hd (by omega)
    · exact hp
    · decide
    · exact itoa_wd hy.1 hy.2
  split
  · rename_i h3
    have hy := h.y (.inr h3)
    refine ⟨?_, by simp, fun w hw => by simp at hw; subst hw; decide, by simp⟩
    simp only [List.mem_cons, List.not_mem_nil, or_false]
    rintro w (rfl | rfl | rfl | rfl)
    · decide
    · exact hd (by omega)
    · decide
    · exact itoa_wd hy.1 hy.2
  split
  · rename_i h3
    refine ⟨?_, by simp, fun w hw => by simp at hw; subst hw; decide, by simp⟩
    simp only [List.mem_cons, List.not_mem_nil, or_false]
    rintro w (rfl | rfl)
    · decide
    · obtain ⟨x, hx, e⟩ := nodN_at (h.n h3)
      rw [e]
      exact name_wd ((net_nodes hn).1 x (List.mem_of_getElem? hx))
  · refine ⟨?_, by simp, fun w hw => by simp at hw; subst hw; decide, by simp⟩
    simp only [List.mem_cons, List.not_mem_nil, or_false]
    rintro w (rfl | rfl | rfl)
    · decide
    · exact hd (by omega)
    · exact hp
theorem wd_line {W : List (List UInt8)} (h : ∀ w ∈ W, WdOk w) : (∀ c ∈ qE W, okC c) ∧ (qE W).length ≤ W.length * 21 :=
  ⟨join_okC fun w hw => (h w hw).2.2.1, joinW_len2 W 20 fun w hw => (h w hw).2.2.2⟩
section
variable {N : List Nd} {V : List Dv}
theorem goL_cons (i : Nat) (nm : Option (List UInt8)) (S : List St) (l : List UInt8) (ls : List (List UInt8)) : goL N V i nm S (l :: ls) =
    if (jK l).length = 0 ∨ (wAt (jK l) 0)[0]? = some 35 then goL N V (i + 1) nm S ls
    else match nm with
      | none => if (jK l).length ≠ 2 ∨ wAt (jK l) 0 ≠ progL then .error ((i : Int) + 1, 2) else goL N V (i + 1) (some (wAt (jK l) 1)) S ls
      | some n => if (jz N V (jK l)).2 ≠ 0 then .error ((i : Int) + 1, (jz N V (jK l)).2) else goL N V (i + 1) (some n) (S ++ [(jz N V (jK l)).1]) ls := by
  rw [goL.eq_def]
  try rfl
theorem goL_nil (i : Nat) (nm : Option (List UInt8)) (S : List St) : goL N V i nm S [] = .ok (nm, S) := by rw [goL.eq_def]
theorem head_wd {P : Pg} (h : je P.n.data.toList = true) : ∀ w ∈ headL P, WdOk w := by
  intro w hw
  simp only [headL, List.mem_cons, List.not_mem_nil, or_false] at hw
  rcases hw with rfl | rfl
  · decide
  · exact name_wd h
theorem lines_okP {P : Pg} (h : PgOk N V P) : ∀ l ∈ qU N V P, (∀ c ∈ l, okC c) ∧ l.length ≤ 105 := by
  intro l hl
  unfold qU at hl
  rcases List.mem_cons.1 hl with rfl | hl
  · have := wd_line (head_wd h.n)
    exact ⟨this.1, by have h2 := this.2; simp [headL] at h2 ⊢; omega⟩
  · obtain ⟨s, hs, rfl⟩ := List.mem_map.1 hl
    obtain ⟨h1, h2, _⟩ := step_words h.net (h.s s hs)
    have := wd_line h1
    exact ⟨this.1, by omega⟩
theorem txt_len : ∀ {L : List (List UInt8)} {b : Nat}, (∀ l ∈ L, l.length ≤ b) → (qu L).length ≤ L.length * (b + 1)
  | [], b, _ => by simp [qu]
  | l :: L, b, h => by
    have h1 := h l (by simp)
    have h2 := txt_len (L := L) (b := b) (fun x hx => h x (by simp [hx]))
    unfold qu at h2 ⊢
    rw [List.flatMap_cons, List.length_append, List.length_append]
    have e : (l :: L).length = L.length + 1 := rfl
    rw [e, Nat.succ_mul]
    simp only [List.length_singleton]
    omega
theorem text_len {P : Pg} (h : PgOk N V P) : (qu (qU N V P)).length ≤ 6890 := by
  have h1 := txt_len fun l hl => (lines_okP h l hl).2
  have : (qU N V P).length = P.st.length + 1 := by unfold qU; simp
  have := h.l
  omega
end
end Go.Proofs.YtggngllfnboehaaGreatDoor
