/- Switching programmes, by plain functions: which are valid, their text, what a text is read as, and that the text leads back; nothing of the program stands here. -/
import Derived.Test.YtggngllfnboehaaDoorNetP
import Derived.Test.YtggngllfnboehaaDoorWdP
import Derived.Test.YtggngllfnboehaaDoorLnP
import Derived.Test.YtggngllfnboehaaDoorRnP
set_option linter.unusedVariables false
set_option linter.unusedSimpArgs false
namespace Go.Proofs.YtggngllfnboehaaDoor
open Go Go.RowKit
structure St where
  k : Int
  d : Int
  n : Int
  p : Int
  y : Int
  deriving DecidableEq
def St.zer : St := ⟨0, 0, 0, 0, 0⟩
structure Pg where
  n : ByteArray
  st : List St
def Pg.zer : Pg := ⟨ByteArray.empty, []⟩
def stepE (nN nV : Int) (s : St) : Int :=
  if s.k < 1 ∨ 6 < s.k then 6 else if s.k ≠ 5 ∧ (s.d < 0 ∨ nV ≤ s.d) then 8 else if s.k = 5 ∧ (s.n < 0 ∨ nN ≤ s.n) then 7
  else if (s.k = 3 ∨ s.k = 6) ∧ s.p ≠ 1 ∧ s.p ≠ 2 then 10 else if (s.k = 3 ∨ s.k = 4) ∧ (s.y < 0 ∨ 65536 < s.y) then 5
  else if (s.k = 5 ∧ s.d ≠ 0) ∨ (s.k ≠ 5 ∧ s.n ≠ 0) ∨ (¬(s.k = 3 ∨ s.k = 6) ∧ s.p ≠ 0) ∨ (¬(s.k = 3 ∨ s.k = 4) ∧ s.y ≠ 0) then 14 else 0
def stepsE (nN nV : Int) : List St → Int
  | [] => 0
  | s :: l => if stepE nN nV s ≠ 0 then stepE nN nV s else stepsE nN nV l
def progE (N : List Nd) (V : List Dv) (P : Pg) : Int :=
  if netE N V ≠ 0 then netE N V else if nameB P.n.data.toList = false then 3 else if 64 < P.st.length then 1 else stepsE N.length V.length P.st
def openL : List UInt8 := [111, 112, 101, 110]
def closeL : List UInt8 := [99, 108, 111, 115, 101]
def closedL : List UInt8 := [99, 108, 111, 115, 101, 100]
def lockL : List UInt8 := [108, 111, 99, 107]
def unlockL : List UInt8 := [117, 110, 108, 111, 99, 107]
def proveL : List UInt8 := [112, 114, 111, 118, 101]
def checkL : List UInt8 := [99, 104, 101, 99, 107]
def keyL : List UInt8 := [107, 101, 121]
def progL : List UInt8 := [112, 114, 111, 103, 114, 97, 109, 109, 101]
def devN (V : List Dv) (d : Int) : List UInt8 := match V[d.toNat]? with
  | some x => x.n.data.toList
  | none => []
def nodN (N : List Nd) (d : Int) : List UInt8 := match N[d.toNat]? with
  | some x => x.n.data.toList
  | none => []
def posW (p : Int) : List UInt8 := if p = 1 then openL else closedL
def stepW (N : List Nd) (V : List Dv) (s : St) : List (List UInt8) :=
  if s.k = 1 then [openL, devN V s.d] else if s.k = 2 then [closeL, devN V s.d] else if s.k = 3 then [lockL, devN V s.d, posW s.p, keyL, Lib.itoa s.y]
  else if s.k = 4 then [unlockL, devN V s.d, keyL, Lib.itoa s.y] else if s.k = 5 then [proveL, nodN N s.n] else [checkL, devN V s.d, posW s.p]
def headL (P : Pg) : List (List UInt8) := [progL, P.n.data.toList]
def linesP (N : List Nd) (V : List Dv) (P : Pg) : List (List UInt8) := joinW (headL P) :: P.st.map fun s => joinW (stepW N V s)
def txtOf (L : List (List UInt8)) : List UInt8 := L.flatMap fun l => l ++ [10]
def okC (c : UInt8) : Prop := 32 ≤ c.toNat ∧ c.toNat ≤ 126
theorem ll_line : ∀ (l cur r : List UInt8), (∀ c ∈ l, c ≠ 10) → ll cur (l ++ 10 :: r) = (cur ++ l) :: ll [] r
  | [], cur, r, _ => by simp [ll]
  | c :: l, cur, r, h => by
    rw [List.cons_append, ll, if_neg (h c (by simp)), ll_line l _ r (fun x hx => h x (by simp [hx]))]
    simp
theorem ll_txt : ∀ {L : List (List UInt8)}, (∀ l ∈ L, ∀ c ∈ l, c ≠ 10) → ll [] (txtOf L) = L
  | [], _ => rfl
  | l :: L, h => by
    unfold txtOf
    rw [List.flatMap_cons, List.append_assoc, List.singleton_append, ll_line l [] _ (h l (by simp))]
    have := ll_txt (L := L) (fun x hx => h x (by simp [hx]))
    unfold txtOf at this
    rw [this]; rfl
theorem txt_last : ∀ {L : List (List UInt8)}, L ≠ [] → (txtOf L).getLast? = some 10 := by
  intro L h
  obtain ⟨A, x, rfl⟩ : ∃ A x, L = A ++ [x] := ⟨L.dropLast, L.getLast h, (List.dropLast_concat_getLast h).symm⟩
  unfold txtOf
  rw [List.flatMap_append, List.flatMap_cons, List.flatMap_nil, List.append_nil, ← List.append_assoc]
  simp
def printG (N : List Nd) (V : List Dv) (P : Pg) : ByteArray × Int := if progE N V P ≠ 0 then (ByteArray.empty, progE N V P) else (⟨(txtOf (linesP N V P)).toArray⟩, 0)
def devI (s : List UInt8) : Int → List Dv → Int
  | _, [] => -1
  | i, d :: l => if d.n.data.toList = s then i else devI s (i + 1) l
def nodI (s : List UInt8) : Int → List Nd → Int
  | _, [] => -1
  | i, d :: l => if d.n.data.toList = s then i else nodI s (i + 1) l
def wAt (W : List (List UInt8)) (k : Nat) : List UInt8 := (W[k]?).getD []
def posI (w : List UInt8) : Int := if w = openL then 1 else if w = closedL then 2 else 0
/-- The kind, the position and the number of the words of a step. -/
def formR (W : List (List UInt8)) : Option (Int × Int × Int) :=
  if W.length = 2 ∧ wAt W 0 = openL then some (1, 0, 0)
  else if W.length = 2 ∧ wAt W 0 = closeL then some (2, 0, 0)
  else if W.length = 5 ∧ wAt W 0 = lockL ∧ posI (wAt W 2) ≠ 0 ∧ wAt W 3 = keyL then (numP (wAt W 4) 1073741824).map fun n => (3, posI (wAt W 2), n)
  else if W.length = 4 ∧ wAt W 0 = unlockL ∧ wAt W 2 = keyL then (numP (wAt W 3) 1073741824).map fun n => (4, 0, n)
  else if W.length = 2 ∧ wAt W 0 = proveL then some (5, 0, 0)
  else if W.length = 3 ∧ wAt W 0 = checkL ∧ posI (wAt W 2) ≠ 0 then some (6, posI (wAt W 2), 0)
  else none
def stepR (N : List Nd) (V : List Dv) (W : List (List UInt8)) : St × Int := match formR W with
  | none => (St.zer, 2)
  | some (k, p, y) => if k = 5 then (if nodI (wAt W 1) 0 N < 0 then (St.zer, 7) else (⟨k, 0, nodI (wAt W 1) 0 N, p, y⟩, 0))
    else if devI (wAt W 1) 0 V < 0 then (St.zer, 8) else (⟨k, devI (wAt W 1) 0 V, 0, p, y⟩, 0)
/-- The lines of a programme, from the line of a number on. -/
def goL (N : List Nd) (V : List Dv) : Nat → Option (List UInt8) → List St → List (List UInt8) → Except (Int × Int) (Option (List UInt8) × List St)
  | _, nm, S, [] => .ok (nm, S)
  | i, nm, S, l :: ls =>
    if (wordsL l).length = 0 ∨ (wAt (wordsL l) 0)[0]? = some 35 then goL N V (i + 1) nm S ls
    else match nm with
      | none => if (wordsL l).length ≠ 2 ∨ wAt (wordsL l) 0 ≠ progL then .error ((i : Int) + 1, 2) else goL N V (i + 1) (some (wAt (wordsL l) 1)) S ls
      | some n => if (stepR N V (wordsL l)).2 ≠ 0 then .error ((i : Int) + 1, (stepR N V (wordsL l)).2) else goL N V (i + 1) (some n) (S ++ [(stepR N V (wordsL l)).1]) ls
def endG (N : List Nd) (V : List Dv) : Except (Int × Int) (Option (List UInt8) × List St) → Pg × Int × Int
  | .error (i, e) => (Pg.zer, i, e)
  | .ok (none, _) => (Pg.zer, 0, 2)
  | .ok (some n, S) => if progE N V ⟨⟨n.toArray⟩, S⟩ ≠ 0 then (Pg.zer, 0, progE N V ⟨⟨n.toArray⟩, S⟩) else (⟨⟨n.toArray⟩, S⟩, 0, 0)
def parseG (N : List Nd) (V : List Dv) (s : List UInt8) : Pg × Int × Int :=
  if netE N V ≠ 0 then (Pg.zer, 0, netE N V) else match linesL s with
  | none => (Pg.zer, 0, 2)
  | some L => endG N V (goL N V 0 none [] L)
/-- What a valid network says of its devices' names. -/
theorem dvGo_inv (m : Int) : ∀ (V : List Dv) (U : List ByteArray), dvGo m U V = 0 → (∀ d ∈ V, nameB d.n.data.toList = true ∧ d.n ∉ U) ∧ (V.map Dv.n).Nodup
  | [], _, _ => ⟨by simp, by simp⟩
  | d :: l, U, h => by
    rw [dvGo] at h
    split at h
    · cases h
    rename_i h1
    split at h
    · cases h
    rename_i h2
    split at h
    · cases h
    split at h
    · cases h
    split at h
    · cases h
    obtain ⟨i1, i2⟩ := dvGo_inv m l (U ++ [d.n]) h
    have hu : d.n ∉ U := fun hin => h2 (by unfold usedB; rw [List.any_eq_true]; exact ⟨d.n, hin, by simp⟩)
    refine ⟨fun x hx => ?_, ?_⟩
    · rcases List.mem_cons.1 hx with rfl | hx
      · exact ⟨by simpa using h1, hu⟩
      · exact ⟨(i1 x hx).1, fun hin => (i1 x hx).2 (by simp [hin])⟩
    · rw [List.map_cons, List.nodup_cons]
      refine ⟨fun hin => ?_, i2⟩
      obtain ⟨x, hx, e⟩ := List.mem_map.1 hin
      exact (i1 x hx).2 (by simp [e])
theorem net_names {N : List Nd} {V : List Dv} (h : netE N V = 0) : (∀ d ∈ V, nameB d.n.data.toList = true) ∧ (V.map Dv.n).Nodup := by
  unfold netE at h
  split at h
  · cases h
  split at h
  · rename_i h2; exact absurd h h2
  obtain ⟨i1, i2⟩ := dvGo_inv _ _ _ h
  exact ⟨fun d hd => (i1 d hd).1, i2⟩
theorem ba_ext2 {a b : ByteArray} (h : a.data.toList = b.data.toList) : a = b := by
  cases a; cases b
  congr 1
  exact Array.toList_inj.1 h
theorem devI_at : ∀ (V : List Dv) (i : Int) (k : Nat) (d : Dv), (V.map Dv.n).Nodup → V[k]? = some d → devI d.n.data.toList i V = i + k
  | [], _, k, d, _, h => by simp at h
  | x :: l, i, k, d, hn, h => by
    simp only [List.map_cons, List.nodup_cons] at hn
    rw [devI]
    cases k with
    | zero => simp at h; subst h; simp
    | succ k =>
      have h' : l[k]? = some d := by simpa using h
      rw [if_neg (fun e => hn.1 (List.mem_map.2 ⟨d, List.mem_of_getElem? h', (ba_ext2 e).symm⟩)), devI_at l (i + 1) k d hn.2 h']
      omega
theorem name_sp {l : List UInt8} (h : nameB l = true) : l ≠ [] ∧ (∀ c ∈ l, c ≠ 32) ∧ l.length ≤ 12 := by
  unfold nameB at h
  simp only [Bool.and_eq_true, decide_eq_true_eq] at h
  obtain ⟨⟨h1, h2⟩, h3⟩ := h
  refine ⟨by rintro rfl; simp at h2, ?_, h3⟩
  have key : ∀ (l : List UInt8) (f : Bool), fitsAll l f = true → ∀ c ∈ l, c ≠ 32 := by
    intro l
    induction l with
    | nil => intro f _ c hc; cases hc
    | cons x r ih =>
      intro f hf c hc
      rw [fitsAll, Bool.and_eq_true] at hf
      rcases List.mem_cons.1 hc with rfl | hc
      · rintro rfl
        have : fitsB (32 : UInt8).toNat f = false := by cases f <;> decide +kernel
        rw [this] at hf; cases hf.1
      · exact ih _ hf.2 c hc
  exact key l true h1
theorem digit_sp {d : Nat} (h : d < 10) : UInt8.ofNat (48 + d) ≠ 32 := by
  intro e
  have := congrArg UInt8.toNat e
  simp at this
  omega
theorem dec_sp : ∀ n : Nat, ∀ c ∈ Lib.decDigits n, c ≠ (32 : UInt8) := by
  intro n
  induction n using Nat.strongRecOn with
  | _ n ih =>
    intro c hc
    rw [Lib.decDigits] at hc
    split at hc
    · rename_i h
      rw [List.mem_singleton.1 hc]
      exact digit_sp h
    · rename_i h
      rcases List.mem_append.1 hc with hc | hc
      · exact ih (n / 10) (by omega) c hc
      · rw [List.mem_singleton.1 hc]
        exact digit_sp (Nat.mod_lt _ (by decide))
theorem itoa_sp (n : Int) : ∀ c ∈ Lib.itoa n, c ≠ (32 : UInt8) := by
  intro c hc
  unfold Lib.itoa at hc
  split at hc
  · rcases List.mem_cons.1 hc with rfl | hc
    · decide
    · exact dec_sp _ c hc
  · exact dec_sp _ c hc
theorem joinW_len2 : ∀ (W : List (List UInt8)) (b : Nat), (∀ w ∈ W, w.length ≤ b) → (joinW W).length ≤ W.length * (b + 1)
  | [], b, _ => by simp [joinW_nil]
  | [w], b, h => by have := h w (by simp); rw [joinW_one]; simp; omega
  | w :: x :: r, b, h => by
    have h1 := h w (by simp)
    have h2 := joinW_len2 (x :: r) b (fun y hy => h y (List.mem_cons_of_mem _ hy))
    rw [joinW_cons, List.length_append]
    have e : (w :: x :: r).length = (x :: r).length + 1 := rfl
    rw [e, Nat.succ_mul]
    simp only [List.length_cons] at h2 ⊢
    omega
theorem devN_at {V : List Dv} {d : Int} (h : 0 ≤ d ∧ d < V.length) : ∃ x, V[d.toNat]? = some x ∧ devN V d = x.n.data.toList := by
  obtain ⟨x, hx⟩ := some_at (L := V) (k := d.toNat) (by omega)
  exact ⟨x, hx, by unfold devN; rw [hx]⟩
end Go.Proofs.YtggngllfnboehaaDoor
