/- Locks, by plain functions: which lists are valid, and lists to which one adds; nothing of the program stands here / Documents, by plain functions: which are valid; nothing of the program stands here. -/
import Derived.Test.YtjamibeffalhaaaGreatDoorLxA
import Derived.Test.YtjamibeffalhaaaGreatDoorGnP
set_option linter.unusedVariables false
set_option linter.unusedSimpArgs false
namespace Go.Proofs.YtjamibeffalhaaaGreatDoor
open Go Go.RowKit
structure Lk where
  d : Int
  p : Int
  k : Int
  deriving DecidableEq
theorem netE_len {N : List Nd} {V : List Dv} (h : netE N V = 0) : N.length ≤ 32 ∧ V.length ≤ 64 := by
  unfold netE at h
  split at h
  · cases h
  · omega

def iP (V : List Dv) (d : Int) : Int := match V[d.toNat]? with
  | some x => x.k
  | none => 0
def yh (V : List Dv) (k : Lk) : Int := if k.d < 0 ∨ (V.length : Int) ≤ k.d then 8 else if iP V k.d = 5 then 6 else if k.p ≠ 1 ∧ k.p ≠ 2 then 10 else if k.k < 0 ∨ 65536 < k.k then 5 else 0
def befB (a b : Lk) : Bool := decide (a.d < b.d) || (decide (a.d = b.d) && decide (a.k < b.k))
def qh (P : List Lk) (k : Lk) : Bool := match P.getLast? with
  | some q => befB q k
  | none => true
def qW (P : List Lk) (k : Lk) : Bool := P.any fun x => decide (x.d = k.d) && !decide (x.p = k.p)
def keyB (P : List Lk) (k : Int) : Bool := P.any fun x => decide (x.k = k)
def lkE (V : List Dv) (P : List Lk) (k : Lk) : Int := if yh V k ≠ 0 then yh V k else if qh P k = false then 14 else if qW P k = true then 18 else if keyB P k.k = true then 4 else 0
def lkGo (V : List Dv) : List Lk → List Lk → Int
  | _, [] => 0
  | P, k :: l => if lkE V P k ≠ 0 then lkE V P k else lkGo V (P ++ [k]) l
def lksE (N : List Nd) (V : List Dv) (L : List Lk) : Int := if netE N V ≠ 0 then netE N V else if 128 < L.length then 1 else lkGo V [] L
def yw (L : List Lk) (d : Int) : Int × Bool := match L.find? fun x => decide (x.d = d) with
  | some x => (x.p, true)
  | none => (0, false)
theorem cV {L : List Lk} {i : Nat} (hi : 0 < i) {q : Lk} (h : L[i - 1]? = some q) : (L.take i).getLast? = some q := by
  have := yL h
  rw [List.getLast?_eq_getElem?, List.length_take, List.getElem?_take, show min i L.length - 1 = i - 1 by omega, if_pos (by omega), h]
theorem sE {V : List Dv} {L : List Lk} {i : Nat} {k : Lk} (h : L[i]? = some k) : lkGo V (L.take i) (L.drop i) = if lkE V (L.take i) k ≠ 0 then lkE V (L.take i) k else lkGo V (L.take (i + 1)) (L.drop (i + 1)) := by
  rw [yV h, jg h]; rfl
theorem fY {L : List Lk} {j : Nat} {x k : Lk} (h : L[j]? = some x) : qW (L.take (j + 1)) k = (qW (L.take j) k || (decide (x.d = k.d) && !decide (x.p = k.p))) := by
  rw [jg h]; unfold qW; rw [List.any_append]; simp
theorem kE {L : List Lk} {j : Nat} {x : Lk} {k : Int} (h : L[j]? = some x) : keyB (L.take (j + 1)) k = (keyB (L.take j) k || decide (x.k = k)) := by
  rw [jg h]; unfold keyB; rw [List.any_append]; simp
theorem rQ {L : List Lk} {i j : Nat} {x k : Lk} (h : L[j]? = some x) (hj : j < i) (h1 : x.d = k.d) (h2 : ¬ x.p = k.p) : qW (L.take i) k = true := by
  unfold qW
  rw [List.any_eq_true]
  exact ⟨x, List.mem_of_getElem? (show (L.take i)[j]? = some x by rw [List.getElem?_take, if_pos hj]; exact h), by simp [h1, h2]⟩
theorem pF {L : List Lk} {i j : Nat} {x : Lk} {k : Int} (h : L[j]? = some x) (hj : j < i) (h1 : x.k = k) : keyB (L.take i) k = true := by
  unfold keyB
  rw [List.any_eq_true]
  exact ⟨x, List.mem_of_getElem? (show (L.take i)[j]? = some x by rw [List.getElem?_take, if_pos hj]; exact h), by simp [h1]⟩
theorem lkE_f {V : List Dv} {P : List Lk} {k : Lk} (h : yh V k ≠ 0) : lkE V P k = yh V k := by unfold lkE; rw [if_pos h]
theorem xS {V : List Dv} {P : List Lk} {k : Lk} (h : yh V k = 0) (h1 : qh P k = false) : lkE V P k = 14 := by unfold lkE; rw [if_neg (by omega), if_pos h1]
theorem xF {V : List Dv} {P : List Lk} {k : Lk} (h : yh V k = 0) (h1 : qh P k = true) (h2 : qW P k = true) : lkE V P k = 18 := by unfold lkE; rw [if_neg (by omega), if_neg (by rw [h1]; decide), if_pos h2]
theorem lkE_4 {V : List Dv} {P : List Lk} {k : Lk} (h : yh V k = 0) (h1 : qh P k = true) (h2 : qW P k = false) (h3 : keyB P k.k = true) : lkE V P k = 4 := by unfold lkE; rw [if_neg (by omega), if_neg (by rw [h1]; decide), if_neg (by rw [h2]; decide), if_pos h3]
theorem vM {V : List Dv} {P : List Lk} {k : Lk} (h : yh V k = 0) (h1 : qh P k = true) (h2 : qW P k = false) (h3 : keyB P k.k = false) : lkE V P k = 0 := by unfold lkE; rw [if_neg (by omega), if_neg (by rw [h1]; decide), if_neg (by rw [h2]; decide), if_neg (by rw [h3]; decide)]
def Rk (a b : Lk) : Prop := befB a b = true ∧ (a.d = b.d → a.p = b.p) ∧ ¬ a.k = b.k
def LkOk (V : List Dv) (L : List Lk) : Prop := (∀ x ∈ L, yh V x = 0) ∧ L.Pairwise Rk
theorem mX (a b : Lk) : befB a b = true ↔ a.d < b.d ∨ a.d = b.d ∧ a.k < b.k := by unfold befB; simp
theorem sJ {V : List Dv} : ∀ (L P : List Lk), (∀ x ∈ L, yh V x = 0) → (P ++ L).Pairwise Rk → lkGo V P L = 0
  | [], _, _, _ => rfl
  | k :: L, P, hf, hp => by
    have hk : ∀ q ∈ P, Rk q k := fun q hq => (List.pairwise_append.1 hp).2.2 q hq k (by simp)
    have h1 : qh P k = true := by
      unfold qh
      split
      · rename_i q hq
        exact (hk q (List.mem_of_getLast? hq)).1
      · rfl
    have h2 : qW P k = false := by
      unfold qW
      rw [List.any_eq_false]
      intro x hx
      have := (hk x hx).2.1
      by_cases e : x.d = k.d
      · simp [e, this e]
      · simp [e]
    have h3 : keyB P k.k = false := by
      unfold keyB
      rw [List.any_eq_false]
      intro x hx
      simpa using (hk x hx).2.2
    unfold lkGo
    rw [vM (hf k (by simp)) h1 h2 h3, if_neg (by decide)]
    exact sJ L (P ++ [k]) (fun x hx => hf x (by simp [hx])) (by rw [List.append_assoc]; exact hp)
theorem LkOk.lksE {N : List Nd} {V : List Dv} {L : List Lk} (h : LkOk V L) (hn : netE N V = 0) (hl : L.length ≤ 128) : lksE N V L = 0 := by
  unfold Go.Proofs.YtjamibeffalhaaaGreatDoor.lksE
  rw [if_neg (by omega), if_neg (by omega)]
  exact sJ L [] h.1 h.2
def insK (k : Lk) : List Lk → List Lk
  | [] => [k]
  | x :: l => if befB x k = true then x :: insK k l else k :: x :: l
def lowK (k : Lk) : List Lk → Nat
  | [] => 0
  | x :: l => if befB x k = true then lowK k l + 1 else 0
theorem tA (k : Lk) : ∀ L : List Lk, lowK k L ≤ L.length
  | [] => Nat.le_refl _
  | x :: l => by unfold lowK; split <;> simp [tA k l]
theorem pL (k : Lk) : ∀ L : List Lk, L.take (lowK k L) ++ k :: L.drop (lowK k L) = insK k L
  | [] => rfl
  | x :: l => by
    unfold lowK insK
    split
    · simp only [List.take_succ_cons, List.drop_succ_cons, List.cons_append, pL k l]
    · rfl
theorem iT {k y : Lk} : ∀ {L : List Lk}, y ∈ insK k L → y = k ∨ y ∈ L
  | [], h => by simp [insK] at h; exact .inl h
  | x :: l, h => by
    unfold insK at h
    split at h
    · rcases List.mem_cons.1 h with h | h
      · exact .inr (by simp [h])
      · rcases iT h with h | h
        · exact .inl h
        · exact .inr (by simp [h])
    · rcases List.mem_cons.1 h with h | h
      · exact .inl h
      · exact .inr h
theorem oA (k : Lk) : ∀ L : List Lk, (insK k L).length = L.length + 1
  | [] => rfl
  | x :: l => by unfold insK; split <;> simp [oA k l]
theorem tD {k : Lk} : ∀ {L : List Lk}, L.Pairwise Rk → (∀ x ∈ L, (x.d = k.d → x.p = k.p) ∧ ¬ x.k = k.k) → (insK k L).Pairwise Rk
  | [], _, _ => by simp [insK]
  | x :: l, hp, hk => by
    obtain ⟨p1, p2⟩ := List.pairwise_cons.1 hp
    obtain ⟨x1, x2⟩ := hk x (by simp)
    unfold insK
    split
    · rename_i hb
      refine List.pairwise_cons.2 ⟨fun y hy => ?_, tD p2 fun y hy => hk y (by simp [hy])⟩
      rcases iT hy with rfl | hy
      · exact ⟨hb, x1, x2⟩
      · exact p1 y hy
    · rename_i hb
      rw [mX] at hb
      have hkx : befB k x = true := by rw [mX]; omega
      refine List.pairwise_cons.2 ⟨fun y hy => ?_, hp⟩
      obtain ⟨y1, y2⟩ := hk y hy
      refine ⟨?_, fun e => (y1 e.symm).symm, fun e => y2 e.symm⟩
      rcases List.mem_cons.1 hy with rfl | hy
      · exact hkx
      · have := (p1 y hy).1
        rw [mX] at this hkx ⊢
        omega
theorem sC {L : List Lk} {k : Lk} (hp : L.Pairwise Rk) (h : (yw L k.d).2 = true → (yw L k.d).1 = k.p) : ∀ x ∈ L, x.d = k.d → x.p = k.p := by
  induction L with
  | nil => intro x hx; simp at hx
  | cons y L ih =>
    obtain ⟨p1, p2⟩ := List.pairwise_cons.1 hp
    intro x hx hd
    by_cases hy : y.d = k.d
    · have e : yw (y :: L) k.d = (y.p, true) := by unfold yw; rw [List.find?_cons_of_pos (by simpa using hy)]
      rw [e] at h
      have hyp : y.p = k.p := h rfl
      rcases List.mem_cons.1 hx with rfl | hx
      · exact hyp
      · rw [← hyp]; exact ((p1 x hx).2.1 (by omega)).symm
    · have e : yw (y :: L) k.d = yw L k.d := by unfold yw; rw [List.find?_cons_of_neg (by simpa using hy)]
      rw [e] at h
      rcases List.mem_cons.1 hx with rfl | hx
      · exact absurd hd hy
      · exact ih p2 h x hx hd
def addK (N : List Nd) (V : List Dv) (L : List Lk) (k : Lk) : List Lk × Int :=
  if lksE N V L ≠ 0 then ([], lksE N V L) else if yh V k ≠ 0 then ([], yh V k) else if keyB L k.k = true then ([], 4)
  else if (yw L k.d).2 = true ∧ (yw L k.d).1 ≠ k.p then ([], 18) else if 128 ≤ L.length then ([], 1)
  else (L.take (lowK k L) ++ k :: L.drop (lowK k L), 0)
theorem addK_ok {N : List Nd} {V : List Dv} {L : List Lk} {k : Lk} (hL : LkOk V L) (h : (addK N V L k).2 = 0) : LkOk V (addK N V L k).1 ∧ (addK N V L k).1.length = L.length + 1 := by
  unfold addK at h ⊢
  split at h
  · rename_i c; exact absurd h c
  rename_i c1
  split at h
  · rename_i c; exact absurd h c
  rename_i c2
  split at h
  · cases h
  rename_i c3
  split at h
  · cases h
  rename_i c4
  split at h
  · cases h
  rename_i c5
  rw [if_neg c1, if_neg c2, if_neg c3, if_neg c4, if_neg c5]
  simp only [pL]
  refine ⟨⟨fun x hx => ?_, tD hL.2 fun x hx => ⟨sC hL.2 (fun a => Decidable.byContradiction fun b => c4 ⟨a, b⟩) x hx, fun e => c3 ?_⟩⟩, oA k L⟩
  · rcases iT hx with rfl | hx
    · simpa using c2
    · exact hL.1 x hx
  · unfold keyB
    rw [List.any_eq_true]
    exact ⟨x, hx, by simpa using e⟩
end Go.Proofs.YtjamibeffalhaaaGreatDoor
namespace Go.Proofs.YtjamibeffalhaaaGreatDoor
open Go Go.RowKit
structure Dc where
  num : Int
  kind : Int
  st : Int
  rd : Int
  zone : List Int
  safe : Int
  lk : List Lk
  iss : ByteArray
  hol : ByteArray
  f : Int
  u : Int
  ce : List Int
def fU (f u : Int) : Bool := decide (0 ≤ f) && decide (f < u) && decide (u ≤ 16777216)
/-- Numbers that ascend from a number on, below a number. -/
def risB (n : Int) : Int → List Int → Bool
  | _, [] => true
  | p, x :: l => if x ≤ p ∨ n ≤ x then false else risB n x l
theorem eP {n p x : Int} {L : List Int} {k : Nat} (h : L[k]? = some x) : risB n p (L.drop k) = if x ≤ p ∨ n ≤ x then false else risB n x (L.drop (k + 1)) := by rw [yV h, risB]
def eO (N : List Nd) (V : List Dv) (Z : List Int) : Int := if netE N V ≠ 0 then netE N V else if Z.length = 0 then 16 else if risB N.length (-1) Z = false then 7 else 0
def cesE (L : List Int) : Int := if 16 < L.length then 1 else if risB 65537 0 L = false then 48 else 0
def docE (N : List Nd) (V : List Dv) (d : Dc) : Int :=
  if netE N V ≠ 0 then netE N V else if d.num < 1 ∨ 65536 < d.num then 5 else if d.kind < 1 ∨ 3 < d.kind then 6 else if d.st < 1 ∨ 5 < d.st then 42 else if d.rd < 0 ∨ 65536 < d.rd then 5
  else if eO N V d.zone ≠ 0 then eO N V d.zone else if d.safe < 1 ∨ 16 < d.safe then 41 else if lksE N V d.lk ≠ 0 then lksE N V d.lk
  else if jT d.iss.data.toList = false ∨ jT d.hol.data.toList = false then 3 else if d.iss = d.hol then 4 else if fU d.f d.u = false then 11 else cesE d.ce
def jU (N : List Nd) (V : List Dv) : Option Int → List Dc → Int
  | _, [] => 0
  | p, d :: l => if docE N V d ≠ 0 then docE N V d else if (match p with | none => false | some q => decide (d.num ≤ q)) = true then 14 else jU N V (some d.num) l
def iG (N : List Nd) (V : List Dv) (L : List Dc) : Int := if netE N V ≠ 0 then netE N V else if 24 < L.length then 1 else jU N V none L
def qO (n : Int) : Int → List Dc → Int
  | _, [] => -1
  | i, d :: l => if d.num = n then i else qO n (i + 1) l
/-- What a valid document is. -/
structure DcOk (N : List Nd) (V : List Dv) (d : Dc) : Prop where
  net : netE N V = 0
  num : 1 ≤ d.num ∧ d.num ≤ 65536
  kind : 1 ≤ d.kind ∧ d.kind ≤ 3
  st : 1 ≤ d.st ∧ d.st ≤ 5
  rd : 0 ≤ d.rd ∧ d.rd ≤ 65536
  zone : eO N V d.zone = 0
  safe : 1 ≤ d.safe ∧ d.safe ≤ 16
  lk : lksE N V d.lk = 0
  iss : jT d.iss.data.toList = true
  hol : jT d.hol.data.toList = true
  apart : d.iss ≠ d.hol
  span : fU d.f d.u = true
  ce : cesE d.ce = 0
theorem pE {N : List Nd} {V : List Dv} {d : Dc} : docE N V d = 0 ↔ DcOk N V d := by
  unfold docE
  constructor
  · intro h
    split at h
    · rename_i q; exact absurd h q
    rename_i q1
    split at h
    · cases h
    rename_i q2
    split at h
    · cases h
    rename_i q3
    split at h
    · cases h
    rename_i q4
    split at h
    · cases h
    rename_i q5
    split at h
    · rename_i q; exact absurd h q
    rename_i q6
    split at h
    · cases h
    rename_i q7
    split at h
    · rename_i q; exact absurd h q
    rename_i q8
    split at h
    · cases h
    rename_i q9
    split at h
    · cases h
    rename_i q10
    split at h
    · cases h
    rename_i q11
    refine ⟨by simpa using q1, by omega, by omega, by omega, by omega, by simpa using q6, by omega, by simpa using q8, ?_, ?_, q10, by simpa using q11, h⟩
    · cases e : jT d.iss.data.toList with
      | true => rfl
      | false => exact absurd (.inl e) q9
    · cases e : jT d.hol.data.toList with
      | true => rfl
      | false => exact absurd (.inr e) q9
  · rintro ⟨h1, h2, h3, h4, h5, h6, h7, h8, h9, h10, h11, h12, h13⟩
    rw [if_neg (by simpa using h1), if_neg (by omega), if_neg (by omega), if_neg (by omega), if_neg (by omega), if_neg (by simpa using h6), if_neg (by omega), if_neg (by simpa using h8), if_neg (by rw [h9, h10]; simp), if_neg h11, if_neg (by rw [h12]; simp), h13]
theorem nE {n : Int} : ∀ {L : List Int} {p : Int}, risB n p L = true → (∀ x ∈ L, p < x ∧ x < n) ∧ (L.Pairwise fun a b => a < b)
  | [], p, _ => ⟨by simp, by simp⟩
  | x :: l, p, h => by
    rw [risB] at h
    split at h
    · cases h
    rename_i c
    obtain ⟨h1, h2⟩ := nE (L := l) h
    refine ⟨fun y hy => ?_, List.pairwise_cons.2 ⟨fun y hy => (h1 y hy).1, h2⟩⟩
    rcases List.mem_cons.1 hy with rfl | hy
    · omega
    · have := h1 y hy; omega
theorem gR {N : List Nd} {V : List Dv} {Z : List Int} (h : eO N V Z = 0) : Z ≠ [] ∧ (∀ x ∈ Z, 0 ≤ x ∧ x < N.length) ∧ Z.length ≤ N.length := by
  unfold eO at h
  split at h
  · rename_i q; exact absurd h q
  split at h
  · cases h
  rename_i q2
  split at h
  · cases h
  rename_i q3
  obtain ⟨h1, h2⟩ := nE (n := (N.length : Int)) (p := -1) (L := Z) (by simpa using q3)
  refine ⟨fun e => q2 (by rw [e]; rfl), fun x hx => by have := h1 x hx; omega, ?_⟩
  have key : ∀ (L : List Int) (n : Nat) (p : Int), risB n p L = true → -1 ≤ p → p < n → (L.length : Int) ≤ n - 1 - p := by
    intro L
    induction L with
    | nil => intro n p _ h1 h2; simp; omega
    | cons x l ih =>
      intro n p h h1 h2
      rw [risB] at h
      split at h
      · cases h
      have := ih n x h (by omega) (by omega)
      simp only [List.length_cons]
      omega
  have hN : 0 < N.length := by
    cases Z with
    | nil => exact absurd rfl q2
    | cons x l => have := h1 x (by simp); omega
  have := key Z N.length (-1) (by simpa using q3) (by omega) (by omega)
  omega
theorem nD {L : List Int} (h : cesE L = 0) : L.length ≤ 16 ∧ ∀ x ∈ L, 1 ≤ x ∧ x ≤ 65536 := by
  unfold cesE at h
  split at h
  · cases h
  rename_i q1
  split at h
  · cases h
  rename_i q2
  obtain ⟨h1, h2⟩ := nE (n := 65537) (p := 0) (L := L) (by simpa using q2)
  exact ⟨by omega, fun x hx => by have := h1 x hx; omega⟩
theorem lP {V : List Dv} : ∀ (L P : List Lk), lkGo V P L = 0 → ∀ x ∈ L, yh V x = 0
  | [], _, _, x, hx => by cases hx
  | k :: L, P, h, x, hx => by
    rw [lkGo] at h
    split at h
    · rename_i q; exact absurd h q
    rename_i q
    have hf : yh V k = 0 := by
      unfold lkE at q
      by_cases e : yh V k = 0
      · exact e
      · rw [if_pos e] at q; exact absurd e q
    rcases List.mem_cons.1 hx with rfl | hx
    · exact hf
    · exact lP L _ h x hx
theorem vN {V : List Dv} {k : Lk} (h : yh V k = 0) : (0 ≤ k.d ∧ k.d < V.length) ∧ (k.p = 1 ∨ k.p = 2) ∧ 0 ≤ k.k ∧ k.k ≤ 65536 := by
  unfold yh at h
  split at h
  · cases h
  split at h
  · cases h
  split at h
  · cases h
  split at h
  · cases h
  omega
theorem mY {N : List Nd} {V : List Dv} {L : List Lk} (h : lksE N V L = 0) : L.length ≤ 128 ∧ ∀ k ∈ L, (0 ≤ k.d ∧ k.d < V.length) ∧ (k.p = 1 ∨ k.p = 2) ∧ 0 ≤ k.k ∧ k.k ≤ 65536 := by
  unfold lksE at h
  split at h
  · rename_i q; exact absurd h q
  split at h
  · cases h
  exact ⟨by omega, fun k hk => vN (lP L [] h k hk)⟩
end Go.Proofs.YtjamibeffalhaaaGreatDoor
