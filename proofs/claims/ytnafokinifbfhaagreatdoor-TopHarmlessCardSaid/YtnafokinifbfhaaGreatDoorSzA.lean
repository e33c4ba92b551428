/- Made networks, by plain functions: what permitofficemake.Network makes of a deck, and that it is valid; nothing of the program stands here / permitofficemake.Set, Zone and State, by the abstract machine, and what their answers are; conditions: none. -/
import Derived.Test.YtnafokinifbfhaaGreatDoorNetP
import Derived.Test.YtnafokinifbfhaaGreatDoorDkA
import Derived.Test.YtnafokinifbfhaaGreatDoorAbsZ
import Derived.Test.YtnafokinifbfhaaGreatDoorFdA
import Derived.Test.YtnafokinifbfhaaGreatDoorZg
set_option linter.unusedVariables false
set_option linter.unusedSimpArgs false
namespace Go.Proofs.YtnafokinifbfhaaGreatDoor
open Go Go.RowKit
def nmS (c : UInt8) (k : Nat) : ByteArray := (⟨#[c]⟩ : ByteArray) ++ ⟨#[UInt8.ofNat (48 + k / 10), UInt8.ofNat (48 + k % 10)]⟩
/-- One draw in n, and a second one where it hits. -/
def optD (D : Dk) (n m : Int) : Int × Dk := if D.val n = 0 then (1 + D.next.val m, D.next.next) else (0, D.next)
def eX (D : Dk) (i : Nat) : Nd × Dk := (⟨nmS 78 i, (optD D 2 50).1, (optD (optD D 2 50).2 8 2).1⟩, (optD (optD D 2 50).2 8 2).2)
def zg (D : Dk) : Nat → List Nd × Dk
  | 0 => ([], D)
  | i + 1 => ((zg D i).1 ++ [(eX (zg D i).2 i).1], (eX (zg D i).2 i).2)
def bF (k : Int) : UInt8 := if k = 1 then 76 else if k = 2 then 81 else if k = 3 then 68 else if k = 4 then 69 else if k = 5 then 83 else 71
def addD (m : Nat) (r : List Dv × Dk) (k a b : Int) : List Dv × Dk :=
  if m ≤ r.1.length then r else (r.1 ++ [⟨nmS (bF k) r.1.length, k, a, b, (optD r.2 8 2).1⟩], (optD r.2 8 2).2)
def bT (D : Dk) (i : Nat) : Int × Dk := if D.val 3 = 0 then (D.next.val i, D.next.next) else ((i : Int) - 1, D.next)
def tY (m : Nat) (r : List Dv × Dk) (i : Nat) : List Dv × Dk := addD m (r.1, (bT r.2 i).2.next) (1 + (bT r.2 i).2.val 3) (bT r.2 i).1 i
def aA (m : Nat) (r : List Dv × Dk) : Nat → List Dv × Dk
  | 0 => r
  | j + 1 => tY m (aA m r j) (j + 1)
def qo (m : Nat) (k : Int) (r : List Dv × Dk) : List Dv × Dk :=
  if r.2.val 4 = 0 then addD m (r.1, r.2.next.next.next.next) (1 + r.2.next.next.next.val 3) (r.2.next.val k) ((r.2.next.val k + 1 + r.2.next.next.val (k - 1)) % k)
  else if r.2.val 4 = 1 then addD m (r.1, r.2.next.next) 5 (r.2.next.val k) (-1)
  else if r.2.val 4 = 2 then addD m (r.1, r.2.next.next) 6 (r.2.next.val k) (-1)
  else (r.1, r.2.next)
def bP (m : Nat) (k : Int) (r : List Dv × Dk) : List Dv × Dk := addD m (r.1, r.2.next) 4 (r.2.val k) (-1)
def cF {α : Type} (f : α → α) (r : α) : Nat → α
  | 0 => r
  | n + 1 => f (cF f r n)
def netK (D : Dk) (nodes : Int) : Nat := (2 + D.val (max 1 (nodes - 1))).toNat
def net1 (D : Dk) (nodes : Int) : List Nd × Dk := zg D.next (netK D nodes)
def net2 (D : Dk) (nodes : Int) (m : Nat) : List Dv × Dk := addD m ([], (net1 D nodes).2) 5 0 (-1)
def net3 (D : Dk) (nodes : Int) (m : Nat) : List Dv × Dk := aA m (net2 D nodes m) (netK D nodes - 1)
def net4 (D : Dk) (nodes : Int) (m : Nat) : List Dv × Dk := cF (qo m (netK D nodes)) ((net3 D nodes m).1, (net3 D nodes m).2.next) ((net3 D nodes m).2.val 4).toNat
def net5 (D : Dk) (nodes : Int) (m : Nat) : List Dv × Dk := cF (bP m (netK D nodes)) ((net4 D nodes m).1, (net4 D nodes m).2.next) (1 + (net4 D nodes m).2.val 3).toNat
theorem Dk.in_ (D : Dk) {n : Int} (h1 : 1 ≤ n) (h2 : n ≤ 1000000) : 0 ≤ D.val n ∧ D.val n < n := by
  have := D.val_range (n := n) (by omega)
  exact ⟨this.1, this.2.1 h1⟩
theorem uL {D : Dk} (h : DkOk D) (n m : Int) : DkOk (optD D n m).2 := by
  unfold optD; split
  · exact h.next.next
  · exact h.next
theorem kF (D : Dk) (n : Int) {m : Int} (h1 : 1 ≤ m) (h2 : m ≤ 1000000) : 0 ≤ (optD D n m).1 ∧ (optD D n m).1 ≤ m := by
  unfold optD; split
  · have := D.next.in_ h1 h2; simp only; omega
  · simp only; omega
theorem nodeD_ok {D : Dk} (h : DkOk D) (i : Nat) : DkOk (eX D i).2 := uL (uL h _ _) _ _
theorem mC {D : Dk} (h : DkOk D) : ∀ i, DkOk (zg D i).2
  | 0 => h
  | i + 1 => nodeD_ok (mC h i) i
theorem aK (D : Dk) : ∀ i, (zg D i).1.length = i
  | 0 => rfl
  | i + 1 => by simp [zg, aK D i]
theorem fQ (D : Dk) : ∀ (i j : Nat) (x : Nd), (zg D i).1[j]? = some x → x.n = nmS 78 j ∧ 0 ≤ x.cu ∧ x.cu ≤ 50 ∧ 0 ≤ x.co ∧ x.co ≤ 2
  | 0, j, x, h => by simp [zg] at h
  | i + 1, j, x, h => by
    rw [zg, List.getElem?_append, aK] at h
    split at h
    · exact fQ D i j x h
    · rename_i hj
      cases hk : j - i with
      | zero =>
        rw [hk] at h
        simp at h
        subst h
        obtain rfl : j = i := by omega
        exact ⟨rfl, (kF _ 2 (m := 50) (by decide) (by decide)).1, (kF _ 2 (m := 50) (by decide) (by decide)).2, (kF _ 8 (m := 2) (by decide) (by decide)).1, (kF _ 8 (m := 2) (by decide) (by decide)).2⟩
      | succ z => rw [hk] at h; simp at h
/-- A device as the made ones are: the j-th one. -/
structure DvOk (k : Int) (j : Nat) (d : Dv) : Prop where
  nm : d.n = nmS (bF d.k) j
  k1 : 1 ≤ d.k ∧ d.k ≤ 6
  co : 0 ≤ d.co ∧ d.co ≤ 2
  a : 0 ≤ d.a ∧ d.a < k
  j3 : d.k ≤ 3 → 0 ≤ d.b ∧ d.b < k ∧ d.b ≠ d.a
  j4 : 3 < d.k → d.b = -1
structure VsOk (m : Nat) (k : Int) (r : List Dv × Dk) : Prop where
  dk : DkOk r.2
  len : r.1.length ≤ m
  at_ : ∀ (j : Nat) (d : Dv), r.1[j]? = some d → DvOk k j d
theorem addD_len (m : Nat) (r : List Dv × Dk) (k a b : Int) : r.1.length ≤ (addD m r k a b).1.length := by
  unfold addD; split
  · exact Nat.le_refl _
  · simp
theorem cK (m : Nat) {V : List Dv} (D : Dk) (k a b : Int) {n : Nat} (h : n ≤ V.length) : n ≤ (addD m (V, D) k a b).1.length := Nat.le_trans h (addD_len m (V, D) k a b)
theorem fT {m : Nat} {k : Int} {r : List Dv × Dk} (h : VsOk m k r) {kd a b : Int} (h1 : 1 ≤ kd ∧ kd ≤ 6) (h2 : 0 ≤ a ∧ a < k) (h3 : kd ≤ 3 → 0 ≤ b ∧ b < k ∧ b ≠ a) (h4 : 3 < kd → b = -1) : VsOk m k (addD m r kd a b) := by
  unfold addD
  split
  · exact h
  · rename_i hm
    refine ⟨uL h.dk _ _, by simp; omega, fun j d hj => ?_⟩
    rw [List.getElem?_append] at hj
    split at hj
    · exact h.at_ j d hj
    · rename_i hl
      cases hk : j - r.1.length with
      | zero =>
        rw [hk] at hj
        simp at hj
        subst hj
        obtain rfl : j = r.1.length := by omega
        exact ⟨rfl, h1, kF _ 8 (m := 2) (by decide) (by decide), h2, h3, h4⟩
      | succ z => rw [hk] at hj; simp at hj
theorem VsOk.dk' {m : Nat} {k : Int} {r : List Dv × Dk} (h : VsOk m k r) {D : Dk} (hD : DkOk D) : VsOk m k (r.1, D) := ⟨hD, h.len, h.at_⟩
theorem backD_ok {D : Dk} (h : DkOk D) (i : Nat) : DkOk (bT D i).2 := by
  unfold bT; split
  · exact h.next.next
  · exact h.next
theorem backD_in (D : Dk) {i : Nat} (h1 : 1 ≤ i) (h2 : i ≤ 1000) : 0 ≤ (bT D i).1 ∧ (bT D i).1 < i := by
  unfold bT; split
  · exact D.next.in_ (by omega) (by omega)
  · simp only; omega
theorem chainD_ok {m : Nat} {k : Int} {r : List Dv × Dk} (h : VsOk m k r) {i : Nat} (h1 : 1 ≤ i) (h2 : (i : Int) < k) (h3 : k ≤ 1000) : VsOk m k (tY m r i) := by
  have hb := backD_in r.2 h1 (by omega)
  have hk := (bT r.2 i).2.in_ (n := 3) (by decide) (by decide)
  exact fT (h.dk' (backD_ok h.dk i).next) (by omega) (by omega) (by omega) (by omega)
theorem iA {m : Nat} {k : Int} {r : List Dv × Dk} (h : VsOk m k r) (h3 : k ≤ 1000) : ∀ j : Nat, (j : Int) + 1 ≤ k → VsOk m k (aA m r j)
  | 0, _ => h
  | j + 1, hj => chainD_ok (iA h h3 j (by omega)) (by omega) (by omega) h3
theorem mod_ne {a x k : Int} (hk : 2 ≤ k) (ha : 0 ≤ a ∧ a < k) (hx : 0 ≤ x ∧ x < k - 1) : 0 ≤ (a + 1 + x) % k ∧ (a + 1 + x) % k < k ∧ (a + 1 + x) % k ≠ a := by
  refine ⟨Int.emod_nonneg _ (by omega), Int.emod_lt_of_pos _ (by omega), ?_⟩
  by_cases h : a + 1 + x < k
  · rw [Int.emod_eq_of_lt (by omega) h]; omega
  · have e : a + 1 + x = (a + 1 + x - k) + k := by omega
    rw [e, Int.add_emod_right, Int.emod_eq_of_lt (by omega) (by omega)]
    omega
theorem sC {m : Nat} {k : Int} {r : List Dv × Dk} (h : VsOk m k r) (h2 : 2 ≤ k) (h3 : k ≤ 1000) : VsOk m k (qo m k r) := by
  have ha := r.2.next.in_ (n := k) (by omega) (by omega)
  have hx := r.2.next.next.in_ (n := k - 1) (by omega) (by omega)
  have hk := r.2.next.next.next.in_ (n := 3) (by decide) (by decide)
  have hb := mod_ne h2 ha hx
  unfold qo
  split
  · exact fT (h.dk' h.dk.next.next.next.next) (by omega) ha (fun _ => hb) (by omega)
  split
  · exact fT (h.dk' h.dk.next.next) (by omega) ha (by omega) (by omega)
  split
  · exact fT (h.dk' h.dk.next.next) (by omega) ha (by omega) (by omega)
  · exact h.dk' h.dk.next
theorem sI {m : Nat} {k : Int} {r : List Dv × Dk} (h : VsOk m k r) (h2 : 1 ≤ k) (h3 : k ≤ 1000) : VsOk m k (bP m k r) := by
  have ha := r.2.in_ (n := k) (by omega) (by omega)
  exact fT (h.dk' h.dk.next) (by omega) ha (by omega) (by omega)
theorem eO {α : Type} {Q : α → Prop} {f : α → α} {r : α} (h : Q r) (hf : ∀ r, Q r → Q (f r)) : ∀ n, Q (cF f r n)
  | 0 => h
  | n + 1 => hf _ (eO h hf n)
theorem dG (D : Dk) {nodes : Int} (h1 : 1 ≤ nodes) (h2 : nodes ≤ 100) : 2 ≤ netK D nodes ∧ netK D nodes ≤ 101 ∧ ((netK D nodes : Nat) : Int) = 2 + D.val (max 1 (nodes - 1)) := by
  have := D.in_ (n := max 1 (nodes - 1)) (by omega) (by omega)
  unfold netK; omega
theorem net1_ok {D : Dk} (h : DkOk D) (nodes : Int) : DkOk (net1 D nodes).2 := mC h.next _
theorem net2_ok {D : Dk} (h : DkOk D) {nodes : Int} (m : Nat) (h1 : 1 ≤ nodes) (h2 : nodes ≤ 100) : VsOk m (netK D nodes) (net2 D nodes m) := by
  have := dG D h1 h2
  exact fT ⟨net1_ok h nodes, Nat.zero_le _, by simp⟩ (by omega) (by omega) (by omega) (by omega)
theorem tW {D : Dk} (h : DkOk D) {nodes : Int} (m : Nat) (h1 : 1 ≤ nodes) (h2 : nodes ≤ 100) : VsOk m (netK D nodes) (net3 D nodes m) := by
  have := dG D h1 h2
  exact iA (net2_ok h m h1 h2) (by omega) _ (by omega)
theorem tL {D : Dk} (h : DkOk D) {nodes : Int} (m : Nat) (h1 : 1 ≤ nodes) (h2 : nodes ≤ 100) : VsOk m (netK D nodes) (net4 D nodes m) := by
  have := dG D h1 h2
  exact eO (Q := VsOk m (netK D nodes)) ((tW h m h1 h2).dk' (tW h m h1 h2).dk.next) (fun r hr => sC hr (by omega) (by omega)) _
theorem uK {D : Dk} (h : DkOk D) {nodes : Int} (m : Nat) (h1 : 1 ≤ nodes) (h2 : nodes ≤ 100) : VsOk m (netK D nodes) (net5 D nodes m) := by
  have := dG D h1 h2
  exact eO (Q := VsOk m (netK D nodes)) ((tL h m h1 h2).dk' (tL h m h1 h2).dk.next) (fun r hr => sI hr (by omega) (by omega)) _
theorem lB {f : List Dv × Dk → List Dv × Dk} {r : List Dv × Dk} (hf : ∀ r, r.1.length ≤ (f r).1.length) : ∀ n, r.1.length ≤ (cF f r n).1.length
  | 0 => Nat.le_refl _
  | n + 1 => Nat.le_trans (lB hf n) (hf _)
theorem net5_pos (D : Dk) (nodes : Int) {m : Nat} (hm : 1 ≤ m) : 1 ≤ (net5 D nodes m).1.length := by
  have h2 : 1 ≤ (net2 D nodes m).1.length := by
    show 1 ≤ (addD m ([], (net1 D nodes).2) 5 0 (-1)).1.length
    unfold addD
    rw [if_neg (by show ¬ m ≤ 0; omega)]; simp
  have h3 : ∀ j, 1 ≤ (aA m (net2 D nodes m) j).1.length := fun j => by
    induction j with
    | zero => exact h2
    | succ j ih => exact cK m _ _ _ _ ih
  have h4 : 1 ≤ (net4 D nodes m).1.length := by
    refine Nat.le_trans (h3 (netK D nodes - 1)) (lB (r := ((net3 D nodes m).1, (net3 D nodes m).2.next)) (fun r => ?_) _)
    unfold qo
    split
    · exact cK m _ _ _ _ (Nat.le_refl _)
    split
    · exact cK m _ _ _ _ (Nat.le_refl _)
    split
    · exact cK m _ _ _ _ (Nat.le_refl _)
    · exact Nat.le_refl _
  exact Nat.le_trans h4 (lB (r := ((net4 D nodes m).1, (net4 D nodes m).2.next)) (fun r => cK m _ _ _ _ (Nat.le_refl _)) _)
theorem oJ : ∀ (c : Fin 7) (i : Fin 100), qv (nmS ([78, 76, 81, 68, 69, 83, 71][c.val]'(by have := c.isLt; simp)) i.val).data.toList = true := by decide +kernel
theorem u8_ne {a b : Nat} (ha : a < 10) (hb : b < 10) (h : UInt8.ofNat (48 + a) = UInt8.ofNat (48 + b)) : a = b := by
  have := congrArg UInt8.toNat h
  simp at this
  omega
theorem xN {c d : UInt8} {i j : Nat} (hi : i < 100) (hj : j < 100) (h : nmS c i = nmS d j) : c = d ∧ i = j := by
  have hd := congrArg ByteArray.data h
  unfold nmS at hd
  have e : ∀ (c : UInt8) (k : Nat), ((⟨#[c]⟩ : ByteArray) ++ ⟨#[UInt8.ofNat (48 + k / 10), UInt8.ofNat (48 + k % 10)]⟩).data = #[c, UInt8.ofNat (48 + k / 10), UInt8.ofNat (48 + k % 10)] := fun c k => by
    rw [ByteArray.data_append]; rfl
  rw [e, e] at hd
  simp only [Array.mk.injEq, List.cons.injEq, and_true] at hd
  obtain ⟨h1, h2, h3⟩ := hd
  have a1 := u8_ne (a := i / 10) (b := j / 10) (by omega) (by omega) h2
  have a2 := u8_ne (a := i % 10) (b := j % 10) (by omega) (by omega) h3
  exact ⟨h1, by omega⟩
theorem wU (c : UInt8) (k : Nat) : (nmS c k).size = 3 := by
  unfold nmS
  rw [ByteArray.size_append]; rfl
theorem kindC_ne (k : Int) : bF k ≠ 78 := by
  unfold bF
  repeat' split
  all_goals decide
theorem name_dev (k : Int) {j : Nat} (hj : j < 100) : qv (nmS (bF k) j).data.toList = true := by
  unfold bF
  split
  · exact oJ 1 ⟨j, hj⟩
  split
  · exact oJ 2 ⟨j, hj⟩
  split
  · exact oJ 3 ⟨j, hj⟩
  split
  · exact oJ 4 ⟨j, hj⟩
  split
  · exact oJ 5 ⟨j, hj⟩
  · exact oJ 6 ⟨j, hj⟩
theorem vG {U : List ByteArray} {s : ByteArray} (h : s ∉ U) : jL U s = false := by
  unfold jL
  rw [List.any_eq_false]
  intro u hu
  simp
  rintro rfl
  exact h hu
theorem sE : ∀ (N : List Nd) (U : List ByteArray), (∀ x ∈ N, qv x.n.data.toList = true ∧ (0 ≤ x.cu ∧ x.cu ≤ 1048576) ∧ jq x.co = true) → (N.map Nd.n).Nodup → (∀ x ∈ N, x.n ∉ U) → ndGo U N = 0
  | [], _, _, _, _ => rfl
  | x :: l, U, h, hn, hu => by
    obtain ⟨a1, a2, a3⟩ := h x (by simp)
    simp only [List.map_cons, List.nodup_cons] at hn
    rw [ndGo, if_neg (by rw [a1]; simp), vG (hu x (by simp)), if_neg (by simp), if_neg (by rw [a3]; simp; omega)]
    exact sE l _ (fun y hy => h y (by simp [hy])) hn.2 (fun y hy hin => by
      rcases List.mem_append.1 hin with hin | hin
      · exact hu y (by simp [hy]) hin
      · simp at hin
        exact hn.1 (hin ▸ List.mem_map_of_mem hy))
theorem sV (m : Int) : ∀ (V : List Dv) (U : List ByteArray), (∀ d ∈ V, qv d.n.data.toList = true ∧ (1 ≤ d.k ∧ d.k ≤ 6) ∧ zj d m = true ∧ jq d.co = true) → (V.map Dv.n).Nodup → (∀ d ∈ V, d.n ∉ U) → dvGo m U V = 0
  | [], _, _, _, _ => rfl
  | d :: l, U, h, hn, hu => by
    obtain ⟨a1, a2, a3, a4⟩ := h d (by simp)
    simp only [List.map_cons, List.nodup_cons] at hn
    rw [dvGo, if_neg (by rw [a1]; simp), vG (hu d (by simp)), if_neg (by simp), if_neg (by omega), if_neg (by rw [a3]; simp), if_neg (by rw [a4]; simp)]
    exact sV m l _ (fun y hy => h y (by simp [hy])) hn.2 (fun y hy hin => by
      rcases List.mem_append.1 hin with hin | hin
      · exact hu y (by simp [hy]) hin
      · simp at hin
        exact hn.1 (hin ▸ List.mem_map_of_mem hy))
theorem mT {α β : Type} {L : List α} {f : α → β} (h : ∀ (i j : Nat) (x y : α), L[i]? = some x → L[j]? = some y → f x = f y → i = j) : (L.map f).Nodup := by
  unfold List.Nodup
  rw [List.pairwise_iff_getElem]
  intro i j hi hj hij e
  simp at hi hj
  have := h i j L[i] L[j] (List.getElem?_eq_getElem hi) (List.getElem?_eq_getElem hj) (by simpa using e)
  omega
theorem rK {n : Int} (h : 0 ≤ n ∧ n ≤ 2) : jq n = true := by unfold jq; simp; omega
theorem DvOk.ends {k : Int} {j : Nat} {d : Dv} (h : DvOk k j d) : zj d k = true := by
  have h1 := h.a
  have h2 := h.k1
  unfold zj yH
  rw [if_neg (by omega)]
  by_cases h3 : d.k ≤ 3
  · have := h.j3 h3
    rw [if_neg (by simp; omega)]
    simp; omega
  · have := h.j4 (by omega)
    rw [if_pos (by simp; omega)]
    simp [this]
/-- A made network is valid. -/
theorem net_valid {D : Dk} (h : DkOk D) {nodes : Int} {m : Nat} (h1 : 1 ≤ nodes) (h2 : nodes ≤ 30) (hm : m ≤ 60) : netE (net1 D nodes).1 (net5 D nodes m).1 = 0 := by
  have hk := dG D h1 (by omega)
  have hK : netK D nodes ≤ 32 := by
    have := D.in_ (n := max 1 (nodes - 1)) (by omega) (by omega)
    omega
  have hv := uK h m h1 (by omega)
  have hN : (net1 D nodes).1.length = netK D nodes := aK _ _
  have hNat := fQ D.next (netK D nodes)
  have hnd : ndGo [] (net1 D nodes).1 = 0 := by
    refine sE _ _ (fun x hx => ?_) (mT fun i j x y hi hj e => ?_) (by simp)
    · obtain ⟨j, hj⟩ := List.getElem?_of_mem hx
      obtain ⟨a1, a2⟩ := hNat j x hj
      have hlt : j < (net1 D nodes).1.length := zM hj
      rw [a1]
      exact ⟨oJ 0 ⟨j, by omega⟩, by omega, rK (by omega)⟩
    · have e1 := (hNat i x hi).1
      have e2 := (hNat j y hj).1
      have l1 : i < (net1 D nodes).1.length := zM hi
      have l2 : j < (net1 D nodes).1.length := zM hj
      rw [e1, e2] at e
      exact (xN (by omega) (by omega) e).2
  unfold netE
  rw [if_neg (by have := hv.len; omega), hnd, if_neg (by decide)]
  refine sV _ _ _ (fun d hd => ?_) (mT fun i j x y hi hj e => ?_) (fun d hd hin => ?_)
  · obtain ⟨j, hj⟩ := List.getElem?_of_mem hd
    have hlt := zM hj
    have ok := hv.at_ j d hj
    rw [hN]
    refine ⟨by rw [ok.nm]; exact name_dev _ (by have := hv.len; omega), ok.k1, ok.ends, rK ok.co⟩
  · have e1 := (hv.at_ i x hi).nm
    have e2 := (hv.at_ j y hj).nm
    have l1 := zM hi
    have l2 := zM hj
    have := hv.len
    rw [e1, e2] at e
    exact (xN (by omega) (by omega) e).2
  · obtain ⟨j, hj⟩ := List.getElem?_of_mem hd
    obtain ⟨x, hx, e⟩ := List.mem_map.1 hin
    obtain ⟨i, hi⟩ := List.getElem?_of_mem hx
    have l1 : i < (net1 D nodes).1.length := zM hi
    have l2 := zM hj
    have := hv.len
    rw [(hNat i x hi).1, (hv.at_ j d hj).nm] at e
    exact kindC_ne _ (xN (by omega) (by omega) e).1.symm
end Go.Proofs.YtnafokinifbfhaaGreatDoor
namespace Go.Proofs.YtnafokinifbfhaaGreatDoor
open Go Go.RowKit
set_option maxRecDepth 10000
variable {G : Nat → Option (List Value)}
def stB (D : Dk) (x : Dv) : Int := if (decide (x.k = 4) != (D.val 4 == 0)) = true then 1 else 2
def stGo : List Dv → Dk → List Int → Dk × List Int
  | [], D, L => (D, L)
  | x :: l, D, L => stGo l D.next (L ++ [stB D x])
def stP (V : List Dv) (D : Dk) : Dk × List Int := stGo V D []
theorem stGo_ok : ∀ (W : List Dv) (D : Dk) (L : List Int), DkOk D → (∀ p ∈ L, p = 1 ∨ p = 2) → DkOk (stGo W D L).1 ∧ (stGo W D L).2.length = L.length + W.length ∧ ∀ p ∈ (stGo W D L).2, p = 1 ∨ p = 2
  | [], D, L, h, hL => ⟨h, rfl, hL⟩
  | x :: W, D, L, h, hL => by
    obtain ⟨a, b, c⟩ := stGo_ok W D.next (L ++ [stB D x]) h.next (fun p hp => by
      rcases List.mem_append.1 hp with hp | hp
      · exact hL p hp
      · simp at hp; subst hp; unfold stB; split <;> simp)
    exact ⟨a, by rw [stGo, b]; simp; omega, c⟩
theorem stP_ok {V : List Dv} {D : Dk} (h : DkOk D) : DkOk (stP V D).1 ∧ (stP V D).2.length = V.length ∧ ∀ p ∈ (stP V D).2, p = 1 ∨ p = 2 := by
  obtain ⟨a, b, c⟩ := stGo_ok V D [] h (by simp)
  exact ⟨a, by rw [show (stP V D).2 = (stGo V D []).2 from rfl, b]; simp, c⟩
end Go.Proofs.YtnafokinifbfhaaGreatDoor
