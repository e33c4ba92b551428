/- Made networks, by plain functions: what permitofficemake.Network makes of a deck, and that it is valid; nothing of the program stands here / permitofficemake.Network, by the abstract machine: it makes the network of the plain functions; conditions: none / permitofficemake.Network, by the abstract machine: it makes the network of the plain functions; conditions: none. -/
import Derived.Test.YtggngllfnboehaaGreatDoorNetP
import Derived.Test.YtggngllfnboehaaGreatDoorDkB
import Derived.Test.YtggngllfnboehaaGreatDoorNetC
import Derived.Test.YtggngllfnboehaaGreatDoorAbsJ
import Derived.Test.YtggngllfnboehaaGreatDoorAbsW
set_option linter.unusedVariables false
set_option linter.unusedSimpArgs false
namespace Go.Proofs.YtggngllfnboehaaGreatDoor
open Go Go.RowKit
def nmS (c : UInt8) (k : Nat) : ByteArray := (⟨#[c]⟩ : ByteArray) ++ ⟨#[UInt8.ofNat (48 + k / 10), UInt8.ofNat (48 + k % 10)]⟩
/-- One draw in n, and a second one where it hits. -/
def optD (D : Dk) (n m : Int) : Int × Dk := if D.val n = 0 then (1 + D.next.val m, D.next.next) else (0, D.next)
def nodeD (D : Dk) (i : Nat) : Nd × Dk := (⟨nmS 78 i, (optD D 2 50).1, (optD (optD D 2 50).2 8 2).1⟩, (optD (optD D 2 50).2 8 2).2)
def yZ (D : Dk) : Nat → List Nd × Dk
  | 0 => ([], D)
  | i + 1 => ((yZ D i).1 ++ [(nodeD (yZ D i).2 i).1], (nodeD (yZ D i).2 i).2)
def kindC (k : Int) : UInt8 := if k = 1 then 76 else if k = 2 then 81 else if k = 3 then 68 else if k = 4 then 69 else if k = 5 then 83 else 71
def addD (m : Nat) (r : List Dv × Dk) (k a b : Int) : List Dv × Dk :=
  if m ≤ r.1.length then r else (r.1 ++ [⟨nmS (kindC k) r.1.length, k, a, b, (optD r.2 8 2).1⟩], (optD r.2 8 2).2)
def backD (D : Dk) (i : Nat) : Int × Dk := if D.val 3 = 0 then (D.next.val i, D.next.next) else ((i : Int) - 1, D.next)
def chainD (m : Nat) (r : List Dv × Dk) (i : Nat) : List Dv × Dk := addD m (r.1, (backD r.2 i).2.next) (1 + (backD r.2 i).2.val 3) (backD r.2 i).1 i
def chainsD (m : Nat) (r : List Dv × Dk) : Nat → List Dv × Dk
  | 0 => r
  | j + 1 => chainD m (chainsD m r j) (j + 1)
def qn (m : Nat) (k : Int) (r : List Dv × Dk) : List Dv × Dk :=
  if r.2.val 4 = 0 then addD m (r.1, r.2.next.next.next.next) (1 + r.2.next.next.next.val 3) (r.2.next.val k) ((r.2.next.val k + 1 + r.2.next.next.val (k - 1)) % k)
  else if r.2.val 4 = 1 then addD m (r.1, r.2.next.next) 5 (r.2.next.val k) (-1)
  else if r.2.val 4 = 2 then addD m (r.1, r.2.next.next) 6 (r.2.next.val k) (-1)
  else (r.1, r.2.next)
def earthD (m : Nat) (k : Int) (r : List Dv × Dk) : List Dv × Dk := addD m (r.1, r.2.next) 4 (r.2.val k) (-1)
def iterD {α : Type} (f : α → α) (r : α) : Nat → α
  | 0 => r
  | n + 1 => f (iterD f r n)
def netK (D : Dk) (nodes : Int) : Nat := (2 + D.val (max 1 (nodes - 1))).toNat
def net1 (D : Dk) (nodes : Int) : List Nd × Dk := yZ D.next (netK D nodes)
def net2 (D : Dk) (nodes : Int) (m : Nat) : List Dv × Dk := addD m ([], (net1 D nodes).2) 5 0 (-1)
def net3 (D : Dk) (nodes : Int) (m : Nat) : List Dv × Dk := chainsD m (net2 D nodes m) (netK D nodes - 1)
def net4 (D : Dk) (nodes : Int) (m : Nat) : List Dv × Dk := iterD (qn m (netK D nodes)) ((net3 D nodes m).1, (net3 D nodes m).2.next) ((net3 D nodes m).2.val 4).toNat
def net5 (D : Dk) (nodes : Int) (m : Nat) : List Dv × Dk := iterD (earthD m (netK D nodes)) ((net4 D nodes m).1, (net4 D nodes m).2.next) (1 + (net4 D nodes m).2.val 3).toNat
theorem Dk.in_ (D : Dk) {n : Int} (h1 : 1 ≤ n) (h2 : n ≤ 1000000) : 0 ≤ D.val n ∧ D.val n < n := by
  have := D.val_range (n := n) (by omega)
  exact ⟨this.1, this.2.1 h1⟩
theorem optD_ok {D : Dk} (h : DkOk D) (n m : Int) : DkOk (optD D n m).2 := by
  unfold optD; split
  · exact h.next.next
  · exact h.next
theorem optD_in (D : Dk) (n : Int) {m : Int} (h1 : 1 ≤ m) (h2 : m ≤ 1000000) : 0 ≤ (optD D n m).1 ∧ (optD D n m).1 ≤ m := by
  unfold optD; split
  · have := D.next.in_ h1 h2; simp only; omega
  · simp only; omega
theorem nodeD_ok {D : Dk} (h : DkOk D) (i : Nat) : DkOk (nodeD D i).2 := optD_ok (optD_ok h _ _) _ _
theorem nodesD_ok {D : Dk} (h : DkOk D) : ∀ i, DkOk (yZ D i).2
  | 0 => h
  | i + 1 => nodeD_ok (nodesD_ok h i) i
theorem qe (D : Dk) : ∀ i, (yZ D i).1.length = i
  | 0 => rfl
  | i + 1 => by simp [yZ, qe D i]
theorem nodesD_at (D : Dk) : ∀ (i j : Nat) (x : Nd), (yZ D i).1[j]? = some x → x.n = nmS 78 j ∧ 0 ≤ x.cu ∧ x.cu ≤ 50 ∧ 0 ≤ x.co ∧ x.co ≤ 2
  | 0, j, x, h => by simp [yZ] at h
  | i + 1, j, x, h => by
    rw [yZ, List.getElem?_append, qe] at h
    split at h
    · exact nodesD_at D i j x h
    · rename_i hj
      cases hk : j - i with
      | zero =>
        rw [hk] at h
        simp at h
        subst h
        obtain rfl : j = i := by omega
        exact ⟨rfl, (optD_in _ 2 (m := 50) (by decide) (by decide)).1, (optD_in _ 2 (m := 50) (by decide) (by decide)).2, (optD_in _ 8 (m := 2) (by decide) (by decide)).1, (optD_in _ 8 (m := 2) (by decide) (by decide)).2⟩
      | succ z => rw [hk] at h; simp at h
/-- A device as the made ones are: the j-th one. -/
structure DvOk (k : Int) (j : Nat) (d : Dv) : Prop where
  nm : d.n = nmS (kindC d.k) j
  k1 : 1 ≤ d.k ∧ d.k ≤ 6
  co : 0 ≤ d.co ∧ d.co ≤ 2
  a : 0 ≤ d.a ∧ d.a < k
  j3 : d.k ≤ 3 → 0 ≤ d.b ∧ d.b < k ∧ d.b ≠ d.a
  j4 : 3 < d.k → d.b = -1
structure VsOk (m : Nat) (k : Int) (r : List Dv × Dk) : Prop where
  dk : DkOk r.2
  len : r.1.length ≤ m
  at_ : ∀ (j : Nat) (d : Dv), r.1[j]? = some d → DvOk k j d
theorem addD_len (m : Nat) (r : List Dv × Dk) (k a b : Int) : r.1.length ≤ (addD m r k a b).1.length := by
  unfold addD; split
  · exact Nat.le_refl _
  · simp
theorem addD_len' (m : Nat) {V : List Dv} (D : Dk) (k a b : Int) {n : Nat} (h : n ≤ V.length) : n ≤ (addD m (V, D) k a b).1.length := Nat.le_trans h (addD_len m (V, D) k a b)
theorem addD_ok {m : Nat} {k : Int} {r : List Dv × Dk} (h : VsOk m k r) {kd a b : Int} (h1 : 1 ≤ kd ∧ kd ≤ 6) (h2 : 0 ≤ a ∧ a < k) (h3 : kd ≤ 3 → 0 ≤ b ∧ b < k ∧ b ≠ a) (h4 : 3 < kd → b = -1) : VsOk m k (addD m r kd a b) := by
  unfold addD
  split
  · exact h
  · rename_i hm
    refine ⟨optD_ok h.dk _ _, by simp; omega, fun j d hj => ?_⟩
    rw [List.getElem?_append] at hj
    split at hj
    · exact h.at_ j d hj
    · rename_i hl
      cases hk : j - r.1.length with
      | zero =>
        rw [hk] at hj
        simp at hj
        subst hj
        obtain rfl : j = r.1.length := by omega
        exact ⟨rfl, h1, optD_in _ 8 (m := 2) (by decide) (by decide), h2, h3, h4⟩
      | succ z => rw [hk] at hj; simp at hj
theorem VsOk.dk' {m : Nat} {k : Int} {r : List Dv × Dk} (h : VsOk m k r) {D : Dk} (hD : DkOk D) : VsOk m k (r.1, D) := ⟨hD, h.len, h.at_⟩
theorem backD_ok {D : Dk} (h : DkOk D) (i : Nat) : DkOk (backD D i).2 := by
  unfold backD; split
  · exact h.next.next
  · exact h.next
theorem backD_in (D : Dk) {i : Nat} (h1 : 1 ≤ i) (h2 : i ≤ 1000) : 0 ≤ (backD D i).1 ∧ (backD D i).1 < i := by
  unfold backD; split
  · exact D.next.in_ (by omega) (by omega)
  · simp only; omega
theorem chainD_ok {m : Nat} {k : Int} {r : List Dv × Dk} (h : VsOk m k r) {i : Nat} (h1 : 1 ≤ i) (h2 : (i : Int) < k) (h3 : k ≤ 1000) : VsOk m k (chainD m r i) := by
  have hb := backD_in r.2 h1 (by omega)
  have hk := (backD r.2 i).2.in_ (n := 3) (by decide) (by decide)
  exact addD_ok (h.dk' (backD_ok h.dk i).next) (by omega) (by omega) (by omega) (by omega)
theorem chainsD_ok {m : Nat} {k : Int} {r : List Dv × Dk} (h : VsOk m k r) (h3 : k ≤ 1000) : ∀ j : Nat, (j : Int) + 1 ≤ k → VsOk m k (chainsD m r j)
  | 0, _ => h
  | j + 1, hj => chainD_ok (chainsD_ok h h3 j (by omega)) (by omega) (by omega) h3
theorem mod_ne {a x k : Int} (hk : 2 ≤ k) (ha : 0 ≤ a ∧ a < k) (hx : 0 ≤ x ∧ x < k - 1) : 0 ≤ (a + 1 + x) % k ∧ (a + 1 + x) % k < k ∧ (a + 1 + x) % k ≠ a := by
  refine ⟨Int.emod_nonneg _ (by omega), Int.emod_lt_of_pos _ (by omega), ?_⟩
  by_cases h : a + 1 + x < k
  · rw [Int.emod_eq_of_lt (by omega) h]; omega
  · have e : a + 1 + x = (a + 1 + x - k) + k := by omega
    rw [e, Int.add_emod_right, Int.emod_eq_of_lt (by omega) (by omega)]
    omega
theorem extraD_ok {m : Nat} {k : Int} {r : List Dv × Dk} (h : VsOk m k r) (h2 : 2 ≤ k) (h3 : k ≤ 1000) : VsOk m k (qn m k r) := by
  have ha := r.2.next.in_ (n := k) (by omega) (by omega)
  have hx := r.2.next.next.in_ (n := k - 1) (by omega) (by omega)
  have hk := r.2.next.next.next.in_ (n := 3) (by decide) (by decide)
  have hb := mod_ne h2 ha hx
  unfold qn
  split
  · exact addD_ok (h.dk' h.dk.next.next.next.next) (by omega) ha (fun _ => hb) (by omega)
  split
  · exact addD_ok (h.dk' h.dk.next.next) (by omega) ha (by omega) (by omega)
  split
  · exact addD_ok (h.dk' h.dk.next.next) (by omega) ha (by omega) (by omega)
  · exact h.dk' h.dk.next
theorem earthD_ok {m : Nat} {k : Int} {r : List Dv × Dk} (h : VsOk m k r) (h2 : 1 ≤ k) (h3 : k ≤ 1000) : VsOk m k (earthD m k r) := by
  have ha := r.2.in_ (n := k) (by omega) (by omega)
  exact addD_ok (h.dk' h.dk.next) (by omega) ha (by omega) (by omega)
theorem iterD_ok {α : Type} {Q : α → Prop} {f : α → α} {r : α} (h : Q r) (hf : ∀ r, Q r → Q (f r)) : ∀ n, Q (iterD f r n)
  | 0 => h
  | n + 1 => hf _ (iterD_ok h hf n)
theorem netK_in (D : Dk) {nodes : Int} (h1 : 1 ≤ nodes) (h2 : nodes ≤ 100) : 2 ≤ netK D nodes ∧ netK D nodes ≤ 101 ∧ ((netK D nodes : Nat) : Int) = 2 + D.val (max 1 (nodes - 1)) := by
  have := D.in_ (n := max 1 (nodes - 1)) (by omega) (by omega)
  unfold netK; omega
theorem net1_ok {D : Dk} (h : DkOk D) (nodes : Int) : DkOk (net1 D nodes).2 := nodesD_ok h.next _
theorem net2_ok {D : Dk} (h : DkOk D) {nodes : Int} (m : Nat) (h1 : 1 ≤ nodes) (h2 : nodes ≤ 100) : VsOk m (netK D nodes) (net2 D nodes m) := by
  have := netK_in D h1 h2
  exact addD_ok ⟨net1_ok h nodes, Nat.zero_le _, by simp⟩ (by omega) (by omega) (by omega) (by omega)
theorem net3_ok {D : Dk} (h : DkOk D) {nodes : Int} (m : Nat) (h1 : 1 ≤ nodes) (h2 : nodes ≤ 100) : VsOk m (netK D nodes) (net3 D nodes m) := by
  have := netK_in D h1 h2
  exact chainsD_ok (net2_ok h m h1 h2) (by omega) _ (by omega)
theorem net4_ok {D : Dk} (h : DkOk D) {nodes : Int} (m : Nat) (h1 : 1 ≤ nodes) (h2 : nodes ≤ 100) : VsOk m (netK D nodes) (net4 D nodes m) := by
  have := netK_in D h1 h2
  exact iterD_ok (Q := VsOk m (netK D nodes)) ((net3_ok h m h1 h2).dk' (net3_ok h m h1 h2).dk.next) (fun r hr => extraD_ok hr (by omega) (by omega)) _
theorem net5_ok {D : Dk} (h : DkOk D) {nodes : Int} (m : Nat) (h1 : 1 ≤ nodes) (h2 : nodes ≤ 100) : VsOk m (netK D nodes) (net5 D nodes m) := by
  have := netK_in D h1 h2
  exact iterD_ok (Q := VsOk m (netK D nodes)) ((net4_ok h m h1 h2).dk' (net4_ok h m h1 h2).dk.next) (fun r hr => earthD_ok hr (by omega) (by omega)) _
theorem iterD_len {f : List Dv × Dk → List Dv × Dk} {r : List Dv × Dk} (hf : ∀ r, r.1.length ≤ (f r).1.length) : ∀ n, r.1.length ≤ (iterD f r n).1.length
  | 0 => Nat.le_refl _
  | n + 1 => Nat.le_trans (iterD_len hf n) (hf _)
theorem net5_pos (D : Dk) (nodes : Int) {m : Nat} (hm : 1 ≤ m) : 1 ≤ (net5 D nodes m).1.length := by
  have h2 : 1 ≤ (net2 D nodes m).1.length := by
    show 1 ≤ (addD m ([], (net1 D nodes).2) 5 0 (-1)).1.length
    unfold addD
    rw [if_neg (by show ¬ m ≤ 0; omega)]; simp
  have h3 : ∀ j, 1 ≤ (chainsD m (net2 D nodes m) j).1.length := fun j => by
    induction j with
    | zero => exact h2
    | succ j ih => exact addD_len' m _ _ _ _ ih
  have h4 : 1 ≤ (net4 D nodes m).1.length := by
    refine Nat.le_trans (h3 (netK D nodes - 1)) (iterD_len (r := ((net3 D nodes m).1, (net3 D nodes m).2.next)) (fun r => ?_) _)
    unfold qn
    split
    · exact addD_len' m _ _ _ _ (Nat.le_refl _)
    split
    · exact addD_len' m _ _ _ _ (Nat.le_refl _)
    split
    · exact addD_len' m _ _ _ _ (Nat.le_refl _)
    · exact Nat.le_refl _
  exact Nat.le_trans h4 (iterD_len (r := ((net4 D nodes m).1, (net4 D nodes m).2.next)) (fun r => addD_len' m _ _ _ _ (Nat.le_refl _)) _)
theorem nm_ok : ∀ (c : Fin 7) (i : Fin 100), je (nmS ([78, 76, 81, 68, 69, 83, 71][c.val]'(by have := c.isLt; simp)) i.val).data.toList = true := by decide +kernel
theorem u8_ne {a b : Nat} (ha : a < 10) (hb : b < 10) (h : UInt8.ofNat (48 + a) = UInt8.ofNat (48 + b)) : a = b := by
  have := congrArg UInt8.toNat h
  simp at this
  omega
theorem nmS_eq {c d : UInt8} {i j : Nat} (hi : i < 100) (hj : j < 100) (h : nmS c i = nmS d j) : c = d ∧ i = j := by
  have hd := congrArg ByteArray.data h
  unfold nmS at hd
  have e : ∀ (c : UInt8) (k : Nat), ((⟨#[c]⟩ : ByteArray) ++ ⟨#[UInt8.ofNat (48 + k / 10), UInt8.ofNat (48 + k % 10)]⟩).data = #[c, UInt8.ofNat (48 + k / 10), UInt8.ofNat (48 + k % 10)] := fun c k => by
    rw [ByteArray.data_append]; rfl
  rw [e, e] at hd
  simp only [Array.mk.injEq, List.cons.injEq, and_true] at hd
  obtain ⟨h1, h2, h3⟩ := hd
  have a1 := u8_ne (a := i / 10) (b := j / 10) (by omega) (by omega) h2
  have a2 := u8_ne (a := i % 10) (b := j % 10) (by omega) (by omega) h3
  exact ⟨h1, by omega⟩
theorem nmS_size (c : UInt8) (k : Nat) : (nmS c k).size = 3 := by
  unfold nmS
  rw [ByteArray.size_append]; rfl
theorem kindC_ne (k : Int) : kindC k ≠ 78 := by
  unfold kindC
  repeat' split
  all_goals decide
theorem name_dev (k : Int) {j : Nat} (hj : j < 100) : je (nmS (kindC k) j).data.toList = true := by
  unfold kindC
  split
  · exact nm_ok 1 ⟨j, hj⟩
  split
  · exact nm_ok 2 ⟨j, hj⟩
  split
  · exact nm_ok 3 ⟨j, hj⟩
  split
  · exact nm_ok 4 ⟨j, hj⟩
  split
  · exact nm_ok 5 ⟨j, hj⟩
  · exact nm_ok 6 ⟨j, hj⟩
theorem usedB_no {U : List ByteArray} {s : ByteArray} (h : s ∉ U) : jg U s = false := by
  unfold jg
  rw [List.any_eq_false]
  intro u hu
  simp
  rintro rfl
  exact h hu
theorem ndGo_zero : ∀ (N : List Nd) (U : List ByteArray), (∀ x ∈ N, je x.n.data.toList = true ∧ (0 ≤ x.cu ∧ x.cu ≤ 1048576) ∧ qA x.co = true) → (N.map Nd.n).Nodup → (∀ x ∈ N, x.n ∉ U) → ndGo U N = 0
  | [], _, _, _, _ => rfl
  | x :: l, U, h, hn, hu => by
    obtain ⟨a1, a2, a3⟩ := h x (by simp)
    simp only [List.map_cons, List.nodup_cons] at hn
    rw [ndGo, if_neg (by rw [a1]; simp), usedB_no (hu x (by simp)), if_neg (by simp), if_neg (by rw [a3]; simp; omega)]
    exact ndGo_zero l _ (fun y hy => h y (by simp [hy])) hn.2 (fun y hy hin => by
      rcases List.mem_append.1 hin with hin | hin
      · exact hu y (by simp [hy]) hin
      · simp at hin
        exact hn.1 (hin ▸ List.mem_map_of_mem hy))
theorem dvGo_zero (m : Int) : ∀ (V : List Dv) (U : List ByteArray), (∀ d ∈ V, je d.n.data.toList = true ∧ (1 ≤ d.k ∧ d.k ≤ 6) ∧ qK d m = true ∧ qA d.co = true) → (V.map Dv.n).Nodup → (∀ d ∈ V, d.n ∉ U) → dvGo m U V = 0
  | [], _, _, _, _ => rfl
  | d :: l, U, h, hn, hu => by
    obtain ⟨a1, a2, a3, a4⟩ := h d (by simp)
    simp only [List.map_cons, List.nodup_cons] at hn
    rw [dvGo, if_neg (by rw [a1]; simp), usedB_no (hu d (by simp)), if_neg (by simp), if_neg (by omega), if_neg (by rw [a3]; simp), if_neg (by rw [a4]; simp)]
    exact dvGo_zero m l _ (fun y hy => h y (by simp [hy])) hn.2 (fun y hy hin => by
      rcases List.mem_append.1 hin with hin | hin
      · exact hu y (by simp [hy]) hin
      · simp at hin
        exact hn.1 (hin ▸ List.mem_map_of_mem hy))
theorem nodup_of_at {α β : Type} {L : List α} {f : α → β} (h : ∀ (i j : Nat) (x y : α), L[i]? = some x → L[j]? = some y → f x = f y → i = j) : (L.map f).Nodup := by
  unfold List.Nodup
  rw [List.pairwise_iff_getElem]
  intro i j hi hj hij e
  simp at hi hj
  have := h i j L[i] L[j] (List.getElem?_eq_getElem hi) (List.getElem?_eq_getElem hj) (by simpa using e)
  omega
theorem compB_two {n : Int} (h : 0 ≤ n ∧ n ≤ 2) : qA n = true := by unfold qA; simp; omega
theorem DvOk.ends {k : Int} {j : Nat} {d : Dv} (h : DvOk k j d) : qK d k = true := by
  have h1 := h.a
  have h2 := h.k1
  unfold qK qo
  rw [if_neg (by omega)]
  by_cases h3 : d.k ≤ 3
  · have := h.j3 h3
    rw [if_neg (by simp; omega)]
    simp; omega
  · have := h.j4 (by omega)
    rw [if_pos (by simp; omega)]
    simp [this]
/-- A made network is valid. -/
theorem net_valid {D : Dk} (h : DkOk D) {nodes : Int} {m : Nat} (h1 : 1 ≤ nodes) (h2 : nodes ≤ 30) (hm : m ≤ 60) : netE (net1 D nodes).1 (net5 D nodes m).1 = 0 := by
  have hk := netK_in D h1 (by omega)
  have hK : netK D nodes ≤ 32 := by
    have := D.in_ (n := max 1 (nodes - 1)) (by omega) (by omega)
    omega
  have hv := net5_ok h m h1 (by omega)
  have hN : (net1 D nodes).1.length = netK D nodes := qe _ _
  have hNat := nodesD_at D.next (netK D nodes)
  have hnd : ndGo [] (net1 D nodes).1 = 0 := by
    refine ndGo_zero _ _ (fun x hx => ?_) (nodup_of_at fun i j x y hi hj e => ?_) (by simp)
    · obtain ⟨j, hj⟩ := List.getElem?_of_mem hx
      obtain ⟨a1, a2⟩ := hNat j x hj
      have hlt : j < (net1 D nodes).1.length := yP hj
      rw [a1]
      exact ⟨nm_ok 0 ⟨j, by omega⟩, by omega, compB_two (by omega)⟩
    · have e1 := (hNat i x hi).1
      have e2 := (hNat j y hj).1
      have l1 : i < (net1 D nodes).1.length := yP hi
      have l2 : j < (net1 D nodes).1.length := yP hj
      rw [e1, e2] at e
      exact (nmS_eq (by omega) (by omega) e).2
  unfold netE
  rw [if_neg (by have := hv.len; omega), hnd, if_neg (by decide)]
  refine dvGo_zero _ _ _ (fun d hd => ?_) (nodup_of_at fun i j x y hi hj e => ?_) (fun d hd hin => ?_)
  · obtain ⟨j, hj⟩ := List.getElem?_of_mem hd
    have hlt := yP hj
    have ok := hv.at_ j d hj
    rw [hN]
    refine ⟨by rw [ok.nm]; exact name_dev _ (by have := hv.len; omega), ok.k1, ok.ends, compB_two ok.co⟩
  · have e1 := (hv.at_ i x hi).nm
    have e2 := (hv.at_ j y hj).nm
    have l1 := yP hi
    have l2 := yP hj
    have := hv.len
    rw [e1, e2] at e
    exact (nmS_eq (by omega) (by omega) e).2
  · obtain ⟨j, hj⟩ := List.getElem?_of_mem hd
    obtain ⟨x, hx, e⟩ := List.mem_map.1 hin
    obtain ⟨i, hi⟩ := List.getElem?_of_mem hx
    have l1 : i < (net1 D nodes).1.length := yP hi
    have l2 := yP hj
    have := hv.len
    rw [(hNat i x hi).1, (hv.at_ j d hj).nm] at e
    exact kindC_ne _ (nmS_eq (by omega) (by omega) e).1.symm
end Go.Proofs.YtggngllfnboehaaGreatDoor
namespace Go.Proofs.YtggngllfnboehaaGreatDoor
open Go Go.RowKit
set_option maxRecDepth 10000
variable {G : Nat → Option (List Value)}
theorem dig_str (c : UInt8) (k : Nat) (h : k < 100) : ((⟨#[c]⟩ : ByteArray) ++ strOfNums [IntKind.u8.wrap (IntKind.i64.wrap (48 + IntKind.i64.wrap ((k : Int).tdiv 10))), IntKind.u8.wrap (IntKind.i64.wrap (48 + (k : Int).tmod 10))]) = nmS c k := by
  have e1 : (k : Int).tdiv 10 = ((k / 10 : Nat) : Int) := by rw [Int.tdiv_eq_ediv_of_nonneg (by omega)]; omega
  have e2 : (k : Int).tmod 10 = ((k % 10 : Nat) : Int) := by rw [Int.tmod_eq_emod_of_nonneg (by omega)]; omega
  have e3 : ∀ d : Nat, d < 10 → IntKind.u8.wrap (IntKind.i64.wrap (48 + (d : Int))) = ((48 + d : Nat) : Int) := fun d hd => by
    rw [yw (by omega), IntKind.wrap_u8]; omega
  rw [e1, e2, yw (z := ((k / 10 : Nat) : Int)) (by omega), e3 _ (by omega), e3 _ (by omega)]
  rfl
theorem mkname_A (c : UInt8) (k : Nat) (h : k < 100) : yF Tryz.prog G 23 [.v (.string ⟨#[c]⟩), .v (.int .i64 (k : Nat))] [] (.v (.string (nmS c k))) [] := by
  refine zj tbOk (zn Tryz.func23 (by kernel_rfl) rfl) Tryz.func23 rfl _ Tryz.ntmps23 (Nat.le_of_ble_eq_true rfl) fun X hX => ?_
  subst hX
  repeat (first | ((with_reducible refine zI ?_); refine zH rfl ?_) | ((with_reducible refine zE ?_); refine zD rfl ?_) | ((with_reducible refine jX ?_); refine qc tbOk rfl rfl rfl ?_) | ((with_reducible refine zM ?_); refine zV rfl rfl rfl ?_) | ((with_reducible refine zM ?_); refine x_rem rfl rfl (by first | decide | assumption | omega) ?_) | ((with_reducible refine zM ?_); refine x_quo rfl rfl (by first | decide | assumption | omega) ?_) | ((with_reducible refine yG ?_); refine yH tbOk rfl rfl rfl rfl rfl (by omega) rfl rfl rfl ?_) | refine zJ ?_ | refine zB rfl ?_ | with_reducible refine zC ?_ | with_reducible refine zF ?_ | ((with_reducible refine zA ?_ ?_); kernel_rfl))
  with_reducible refine jX ?_
  refine x_conv_bytes Tryz.underlying70 Tryz.underlying5 Tryz.underlying9 rfl rfl (by simp) ?_
  repeat (first   | refine zB rfl ?_  )
  with_reducible refine zM ?_
  refine yb rfl rfl (by rw [strOfNums_size]; exact (by decide : (1:Nat) + 2 ≤ 9223372036854775807)) ?_
  repeat (first | ((with_reducible refine zE ?_); refine zD rfl ?_)  | refine zJ ?_ | refine zB rfl ?_ | with_reducible refine zC ?_ | with_reducible refine zU ?_ )
  refine yC (by first | exact .inr rfl | exact .inl rfl) rfl rfl ?_
  exact congrArg (fun s => AV.v (.string s)) (dig_str c k h).symm
/-- What the closure add is handed: the network's box, the bound, the deck. -/
def addR (N : List AV) (m : Nat) (r : List Dv × Dk) : List Cont := [.box [.sl 3 N, .own (refB + 4) 0], .box [.v (.int .i64 (m : Nat))], .box [.ptr (refB + 3) 0 0], .box r.2.cells, .buf 59 5 (r.1.map Dv.av)]
set_option maxHeartbeats 4000000 in
theorem add_A (N : List AV) (m : Nat) (r : List Dv × Dk) (k a b : Int) (hD : DkOk r.2) (hm : m ≤ 60) (hr : r.1.length ≤ m) (hk : 1 ≤ k ∧ k ≤ 6) :
    ACallsJ Tryz.prog G 25 [.v (.int .i64 k), .v (.int .i64 a), .v (.int .i64 b), .ptr (refB + 0) 0 0, .ptr (refB + 1) 0 0, .ptr (refB + 2) 0 0] (addR N m r) (.tu []) (addR N m (addD m r k a b)) := by
  have hml : (r.1.map Dv.av).length = r.1.length := by simp
  have hidx : ([.v (.string ⟨#[]⟩), .v (.string ⟨#[76]⟩), .v (.string ⟨#[81]⟩), .v (.string ⟨#[68]⟩), .v (.string ⟨#[69]⟩), .v (.string ⟨#[83]⟩), .v (.string ⟨#[71]⟩)] : List AV)[k.toNat]? = some (.v (.string ⟨#[kindC k]⟩)) := by
    obtain rfl | rfl | rfl | rfl | rfl | rfl : k = 1 ∨ k = 2 ∨ k = 3 ∨ k = 4 ∨ k = 5 ∨ k = 6 := by omega
    all_goals rfl
  refine acallsJ_of tbOk (zn Tryz.func25 (by kernel_rfl) rfl) Tryz.func25 rfl _ Tryz.ntmps25 (Nat.le_of_ble_eq_true rfl) fun X hX => ?_
  subst hX
  repeat (first | ((with_reducible refine zK ?_); refine zG tbOk rfl rfl rfl rfl ?_) | ((with_reducible refine zL ?_); refine zN tbOk rfl rfl rfl rfl rfl ?_) | ((with_reducible refine zu ?_); refine x_len_own tbOk rfl rfl rfl rfl ?_) | ((with_reducible refine zM ?_); refine zV rfl rfl rfl ?_)  | refine zJ ?_ | refine zB rfl ?_ | with_reducible refine zC ?_ | with_reducible refine zF ?_ | ((with_reducible refine zA ?_ ?_); kernel_rfl))
  refine zm rfl (fun h => ?_) (fun h => ?_)
  · have h' : m ≤ r.1.length := by simp at h; omega
    have e : addD m r k a b = r := by unfold addD; rw [if_pos h']
    rw [e]
    repeat (first    | with_reducible refine zS ?_ | with_reducible refine zU ?_ )
    refine retJ (by first | exact .inr rfl | exact .inl rfl) (xs := []) (fs := [(refB + 0, 0), (refB + 1, 0), (refB + 2, 0), (refB + 3, 0), (refB + 4, 0)]) trivial (by decide) (by repeat' (first | exact trivial | exact Ren.v _ | exact Ren.sl _ _ | exact Ren.ep _ | exact Ren.ptr _ _ _ _ rfl | exact Ren.ownr _ _ _ rfl | exact Ren.bs _ _ _ _ _ rfl | refine zO ?_ | refine zQ ?_ | refine zP ?_ | refine ⟨?_, ?_⟩)) ?_
    refine ⟨⟨⟨_, rfl, by repeat' (first | exact trivial | exact Ren.v _ | exact Ren.sl _ _ | exact Ren.ep _ | exact Ren.ptr _ _ _ _ rfl | exact Ren.ownr _ _ _ rfl | exact Ren.bs _ _ _ _ _ rfl | refine zO ?_ | refine zQ ?_ | refine zP ?_ | refine ⟨?_, ?_⟩)⟩, fun _ => ⟨rfl, rfl⟩⟩, ⟨⟨_, rfl, by repeat' (first | exact trivial | exact Ren.v _ | exact Ren.sl _ _ | exact Ren.ep _ | exact Ren.ptr _ _ _ _ rfl | exact Ren.ownr _ _ _ rfl | exact Ren.bs _ _ _ _ _ rfl | refine zO ?_ | refine zQ ?_ | refine zP ?_ | refine ⟨?_, ?_⟩)⟩, fun _ => ⟨rfl, rfl⟩⟩, ⟨⟨_, rfl, by repeat' (first | exact trivial | exact Ren.v _ | exact Ren.sl _ _ | exact Ren.ep _ | exact Ren.ptr _ _ _ _ rfl | exact Ren.ownr _ _ _ rfl | exact Ren.bs _ _ _ _ _ rfl | refine zO ?_ | refine zQ ?_ | refine zP ?_ | refine ⟨?_, ?_⟩)⟩, fun _ => ⟨rfl, rfl⟩⟩, ⟨⟨_, rfl, by repeat' (first | exact trivial | exact Ren.v _ | exact Ren.sl _ _ | exact Ren.ep _ | exact Ren.ptr _ _ _ _ rfl | exact Ren.ownr _ _ _ rfl | exact Ren.bs _ _ _ _ _ rfl | refine zO ?_ | refine zQ ?_ | refine zP ?_ | refine ⟨?_, ?_⟩)⟩, fun _ => ⟨rfl, rfl⟩⟩, rfl, trivial⟩
  have h' : ¬ m ≤ r.1.length := by simp at h; omega
  repeat (first | ((with_reducible refine zI ?_); refine zH rfl ?_) | ((with_reducible refine zK ?_); refine zG tbOk rfl rfl rfl rfl ?_) | ((with_reducible refine zL ?_); refine zN tbOk rfl rfl rfl rfl rfl ?_) | ((with_reducible refine zL ?_); refine za tbOk rfl rfl rfl ?_) | ((with_reducible refine zT ?_); refine jL tbOk rfl rfl rfl rfl (by omega) (by assumption) ?_) | ((with_reducible refine zu ?_); refine x_len_own tbOk rfl rfl rfl rfl ?_) | ((with_reducible refine yG ?_); refine yH tbOk rfl rfl rfl rfl rfl (by omega) rfl rfl rfl ?_) | refine zB rfl ?_ | with_reducible refine zC ?_ | with_reducible refine zF ?_ | with_reducible refine zR ?_ | ((with_reducible refine yx mixd ?_ ?_); kernel_rfl))
  refine zo (mkname_A (kindC k) (r.1.map Dv.av).length (by omega)) (by repeat' (first | exact trivial | exact Ren.v _ | exact Ren.sl _ _ | exact Ren.ep _ | exact Ren.ptr _ _ _ _ rfl | exact Ren.bs _ _ _ _ _ rfl | exact Ren.nil _ | exact Ren.own _ _ _ _ ⟨_, rfl⟩ | refine zO ?_ | refine zQ ?_ | refine zP ?_ | refine ⟨?_, ?_⟩)) (by repeat' (first | exact trivial | exact RenB.v _ | exact RenB.sl _ _ | exact RenB.ep _ | exact RenB.ptr _ _ _ _ rfl | refine zW ?_ | refine zX ?_ | refine ⟨?_, ?_⟩)) ?_
  repeat (first | ((with_reducible refine zI ?_); refine zH rfl ?_) | ((with_reducible refine zL ?_); refine zN tbOk rfl rfl rfl rfl rfl ?_) | ((with_reducible refine zd ?_); refine zf tbOk rfl rfl rfl rfl rfl rfl rfl (Nat.le_of_ble_eq_true rfl) rfl ?_) | ((with_reducible refine yA ?_); refine yB tbOk rfl rfl ?_) | ((with_reducible refine ye ?_); refine yg tbOk rfl rfl rfl rfl rfl ?_)  | refine jM (by kernel_rfl) ?_ | refine zB rfl ?_ | with_reducible refine zC ?_ | with_reducible refine zF ?_ | ((with_reducible refine zA ?_ ?_); kernel_rfl))
  refine yX (ss := [(refB + 3, 0)]) (one_A r.2 8 hD (by omega) (by omega)) (by repeat' (first | exact trivial | exact Ren.v _ | exact Ren.sl _ _ | exact Ren.ep _ | exact Ren.ptr _ _ _ _ rfl | exact Ren.bs _ _ _ _ _ rfl | exact Ren.nil _ | exact Ren.own _ _ _ _ ⟨_, rfl⟩ | refine zO ?_ | refine zQ ?_ | refine zP ?_ | refine ⟨?_, ?_⟩)) (by simp) (in1 rfl rfl) rfl (yn rfl) (by repeat' (first | exact trivial | exact RenB.v _ | exact RenB.sl _ _ | exact RenB.ep _ | exact RenB.ptr _ _ _ _ rfl | refine zW ?_ | refine zX ?_ | refine ⟨?_, ?_⟩)) ?_
  repeat (first   | refine zJ ?_ | with_reducible refine zC ?_ )
  refine zm rfl (fun h => ?_) (fun h => ?_)
  · have h0 : r.2.val 8 = 0 := by simpa using h
    have e : addD m r k a b = (r.1 ++ [⟨nmS (kindC k) r.1.length, k, a, b, 1 + r.2.next.val 2⟩], r.2.next.next) := by unfold addD optD; rw [if_neg h', if_pos h0]
    rw [e]
    have hv := r.2.next.in_ (n := 2) (by decide) (by decide)
    repeat (first | ((with_reducible refine zL ?_); refine zN tbOk rfl rfl rfl rfl rfl ?_)  | refine zB rfl ?_  | ((with_reducible refine zA ?_ ?_); kernel_rfl))
    refine yX (ss := [(refB + 3, 0)]) (yz r.2.next 2 hD.next (by omega) (by omega)) (by repeat' (first | exact trivial | exact Ren.v _ | exact Ren.sl _ _ | exact Ren.ep _ | exact Ren.ptr _ _ _ _ rfl | exact Ren.bs _ _ _ _ _ rfl | exact Ren.nil _ | exact Ren.own _ _ _ _ ⟨_, rfl⟩ | refine zO ?_ | refine zQ ?_ | refine zP ?_ | refine ⟨?_, ?_⟩)) (by simp) (in1 rfl rfl) rfl (yn rfl) (by repeat' (first | exact trivial | exact RenB.v _ | exact RenB.sl _ _ | exact RenB.ep _ | exact RenB.ptr _ _ _ _ rfl | refine zW ?_ | refine zX ?_ | refine ⟨?_, ?_⟩)) ?_
    repeat (first | ((with_reducible refine zK ?_); refine zG tbOk rfl rfl rfl rfl ?_) | ((with_reducible refine zL ?_); refine zN tbOk rfl rfl rfl rfl rfl ?_) | ((with_reducible refine zL ?_); refine zc tbOk rfl rfl rfl rfl (Nat.le_of_ble_eq_true rfl) ?_) | ((with_reducible refine zd ?_); refine zf tbOk rfl rfl rfl rfl rfl rfl rfl (Nat.le_of_ble_eq_true rfl) rfl ?_) | ((with_reducible refine zM ?_); refine ze rfl rfl (by omega) ?_) | ((with_reducible refine yG ?_); refine yH tbOk rfl rfl rfl rfl rfl (by omega) rfl rfl rfl ?_) | refine zJ ?_ | refine zB rfl ?_ | with_reducible refine zC ?_ | ((with_reducible refine zA ?_ ?_); kernel_rfl))
    refine yV tbOk rfl rfl rfl rfl rfl (by decide) rfl rfl rfl rfl rfl (fun x hx => by simp at hx; subst hx; rfl) (by simp only [List.length_map, List.length_cons, List.length_nil]; omega) (by simp only [List.length_map, List.length_cons, List.length_nil]; omega) ?_
    repeat (first | ((with_reducible refine zK ?_); refine zG tbOk rfl rfl rfl rfl ?_) | ((with_reducible refine zd ?_); refine zf tbOk rfl rfl rfl rfl rfl rfl rfl (Nat.le_of_ble_eq_true rfl) rfl ?_)  | refine zJ ?_ | refine zB rfl ?_  )
    have e1 : r.1.map Dv.av ++ [AV.ag [.v (.string (nmS (kindC k) (r.1.map Dv.av).length)), .v (.int .i64 k), .v (.int .i64 a), .v (.int .i64 b), .v (.int .i64 (1 + r.2.next.val 2))]] = (r.1 ++ [(⟨nmS (kindC k) r.1.length, k, a, b, 1 + r.2.next.val 2⟩ : Dv)]).map Dv.av := by
      rw [hml]; simp [Dv.av]
    refine retJ (by first | exact .inr rfl | exact .inl rfl) (xs := []) (fs := [(refB + 0, 0), (refB + 1, 0), (refB + 2, 0), (refB + 3, 0), (37, 1)]) trivial (by decide) (by repeat' (first | exact trivial | exact Ren.v _ | exact Ren.sl _ _ | exact Ren.ep _ | exact Ren.ptr _ _ _ _ rfl | exact Ren.ownr _ _ _ rfl | exact Ren.bs _ _ _ _ _ rfl | refine zO ?_ | refine zQ ?_ | refine zP ?_ | refine ⟨?_, ?_⟩)) ?_
    refine ⟨⟨⟨_, rfl, by repeat' (first | exact trivial | exact Ren.v _ | exact Ren.sl _ _ | exact Ren.ep _ | exact Ren.ptr _ _ _ _ rfl | exact Ren.ownr _ _ _ rfl | exact Ren.bs _ _ _ _ _ rfl | refine zO ?_ | refine zQ ?_ | refine zP ?_ | refine ⟨?_, ?_⟩)⟩, fun _ => ⟨rfl, rfl⟩⟩, ⟨⟨_, rfl, by repeat' (first | exact trivial | exact Ren.v _ | exact Ren.sl _ _ | exact Ren.ep _ | exact Ren.ptr _ _ _ _ rfl | exact Ren.ownr _ _ _ rfl | exact Ren.bs _ _ _ _ _ rfl | refine zO ?_ | refine zQ ?_ | refine zP ?_ | refine ⟨?_, ?_⟩)⟩, fun _ => ⟨rfl, rfl⟩⟩, ⟨⟨_, rfl, by repeat' (first | exact trivial | exact Ren.v _ | exact Ren.sl _ _ | exact Ren.ep _ | exact Ren.ptr _ _ _ _ rfl | exact Ren.ownr _ _ _ rfl | exact Ren.bs _ _ _ _ _ rfl | refine zO ?_ | refine zQ ?_ | refine zP ?_ | refine ⟨?_, ?_⟩)⟩, fun _ => ⟨rfl, rfl⟩⟩, ⟨⟨_, rfl, by repeat' (first | exact trivial | exact Ren.v _ | exact Ren.sl _ _ | exact Ren.ep _ | exact Ren.ptr _ _ _ _ rfl | exact Ren.ownr _ _ _ rfl | exact Ren.bs _ _ _ _ _ rfl | refine zO ?_ | refine zQ ?_ | refine zP ?_ | refine ⟨?_, ?_⟩)⟩, fun _ => ⟨rfl, rfl⟩⟩, ?_, trivial⟩
    exact congrArg (fun L => (⟨1, .buf 59 5 L⟩ : HC)) e1
  · have h0 : ¬ r.2.val 8 = 0 := by simpa using h
    have e : addD m r k a b = (r.1 ++ [⟨nmS (kindC k) r.1.length, k, a, b, 0⟩], r.2.next) := by unfold addD optD; rw [if_neg h', if_neg h0]
    rw [e]
    repeat (first | ((with_reducible refine zK ?_); refine zG tbOk rfl rfl rfl rfl ?_) | ((with_reducible refine zL ?_); refine zN tbOk rfl rfl rfl rfl rfl ?_) | ((with_reducible refine zL ?_); refine zc tbOk rfl rfl rfl rfl (Nat.le_of_ble_eq_true rfl) ?_) | ((with_reducible refine yG ?_); refine yH tbOk rfl rfl rfl rfl rfl (by omega) rfl rfl rfl ?_) | refine zB rfl ?_ | with_reducible refine zC ?_ | with_reducible refine zR ?_ | ((with_reducible refine zA ?_ ?_); kernel_rfl))
    refine yV tbOk rfl rfl rfl rfl rfl (by decide) rfl rfl rfl rfl rfl (fun x hx => by simp at hx; subst hx; rfl) (by simp only [List.length_map, List.length_cons, List.length_nil]; omega) (by simp only [List.length_map, List.length_cons, List.length_nil]; omega) ?_
    repeat (first | ((with_reducible refine zK ?_); refine zG tbOk rfl rfl rfl rfl ?_) | ((with_reducible refine zd ?_); refine zf tbOk rfl rfl rfl rfl rfl rfl rfl (Nat.le_of_ble_eq_true rfl) rfl ?_)  | refine zJ ?_ | refine zB rfl ?_  )
    have e1 : r.1.map Dv.av ++ [AV.ag [.v (.string (nmS (kindC k) (r.1.map Dv.av).length)), .v (.int .i64 k), .v (.int .i64 a), .v (.int .i64 b), .v (.int .i64 0)]] = (r.1 ++ [(⟨nmS (kindC k) r.1.length, k, a, b, 0⟩ : Dv)]).map Dv.av := by
      rw [hml]; simp [Dv.av]
    refine retJ (by first | exact .inr rfl | exact .inl rfl) (xs := []) (fs := [(refB + 0, 0), (refB + 1, 0), (refB + 2, 0), (refB + 3, 0), (37, 1)]) trivial (by decide) (by repeat' (first | exact trivial | exact Ren.v _ | exact Ren.sl _ _ | exact Ren.ep _ | exact Ren.ptr _ _ _ _ rfl | exact Ren.ownr _ _ _ rfl | exact Ren.bs _ _ _ _ _ rfl | refine zO ?_ | refine zQ ?_ | refine zP ?_ | refine ⟨?_, ?_⟩)) ?_
    refine ⟨⟨⟨_, rfl, by repeat' (first | exact trivial | exact Ren.v _ | exact Ren.sl _ _ | exact Ren.ep _ | exact Ren.ptr _ _ _ _ rfl | exact Ren.ownr _ _ _ rfl | exact Ren.bs _ _ _ _ _ rfl | refine zO ?_ | refine zQ ?_ | refine zP ?_ | refine ⟨?_, ?_⟩)⟩, fun _ => ⟨rfl, rfl⟩⟩, ⟨⟨_, rfl, by repeat' (first | exact trivial | exact Ren.v _ | exact Ren.sl _ _ | exact Ren.ep _ | exact Ren.ptr _ _ _ _ rfl | exact Ren.ownr _ _ _ rfl | exact Ren.bs _ _ _ _ _ rfl | refine zO ?_ | refine zQ ?_ | refine zP ?_ | refine ⟨?_, ?_⟩)⟩, fun _ => ⟨rfl, rfl⟩⟩, ⟨⟨_, rfl, by repeat' (first | exact trivial | exact Ren.v _ | exact Ren.sl _ _ | exact Ren.ep _ | exact Ren.ptr _ _ _ _ rfl | exact Ren.ownr _ _ _ rfl | exact Ren.bs _ _ _ _ _ rfl | refine zO ?_ | refine zQ ?_ | refine zP ?_ | refine ⟨?_, ?_⟩)⟩, fun _ => ⟨rfl, rfl⟩⟩, ⟨⟨_, rfl, by repeat' (first | exact trivial | exact Ren.v _ | exact Ren.sl _ _ | exact Ren.ep _ | exact Ren.ptr _ _ _ _ rfl | exact Ren.ownr _ _ _ rfl | exact Ren.bs _ _ _ _ _ rfl | refine zO ?_ | refine zQ ?_ | refine zP ?_ | refine ⟨?_, ?_⟩)⟩, fun _ => ⟨rfl, rfl⟩⟩, ?_, trivial⟩
    exact congrArg (fun L => (⟨1, .buf 59 5 L⟩ : HC)) e1
end Go.Proofs.YtggngllfnboehaaGreatDoor
namespace Go.Proofs.YtggngllfnboehaaGreatDoor
open Go Go.RowKit
set_option maxRecDepth 10000
variable {G : Nat → Option (List Value)}
set_option maxHeartbeats 16000000 in
theorem network_A (D : Dk) (nodes : Int) (m : Nat) (hD : DkOk D) (h1 : 1 ≤ nodes) (h2 : nodes ≤ 30) (hm : m ≤ 60) :
    yF Tryz.prog G 8 [.ptr (refB + 0) 0 0, .v (.int .i64 nodes), .v (.int .i64 (m : Nat))] [D.cells] (.ag [.sl 3 ((net1 D nodes).1.map Nd.av), .sl 5 ((net5 D nodes m).1.map Dv.av)]) [(net5 D nodes m).2.cells] := by
  have hk := netK_in D h1 (by omega)
  have hK : netK D nodes ≤ 32 := by
    have := D.in_ (n := max 1 (nodes - 1)) (by omega) (by omega)
    omega
  refine zj tbOk (zn Tryz.func8 (by kernel_rfl) rfl) Tryz.func8 rfl _ Tryz.ntmps8 (Nat.le_of_ble_eq_true rfl) fun X hX => ?_
  subst hX
  repeat (first | ((with_reducible refine zI ?_); refine zH rfl ?_) | ((with_reducible refine zL ?_); refine zN tbOk rfl rfl rfl rfl rfl ?_) | ((with_reducible refine yA ?_); refine yB tbOk rfl rfl ?_) | ((with_reducible refine yj ?_); refine yi rfl rfl rfl ?_) | ((with_reducible refine zM ?_); refine jN rfl rfl (by omega) ?_)  | refine zJ ?_ | refine zB rfl ?_ | with_reducible refine zC ?_ | with_reducible refine zF ?_ | ((with_reducible refine zA ?_ ?_); kernel_rfl))
  (with_reducible refine zu ?_); refine x_max rfl rfl ?_
  repeat (first   | refine zB rfl ?_  )
  refine yX (ss := [(refB + 0, 0)]) (yz D (max 1 (nodes - 1)) hD (by omega) (by omega)) (by repeat' (first | exact trivial | exact Ren.v _ | exact Ren.sl _ _ | exact Ren.ep _ | exact Ren.ptr _ _ _ _ rfl | exact Ren.bs _ _ _ _ _ rfl | exact Ren.nil _ | exact Ren.own _ _ _ _ ⟨_, rfl⟩ | refine zO ?_ | refine zQ ?_ | refine zP ?_ | refine ⟨?_, ?_⟩)) (by simp) (in1 rfl rfl) rfl (yn rfl) (by repeat' (first | exact trivial | exact RenB.v _ | exact RenB.sl _ _ | exact RenB.ep _ | exact RenB.ptr _ _ _ _ rfl | refine zW ?_ | refine zX ?_ | refine ⟨?_, ?_⟩)) ?_
  repeat (first | ((with_reducible refine zE ?_); refine zD rfl ?_) | ((with_reducible refine zM ?_); refine ze rfl rfl (by omega) ?_)  | refine zJ ?_ | refine zB rfl ?_ | with_reducible refine zC ?_ | with_reducible refine zF ?_ | with_reducible refine zY ?_ | ((with_reducible refine zA ?_ ?_); kernel_rfl))
  refine awp_own_at (s := 48) 57 3 [] [(7, [.own 48 1, .v (.slice none 0 0)])] rfl trivial ⟨⟨_, _, rfl, .hit (.same .nil)⟩, trivial⟩ ?_
  refine qI (ι := Nat) (fun v i => v (refB + 0) = 0 ∧ i ≤ netK D nodes) (fun i => netK D nodes - i) (fun v i => [(3, .ptr 3 (v 3) 0), (5, .ptr 5 (v 5) 0), (6, .ptr 6 (v 6) 0), (7, .ptr 7 (v 7) 0), (8, .v (.int .i64 (netK D nodes : Nat))), (9, .v (.int .i64 (i : Nat)))]) (fun v i => [(refB + 0, .box (yZ D.next i).2.cells), (3, .box [.ptr (refB + 0) (v (refB + 0)) 0]), (5, .box [.v (.int .i64 (m : Nat))]), (6, .box [.v (.slice none 0 0), .v (.slice none 0 0)]), (7, .box [.own 48 (v 48), .v (.slice none 0 0)]), (48, .buf 57 3 ((yZ D.next i).1.map Nd.av))]) ?_ ?_
  · exact ⟨0, ⟨rfl, Nat.zero_le _⟩, trivial, ⟨rfl, rfl, rfl, rfl, congrArg (fun z : Int => AV.v (.int .i64 z)) hk.2.2.symm, rfl, trivial⟩, ⟨rfl, rfl, rfl, rfl, rfl, rfl, trivial⟩⟩
  rintro v i ⟨hv0, hi⟩
  have hE := nodesD_ok hD.next i
  have hLl := qe D.next i
  repeat (first | ((with_reducible refine zI ?_); refine zH rfl ?_) | ((with_reducible refine zM ?_); refine zV rfl rfl rfl ?_)  | refine zJ ?_ | refine zB rfl ?_ | with_reducible refine zC ?_ | with_reducible refine zF ?_ | ((with_reducible refine zA ?_ ?_); kernel_rfl))
  refine zm rfl (fun h => ?_) (fun h => ?_)
  · have hlt : i < netK D nodes := by simpa using h
    repeat (first | ((with_reducible refine zI ?_); refine zH rfl ?_)  | refine zB rfl ?_ | with_reducible refine zC ?_ | with_reducible refine zF ?_ | with_reducible refine zY ?_ | with_reducible refine zR ?_ | ((with_reducible refine zA ?_ ?_); kernel_rfl))
    refine zo (mkname_A 78 i (by omega)) (by repeat' (first | exact trivial | exact Ren.v _ | exact Ren.sl _ _ | exact Ren.ep _ | exact Ren.ptr _ _ _ _ rfl | exact Ren.bs _ _ _ _ _ rfl | exact Ren.nil _ | exact Ren.own _ _ _ _ ⟨_, rfl⟩ | refine zO ?_ | refine zQ ?_ | refine zP ?_ | refine ⟨?_, ?_⟩)) (by repeat' (first | exact trivial | exact RenB.v _ | exact RenB.sl _ _ | exact RenB.ep _ | exact RenB.ptr _ _ _ _ rfl | refine zW ?_ | refine zX ?_ | refine ⟨?_, ?_⟩)) ?_
    repeat (first | ((with_reducible refine zL ?_); refine zN tbOk rfl rfl rfl rfl rfl ?_) | ((with_reducible refine zd ?_); refine zf tbOk rfl rfl rfl rfl rfl rfl rfl (Nat.le_of_ble_eq_true rfl) rfl ?_) | ((with_reducible refine yA ?_); refine yB tbOk rfl rfl ?_) | ((with_reducible refine ye ?_); refine yg tbOk rfl rfl rfl rfl rfl ?_)  | refine zJ ?_ | refine zB rfl ?_ | with_reducible refine zC ?_ | with_reducible refine zF ?_ | ((with_reducible refine zA ?_ ?_); kernel_rfl))
    refine yX (ss := [(refB + 0, v (refB + 0))]) (one_A (yZ D.next i).2 2 hE (by omega) (by omega)) (by repeat' (first | exact trivial | exact Ren.v _ | exact Ren.sl _ _ | exact Ren.ep _ | exact Ren.ptr _ _ _ _ rfl | exact Ren.bs _ _ _ _ _ rfl | exact Ren.nil _ | exact Ren.own _ _ _ _ ⟨_, rfl⟩ | refine zO ?_ | refine zQ ?_ | refine zP ?_ | refine ⟨?_, ?_⟩)) (by simp) (in1 rfl rfl) rfl (yn rfl) (by repeat' (first | exact trivial | exact RenB.v _ | exact RenB.sl _ _ | exact RenB.ep _ | exact RenB.ptr _ _ _ _ rfl | refine zW ?_ | refine zX ?_ | refine ⟨?_, ?_⟩)) ?_
    repeat (first   | refine zJ ?_ | with_reducible refine zC ?_ )
    refine zm rfl (fun h => ?_) (fun h => ?_)
    · have h0 : (yZ D.next i).2.val 2 = 0 := by simpa using h
      have r5 := (yZ D.next i).2.next.in_ (n := 50) (by decide) (by decide)
      have e0 : optD (yZ D.next i).2 2 50 = (1 + (yZ D.next i).2.next.val 50, (yZ D.next i).2.next.next) := by unfold optD; rw [if_pos h0]
      repeat (first | ((with_reducible refine zL ?_); refine zN tbOk rfl rfl rfl rfl rfl ?_)  | refine zB rfl ?_  | ((with_reducible refine zA ?_ ?_); kernel_rfl))
      refine yX (ss := [(refB + 0, v (refB + 0))]) (yz (yZ D.next i).2.next 50 hE.next (by omega) (by omega)) (by repeat' (first | exact trivial | exact Ren.v _ | exact Ren.sl _ _ | exact Ren.ep _ | exact Ren.ptr _ _ _ _ rfl | exact Ren.bs _ _ _ _ _ rfl | exact Ren.nil _ | exact Ren.own _ _ _ _ ⟨_, rfl⟩ | refine zO ?_ | refine zQ ?_ | refine zP ?_ | refine ⟨?_, ?_⟩)) (by simp) (in1 rfl rfl) rfl (yn rfl) (by repeat' (first | exact trivial | exact RenB.v _ | exact RenB.sl _ _ | exact RenB.ep _ | exact RenB.ptr _ _ _ _ rfl | refine zW ?_ | refine zX ?_ | refine ⟨?_, ?_⟩)) ?_
      repeat (first | ((with_reducible refine zK ?_); refine zG tbOk rfl rfl rfl rfl ?_) | ((with_reducible refine zL ?_); refine zN tbOk rfl rfl rfl rfl rfl ?_) | ((with_reducible refine zd ?_); refine zf tbOk rfl rfl rfl rfl rfl rfl rfl (Nat.le_of_ble_eq_true rfl) rfl ?_) | ((with_reducible refine zM ?_); refine ze rfl rfl (by omega) ?_)  | refine zJ ?_ | refine zB rfl ?_ | with_reducible refine zC ?_ | with_reducible refine zF ?_ | ((with_reducible refine zA ?_ ?_); kernel_rfl))
      refine yX (ss := [(refB + 0, v (refB + 0))]) (one_A (yZ D.next i).2.next.next 8 hE.next.next (by omega) (by omega)) (by repeat' (first | exact trivial | exact Ren.v _ | exact Ren.sl _ _ | exact Ren.ep _ | exact Ren.ptr _ _ _ _ rfl | exact Ren.bs _ _ _ _ _ rfl | exact Ren.nil _ | exact Ren.own _ _ _ _ ⟨_, rfl⟩ | refine zO ?_ | refine zQ ?_ | refine zP ?_ | refine ⟨?_, ?_⟩)) (by simp) (in1 rfl rfl) rfl (yn rfl) (by repeat' (first | exact trivial | exact RenB.v _ | exact RenB.sl _ _ | exact RenB.ep _ | exact RenB.ptr _ _ _ _ rfl | refine zW ?_ | refine zX ?_ | refine ⟨?_, ?_⟩)) ?_
      repeat (first   | refine zJ ?_ | with_reducible refine zC ?_ )
      refine zm rfl (fun h => ?_) (fun h => ?_)
      · have hh : (yZ D.next i).2.next.next.val 8 = 0 := by simpa using h
        have r2 := (yZ D.next i).2.next.next.next.in_ (n := 2) (by decide) (by decide)
        have eN : nodeD (yZ D.next i).2 i = (⟨nmS 78 i, 1 + (yZ D.next i).2.next.val 50, 1 + (yZ D.next i).2.next.next.next.val 2⟩, (yZ D.next i).2.next.next.next.next) := by unfold nodeD; rw [e0]; simp only [optD, if_pos hh]
        repeat (first | ((with_reducible refine zL ?_); refine zN tbOk rfl rfl rfl rfl rfl ?_)  | refine zB rfl ?_  | ((with_reducible refine zA ?_ ?_); kernel_rfl))
        refine yX (ss := [(refB + 0, v (refB + 0))]) (yz (yZ D.next i).2.next.next.next 2 hE.next.next.next (by omega) (by omega)) (by repeat' (first | exact trivial | exact Ren.v _ | exact Ren.sl _ _ | exact Ren.ep _ | exact Ren.ptr _ _ _ _ rfl | exact Ren.bs _ _ _ _ _ rfl | exact Ren.nil _ | exact Ren.own _ _ _ _ ⟨_, rfl⟩ | refine zO ?_ | refine zQ ?_ | refine zP ?_ | refine ⟨?_, ?_⟩)) (by simp) (in1 rfl rfl) rfl (yn rfl) (by repeat' (first | exact trivial | exact RenB.v _ | exact RenB.sl _ _ | exact RenB.ep _ | exact RenB.ptr _ _ _ _ rfl | refine zW ?_ | refine zX ?_ | refine ⟨?_, ?_⟩)) ?_
        repeat (first | ((with_reducible refine zK ?_); refine zG tbOk rfl rfl rfl rfl ?_) | ((with_reducible refine zL ?_); refine zN tbOk rfl rfl rfl rfl rfl ?_) | ((with_reducible refine zL ?_); refine zc tbOk rfl rfl rfl rfl (Nat.le_of_ble_eq_true rfl) ?_) | ((with_reducible refine zd ?_); refine zf tbOk rfl rfl rfl rfl rfl rfl rfl (Nat.le_of_ble_eq_true rfl) rfl ?_) | ((with_reducible refine zM ?_); refine ze rfl rfl (by omega) ?_) | ((with_reducible refine yG ?_); refine yH tbOk rfl rfl rfl rfl rfl (by omega) rfl rfl rfl ?_) | refine zJ ?_ | refine zB rfl ?_ | with_reducible refine zC ?_ | ((with_reducible refine zA ?_ ?_); kernel_rfl))
        refine yV tbOk rfl rfl rfl rfl rfl (by decide) rfl rfl rfl rfl rfl (fun x hx => by simp at hx; subst hx; rfl) (by simp only [List.length_map, List.length_cons, List.length_nil]; omega) (by simp only [List.length_map, List.length_cons, List.length_nil]; omega) ?_
        repeat (first | ((with_reducible refine zI ?_); refine zH rfl ?_) | ((with_reducible refine zE ?_); refine zD rfl ?_) | ((with_reducible refine zK ?_); refine zG tbOk rfl rfl rfl rfl ?_) | ((with_reducible refine zd ?_); refine zf tbOk rfl rfl rfl rfl rfl rfl rfl (Nat.le_of_ble_eq_true rfl) rfl ?_) | ((with_reducible refine zM ?_); refine ze rfl rfl (by omega) ?_)  | refine zJ ?_ | refine zB rfl ?_ | with_reducible refine zC ?_ | with_reducible refine zk ?_ | ((with_reducible refine zA ?_ ?_); kernel_rfl))
        exact ⟨i + 1, ⟨hv0, by omega⟩, by omega, ⟨rfl, rfl, rfl, rfl, rfl, rfl, trivial⟩, ⟨qs (by rw [yZ, eN]), rfl, rfl, rfl, rfl, jJ (by rw [yZ, eN, List.map_append]; rfl), trivial⟩⟩
      · have hh : ¬ (yZ D.next i).2.next.next.val 8 = 0 := by simpa using h
        have eN : nodeD (yZ D.next i).2 i = (⟨nmS 78 i, 1 + (yZ D.next i).2.next.val 50, 0⟩, (yZ D.next i).2.next.next.next) := by unfold nodeD; rw [e0]; simp only [optD, if_neg hh]
        repeat (first | ((with_reducible refine zK ?_); refine zG tbOk rfl rfl rfl rfl ?_) | ((with_reducible refine zL ?_); refine zN tbOk rfl rfl rfl rfl rfl ?_) | ((with_reducible refine zL ?_); refine zc tbOk rfl rfl rfl rfl (Nat.le_of_ble_eq_true rfl) ?_) | ((with_reducible refine yG ?_); refine yH tbOk rfl rfl rfl rfl rfl (by omega) rfl rfl rfl ?_) | refine zB rfl ?_ | with_reducible refine zC ?_ | with_reducible refine zR ?_ | ((with_reducible refine zA ?_ ?_); kernel_rfl))
        refine yV tbOk rfl rfl rfl rfl rfl (by decide) rfl rfl rfl rfl rfl (fun x hx => by simp at hx; subst hx; rfl) (by simp only [List.length_map, List.length_cons, List.length_nil]; omega) (by simp only [List.length_map, List.length_cons, List.length_nil]; omega) ?_
        repeat (first | ((with_reducible refine zI ?_); refine zH rfl ?_) | ((with_reducible refine zE ?_); refine zD rfl ?_) | ((with_reducible refine zK ?_); refine zG tbOk rfl rfl rfl rfl ?_) | ((with_reducible refine zd ?_); refine zf tbOk rfl rfl rfl rfl rfl rfl rfl (Nat.le_of_ble_eq_true rfl) rfl ?_) | ((with_reducible refine zM ?_); refine ze rfl rfl (by omega) ?_)  | refine zJ ?_ | refine zB rfl ?_ | with_reducible refine zC ?_ | with_reducible refine zk ?_ | ((with_reducible refine zA ?_ ?_); kernel_rfl))
        exact ⟨i + 1, ⟨hv0, by omega⟩, by omega, ⟨rfl, rfl, rfl, rfl, rfl, rfl, trivial⟩, ⟨qs (by rw [yZ, eN]), rfl, rfl, rfl, rfl, jJ (by rw [yZ, eN, List.map_append]; rfl), trivial⟩⟩
    · have h0 : ¬ (yZ D.next i).2.val 2 = 0 := by simpa using h
      have e0 : optD (yZ D.next i).2 2 50 = (0, (yZ D.next i).2.next) := by unfold optD; rw [if_neg h0]
      repeat (first | ((with_reducible refine zL ?_); refine zN tbOk rfl rfl rfl rfl rfl ?_)  | refine zB rfl ?_ | with_reducible refine zC ?_ | with_reducible refine zF ?_ | with_reducible refine zR ?_ | ((with_reducible refine zA ?_ ?_); kernel_rfl))
      refine yX (ss := [(refB + 0, v (refB + 0))]) (one_A (yZ D.next i).2.next 8 hE.next (by omega) (by omega)) (by repeat' (first | exact trivial | exact Ren.v _ | exact Ren.sl _ _ | exact Ren.ep _ | exact Ren.ptr _ _ _ _ rfl | exact Ren.bs _ _ _ _ _ rfl | exact Ren.nil _ | exact Ren.own _ _ _ _ ⟨_, rfl⟩ | refine zO ?_ | refine zQ ?_ | refine zP ?_ | refine ⟨?_, ?_⟩)) (by simp) (in1 rfl rfl) rfl (yn rfl) (by repeat' (first | exact trivial | exact RenB.v _ | exact RenB.sl _ _ | exact RenB.ep _ | exact RenB.ptr _ _ _ _ rfl | refine zW ?_ | refine zX ?_ | refine ⟨?_, ?_⟩)) ?_
      repeat (first   | refine zJ ?_ | with_reducible refine zC ?_ )
      refine zm rfl (fun h => ?_) (fun h => ?_)
      · have hh : (yZ D.next i).2.next.val 8 = 0 := by simpa using h
        have r2 := (yZ D.next i).2.next.next.in_ (n := 2) (by decide) (by decide)
        have eN : nodeD (yZ D.next i).2 i = (⟨nmS 78 i, 0, 1 + (yZ D.next i).2.next.next.val 2⟩, (yZ D.next i).2.next.next.next) := by unfold nodeD; rw [e0]; simp only [optD, if_pos hh]
        repeat (first | ((with_reducible refine zL ?_); refine zN tbOk rfl rfl rfl rfl rfl ?_)  | refine zB rfl ?_  | ((with_reducible refine zA ?_ ?_); kernel_rfl))
        refine yX (ss := [(refB + 0, v (refB + 0))]) (yz (yZ D.next i).2.next.next 2 hE.next.next (by omega) (by omega)) (by repeat' (first | exact trivial | exact Ren.v _ | exact Ren.sl _ _ | exact Ren.ep _ | exact Ren.ptr _ _ _ _ rfl | exact Ren.bs _ _ _ _ _ rfl | exact Ren.nil _ | exact Ren.own _ _ _ _ ⟨_, rfl⟩ | refine zO ?_ | refine zQ ?_ | refine zP ?_ | refine ⟨?_, ?_⟩)) (by simp) (in1 rfl rfl) rfl (yn rfl) (by repeat' (first | exact trivial | exact RenB.v _ | exact RenB.sl _ _ | exact RenB.ep _ | exact RenB.ptr _ _ _ _ rfl | refine zW ?_ | refine zX ?_ | refine ⟨?_, ?_⟩)) ?_
        repeat (first | ((with_reducible refine zK ?_); refine zG tbOk rfl rfl rfl rfl ?_) | ((with_reducible refine zL ?_); refine zN tbOk rfl rfl rfl rfl rfl ?_) | ((with_reducible refine zL ?_); refine zc tbOk rfl rfl rfl rfl (Nat.le_of_ble_eq_true rfl) ?_) | ((with_reducible refine zd ?_); refine zf tbOk rfl rfl rfl rfl rfl rfl rfl (Nat.le_of_ble_eq_true rfl) rfl ?_) | ((with_reducible refine zM ?_); refine ze rfl rfl (by omega) ?_) | ((with_reducible refine yG ?_); refine yH tbOk rfl rfl rfl rfl rfl (by omega) rfl rfl rfl ?_) | refine zJ ?_ | refine zB rfl ?_ | with_reducible refine zC ?_ | ((with_reducible refine zA ?_ ?_); kernel_rfl))
        refine yV tbOk rfl rfl rfl rfl rfl (by decide) rfl rfl rfl rfl rfl (fun x hx => by simp at hx; subst hx; rfl) (by simp only [List.length_map, List.length_cons, List.length_nil]; omega) (by simp only [List.length_map, List.length_cons, List.length_nil]; omega) ?_
        repeat (first | ((with_reducible refine zI ?_); refine zH rfl ?_) | ((with_reducible refine zE ?_); refine zD rfl ?_) | ((with_reducible refine zK ?_); refine zG tbOk rfl rfl rfl rfl ?_) | ((with_reducible refine zd ?_); refine zf tbOk rfl rfl rfl rfl rfl rfl rfl (Nat.le_of_ble_eq_true rfl) rfl ?_) | ((with_reducible refine zM ?_); refine ze rfl rfl (by omega) ?_)  | refine zJ ?_ | refine zB rfl ?_ | with_reducible refine zC ?_ | with_reducible refine zk ?_ | ((with_reducible refine zA ?_ ?_); kernel_rfl))
        exact ⟨i + 1, ⟨hv0, by omega⟩, by omega, ⟨rfl, rfl, rfl, rfl, rfl, rfl, trivial⟩, ⟨qs (by rw [yZ, eN]), rfl, rfl, rfl, rfl, jJ (by rw [yZ, eN, List.map_append]; rfl), trivial⟩⟩
      · have hh : ¬ (yZ D.next i).2.next.val 8 = 0 := by simpa using h
        have eN : nodeD (yZ D.next i).2 i = (⟨nmS 78 i, 0, 0⟩, (yZ D.next i).2.next.next) := by unfold nodeD; rw [e0]; simp only [optD, if_neg hh]
        repeat (first | ((with_reducible refine zK ?_); refine zG tbOk rfl rfl rfl rfl ?_) | ((with_reducible refine zL ?_); refine zN tbOk rfl rfl rfl rfl rfl ?_) | ((with_reducible refine zL ?_); refine zc tbOk rfl rfl rfl rfl (Nat.le_of_ble_eq_true rfl) ?_) | ((with_reducible refine yG ?_); refine yH tbOk rfl rfl rfl rfl rfl (by omega) rfl rfl rfl ?_) | refine zB rfl ?_ | with_reducible refine zC ?_ | with_reducible refine zR ?_ | ((with_reducible refine zA ?_ ?_); kernel_rfl))
        refine yV tbOk rfl rfl rfl rfl rfl (by decide) rfl rfl rfl rfl rfl (fun x hx => by simp at hx; subst hx; rfl) (by simp only [List.length_map, List.length_cons, List.length_nil]; omega) (by simp only [List.length_map, List.length_cons, List.length_nil]; omega) ?_
        repeat (first | ((with_reducible refine zI ?_); refine zH rfl ?_) | ((with_reducible refine zE ?_); refine zD rfl ?_) | ((with_reducible refine zK ?_); refine zG tbOk rfl rfl rfl rfl ?_) | ((with_reducible refine zd ?_); refine zf tbOk rfl rfl rfl rfl rfl rfl rfl (Nat.le_of_ble_eq_true rfl) rfl ?_) | ((with_reducible refine zM ?_); refine ze rfl rfl (by omega) ?_)  | refine zJ ?_ | refine zB rfl ?_ | with_reducible refine zC ?_ | with_reducible refine zk ?_ | ((with_reducible refine zA ?_ ?_); kernel_rfl))
        exact ⟨i + 1, ⟨hv0, by omega⟩, by omega, ⟨rfl, rfl, rfl, rfl, rfl, rfl, trivial⟩, ⟨qs (by rw [yZ, eN]), rfl, rfl, rfl, rfl, jJ (by rw [yZ, eN, List.map_append]; rfl), trivial⟩⟩
  obtain rfl : i = netK D nodes := by simp at h; omega
  refine jp (s := 48) [] [(7, [.sl 3 ((net1 D nodes).1.map Nd.av), .v (.slice none 0 0)])] rfl trivial ⟨⟨_, _, rfl, .hit (.same .nil)⟩, trivial⟩ ?_
  refine awp_own_at (s := 900) 59 5 [] [(7, [.sl 3 ((net1 D nodes).1.map Nd.av), .own 900 (v 900 + 1)])] rfl trivial ⟨⟨_, _, rfl, .same (.hit .nil)⟩, trivial⟩ ?_
  obtain ⟨NN, hNN⟩ : ∃ NN, NN = (net1 D nodes).1.map Nd.av := ⟨_, rfl⟩
  rw [← hNN]
  have ok2 := net2_ok hD m h1 (by omega)
  repeat (first   | refine zB rfl ?_ | with_reducible refine zC ?_ | with_reducible refine zw ?_ | with_reducible refine zF ?_ | with_reducible refine yJ ?_ | ((with_reducible refine zr ?_ ?_); rfl) | ((with_reducible refine zA ?_ ?_); kernel_rfl))
  with_reducible refine k_makeFunc ?_
  refine x_makeFunc3 (.ptr 7 (v 7) 0) (.ptr 5 (v 5) 0) (.ptr 3 (v 3) 0) rfl rfl rfl ?_
  repeat (first | ((with_reducible refine zI ?_); refine zH rfl ?_) | ((with_reducible refine zE ?_); refine zD rfl ?_)  | refine zJ ?_ | refine zB rfl ?_ | with_reducible refine zC ?_ | with_reducible refine zF ?_ | ((with_reducible refine zA ?_ ?_); kernel_rfl))
  refine x_callVJ (ss := [(7, v 7), (5, v 5), (3, v 3), (refB + 0, v (refB + 0)), (900, v 900 + 1)]) (ss' := [(7, v 7), (5, v 5), (3, v 3), (refB + 0, v (refB + 0)), (900, v 900 + 1 + 1)]) (cs' := [.box [.sl 3 NN, .own 900 (v 900 + 1 + 1)], .box [.v (.int .i64 (m : Nat))], .box [.ptr (refB + 0) (v (refB + 0)) 0], .box (net2 D nodes m).2.cells, .buf 59 5 ((net2 D nodes m).1.map Dv.av)]) (y := .tu []) (add_A NN m ([], (net1 D nodes).2) 5 0 (-1) (net1_ok hD nodes) hm (Nat.zero_le _) (by decide)) rfl (by repeat' (first | exact trivial | exact Ren.v _ | exact Ren.sl _ _ | exact Ren.ep _ | exact Ren.ptr _ _ _ _ rfl | exact Ren.ownr _ _ _ rfl | exact Ren.bs _ _ _ _ _ rfl | refine zO ?_ | refine zQ ?_ | refine zP ?_ | refine ⟨?_, ?_⟩)) (by simp [refB]) ⟨⟨_, rfl, by repeat' (first | exact trivial | exact Ren.v _ | exact Ren.sl _ _ | exact Ren.ep _ | exact Ren.ptr _ _ _ _ rfl | exact Ren.ownr _ _ _ rfl | exact Ren.bs _ _ _ _ _ rfl | refine zO ?_ | refine zQ ?_ | refine zP ?_ | refine ⟨?_, ?_⟩)⟩, ⟨_, rfl, by repeat' (first | exact trivial | exact Ren.v _ | exact Ren.sl _ _ | exact Ren.ep _ | exact Ren.ptr _ _ _ _ rfl | exact Ren.ownr _ _ _ rfl | exact Ren.bs _ _ _ _ _ rfl | refine zO ?_ | refine zQ ?_ | refine zP ?_ | refine ⟨?_, ?_⟩)⟩, ⟨_, rfl, by repeat' (first | exact trivial | exact Ren.v _ | exact Ren.sl _ _ | exact Ren.ep _ | exact Ren.ptr _ _ _ _ rfl | exact Ren.ownr _ _ _ rfl | exact Ren.bs _ _ _ _ _ rfl | refine zO ?_ | refine zQ ?_ | refine zP ?_ | refine ⟨?_, ?_⟩)⟩, ⟨_, rfl, by repeat' (first | exact trivial | exact Ren.v _ | exact Ren.sl _ _ | exact Ren.ep _ | exact Ren.ptr _ _ _ _ rfl | exact Ren.ownr _ _ _ rfl | exact Ren.bs _ _ _ _ _ rfl | refine zO ?_ | refine zQ ?_ | refine zP ?_ | refine ⟨?_, ?_⟩)⟩, rfl, trivial⟩ ⟨⟨⟨rfl, rfl⟩, _, rfl, by repeat' (first | exact trivial | exact RenB.v _ | exact RenB.sl _ _ | exact RenB.ep _ | exact RenB.ptr _ _ _ _ rfl | exact RenB.own _ _ _ rfl | refine zW ?_ | refine zX ?_ | refine ⟨?_, ?_⟩)⟩, ⟨⟨rfl, rfl⟩, _, rfl, by repeat' (first | exact trivial | exact RenB.v _ | exact RenB.sl _ _ | exact RenB.ep _ | exact RenB.ptr _ _ _ _ rfl | exact RenB.own _ _ _ rfl | refine zW ?_ | refine zX ?_ | refine ⟨?_, ?_⟩)⟩, ⟨⟨rfl, rfl⟩, _, rfl, by repeat' (first | exact trivial | exact RenB.v _ | exact RenB.sl _ _ | exact RenB.ep _ | exact RenB.ptr _ _ _ _ rfl | exact RenB.own _ _ _ rfl | refine zW ?_ | refine zX ?_ | refine ⟨?_, ?_⟩)⟩, ⟨⟨rfl, rfl⟩, _, rfl, by repeat' (first | exact trivial | exact RenB.v _ | exact RenB.sl _ _ | exact RenB.ep _ | exact RenB.ptr _ _ _ _ rfl | exact RenB.own _ _ _ rfl | refine zW ?_ | refine zX ?_ | refine ⟨?_, ?_⟩)⟩, ⟨⟨rfl, rfl⟩, rfl⟩, trivial⟩ (by repeat' (first | exact trivial | exact RenB.v _ | exact RenB.sl _ _ | exact RenB.ep _ | exact RenB.ptr _ _ _ _ rfl | exact RenB.own _ _ _ rfl | refine zW ?_ | refine zX ?_ | refine ⟨?_, ?_⟩)) ?_
  repeat (first | ((with_reducible refine zE ?_); refine zD rfl ?_)  | refine zJ ?_ | refine zB rfl ?_ | with_reducible refine zC ?_ | with_reducible refine zF ?_ | with_reducible refine zY ?_ | ((with_reducible refine zA ?_ ?_); kernel_rfl))
  clear hE hLl h
  refine qI (ι := Nat) (fun v j => v (refB + 0) = 0 ∧ j + 1 ≤ netK D nodes) (fun j => netK D nodes - j) (fun v j => [(3, .ptr 3 (v 3) 0), (5, .ptr 5 (v 5) 0), (6, .ptr 6 (v 6) 0), (7, .ptr 7 (v 7) 0), (8, .v (.int .i64 (netK D nodes : Nat))), (11, .fn 25 [.ptr 7 (v 7) 0, .ptr 5 (v 5) 0, .ptr 3 (v 3) 0]), (12, .v (.int .i64 ((j + 1 : Nat) : Int)))]) (fun v j => [(refB + 0, .box (chainsD m (net2 D nodes m) j).2.cells), (3, .box [.ptr (refB + 0) (v (refB + 0)) 0]), (5, .box [.v (.int .i64 (m : Nat))]), (6, .box [.v (.slice none 0 0), .v (.slice none 0 0)]), (7, .box [.sl 3 NN, .own 900 (v 900)]), (900, .buf 59 5 ((chainsD m (net2 D nodes m) j).1.map Dv.av))]) ?_ ?_
  · exact ⟨0, ⟨hv0, by omega⟩, trivial, ⟨rfl, rfl, rfl, rfl, rfl, rfl, rfl, trivial⟩, ⟨rfl, rfl, rfl, rfl, rfl, rfl, trivial⟩⟩
  clear hv0 v hi
  rintro v j ⟨hv0, hj⟩
  have okj := chainsD_ok ok2 (by omega) j (by omega)
  have eC : chainsD m (net2 D nodes m) (j + 1) = chainD m (chainsD m (net2 D nodes m) j) (j + 1) := rfl
  unfold chainD at eC
  obtain ⟨r, hr⟩ : ∃ r, r = chainsD m (net2 D nodes m) j := ⟨_, rfl⟩
  rw [← hr] at eC okj ⊢
  have hE := okj.dk
  have hlen := okj.len
  repeat (first | ((with_reducible refine zI ?_); refine zH rfl ?_) | ((with_reducible refine zM ?_); refine zV rfl rfl rfl ?_)  | refine zJ ?_ | refine zB rfl ?_ | with_reducible refine zC ?_ | with_reducible refine zF ?_ | ((with_reducible refine zA ?_ ?_); kernel_rfl))
  refine zm rfl (fun h => ?_) (fun h => ?_)
  · have hlt : j + 1 < netK D nodes := by simp at h; omega
    repeat (first | ((with_reducible refine zI ?_); refine zH rfl ?_) | ((with_reducible refine zE ?_); refine zD rfl ?_) | ((with_reducible refine zL ?_); refine zN tbOk rfl rfl rfl rfl rfl ?_) | ((with_reducible refine zM ?_); refine jN rfl rfl (by omega) ?_)  | refine zJ ?_ | refine zB rfl ?_ | with_reducible refine zC ?_ | with_reducible refine zF ?_ | with_reducible refine zY ?_ | with_reducible refine zR ?_ | ((with_reducible refine zA ?_ ?_); kernel_rfl))
    refine yX (ss := [(refB + 0, v (refB + 0))]) (one_A r.2 3 hE (by omega) (by omega)) (by repeat' (first | exact trivial | exact Ren.v _ | exact Ren.sl _ _ | exact Ren.ep _ | exact Ren.ptr _ _ _ _ rfl | exact Ren.bs _ _ _ _ _ rfl | exact Ren.nil _ | exact Ren.own _ _ _ _ ⟨_, rfl⟩ | refine zO ?_ | refine zQ ?_ | refine zP ?_ | refine ⟨?_, ?_⟩)) (by simp) (in1 rfl rfl) rfl (yn rfl) (by repeat' (first | exact trivial | exact RenB.v _ | exact RenB.sl _ _ | exact RenB.ep _ | exact RenB.ptr _ _ _ _ rfl | refine zW ?_ | refine zX ?_ | refine ⟨?_, ?_⟩)) ?_
    repeat (first   | refine zJ ?_ | with_reducible refine zC ?_ )
    refine zm rfl (fun h => ?_) (fun h => ?_)
    · have h0 : r.2.val 3 = 0 := by simpa using h
      have eb : backD r.2 (j + 1) = (r.2.next.val ((j + 1 : Nat) : Int), r.2.next.next) := by unfold backD; rw [if_pos h0]
      rw [eb] at eC
      have r3 := r.2.next.next.in_ (n := 3) (by decide) (by decide)
      repeat (first | ((with_reducible refine zI ?_); refine zH rfl ?_) | ((with_reducible refine zL ?_); refine zN tbOk rfl rfl rfl rfl rfl ?_)  | refine zB rfl ?_  | ((with_reducible refine zA ?_ ?_); kernel_rfl))
      refine yX (ss := [(refB + 0, v (refB + 0))]) (yz r.2.next ((j + 1 : Nat) : Int) hE.next (by omega) (by omega)) (by repeat' (first | exact trivial | exact Ren.v _ | exact Ren.sl _ _ | exact Ren.ep _ | exact Ren.ptr _ _ _ _ rfl | exact Ren.bs _ _ _ _ _ rfl | exact Ren.nil _ | exact Ren.own _ _ _ _ ⟨_, rfl⟩ | refine zO ?_ | refine zQ ?_ | refine zP ?_ | refine ⟨?_, ?_⟩)) (by simp) (in1 rfl rfl) rfl (yn rfl) (by repeat' (first | exact trivial | exact RenB.v _ | exact RenB.sl _ _ | exact RenB.ep _ | exact RenB.ptr _ _ _ _ rfl | refine zW ?_ | refine zX ?_ | refine ⟨?_, ?_⟩)) ?_
      repeat (first | ((with_reducible refine zI ?_); refine zH rfl ?_) | ((with_reducible refine zE ?_); refine zD rfl ?_) | ((with_reducible refine zL ?_); refine zN tbOk rfl rfl rfl rfl rfl ?_)  | refine zJ ?_ | refine zB rfl ?_ | with_reducible refine zC ?_ | ((with_reducible refine zA ?_ ?_); kernel_rfl))
      refine yX (ss := [(refB + 0, v (refB + 0))]) (yz r.2.next.next 3 hE.next.next (by omega) (by omega)) (by repeat' (first | exact trivial | exact Ren.v _ | exact Ren.sl _ _ | exact Ren.ep _ | exact Ren.ptr _ _ _ _ rfl | exact Ren.bs _ _ _ _ _ rfl | exact Ren.nil _ | exact Ren.own _ _ _ _ ⟨_, rfl⟩ | refine zO ?_ | refine zQ ?_ | refine zP ?_ | refine ⟨?_, ?_⟩)) (by simp) (in1 rfl rfl) rfl (yn rfl) (by repeat' (first | exact trivial | exact RenB.v _ | exact RenB.sl _ _ | exact RenB.ep _ | exact RenB.ptr _ _ _ _ rfl | refine zW ?_ | refine zX ?_ | refine ⟨?_, ?_⟩)) ?_
      repeat (first | ((with_reducible refine zI ?_); refine zH rfl ?_) | ((with_reducible refine zM ?_); refine ze rfl rfl (by omega) ?_)  | refine zB rfl ?_  )
      refine x_callVJ (ss := [(7, v 7), (5, v 5), (3, v 3), (refB + 0, v (refB + 0)), (900, v 900)]) (ss' := [(7, v 7), (5, v 5), (3, v 3), (refB + 0, v (refB + 0)), (900, v 900 + 1)]) (cs' := [.box [.sl 3 NN, .own 900 (v 900 + 1)], .box [.v (.int .i64 (m : Nat))], .box [.ptr (refB + 0) (v (refB + 0)) 0], .box (addD m (r.1, r.2.next.next.next) (1 + r.2.next.next.val 3) (r.2.next.val ((j + 1 : Nat) : Int)) ((j + 1 : Nat) : Int)).2.cells, .buf 59 5 ((addD m (r.1, r.2.next.next.next) (1 + r.2.next.next.val 3) (r.2.next.val ((j + 1 : Nat) : Int)) ((j + 1 : Nat) : Int)).1.map Dv.av)]) (y := .tu []) (add_A NN m (r.1, r.2.next.next.next) (1 + r.2.next.next.val 3) (r.2.next.val ((j + 1 : Nat) : Int)) ((j + 1 : Nat) : Int) hE.next.next.next hm hlen (by omega)) rfl (by repeat' (first | exact trivial | exact Ren.v _ | exact Ren.sl _ _ | exact Ren.ep _ | exact Ren.ptr _ _ _ _ rfl | exact Ren.ownr _ _ _ rfl | exact Ren.bs _ _ _ _ _ rfl | refine zO ?_ | refine zQ ?_ | refine zP ?_ | refine ⟨?_, ?_⟩)) (by simp [refB]) ⟨⟨_, rfl, by repeat' (first | exact trivial | exact Ren.v _ | exact Ren.sl _ _ | exact Ren.ep _ | exact Ren.ptr _ _ _ _ rfl | exact Ren.ownr _ _ _ rfl | exact Ren.bs _ _ _ _ _ rfl | refine zO ?_ | refine zQ ?_ | refine zP ?_ | refine ⟨?_, ?_⟩)⟩, ⟨_, rfl, by repeat' (first | exact trivial | exact Ren.v _ | exact Ren.sl _ _ | exact Ren.ep _ | exact Ren.ptr _ _ _ _ rfl | exact Ren.ownr _ _ _ rfl | exact Ren.bs _ _ _ _ _ rfl | refine zO ?_ | refine zQ ?_ | refine zP ?_ | refine ⟨?_, ?_⟩)⟩, ⟨_, rfl, by repeat' (first | exact trivial | exact Ren.v _ | exact Ren.sl _ _ | exact Ren.ep _ | exact Ren.ptr _ _ _ _ rfl | exact Ren.ownr _ _ _ rfl | exact Ren.bs _ _ _ _ _ rfl | refine zO ?_ | refine zQ ?_ | refine zP ?_ | refine ⟨?_, ?_⟩)⟩, ⟨_, rfl, by repeat' (first | exact trivial | exact Ren.v _ | exact Ren.sl _ _ | exact Ren.ep _ | exact Ren.ptr _ _ _ _ rfl | exact Ren.ownr _ _ _ rfl | exact Ren.bs _ _ _ _ _ rfl | refine zO ?_ | refine zQ ?_ | refine zP ?_ | refine ⟨?_, ?_⟩)⟩, rfl, trivial⟩ ⟨⟨⟨rfl, rfl⟩, _, rfl, by repeat' (first | exact trivial | exact RenB.v _ | exact RenB.sl _ _ | exact RenB.ep _ | exact RenB.ptr _ _ _ _ rfl | exact RenB.own _ _ _ rfl | refine zW ?_ | refine zX ?_ | refine ⟨?_, ?_⟩)⟩, ⟨⟨rfl, rfl⟩, _, rfl, by repeat' (first | exact trivial | exact RenB.v _ | exact RenB.sl _ _ | exact RenB.ep _ | exact RenB.ptr _ _ _ _ rfl | exact RenB.own _ _ _ rfl | refine zW ?_ | refine zX ?_ | refine ⟨?_, ?_⟩)⟩, ⟨⟨rfl, rfl⟩, _, rfl, by repeat' (first | exact trivial | exact RenB.v _ | exact RenB.sl _ _ | exact RenB.ep _ | exact RenB.ptr _ _ _ _ rfl | exact RenB.own _ _ _ rfl | refine zW ?_ | refine zX ?_ | refine ⟨?_, ?_⟩)⟩, ⟨⟨rfl, rfl⟩, _, rfl, by repeat' (first | exact trivial | exact RenB.v _ | exact RenB.sl _ _ | exact RenB.ep _ | exact RenB.ptr _ _ _ _ rfl | exact RenB.own _ _ _ rfl | refine zW ?_ | refine zX ?_ | refine ⟨?_, ?_⟩)⟩, ⟨⟨rfl, rfl⟩, rfl⟩, trivial⟩ (by repeat' (first | exact trivial | exact RenB.v _ | exact RenB.sl _ _ | exact RenB.ep _ | exact RenB.ptr _ _ _ _ rfl | exact RenB.own _ _ _ rfl | refine zW ?_ | refine zX ?_ | refine ⟨?_, ?_⟩)) ?_
      repeat (first | ((with_reducible refine zI ?_); refine zH rfl ?_) | ((with_reducible refine zE ?_); refine zD rfl ?_) | ((with_reducible refine zM ?_); refine ze rfl rfl (by omega) ?_)  | refine zJ ?_ | refine zB rfl ?_ | with_reducible refine zC ?_ | with_reducible refine zk ?_ | ((with_reducible refine zA ?_ ?_); kernel_rfl))
      exact ⟨j + 1, ⟨hv0, by omega⟩, by omega, ⟨rfl, rfl, rfl, rfl, rfl, rfl, rfl, trivial⟩, ⟨qs (by rw [eC]), rfl, rfl, rfl, rfl, jJ (by rw [eC]), trivial⟩⟩
    · have h0 : ¬ r.2.val 3 = 0 := by simpa using h
      have eb : backD r.2 (j + 1) = (((j + 1 : Nat) : Int) - 1, r.2.next) := by unfold backD; rw [if_neg h0]
      rw [eb] at eC
      have r3 := r.2.next.in_ (n := 3) (by decide) (by decide)
      repeat (first | ((with_reducible refine zI ?_); refine zH rfl ?_) | ((with_reducible refine zL ?_); refine zN tbOk rfl rfl rfl rfl rfl ?_)  | refine zB rfl ?_ | with_reducible refine zC ?_ | with_reducible refine zR ?_ | ((with_reducible refine zA ?_ ?_); kernel_rfl))
      refine yX (ss := [(refB + 0, v (refB + 0))]) (yz r.2.next 3 hE.next (by omega) (by omega)) (by repeat' (first | exact trivial | exact Ren.v _ | exact Ren.sl _ _ | exact Ren.ep _ | exact Ren.ptr _ _ _ _ rfl | exact Ren.bs _ _ _ _ _ rfl | exact Ren.nil _ | exact Ren.own _ _ _ _ ⟨_, rfl⟩ | refine zO ?_ | refine zQ ?_ | refine zP ?_ | refine ⟨?_, ?_⟩)) (by simp) (in1 rfl rfl) rfl (yn rfl) (by repeat' (first | exact trivial | exact RenB.v _ | exact RenB.sl _ _ | exact RenB.ep _ | exact RenB.ptr _ _ _ _ rfl | refine zW ?_ | refine zX ?_ | refine ⟨?_, ?_⟩)) ?_
      repeat (first | ((with_reducible refine zI ?_); refine zH rfl ?_) | ((with_reducible refine zM ?_); refine ze rfl rfl (by omega) ?_)  | refine zB rfl ?_  )
      refine x_callVJ (ss := [(7, v 7), (5, v 5), (3, v 3), (refB + 0, v (refB + 0)), (900, v 900)]) (ss' := [(7, v 7), (5, v 5), (3, v 3), (refB + 0, v (refB + 0)), (900, v 900 + 1)]) (cs' := [.box [.sl 3 NN, .own 900 (v 900 + 1)], .box [.v (.int .i64 (m : Nat))], .box [.ptr (refB + 0) (v (refB + 0)) 0], .box (addD m (r.1, r.2.next.next) (1 + r.2.next.val 3) (((j + 1 : Nat) : Int) - 1) ((j + 1 : Nat) : Int)).2.cells, .buf 59 5 ((addD m (r.1, r.2.next.next) (1 + r.2.next.val 3) (((j + 1 : Nat) : Int) - 1) ((j + 1 : Nat) : Int)).1.map Dv.av)]) (y := .tu []) (add_A NN m (r.1, r.2.next.next) (1 + r.2.next.val 3) (((j + 1 : Nat) : Int) - 1) ((j + 1 : Nat) : Int) hE.next.next hm hlen (by omega)) rfl (by repeat' (first | exact trivial | exact Ren.v _ | exact Ren.sl _ _ | exact Ren.ep _ | exact Ren.ptr _ _ _ _ rfl | exact Ren.ownr _ _ _ rfl | exact Ren.bs _ _ _ _ _ rfl | refine zO ?_ | refine zQ ?_ | refine zP ?_ | refine ⟨?_, ?_⟩)) (by simp [refB]) ⟨⟨_, rfl, by repeat' (first | exact trivial | exact Ren.v _ | exact Ren.sl _ _ | exact Ren.ep _ | exact Ren.ptr _ _ _ _ rfl | exact Ren.ownr _ _ _ rfl | exact Ren.bs _ _ _ _ _ rfl | refine zO ?_ | refine zQ ?_ | refine zP ?_ | refine ⟨?_, ?_⟩)⟩, ⟨_, rfl, by repeat' (first | exact trivial | exact Ren.v _ | exact Ren.sl _ _ | exact Ren.ep _ | exact Ren.ptr _ _ _ _ rfl | exact Ren.ownr _ _ _ rfl | exact Ren.bs _ _ _ _ _ rfl | refine zO ?_ | refine zQ ?_ | refine zP ?_ | refine ⟨?_, ?_⟩)⟩, ⟨_, rfl, by repeat' (first | exact trivial | exact Ren.v _ | exact Ren.sl _ _ | exact Ren.ep _ | exact Ren.ptr _ _ _ _ rfl | exact Ren.ownr _ _ _ rfl | exact Ren.bs _ _ _ _ _ rfl | refine zO ?_ | refine zQ ?_ | refine zP ?_ | refine ⟨?_, ?_⟩)⟩, ⟨_, rfl, by repeat' (first | exact trivial | exact Ren.v _ | exact Ren.sl _ _ | exact Ren.ep _ | exact Ren.ptr _ _ _ _ rfl | exact Ren.ownr _ _ _ rfl | exact Ren.bs _ _ _ _ _ rfl | refine zO ?_ | refine zQ ?_ | refine zP ?_ | refine ⟨?_, ?_⟩)⟩, rfl, trivial⟩ ⟨⟨⟨rfl, rfl⟩, _, rfl, by repeat' (first | exact trivial | exact RenB.v _ | exact RenB.sl _ _ | exact RenB.ep _ | exact RenB.ptr _ _ _ _ rfl | exact RenB.own _ _ _ rfl | refine zW ?_ | refine zX ?_ | refine ⟨?_, ?_⟩)⟩, ⟨⟨rfl, rfl⟩, _, rfl, by repeat' (first | exact trivial | exact RenB.v _ | exact RenB.sl _ _ | exact RenB.ep _ | exact RenB.ptr _ _ _ _ rfl | exact RenB.own _ _ _ rfl | refine zW ?_ | refine zX ?_ | refine ⟨?_, ?_⟩)⟩, ⟨⟨rfl, rfl⟩, _, rfl, by repeat' (first | exact trivial | exact RenB.v _ | exact RenB.sl _ _ | exact RenB.ep _ | exact RenB.ptr _ _ _ _ rfl | exact RenB.own _ _ _ rfl | refine zW ?_ | refine zX ?_ | refine ⟨?_, ?_⟩)⟩, ⟨⟨rfl, rfl⟩, _, rfl, by repeat' (first | exact trivial | exact RenB.v _ | exact RenB.sl _ _ | exact RenB.ep _ | exact RenB.ptr _ _ _ _ rfl | exact RenB.own _ _ _ rfl | refine zW ?_ | refine zX ?_ | refine ⟨?_, ?_⟩)⟩, ⟨⟨rfl, rfl⟩, rfl⟩, trivial⟩ (by repeat' (first | exact trivial | exact RenB.v _ | exact RenB.sl _ _ | exact RenB.ep _ | exact RenB.ptr _ _ _ _ rfl | exact RenB.own _ _ _ rfl | refine zW ?_ | refine zX ?_ | refine ⟨?_, ?_⟩)) ?_
      repeat (first | ((with_reducible refine zI ?_); refine zH rfl ?_) | ((with_reducible refine zE ?_); refine zD rfl ?_) | ((with_reducible refine zM ?_); refine ze rfl rfl (by omega) ?_)  | refine zJ ?_ | refine zB rfl ?_ | with_reducible refine zC ?_ | with_reducible refine zk ?_ | ((with_reducible refine zA ?_ ?_); kernel_rfl))
      exact ⟨j + 1, ⟨hv0, by omega⟩, by omega, ⟨rfl, rfl, rfl, rfl, rfl, rfl, rfl, trivial⟩, ⟨qs (by rw [eC]), rfl, rfl, rfl, rfl, jJ (by rw [eC]), trivial⟩⟩
  have hjK : j = netK D nodes - 1 := by simp at h; omega
  have e3 : r = net3 D nodes m := by rw [hr, hjK]; rfl
  rw [e3]
  clear eC hr hlen hE okj h hjK hj e3 r
  have ok3 := net3_ok hD m h1 (by omega)
  have rc := (net3 D nodes m).2.in_ (n := 4) (by decide) (by decide)
  repeat (first | ((with_reducible refine zL ?_); refine zN tbOk rfl rfl rfl rfl rfl ?_)  | refine zB rfl ?_ | with_reducible refine zC ?_ | with_reducible refine zw ?_ | with_reducible refine zF ?_ | with_reducible refine yJ ?_ | ((with_reducible refine zr ?_ ?_); rfl) | ((with_reducible refine zA ?_ ?_); kernel_rfl))
  refine yX (ss := [(refB + 0, v (refB + 0))]) (yz (net3 D nodes m).2 4 ok3.dk (by omega) (by omega)) (by repeat' (first | exact trivial | exact Ren.v _ | exact Ren.sl _ _ | exact Ren.ep _ | exact Ren.ptr _ _ _ _ rfl | exact Ren.bs _ _ _ _ _ rfl | exact Ren.nil _ | exact Ren.own _ _ _ _ ⟨_, rfl⟩ | refine zO ?_ | refine zQ ?_ | refine zP ?_ | refine ⟨?_, ?_⟩)) (by simp) (in1 rfl rfl) rfl (yn rfl) (by repeat' (first | exact trivial | exact RenB.v _ | exact RenB.sl _ _ | exact RenB.ep _ | exact RenB.ptr _ _ _ _ rfl | refine zW ?_ | refine zX ?_ | refine ⟨?_, ?_⟩)) ?_
  repeat (first | ((with_reducible refine zE ?_); refine zD rfl ?_)  | refine zJ ?_ | refine zB rfl ?_ | with_reducible refine zC ?_ | with_reducible refine zY ?_ )
  obtain ⟨c, hc⟩ : ∃ c, c = (net3 D nodes m).2.val 4 := ⟨_, rfl⟩
  rw [← hc] at rc ⊢
  refine qI (ι := Nat) (fun v j => v (refB + 0) = 0 ∧ (j : Int) ≤ c) (fun j => (c).toNat - j) (fun v j => [(3, .ptr 3 (v 3) 0), (5, .ptr 5 (v 5) 0), (6, .ptr 6 (v 6) 0), (7, .ptr 7 (v 7) 0), (8, .v (.int .i64 (netK D nodes : Nat))), (11, .fn 25 [.ptr 7 (v 7) 0, .ptr 5 (v 5) 0, .ptr 3 (v 3) 0]), (14, .v (.int .i64 (c - (j : Int))))]) (fun v j => [(refB + 0, .box (iterD (qn m ((netK D nodes : Nat) : Int)) ((net3 D nodes m).1, (net3 D nodes m).2.next) j).2.cells), (3, .box [.ptr (refB + 0) (v (refB + 0)) 0]), (5, .box [.v (.int .i64 (m : Nat))]), (6, .box [.v (.slice none 0 0), .v (.slice none 0 0)]), (7, .box [.sl 3 NN, .own 900 (v 900)]), (900, .buf 59 5 ((iterD (qn m ((netK D nodes : Nat) : Int)) ((net3 D nodes m).1, (net3 D nodes m).2.next) j).1.map Dv.av))]) ?_ ?_
  · exact ⟨0, ⟨hv0, by omega⟩, trivial, ⟨rfl, rfl, rfl, rfl, rfl, rfl, congrArg (fun z : Int => AV.v (.int .i64 z)) (by omega), trivial⟩, ⟨rfl, rfl, rfl, rfl, rfl, rfl, trivial⟩⟩
  clear hv0 v
  rintro v j ⟨hv0, hj⟩
  have okj := iterD_ok (Q := VsOk m ((netK D nodes : Nat) : Int)) (f := qn m ((netK D nodes : Nat) : Int)) (ok3.dk' ok3.dk.next) (fun r hr => extraD_ok hr (by omega) (by omega)) j
  obtain ⟨r, hr⟩ : ∃ r, r = iterD (qn m ((netK D nodes : Nat) : Int)) ((net3 D nodes m).1, (net3 D nodes m).2.next) j := ⟨_, rfl⟩
  have eC : iterD (qn m ((netK D nodes : Nat) : Int)) ((net3 D nodes m).1, (net3 D nodes m).2.next) (j + 1) = qn m ((netK D nodes : Nat) : Int) r := by rw [hr]; rfl
  generalize hq : qn m ((netK D nodes : Nat) : Int) r = q at eC
  unfold qn at hq
  rw [← hr] at okj ⊢
  have hE := okj.dk
  have hlen := okj.len
  repeat (first | ((with_reducible refine zI ?_); refine zH rfl ?_) | ((with_reducible refine zM ?_); refine zV rfl rfl rfl ?_)  | refine zJ ?_ | refine zB rfl ?_ | with_reducible refine zC ?_ | with_reducible refine zF ?_ | ((with_reducible refine zA ?_ ?_); kernel_rfl))
  refine zm rfl (fun h => ?_) (fun h => ?_)
  · have hlt : (j : Int) < c := by simp at h; omega
    have r4 := r.2.in_ (n := 4) (by decide) (by decide)
    have ra := r.2.next.in_ (n := ((netK D nodes : Nat) : Int)) (by omega) (by omega)
    have rb := r.2.next.next.in_ (n := ((netK D nodes : Nat) : Int) - 1) (by omega) (by omega)
    have rk := r.2.next.next.next.in_ (n := 3) (by decide) (by decide)
    repeat (first | ((with_reducible refine zL ?_); refine zN tbOk rfl rfl rfl rfl rfl ?_)  | refine zB rfl ?_ | with_reducible refine zC ?_ | with_reducible refine zF ?_ | with_reducible refine zY ?_ | with_reducible refine zR ?_ | ((with_reducible refine zA ?_ ?_); kernel_rfl))
    refine yX (ss := [(refB + 0, v (refB + 0))]) (yz r.2 4 hE (by omega) (by omega)) (by repeat' (first | exact trivial | exact Ren.v _ | exact Ren.sl _ _ | exact Ren.ep _ | exact Ren.ptr _ _ _ _ rfl | exact Ren.bs _ _ _ _ _ rfl | exact Ren.nil _ | exact Ren.own _ _ _ _ ⟨_, rfl⟩ | refine zO ?_ | refine zQ ?_ | refine zP ?_ | refine ⟨?_, ?_⟩)) (by simp) (in1 rfl rfl) rfl (yn rfl) (by repeat' (first | exact trivial | exact RenB.v _ | exact RenB.sl _ _ | exact RenB.ep _ | exact RenB.ptr _ _ _ _ rfl | refine zW ?_ | refine zX ?_ | refine ⟨?_, ?_⟩)) ?_
    repeat (first | ((with_reducible refine zE ?_); refine zD rfl ?_) | ((with_reducible refine zM ?_); refine zV rfl rfl rfl ?_)  | refine zJ ?_ | refine zB rfl ?_ | with_reducible refine zC ?_ | with_reducible refine zF ?_ | with_reducible refine zY ?_ | ((with_reducible refine zA ?_ ?_); kernel_rfl))
    refine zm rfl (fun h => ?_) (fun h => ?_)
    · have h0 : r.2.val 4 = 0 := by simpa using h
      rw [if_pos h0] at hq
      have eb : (r.2.next.val ((netK D nodes : Nat) : Int) + 1 + r.2.next.next.val (((netK D nodes : Nat) : Int) - 1)).tmod ((netK D nodes : Nat) : Int) = (r.2.next.val ((netK D nodes : Nat) : Int) + 1 + r.2.next.next.val (((netK D nodes : Nat) : Int) - 1)) % ((netK D nodes : Nat) : Int) := Int.tmod_eq_emod_of_nonneg (by omega)
      rw [← eb] at hq
      repeat (first | ((with_reducible refine zI ?_); refine zH rfl ?_) | ((with_reducible refine zL ?_); refine zN tbOk rfl rfl rfl rfl rfl ?_)  | refine zB rfl ?_ | with_reducible refine zF ?_ | ((with_reducible refine zA ?_ ?_); kernel_rfl))
      refine yX (ss := [(refB + 0, v (refB + 0))]) (yz r.2.next ((netK D nodes : Nat) : Int) hE.next (by omega) (by omega)) (by repeat' (first | exact trivial | exact Ren.v _ | exact Ren.sl _ _ | exact Ren.ep _ | exact Ren.ptr _ _ _ _ rfl | exact Ren.bs _ _ _ _ _ rfl | exact Ren.nil _ | exact Ren.own _ _ _ _ ⟨_, rfl⟩ | refine zO ?_ | refine zQ ?_ | refine zP ?_ | refine ⟨?_, ?_⟩)) (by simp) (in1 rfl rfl) rfl (yn rfl) (by repeat' (first | exact trivial | exact RenB.v _ | exact RenB.sl _ _ | exact RenB.ep _ | exact RenB.ptr _ _ _ _ rfl | refine zW ?_ | refine zX ?_ | refine ⟨?_, ?_⟩)) ?_
      repeat (first | ((with_reducible refine zI ?_); refine zH rfl ?_) | ((with_reducible refine zE ?_); refine zD rfl ?_) | ((with_reducible refine zL ?_); refine zN tbOk rfl rfl rfl rfl rfl ?_) | ((with_reducible refine zM ?_); refine ze rfl rfl (by omega) ?_) | ((with_reducible refine zM ?_); refine jN rfl rfl (by omega) ?_)  | refine zJ ?_ | refine zB rfl ?_ | with_reducible refine zC ?_ | with_reducible refine zF ?_ | ((with_reducible refine zA ?_ ?_); kernel_rfl))
      refine yX (ss := [(refB + 0, v (refB + 0))]) (yz r.2.next.next (((netK D nodes : Nat) : Int) - 1) hE.next.next (by omega) (by omega)) (by repeat' (first | exact trivial | exact Ren.v _ | exact Ren.sl _ _ | exact Ren.ep _ | exact Ren.ptr _ _ _ _ rfl | exact Ren.bs _ _ _ _ _ rfl | exact Ren.nil _ | exact Ren.own _ _ _ _ ⟨_, rfl⟩ | refine zO ?_ | refine zQ ?_ | refine zP ?_ | refine ⟨?_, ?_⟩)) (by simp) (in1 rfl rfl) rfl (yn rfl) (by repeat' (first | exact trivial | exact RenB.v _ | exact RenB.sl _ _ | exact RenB.ep _ | exact RenB.ptr _ _ _ _ rfl | refine zW ?_ | refine zX ?_ | refine ⟨?_, ?_⟩)) ?_
      repeat (first | ((with_reducible refine zI ?_); refine zH rfl ?_) | ((with_reducible refine zE ?_); refine zD rfl ?_) | ((with_reducible refine zL ?_); refine zN tbOk rfl rfl rfl rfl rfl ?_) | ((with_reducible refine zM ?_); refine ze rfl rfl (by omega) ?_) | ((with_reducible refine zM ?_); refine x_rem rfl rfl (by first | decide | assumption | omega) ?_)  | refine zJ ?_ | refine zB rfl ?_ | with_reducible refine zC ?_ | ((with_reducible refine zA ?_ ?_); kernel_rfl))
      refine yX (ss := [(refB + 0, v (refB + 0))]) (yz r.2.next.next.next 3 hE.next.next.next (by omega) (by omega)) (by repeat' (first | exact trivial | exact Ren.v _ | exact Ren.sl _ _ | exact Ren.ep _ | exact Ren.ptr _ _ _ _ rfl | exact Ren.bs _ _ _ _ _ rfl | exact Ren.nil _ | exact Ren.own _ _ _ _ ⟨_, rfl⟩ | refine zO ?_ | refine zQ ?_ | refine zP ?_ | refine ⟨?_, ?_⟩)) (by simp) (in1 rfl rfl) rfl (yn rfl) (by repeat' (first | exact trivial | exact RenB.v _ | exact RenB.sl _ _ | exact RenB.ep _ | exact RenB.ptr _ _ _ _ rfl | refine zW ?_ | refine zX ?_ | refine ⟨?_, ?_⟩)) ?_
      repeat (first | ((with_reducible refine zI ?_); refine zH rfl ?_) | ((with_reducible refine zM ?_); refine ze rfl rfl (by omega) ?_)  | refine zB rfl ?_  )
      refine x_callVJ (ss := [(7, v 7), (5, v 5), (3, v 3), (refB + 0, v (refB + 0)), (900, v 900)]) (ss' := [(7, v 7), (5, v 5), (3, v 3), (refB + 0, v (refB + 0)), (900, v 900 + 1)]) (cs' := [.box [.sl 3 NN, .own 900 (v 900 + 1)], .box [.v (.int .i64 (m : Nat))], .box [.ptr (refB + 0) (v (refB + 0)) 0], .box (addD m (r.1, r.2.next.next.next.next) (1 + r.2.next.next.next.val 3) (r.2.next.val ((netK D nodes : Nat) : Int)) ((r.2.next.val ((netK D nodes : Nat) : Int) + 1 + r.2.next.next.val (((netK D nodes : Nat) : Int) - 1)).tmod ((netK D nodes : Nat) : Int))).2.cells, .buf 59 5 ((addD m (r.1, r.2.next.next.next.next) (1 + r.2.next.next.next.val 3) (r.2.next.val ((netK D nodes : Nat) : Int)) ((r.2.next.val ((netK D nodes : Nat) : Int) + 1 + r.2.next.next.val (((netK D nodes : Nat) : Int) - 1)).tmod ((netK D nodes : Nat) : Int))).1.map Dv.av)]) (y := .tu []) (add_A NN m (r.1, r.2.next.next.next.next) (1 + r.2.next.next.next.val 3) (r.2.next.val ((netK D nodes : Nat) : Int)) ((r.2.next.val ((netK D nodes : Nat) : Int) + 1 + r.2.next.next.val (((netK D nodes : Nat) : Int) - 1)).tmod ((netK D nodes : Nat) : Int)) hE.next.next.next.next hm hlen (by omega)) rfl (by repeat' (first | exact trivial | exact Ren.v _ | exact Ren.sl _ _ | exact Ren.ep _ | exact Ren.ptr _ _ _ _ rfl | exact Ren.ownr _ _ _ rfl | exact Ren.bs _ _ _ _ _ rfl | refine zO ?_ | refine zQ ?_ | refine zP ?_ | refine ⟨?_, ?_⟩)) (by simp [refB]) ⟨⟨_, rfl, by repeat' (first | exact trivial | exact Ren.v _ | exact Ren.sl _ _ | exact Ren.ep _ | exact Ren.ptr _ _ _ _ rfl | exact Ren.ownr _ _ _ rfl | exact Ren.bs _ _ _ _ _ rfl | refine zO ?_ | refine zQ ?_ | refine zP ?_ | refine ⟨?_, ?_⟩)⟩, ⟨_, rfl, by repeat' (first | exact trivial | exact Ren.v _ | exact Ren.sl _ _ | exact Ren.ep _ | exact Ren.ptr _ _ _ _ rfl | exact Ren.ownr _ _ _ rfl | exact Ren.bs _ _ _ _ _ rfl | refine zO ?_ | refine zQ ?_ | refine zP ?_ | refine ⟨?_, ?_⟩)⟩, ⟨_, rfl, by repeat' (first | exact trivial | exact Ren.v _ | exact Ren.sl _ _ | exact Ren.ep _ | exact Ren.ptr _ _ _ _ rfl | exact Ren.ownr _ _ _ rfl | exact Ren.bs _ _ _ _ _ rfl | refine zO ?_ | refine zQ ?_ | refine zP ?_ | refine ⟨?_, ?_⟩)⟩, ⟨_, rfl, by repeat' (first | exact trivial | exact Ren.v _ | exact Ren.sl _ _ | exact Ren.ep _ | exact Ren.ptr _ _ _ _ rfl | exact Ren.ownr _ _ _ rfl | exact Ren.bs _ _ _ _ _ rfl | refine zO ?_ | refine zQ ?_ | refine zP ?_ | refine ⟨?_, ?_⟩)⟩, rfl, trivial⟩ ⟨⟨⟨rfl, rfl⟩, _, rfl, by repeat' (first | exact trivial | exact RenB.v _ | exact RenB.sl _ _ | exact RenB.ep _ | exact RenB.ptr _ _ _ _ rfl | exact RenB.own _ _ _ rfl | refine zW ?_ | refine zX ?_ | refine ⟨?_, ?_⟩)⟩, ⟨⟨rfl, rfl⟩, _, rfl, by repeat' (first | exact trivial | exact RenB.v _ | exact RenB.sl _ _ | exact RenB.ep _ | exact RenB.ptr _ _ _ _ rfl | exact RenB.own _ _ _ rfl | refine zW ?_ | refine zX ?_ | refine ⟨?_, ?_⟩)⟩, ⟨⟨rfl, rfl⟩, _, rfl, by repeat' (first | exact trivial | exact RenB.v _ | exact RenB.sl _ _ | exact RenB.ep _ | exact RenB.ptr _ _ _ _ rfl | exact RenB.own _ _ _ rfl | refine zW ?_ | refine zX ?_ | refine ⟨?_, ?_⟩)⟩, ⟨⟨rfl, rfl⟩, _, rfl, by repeat' (first | exact trivial | exact RenB.v _ | exact RenB.sl _ _ | exact RenB.ep _ | exact RenB.ptr _ _ _ _ rfl | exact RenB.own _ _ _ rfl | refine zW ?_ | refine zX ?_ | refine ⟨?_, ?_⟩)⟩, ⟨⟨rfl, rfl⟩, rfl⟩, trivial⟩ (by repeat' (first | exact trivial | exact RenB.v _ | exact RenB.sl _ _ | exact RenB.ep _ | exact RenB.ptr _ _ _ _ rfl | exact RenB.own _ _ _ rfl | refine zW ?_ | refine zX ?_ | refine ⟨?_, ?_⟩)) ?_
      repeat (first | ((with_reducible refine zI ?_); refine zH rfl ?_) | ((with_reducible refine zE ?_); refine zD rfl ?_) | ((with_reducible refine zM ?_); refine jN rfl rfl (by omega) ?_)  | refine zJ ?_ | refine zB rfl ?_ | with_reducible refine zC ?_ | with_reducible refine zk ?_ | ((with_reducible refine zA ?_ ?_); kernel_rfl))
      exact ⟨j + 1, ⟨hv0, by omega⟩, by omega, ⟨rfl, rfl, rfl, rfl, rfl, rfl, congrArg (fun z : Int => AV.v (.int .i64 z)) (by omega), trivial⟩, ⟨qs (by rw [eC, ← hq]), rfl, rfl, rfl, rfl, jJ (by rw [eC, ← hq]), trivial⟩⟩
    have h0 : ¬ r.2.val 4 = 0 := by simpa using h
    rw [if_neg h0] at hq
    repeat (first | ((with_reducible refine zE ?_); refine zD rfl ?_) | ((with_reducible refine zM ?_); refine zV rfl rfl rfl ?_)  | refine zJ ?_ | refine zB rfl ?_ | with_reducible refine zC ?_ | with_reducible refine zF ?_ | ((with_reducible refine zA ?_ ?_); kernel_rfl))
    refine zm rfl (fun h => ?_) (fun h => ?_)
    · have h1' : r.2.val 4 = 1 := by simpa using h
      rw [if_pos h1'] at hq
      repeat (first | ((with_reducible refine zI ?_); refine zH rfl ?_) | ((with_reducible refine zL ?_); refine zN tbOk rfl rfl rfl rfl rfl ?_)  | refine zB rfl ?_  | ((with_reducible refine zA ?_ ?_); kernel_rfl))
      refine yX (ss := [(refB + 0, v (refB + 0))]) (yz r.2.next ((netK D nodes : Nat) : Int) hE.next (by omega) (by omega)) (by repeat' (first | exact trivial | exact Ren.v _ | exact Ren.sl _ _ | exact Ren.ep _ | exact Ren.ptr _ _ _ _ rfl | exact Ren.bs _ _ _ _ _ rfl | exact Ren.nil _ | exact Ren.own _ _ _ _ ⟨_, rfl⟩ | refine zO ?_ | refine zQ ?_ | refine zP ?_ | refine ⟨?_, ?_⟩)) (by simp) (in1 rfl rfl) rfl (yn rfl) (by repeat' (first | exact trivial | exact RenB.v _ | exact RenB.sl _ _ | exact RenB.ep _ | exact RenB.ptr _ _ _ _ rfl | refine zW ?_ | refine zX ?_ | refine ⟨?_, ?_⟩)) ?_
      repeat (first   | refine zB rfl ?_  )
      refine x_callVJ (ss := [(7, v 7), (5, v 5), (3, v 3), (refB + 0, v (refB + 0)), (900, v 900)]) (ss' := [(7, v 7), (5, v 5), (3, v 3), (refB + 0, v (refB + 0)), (900, v 900 + 1)]) (cs' := [.box [.sl 3 NN, .own 900 (v 900 + 1)], .box [.v (.int .i64 (m : Nat))], .box [.ptr (refB + 0) (v (refB + 0)) 0], .box (addD m (r.1, r.2.next.next) 5 (r.2.next.val ((netK D nodes : Nat) : Int)) (-1)).2.cells, .buf 59 5 ((addD m (r.1, r.2.next.next) 5 (r.2.next.val ((netK D nodes : Nat) : Int)) (-1)).1.map Dv.av)]) (y := .tu []) (add_A NN m (r.1, r.2.next.next) 5 (r.2.next.val ((netK D nodes : Nat) : Int)) (-1) hE.next.next hm hlen (by decide)) rfl (by repeat' (first | exact trivial | exact Ren.v _ | exact Ren.sl _ _ | exact Ren.ep _ | exact Ren.ptr _ _ _ _ rfl | exact Ren.ownr _ _ _ rfl | exact Ren.bs _ _ _ _ _ rfl | refine zO ?_ | refine zQ ?_ | refine zP ?_ | refine ⟨?_, ?_⟩)) (by simp [refB]) ⟨⟨_, rfl, by repeat' (first | exact trivial | exact Ren.v _ | exact Ren.sl _ _ | exact Ren.ep _ | exact Ren.ptr _ _ _ _ rfl | exact Ren.ownr _ _ _ rfl | exact Ren.bs _ _ _ _ _ rfl | refine zO ?_ | refine zQ ?_ | refine zP ?_ | refine ⟨?_, ?_⟩)⟩, ⟨_, rfl, by repeat' (first | exact trivial | exact Ren.v _ | exact Ren.sl _ _ | exact Ren.ep _ | exact Ren.ptr _ _ _ _ rfl | exact Ren.ownr _ _ _ rfl | exact Ren.bs _ _ _ _ _ rfl | refine zO ?_ | refine zQ ?_ | refine zP ?_ | refine ⟨?_, ?_⟩)⟩, ⟨_, rfl, by repeat' (first | exact trivial | exact Ren.v _ | exact Ren.sl _ _ | exact Ren.ep _ | exact Ren.ptr _ _ _ _ rfl | exact Ren.ownr _ _ _ rfl | exact Ren.bs _ _ _ _ _ rfl | refine zO ?_ | refine zQ ?_ | refine zP ?_ | refine ⟨?_, ?_⟩)⟩, ⟨_, rfl, by repeat' (first | exact trivial | exact Ren.v _ | exact Ren.sl _ _ | exact Ren.ep _ | exact Ren.ptr _ _ _ _ rfl | exact Ren.ownr _ _ _ rfl | exact Ren.bs _ _ _ _ _ rfl | refine zO ?_ | refine zQ ?_ | refine zP ?_ | refine ⟨?_, ?_⟩)⟩, rfl, trivial⟩ ⟨⟨⟨rfl, rfl⟩, _, rfl, by repeat' (first | exact trivial | exact RenB.v _ | exact RenB.sl _ _ | exact RenB.ep _ | exact RenB.ptr _ _ _ _ rfl | exact RenB.own _ _ _ rfl | refine zW ?_ | refine zX ?_ | refine ⟨?_, ?_⟩)⟩, ⟨⟨rfl, rfl⟩, _, rfl, by repeat' (first | exact trivial | exact RenB.v _ | exact RenB.sl _ _ | exact RenB.ep _ | exact RenB.ptr _ _ _ _ rfl | exact RenB.own _ _ _ rfl | refine zW ?_ | refine zX ?_ | refine ⟨?_, ?_⟩)⟩, ⟨⟨rfl, rfl⟩, _, rfl, by repeat' (first | exact trivial | exact RenB.v _ | exact RenB.sl _ _ | exact RenB.ep _ | exact RenB.ptr _ _ _ _ rfl | exact RenB.own _ _ _ rfl | refine zW ?_ | refine zX ?_ | refine ⟨?_, ?_⟩)⟩, ⟨⟨rfl, rfl⟩, _, rfl, by repeat' (first | exact trivial | exact RenB.v _ | exact RenB.sl _ _ | exact RenB.ep _ | exact RenB.ptr _ _ _ _ rfl | exact RenB.own _ _ _ rfl | refine zW ?_ | refine zX ?_ | refine ⟨?_, ?_⟩)⟩, ⟨⟨rfl, rfl⟩, rfl⟩, trivial⟩ (by repeat' (first | exact trivial | exact RenB.v _ | exact RenB.sl _ _ | exact RenB.ep _ | exact RenB.ptr _ _ _ _ rfl | exact RenB.own _ _ _ rfl | refine zW ?_ | refine zX ?_ | refine ⟨?_, ?_⟩)) ?_
      repeat (first | ((with_reducible refine zI ?_); refine zH rfl ?_) | ((with_reducible refine zE ?_); refine zD rfl ?_) | ((with_reducible refine zM ?_); refine jN rfl rfl (by omega) ?_)  | refine zJ ?_ | refine zB rfl ?_ | with_reducible refine zC ?_ | with_reducible refine zk ?_ | ((with_reducible refine zA ?_ ?_); kernel_rfl))
      exact ⟨j + 1, ⟨hv0, by omega⟩, by omega, ⟨rfl, rfl, rfl, rfl, rfl, rfl, congrArg (fun z : Int => AV.v (.int .i64 z)) (by omega), trivial⟩, ⟨qs (by rw [eC, ← hq]), rfl, rfl, rfl, rfl, jJ (by rw [eC, ← hq]), trivial⟩⟩
    have h1' : ¬ r.2.val 4 = 1 := by simpa using h
    rw [if_neg h1'] at hq
    repeat (first | ((with_reducible refine zE ?_); refine zD rfl ?_) | ((with_reducible refine zM ?_); refine zV rfl rfl rfl ?_)  | refine zJ ?_ | refine zB rfl ?_ | with_reducible refine zC ?_ | with_reducible refine zF ?_ | ((with_reducible refine zA ?_ ?_); kernel_rfl))
    refine zm rfl (fun h => ?_) (fun h => ?_)
    · have h2' : r.2.val 4 = 2 := by simpa using h
      rw [if_pos h2'] at hq
      repeat (first | ((with_reducible refine zI ?_); refine zH rfl ?_) | ((with_reducible refine zL ?_); refine zN tbOk rfl rfl rfl rfl rfl ?_)  | refine zB rfl ?_  | ((with_reducible refine zA ?_ ?_); kernel_rfl))
      refine yX (ss := [(refB + 0, v (refB + 0))]) (yz r.2.next ((netK D nodes : Nat) : Int) hE.next (by omega) (by omega)) (by repeat' (first | exact trivial | exact Ren.v _ | exact Ren.sl _ _ | exact Ren.ep _ | exact Ren.ptr _ _ _ _ rfl | exact Ren.bs _ _ _ _ _ rfl | exact Ren.nil _ | exact Ren.own _ _ _ _ ⟨_, rfl⟩ | refine zO ?_ | refine zQ ?_ | refine zP ?_ | refine ⟨?_, ?_⟩)) (by simp) (in1 rfl rfl) rfl (yn rfl) (by repeat' (first | exact trivial | exact RenB.v _ | exact RenB.sl _ _ | exact RenB.ep _ | exact RenB.ptr _ _ _ _ rfl | refine zW ?_ | refine zX ?_ | refine ⟨?_, ?_⟩)) ?_
      repeat (first   | refine zB rfl ?_  )
      refine x_callVJ (ss := [(7, v 7), (5, v 5), (3, v 3), (refB + 0, v (refB + 0)), (900, v 900)]) (ss' := [(7, v 7), (5, v 5), (3, v 3), (refB + 0, v (refB + 0)), (900, v 900 + 1)]) (cs' := [.box [.sl 3 NN, .own 900 (v 900 + 1)], .box [.v (.int .i64 (m : Nat))], .box [.ptr (refB + 0) (v (refB + 0)) 0], .box (addD m (r.1, r.2.next.next) 6 (r.2.next.val ((netK D nodes : Nat) : Int)) (-1)).2.cells, .buf 59 5 ((addD m (r.1, r.2.next.next) 6 (r.2.next.val ((netK D nodes : Nat) : Int)) (-1)).1.map Dv.av)]) (y := .tu []) (add_A NN m (r.1, r.2.next.next) 6 (r.2.next.val ((netK D nodes : Nat) : Int)) (-1) hE.next.next hm hlen (by decide)) rfl (by repeat' (first | exact trivial | exact Ren.v _ | exact Ren.sl _ _ | exact Ren.ep _ | exact Ren.ptr _ _ _ _ rfl | exact Ren.ownr _ _ _ rfl | exact Ren.bs _ _ _ _ _ rfl | refine zO ?_ | refine zQ ?_ | refine zP ?_ | refine ⟨?_, ?_⟩)) (by simp [refB]) ⟨⟨_, rfl, by repeat' (first | exact trivial | exact Ren.v _ | exact Ren.sl _ _ | exact Ren.ep _ | exact Ren.ptr _ _ _ _ rfl | exact Ren.ownr _ _ _ rfl | exact Ren.bs _ _ _ _ _ rfl | refine zO ?_ | refine zQ ?_ | refine zP ?_ | refine ⟨?_, ?_⟩)⟩, ⟨_, rfl, by repeat' (first | exact trivial | exact Ren.v _ | exact Ren.sl _ _ | exact Ren.ep _ | exact Ren.ptr _ _ _ _ rfl | exact Ren.ownr _ _ _ rfl | exact Ren.bs _ _ _ _ _ rfl | refine zO ?_ | refine zQ ?_ | refine zP ?_ | refine ⟨?_, ?_⟩)⟩, ⟨_, rfl, by repeat' (first | exact trivial | exact Ren.v _ | exact Ren.sl _ _ | exact Ren.ep _ | exact Ren.ptr _ _ _ _ rfl | exact Ren.ownr _ _ _ rfl | exact Ren.bs _ _ _ _ _ rfl | refine zO ?_ | refine zQ ?_ | refine zP ?_ | refine ⟨?_, ?_⟩)⟩, ⟨_, rfl, by repeat' (first | exact trivial | exact Ren.v _ | exact Ren.sl _ _ | exact Ren.ep _ | exact Ren.ptr _ _ _ _ rfl | exact Ren.ownr _ _ _ rfl | exact Ren.bs _ _ _ _ _ rfl | refine zO ?_ | refine zQ ?_ | refine zP ?_ | refine ⟨?_, ?_⟩)⟩, rfl, trivial⟩ ⟨⟨⟨rfl, rfl⟩, _, rfl, by repeat' (first | exact trivial | exact RenB.v _ | exact RenB.sl _ _ | exact RenB.ep _ | exact RenB.ptr _ _ _ _ rfl | exact RenB.own _ _ _ rfl | refine zW ?_ | refine zX ?_ | refine ⟨?_, ?_⟩)⟩, ⟨⟨rfl, rfl⟩, _, rfl, by repeat' (first | exact trivial | exact RenB.v _ | exact RenB.sl _ _ | exact RenB.ep _ | exact RenB.ptr _ _ _ _ rfl | exact RenB.own _ _ _ rfl | refine zW ?_ | refine zX ?_ | refine ⟨?_, ?_⟩)⟩, ⟨⟨rfl, rfl⟩, _, rfl, by repeat' (first | exact trivial | exact RenB.v _ | exact RenB.sl _ _ | exact RenB.ep _ | exact RenB.ptr _ _ _ _ rfl | exact RenB.own _ _ _ rfl | refine zW ?_ | refine zX ?_ | refine ⟨?_, ?_⟩)⟩, ⟨⟨rfl, rfl⟩, _, rfl, by repeat' (first | exact trivial | exact RenB.v _ | exact RenB.sl _ _ | exact RenB.ep _ | exact RenB.ptr _ _ _ _ rfl | exact RenB.own _ _ _ rfl | refine zW ?_ | refine zX ?_ | refine ⟨?_, ?_⟩)⟩, ⟨⟨rfl, rfl⟩, rfl⟩, trivial⟩ (by repeat' (first | exact trivial | exact RenB.v _ | exact RenB.sl _ _ | exact RenB.ep _ | exact RenB.ptr _ _ _ _ rfl | exact RenB.own _ _ _ rfl | refine zW ?_ | refine zX ?_ | refine ⟨?_, ?_⟩)) ?_
      repeat (first | ((with_reducible refine zI ?_); refine zH rfl ?_) | ((with_reducible refine zE ?_); refine zD rfl ?_) | ((with_reducible refine zM ?_); refine jN rfl rfl (by omega) ?_)  | refine zJ ?_ | refine zB rfl ?_ | with_reducible refine zC ?_ | with_reducible refine zk ?_ | ((with_reducible refine zA ?_ ?_); kernel_rfl))
      exact ⟨j + 1, ⟨hv0, by omega⟩, by omega, ⟨rfl, rfl, rfl, rfl, rfl, rfl, congrArg (fun z : Int => AV.v (.int .i64 z)) (by omega), trivial⟩, ⟨qs (by rw [eC, ← hq]), rfl, rfl, rfl, rfl, jJ (by rw [eC, ← hq]), trivial⟩⟩
    have h2' : ¬ r.2.val 4 = 2 := by simpa using h
    rw [if_neg h2'] at hq
    repeat (first | ((with_reducible refine zI ?_); refine zH rfl ?_) | ((with_reducible refine zE ?_); refine zD rfl ?_) | ((with_reducible refine zM ?_); refine jN rfl rfl (by omega) ?_)  | refine zJ ?_ | refine zB rfl ?_ | with_reducible refine zC ?_ | with_reducible refine zk ?_ | with_reducible refine zR ?_ | ((with_reducible refine zA ?_ ?_); kernel_rfl))
    exact ⟨j + 1, ⟨hv0, by omega⟩, by omega, ⟨rfl, rfl, rfl, rfl, rfl, rfl, congrArg (fun z : Int => AV.v (.int .i64 z)) (by omega), trivial⟩, ⟨qs (by rw [eC, ← hq]), rfl, rfl, rfl, rfl, jJ (by rw [eC, ← hq]), trivial⟩⟩
  have hjc : j = c.toNat := by simp at h; omega
  have e4 : r = net4 D nodes m := by rw [hr, hjc, hc]; rfl
  rw [e4]
  clear hq eC hr hlen hE okj h hjc hj e4 r
  have ok4 := net4_ok hD m h1 (by omega)
  have rd := (net4 D nodes m).2.in_ (n := 3) (by decide) (by decide)
  repeat (first | ((with_reducible refine zL ?_); refine zN tbOk rfl rfl rfl rfl rfl ?_)  | refine zB rfl ?_ | with_reducible refine zC ?_ | with_reducible refine zw ?_ | with_reducible refine zF ?_ | with_reducible refine yJ ?_ | ((with_reducible refine zr ?_ ?_); rfl) | ((with_reducible refine zA ?_ ?_); kernel_rfl))
  refine yX (ss := [(refB + 0, v (refB + 0))]) (yz (net4 D nodes m).2 3 ok4.dk (by omega) (by omega)) (by repeat' (first | exact trivial | exact Ren.v _ | exact Ren.sl _ _ | exact Ren.ep _ | exact Ren.ptr _ _ _ _ rfl | exact Ren.bs _ _ _ _ _ rfl | exact Ren.nil _ | exact Ren.own _ _ _ _ ⟨_, rfl⟩ | refine zO ?_ | refine zQ ?_ | refine zP ?_ | refine ⟨?_, ?_⟩)) (by simp) (in1 rfl rfl) rfl (yn rfl) (by repeat' (first | exact trivial | exact RenB.v _ | exact RenB.sl _ _ | exact RenB.ep _ | exact RenB.ptr _ _ _ _ rfl | refine zW ?_ | refine zX ?_ | refine ⟨?_, ?_⟩)) ?_
  repeat (first | ((with_reducible refine zE ?_); refine zD rfl ?_) | ((with_reducible refine zM ?_); refine ze rfl rfl (by omega) ?_)  | refine zJ ?_ | refine zB rfl ?_ | with_reducible refine zC ?_ | with_reducible refine zY ?_ )
  obtain ⟨b, hb⟩ : ∃ b, b = 1 + (net4 D nodes m).2.val 3 := ⟨_, rfl⟩
  have rb0 : 1 ≤ b ∧ b ≤ 3 := by omega
  refine qI (ι := Nat) (fun v j => v (refB + 0) = 0 ∧ (j : Int) ≤ b) (fun j => (b).toNat - j) (fun v j => [(3, .ptr 3 (v 3) 0), (5, .ptr 5 (v 5) 0), (6, .ptr 6 (v 6) 0), (7, .ptr 7 (v 7) 0), (8, .v (.int .i64 (netK D nodes : Nat))), (11, .fn 25 [.ptr 7 (v 7) 0, .ptr 5 (v 5) 0, .ptr 3 (v 3) 0]), (17, .v (.int .i64 (b - (j : Int))))]) (fun v j => [(refB + 0, .box (iterD (earthD m ((netK D nodes : Nat) : Int)) ((net4 D nodes m).1, (net4 D nodes m).2.next) j).2.cells), (3, .box [.ptr (refB + 0) (v (refB + 0)) 0]), (5, .box [.v (.int .i64 (m : Nat))]), (6, .box [.v (.slice none 0 0), .v (.slice none 0 0)]), (7, .box [.sl 3 NN, .own 900 (v 900)]), (900, .buf 59 5 ((iterD (earthD m ((netK D nodes : Nat) : Int)) ((net4 D nodes m).1, (net4 D nodes m).2.next) j).1.map Dv.av))]) ?_ ?_
  · exact ⟨0, ⟨hv0, by omega⟩, trivial, ⟨rfl, rfl, rfl, rfl, rfl, rfl, congrArg (fun z : Int => AV.v (.int .i64 z)) (by omega), trivial⟩, ⟨rfl, rfl, rfl, rfl, rfl, rfl, trivial⟩⟩
  clear hv0 v
  rintro v j ⟨hv0, hj⟩
  have okj := iterD_ok (Q := VsOk m ((netK D nodes : Nat) : Int)) (f := earthD m ((netK D nodes : Nat) : Int)) (ok4.dk' ok4.dk.next) (fun r hr => earthD_ok hr (by omega) (by omega)) j
  obtain ⟨r, hr⟩ : ∃ r, r = iterD (earthD m ((netK D nodes : Nat) : Int)) ((net4 D nodes m).1, (net4 D nodes m).2.next) j := ⟨_, rfl⟩
  have eC : iterD (earthD m ((netK D nodes : Nat) : Int)) ((net4 D nodes m).1, (net4 D nodes m).2.next) (j + 1) = earthD m ((netK D nodes : Nat) : Int) r := by rw [hr]; rfl
  generalize hq : earthD m ((netK D nodes : Nat) : Int) r = q at eC
  unfold earthD at hq
  rw [← hr] at okj ⊢
  have hE := okj.dk
  have hlen := okj.len
  repeat (first | ((with_reducible refine zI ?_); refine zH rfl ?_) | ((with_reducible refine zM ?_); refine zV rfl rfl rfl ?_)  | refine zJ ?_ | refine zB rfl ?_ | with_reducible refine zC ?_ | with_reducible refine zF ?_ | ((with_reducible refine zA ?_ ?_); kernel_rfl))
  refine zm rfl (fun h => ?_) (fun h => ?_)
  · have hlt : (j : Int) < b := by simp at h; omega
    repeat (first | ((with_reducible refine zI ?_); refine zH rfl ?_) | ((with_reducible refine zL ?_); refine zN tbOk rfl rfl rfl rfl rfl ?_)  | refine zB rfl ?_ | with_reducible refine zC ?_ | with_reducible refine zF ?_ | with_reducible refine zY ?_ | with_reducible refine zR ?_ | ((with_reducible refine zA ?_ ?_); kernel_rfl))
    refine yX (ss := [(refB + 0, v (refB + 0))]) (yz r.2 ((netK D nodes : Nat) : Int) hE (by omega) (by omega)) (by repeat' (first | exact trivial | exact Ren.v _ | exact Ren.sl _ _ | exact Ren.ep _ | exact Ren.ptr _ _ _ _ rfl | exact Ren.bs _ _ _ _ _ rfl | exact Ren.nil _ | exact Ren.own _ _ _ _ ⟨_, rfl⟩ | refine zO ?_ | refine zQ ?_ | refine zP ?_ | refine ⟨?_, ?_⟩)) (by simp) (in1 rfl rfl) rfl (yn rfl) (by repeat' (first | exact trivial | exact RenB.v _ | exact RenB.sl _ _ | exact RenB.ep _ | exact RenB.ptr _ _ _ _ rfl | refine zW ?_ | refine zX ?_ | refine ⟨?_, ?_⟩)) ?_
    repeat (first   | refine zB rfl ?_  )
    refine x_callVJ (ss := [(7, v 7), (5, v 5), (3, v 3), (refB + 0, v (refB + 0)), (900, v 900)]) (ss' := [(7, v 7), (5, v 5), (3, v 3), (refB + 0, v (refB + 0)), (900, v 900 + 1)]) (cs' := [.box [.sl 3 NN, .own 900 (v 900 + 1)], .box [.v (.int .i64 (m : Nat))], .box [.ptr (refB + 0) (v (refB + 0)) 0], .box (addD m (r.1, r.2.next) 4 (r.2.val ((netK D nodes : Nat) : Int)) (-1)).2.cells, .buf 59 5 ((addD m (r.1, r.2.next) 4 (r.2.val ((netK D nodes : Nat) : Int)) (-1)).1.map Dv.av)]) (y := .tu []) (add_A NN m (r.1, r.2.next) 4 (r.2.val ((netK D nodes : Nat) : Int)) (-1) hE.next hm hlen (by decide)) rfl (by repeat' (first | exact trivial | exact Ren.v _ | exact Ren.sl _ _ | exact Ren.ep _ | exact Ren.ptr _ _ _ _ rfl | exact Ren.ownr _ _ _ rfl | exact Ren.bs _ _ _ _ _ rfl | refine zO ?_ | refine zQ ?_ | refine zP ?_ | refine ⟨?_, ?_⟩)) (by simp [refB]) ⟨⟨_, rfl, by repeat' (first | exact trivial | exact Ren.v _ | exact Ren.sl _ _ | exact Ren.ep _ | exact Ren.ptr _ _ _ _ rfl | exact Ren.ownr _ _ _ rfl | exact Ren.bs _ _ _ _ _ rfl | refine zO ?_ | refine zQ ?_ | refine zP ?_ | refine ⟨?_, ?_⟩)⟩, ⟨_, rfl, by repeat' (first | exact trivial | exact Ren.v _ | exact Ren.sl _ _ | exact Ren.ep _ | exact Ren.ptr _ _ _ _ rfl | exact Ren.ownr _ _ _ rfl | exact Ren.bs _ _ _ _ _ rfl | refine zO ?_ | refine zQ ?_ | refine zP ?_ | refine ⟨?_, ?_⟩)⟩, ⟨_, rfl, by repeat' (first | exact trivial | exact Ren.v _ | exact Ren.sl _ _ | exact Ren.ep _ | exact Ren.ptr _ _ _ _ rfl | exact Ren.ownr _ _ _ rfl | exact Ren.bs _ _ _ _ _ rfl | refine zO ?_ | refine zQ ?_ | refine zP ?_ | refine ⟨?_, ?_⟩)⟩, ⟨_, rfl, by repeat' (first | exact trivial | exact Ren.v _ | exact Ren.sl _ _ | exact Ren.ep _ | exact Ren.ptr _ _ _ _ rfl | exact Ren.ownr _ _ _ rfl | exact Ren.bs _ _ _ _ _ rfl | refine zO ?_ | refine zQ ?_ | refine zP ?_ | refine ⟨?_, ?_⟩)⟩, rfl, trivial⟩ ⟨⟨⟨rfl, rfl⟩, _, rfl, by repeat' (first | exact trivial | exact RenB.v _ | exact RenB.sl _ _ | exact RenB.ep _ | exact RenB.ptr _ _ _ _ rfl | exact RenB.own _ _ _ rfl | refine zW ?_ | refine zX ?_ | refine ⟨?_, ?_⟩)⟩, ⟨⟨rfl, rfl⟩, _, rfl, by repeat' (first | exact trivial | exact RenB.v _ | exact RenB.sl _ _ | exact RenB.ep _ | exact RenB.ptr _ _ _ _ rfl | exact RenB.own _ _ _ rfl | refine zW ?_ | refine zX ?_ | refine ⟨?_, ?_⟩)⟩, ⟨⟨rfl, rfl⟩, _, rfl, by repeat' (first | exact trivial | exact RenB.v _ | exact RenB.sl _ _ | exact RenB.ep _ | exact RenB.ptr _ _ _ _ rfl | exact RenB.own _ _ _ rfl | refine zW ?_ | refine zX ?_ | refine ⟨?_, ?_⟩)⟩, ⟨⟨rfl, rfl⟩, _, rfl, by repeat' (first | exact trivial | exact RenB.v _ | exact RenB.sl _ _ | exact RenB.ep _ | exact RenB.ptr _ _ _ _ rfl | exact RenB.own _ _ _ rfl | refine zW ?_ | refine zX ?_ | refine ⟨?_, ?_⟩)⟩, ⟨⟨rfl, rfl⟩, rfl⟩, trivial⟩ (by repeat' (first | exact trivial | exact RenB.v _ | exact RenB.sl _ _ | exact RenB.ep _ | exact RenB.ptr _ _ _ _ rfl | exact RenB.own _ _ _ rfl | refine zW ?_ | refine zX ?_ | refine ⟨?_, ?_⟩)) ?_
    repeat (first | ((with_reducible refine zI ?_); refine zH rfl ?_) | ((with_reducible refine zE ?_); refine zD rfl ?_) | ((with_reducible refine zM ?_); refine jN rfl rfl (by omega) ?_)  | refine zJ ?_ | refine zB rfl ?_ | with_reducible refine zC ?_ | with_reducible refine zk ?_ | ((with_reducible refine zA ?_ ?_); kernel_rfl))
    exact ⟨j + 1, ⟨hv0, by omega⟩, by omega, ⟨rfl, rfl, rfl, rfl, rfl, rfl, congrArg (fun z : Int => AV.v (.int .i64 z)) (by omega), trivial⟩, ⟨qs (by rw [eC, ← hq]), rfl, rfl, rfl, rfl, jJ (by rw [eC, ← hq]), trivial⟩⟩
  have hjc : j = b.toNat := by simp at h; omega
  have e5 : r = net5 D nodes m := by rw [hr, hjc, hb]; rfl
  rw [e5]
  refine jp (s := 900) [] [(7, [.sl 3 NN, .sl 5 ((net5 D nodes m).1.map Dv.av)])] rfl trivial ⟨⟨_, _, rfl, .same (.hit .nil)⟩, trivial⟩ ?_
  rw [hNN]
  repeat (first | ((with_reducible refine zL ?_); refine zc tbOk rfl rfl rfl rfl (Nat.le_of_ble_eq_true rfl) ?_) | ((with_reducible refine zd ?_); refine zf tbOk rfl rfl rfl rfl rfl rfl rfl (Nat.le_of_ble_eq_true rfl) rfl ?_)  | refine zJ ?_ | refine zB rfl ?_ | with_reducible refine zC ?_ | with_reducible refine zw ?_ | with_reducible refine zF ?_ | with_reducible refine yJ ?_ | with_reducible refine zU ?_ | ((with_reducible refine zr ?_ ?_); rfl) | ((with_reducible refine zA ?_ ?_); kernel_rfl))
  refine qL (by first | exact .inr rfl | exact .inl rfl) rfl rfl rfl rfl rfl rfl (by first | rfl | assumption) ?_ rfl ?_ rfl
  · rfl
  · rfl
end Go.Proofs.YtggngllfnboehaaGreatDoor
