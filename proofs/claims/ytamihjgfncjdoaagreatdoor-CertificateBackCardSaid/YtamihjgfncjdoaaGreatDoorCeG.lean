/- The text of a certificate, read: which texts are read as which certificate, by plain functions; a printed certificate is read as itself, and what is read is printed as it was; nothing of the program stands here. -/
import Derived.Test.YtamihjgfncjdoaaGreatDoorCeP
import Derived.Test.YtamihjgfncjdoaaGreatDoorGnP
set_option linter.unusedVariables false
set_option linter.unusedSimpArgs false
namespace Go.Proofs.YtamihjgfncjdoaaGreatDoor
open Go Go.RowKit
theorem digit_back {c : UInt8} (h0 : 0 ≤ (c.toNat : Int) - 48) (h9 : (c.toNat : Int) - 48 ≤ 9) : UInt8.ofNat (48 + ((c.toNat : Int) - 48).toNat) = c := by
  have e : 48 + ((c.toNat : Int) - 48).toNat = c.toNat := by omega
  rw [e, UInt8.ofNat_toNat]
theorem numGo_back {most : Int} : ∀ (l : List UInt8) (n m : Int), 0 < n → n ≤ most → numGo most l n = some m → 0 < m ∧ m ≤ most ∧ Lib.decDigits m.toNat = Lib.decDigits n.toNat ++ l
  | [], n, m, h, hm, e => by
    injection e with e
    subst e
    exact ⟨h, hm, by simp⟩
  | c :: r, n, m, h, hm, e => by
    rw [numGo] at e
    unfold numStep at e
    split at e
    · cases e
    rename_i hs
    rw [Option.bind_some] at e
    obtain ⟨a1, a2, a3⟩ := numGo_back r _ m (by omega) (by omega) e
    refine ⟨a1, a2, ?_⟩
    rw [a3, Lib.decDigits, dif_neg (by omega)]
    have e1 : (10 * n + ((c.toNat : Int) - 48)).toNat / 10 = n.toNat := by omega
    have e2 : (10 * n + ((c.toNat : Int) - 48)).toNat % 10 = ((c.toNat : Int) - 48).toNat := by omega
    rw [e1, e2, digit_back (by omega) (by omega), List.append_assoc]
    rfl
/-- What is read as a number is this number's text. -/
theorem numP_back {l : List UInt8} {most n : Int} (h : numP l most = some n) : l = Lib.itoa n ∧ 0 ≤ n ∧ n ≤ most := by
  cases l with
  | nil => cases h
  | cons c r =>
    unfold numP at h
    dsimp only at h
    split at h
    · cases h
    rename_i hb
    rw [numGo] at h
    unfold numStep at h
    split at h
    · cases h
    rename_i hs
    rw [Option.bind_some] at h
    cases r with
    | nil =>
      injection h with h
      have hn : n = (c.toNat : Int) - 48 := by omega
      refine ⟨?_, by omega, by omega⟩
      unfold Lib.itoa
      rw [if_neg (by omega), Lib.decDigits, dif_pos (by omega), hn, digit_back (by omega) (by omega)]
    | cons x r =>
      have hc : c ≠ 48 := fun e => hb ⟨by simp, e⟩
      have hc2 : (c.toNat : Int) - 48 ≠ 0 := fun e => hc (UInt8.toNat_inj.1 (by show c.toNat = 48; omega))
      obtain ⟨a1, a2, a3⟩ := numGo_back (x :: r) _ n (by omega) (by omega) h
      refine ⟨?_, by omega, by omega⟩
      unfold Lib.itoa
      rw [if_neg (by omega), a3, Lib.decDigits, dif_pos (by omega), show (10 * 0 + ((c.toNat : Int) - 48)).toNat = ((c.toNat : Int) - 48).toNat by omega, digit_back (by omega) (by omega)]
      rfl
theorem split_ne : ∀ (l cur : List UInt8), splitL 32 cur l ≠ []
  | [], cur => by simp [splitL]
  | x :: l, cur => by
    rw [splitL]
    split
    · simp
    · exact split_ne l _
/-- The parts of a text, put together again. -/
theorem join_split : ∀ (l cur : List UInt8), joinW (splitL 32 cur l) = cur ++ l
  | [], cur => by rw [splitL, joinW_one, List.append_nil]
  | x :: l, cur => by
    rw [splitL]
    split
    · rename_i h
      subst h
      cases hs : splitL 32 [] l with
      | nil => exact absurd hs (split_ne l [])
      | cons w r => rw [joinW_cons, ← hs, join_split l []]; rfl
    · rw [join_split l (cur ++ [x]), List.append_assoc]; rfl
theorem split_join : ∀ {W : List (List UInt8)}, W ≠ [] → (∀ w ∈ W, (32 : UInt8) ∉ w) → splitL 32 [] (joinW W) = W
  | [], h, _ => absurd rfl h
  | [w], _, h => by rw [joinW_one, splitL_none 32 (h w (by simp))]; rfl
  | w :: x :: r, _, h => by
    rw [joinW_cons, splitL_hit 32 (h w (by simp)), split_join (W := x :: r) (by simp) (fun y hy => h y (by simp only [List.mem_cons] at hy ⊢; exact .inr hy))]
    rfl
theorem split_len : ∀ (l cur : List UInt8), (splitL 32 cur l).length ≤ l.length + 1
  | [], cur => by simp [splitL]
  | x :: l, cur => by
    rw [splitL]
    split
    · have := split_len l []; simp only [List.length_cons]; omega
    · have := split_len l (cur ++ [x]); simp only [List.length_cons]; omega
theorem split_word : ∀ (l cur : List UInt8), ∀ w ∈ splitL 32 cur l, w.length ≤ cur.length + l.length
  | [], cur, w, h => by simp [splitL] at h; subst h; simp
  | x :: l, cur, w, h => by
    rw [splitL] at h
    split at h
    · rcases List.mem_cons.1 h with rfl | h
      · simp
      · have := split_word l [] w h
        simp only [List.length_cons, List.length_nil] at this ⊢
        omega
    · have := split_word l (cur ++ [x]) w h
      simp only [List.length_append, List.length_cons, List.length_nil] at this ⊢
      omega
def openW : List UInt8 := [111, 112, 101, 110]
def closedW : List UInt8 := [99, 108, 111, 115, 101, 100]
def posR (w : List UInt8) : Int := if w = openW then 1 else if w = closedW then 2 else 0
/-- A lock of five words; its device is -1 where the name is not known. -/
def lockR (V : List Dv) (W : List (List UInt8)) : Lk × Bool :=
  (⟨devI (wAt W 1) 0 V, posR (wAt W 2), (numP (wAt W 4) 65536).getD 0⟩, (numP (wAt W 4) 65536).isSome && decide (0 < posR (wAt W 2)) && decide (wAt W 0 = wLock) && !decide (wAt W 1 = []) && decide (wAt W 3 = wKey))
def locksR (V : List Dv) : Nat → List (List UInt8) → List Lk → Option (List Lk)
  | 0, _, L => some L
  | m + 1, W, L => if (lockR V W).2 = true then locksR V m (W.drop 5) (L ++ [(lockR V W).1]) else none
def headR (W : List (List UInt8)) : Prop := 7 ≤ W.length ∧ (W.length - 7) % 5 = 0 ∧ wAt W 0 = wCert ∧ wAt W 3 = wGiver ∧ wAt W 5 = wState
instance (W : List (List UInt8)) : Decidable (headR W) := by unfold headR; infer_instance
def numsR (W : List (List UInt8)) : Bool := (numP (wAt W 1) 65536).isSome && (numP (wAt W 2) 65536).isSome && (numP (wAt W 4) 65536).isSome && (numP (wAt W 6) 65536).isSome
def ceZ : Ce := ⟨0, 0, 0, 0, []⟩
def ceR (W : List (List UInt8)) (L : List Lk) : Ce := ⟨(numP (wAt W 2) 65536).getD 0, (numP (wAt W 1) 65536).getD 0, (numP (wAt W 4) 65536).getD 0, (numP (wAt W 6) 65536).getD 0, L⟩
def readR (V : List Dv) (W : List (List UInt8)) : Option Ce :=
  if headR W ∧ numsR W = true then (locksR V ((W.length - 7) / 5) (W.drop 7) []).map (ceR W) else none
def parseC (N : List Nd) (V : List Dv) (s : List UInt8) : Ce × Int :=
  if netE N V ≠ 0 then (ceZ, netE N V) else match readR V (splitL 32 [] s) with
    | none => (ceZ, 2)
    | some c => if 256 < s.length then (ceZ, 2) else if c.lk.any (fun k => decide (k.d < 0)) = true then (ceZ, 8) else if certE N V c ≠ 0 then (ceZ, certE N V c) else (c, 0)
theorem posR_pos {w : List UInt8} (h : 0 < posR w) : (posR w = 1 ∨ posR w = 2) ∧ posW (posR w) = w := by
  unfold posR at h ⊢
  split
  · rename_i e; exact ⟨.inl rfl, e.symm⟩
  · split
    · rename_i e; exact ⟨.inr rfl, e.symm⟩
    · rename_i e1 e2
      rw [if_neg e1, if_neg e2] at h
      omega
theorem posR_W {p : Int} (h : p = 1 ∨ p = 2) : posR (posW p) = p := by rcases h with rfl | rfl <;> decide
theorem seven {W : List (List UInt8)} (h : 7 ≤ W.length) : W = [wAt W 0, wAt W 1, wAt W 2, wAt W 3, wAt W 4, wAt W 5, wAt W 6] ++ W.drop 7 := by
  match W, h with
  | a :: b :: c :: d :: e :: f :: g :: r, _ => rfl
theorem five {α : Type} {W : List α} (h : W.length = 5) : ∃ a b c d e, W = [a, b, c, d, e] := by
  match W, h with
  | [a, b, c, d, e], _ => exact ⟨a, b, c, d, e, rfl⟩
theorem devI_name : ∀ (V : List Dv) (i : Int) (s : List UInt8), 0 ≤ i → 0 ≤ devI s i V → ∃ k d, devI s i V = i + ((k : Nat) : Int) ∧ V[k]? = some d ∧ d.n.data.toList = s
  | [], i, s, hi, h => by exact absurd h (by show ¬ (0 : Int) ≤ -1; decide)
  | x :: V, i, s, hi, h => by
    rw [devI] at h ⊢
    split
    · rename_i e
      exact ⟨0, x, by simp, rfl, e⟩
    · rename_i e
      rw [if_neg e] at h
      obtain ⟨k, d, h1, h2, h3⟩ := devI_name V (i + 1) s (by omega) h
      exact ⟨k + 1, d, by rw [h1]; push_cast; omega, by simpa using h2, h3⟩
/-- What is read as a lock whose device is known is this lock's words. -/
theorem lockR_words {V : List Dv} {W : List (List UInt8)} (h5 : W.length = 5) (h : (lockR V W).2 = true) (hd : 0 ≤ (lockR V W).1.d) : lkW V (lockR V W).1 = W := by
  obtain ⟨a, b, c, d, e, rfl⟩ := five h5
  unfold lockR at h hd ⊢
  dsimp only [wAt, List.getElem?_cons_zero, List.getElem?_cons_succ, Option.getD_some] at h hd ⊢
  simp only [Bool.and_eq_true] at h
  obtain ⟨⟨⟨⟨h1, h2⟩, h3⟩, h4⟩, h6⟩ := h
  replace h2 := of_decide_eq_true h2
  replace h3 := of_decide_eq_true h3
  replace h6 := of_decide_eq_true h6
  obtain ⟨n, hn⟩ := Option.isSome_iff_exists.1 h1
  obtain ⟨k, x, g1, g2, g3⟩ := devI_name V 0 b (by omega) hd
  unfold lkW
  dsimp only
  rw [hn, Option.getD_some, (posR_pos h2).2, h3, h6, g1]
  have : nameAt V (0 + (k : Int)) = x.n := by
    unfold nameAt
    rw [show (0 + (k : Int)).toNat = k by omega, g2]
  rw [this, g3]
  have ht : txL n = e := by
    rw [(numP_back hn).1]
    simp [txL, txtP]
  rw [ht]
theorem lockR_lkW {V : List Dv} {k : Lk} (hn : (V.map Dv.n).Nodup) (hv : ∀ d ∈ V, nameB d.n.data.toList = true) (h : faultE V k = 0) : lockR V (lkW V k) = (k, true) := by
  have hr := faultE_rng h
  obtain ⟨z, hz⟩ := some_at (L := V) (k := k.d.toNat) (by omega)
  have hnm : nameAt V k.d = z.n := by unfold nameAt; rw [hz]
  have hne := (name_sp (hv z (List.mem_of_getElem? hz))).1
  have hdv := devI_at V 0 k.d.toNat z hn hz
  have ht : txL k.k = Lib.itoa k.k := by simp [txL, txtP]
  have hnum : numP (txL k.k) 65536 = some k.k := by rw [ht, numP_itoa, if_neg (by omega), if_pos (by omega)]
  have q0 : wAt (lkW V k) 0 = wLock := rfl
  have q1 : wAt (lkW V k) 1 = z.n.data.toList := by unfold lkW; rw [hnm]; rfl
  have q2 : wAt (lkW V k) 2 = posW k.p := rfl
  have q3 : wAt (lkW V k) 3 = wKey := rfl
  have q4 : wAt (lkW V k) 4 = txL k.k := rfl
  have hp : 0 < k.p := by omega
  have hd : (0 : Int) + ((k.d.toNat : Nat) : Int) = k.d := by omega
  unfold lockR
  simp only [q0, q1, q2, q3, q4, hdv, hnum, posR_W hr.2.2.2.1, Option.getD_some, Option.isSome_some, hne, hp, hd, decide_true, decide_false, Bool.not_false, Bool.and_true, Bool.true_and]
theorem locksR_out {V : List Dv} : ∀ (m : Nat) (W : List (List UInt8)) (L R : List Lk), W.length = m * 5 → locksR V m W L = some R → (∀ k ∈ R, 0 ≤ k.d) → ∃ Q, R = L ++ Q ∧ Q.flatMap (lkW V) = W
  | 0, W, L, R, hw, h, _ => by
    injection h with h
    have hW : W = [] := List.eq_nil_of_length_eq_zero (by simpa using hw)
    exact ⟨[], by simp [h], by rw [hW]; rfl⟩
  | m + 1, W, L, R, hw, h, hd => by
    rw [locksR] at h
    split at h
    · rename_i h2
      obtain ⟨Q, h3, h4⟩ := locksR_out m (W.drop 5) _ R (by rw [List.length_drop, hw]; omega) h hd
      have hk : (lockR V W).1 ∈ R := by rw [h3]; simp
      have e5 : lockR V W = lockR V (W.take 5) := by
        have hlt : 5 ≤ W.length := by omega
        unfold lockR wAt
        simp only [List.getElem?_take]
        rfl
      have hw5 := lockR_words (V := V) (W := W.take 5) (by rw [List.length_take]; omega) (by rw [← e5]; exact h2) (by rw [← e5]; exact hd _ hk)
      refine ⟨(lockR V W).1 :: Q, by rw [h3]; simp, ?_⟩
      rw [List.flatMap_cons, h4, e5, hw5, List.take_append_drop]
    · cases h
theorem locksR_in {V : List Dv} (hn : (V.map Dv.n).Nodup) (hv : ∀ d ∈ V, nameB d.n.data.toList = true) : ∀ (Q L : List Lk), (∀ k ∈ Q, faultE V k = 0) → locksR V Q.length (Q.flatMap (lkW V)) L = some (L ++ Q)
  | [], L, _ => by simp [locksR]
  | k :: Q, L, h => by
    have h1 := lockR_lkW hn hv (h k (by simp))
    have e5 : lockR V ((k :: Q).flatMap (lkW V)) = lockR V (lkW V k) := by
      rw [List.flatMap_cons]
      unfold lockR wAt lkW
      rfl
    have e6 : ((k :: Q).flatMap (lkW V)).drop 5 = Q.flatMap (lkW V) := rfl
    rw [List.length_cons, locksR, e5, h1, if_pos rfl, e6, locksR_in hn hv Q (L ++ [k]) (fun x hx => h x (by simp [hx])), List.append_assoc]
    rfl
theorem lkW_len5 (V : List Dv) : ∀ L : List Lk, (L.flatMap (lkW V)).length = L.length * 5
  | [] => rfl
  | x :: l => by rw [List.flatMap_cons, List.length_append, lkW_len5 V l, List.length_cons, Nat.succ_mul, Nat.add_comm]; rfl
theorem txL_itoa (n : Int) : txL n = Lib.itoa n := by simp [txL, txtP]
/-- What is read is printed as it was. -/
theorem parse_print {N : List Nd} {V : List Dv} {s : List UInt8} {c : Ce} (h : parseC N V s = (c, 0)) : certE N V c = 0 ∧ joinW (ceW V c) = s ∧ s.length ≤ 256 := by
  unfold parseC at h
  split at h
  · rename_i h0
    injection h with _ h
    exact absurd h h0
  split at h
  · injection h with _ h
    exact absurd h (by decide)
  rename_i c' hc
  split at h
  · injection h with _ h
    exact absurd h (by decide)
  rename_i h256
  split at h
  · injection h with _ h
    exact absurd h (by decide)
  rename_i hany
  split at h
  · rename_i h0
    injection h with _ h
    exact absurd h h0
  rename_i hce
  injection h with h _
  subst h
  refine ⟨by simpa using hce, ?_, by omega⟩
  unfold readR at hc
  split at hc
  · rename_i hh
    obtain ⟨⟨a1, a2, a3, a4, a5⟩, hnum⟩ := hh
    obtain ⟨L, hL, hLc⟩ := Option.map_eq_some_iff.1 hc
    subst hLc
    generalize hW : splitL 32 [] s = W at *
    have hdn : ∀ k ∈ L, 0 ≤ k.d := fun k hk => by
      have h1 : ¬ (L.any (fun k => decide (k.d < 0)) = true) := hany
      rw [List.any_eq_true] at h1
      have : ¬ k.d < 0 := fun e => h1 ⟨k, hk, decide_eq_true e⟩
      omega
    obtain ⟨Q, q1, q2⟩ := locksR_out ((W.length - 7) / 5) (W.drop 7) [] L (by rw [List.length_drop]; omega) hL hdn
    rw [List.nil_append] at q1
    subst q1
    unfold numsR at hnum
    simp only [Bool.and_eq_true] at hnum
    obtain ⟨⟨⟨n1, n2⟩, n4⟩, n6⟩ := hnum
    obtain ⟨x1, m1⟩ := Option.isSome_iff_exists.1 n1
    obtain ⟨x2, m2⟩ := Option.isSome_iff_exists.1 n2
    obtain ⟨x4, m4⟩ := Option.isSome_iff_exists.1 n4
    obtain ⟨x6, m6⟩ := Option.isSome_iff_exists.1 n6
    have hs := join_split s []
    rw [hW, List.nil_append] at hs
    have e : ceW V (ceR W L) = W := by
      unfold ceW ceR
      dsimp only
      rw [m1, m2, m4, m6]
      simp only [Option.getD_some]
      rw [q2, txL_itoa, txL_itoa, txL_itoa, txL_itoa, ← (numP_back m1).1, ← (numP_back m2).1, ← (numP_back m4).1, ← (numP_back m6).1, ← a3, ← a4, ← a5]
      exact (seven a1).symm
    rw [e, hs]
  · cases hc
theorem ceW_sp {N : List Nd} {V : List Dv} {c : Ce} (h : CeOk N V c) : ∀ w ∈ ceW V c, (32 : UInt8) ∉ w := by
  have ht : ∀ n : Int, (32 : UInt8) ∉ txL n := fun n hc => by
    rw [txL_itoa] at hc
    exact itoa_sp n 32 hc rfl
  have hn := net_names h.net
  intro w hw
  unfold ceW at hw
  rcases List.mem_append.1 hw with hw | hw
  · simp only [List.mem_cons, List.not_mem_nil, or_false] at hw
    rcases hw with rfl | rfl | rfl | rfl | rfl | rfl | rfl
    · decide
    · exact ht _
    · exact ht _
    · decide
    · exact ht _
    · decide
    · exact ht _
  · obtain ⟨x, hx, hw⟩ := List.mem_flatMap.1 hw
    have hr := faultE_rng (lksE_rng h.lk x hx)
    obtain ⟨z, hz⟩ := some_at (L := V) (k := x.d.toNat) (by omega)
    have hnm : nameAt V x.d = z.n := by unfold nameAt; rw [hz]
    unfold lkW at hw
    rw [hnm] at hw
    simp only [List.mem_cons, List.not_mem_nil, or_false] at hw
    rcases hw with rfl | rfl | rfl | rfl | rfl
    · decide
    · exact fun hc => (name_sp (hn.1 z (List.mem_of_getElem? hz))).2.1 32 hc rfl
    · unfold posW; split <;> decide
    · decide
    · exact ht _
/-- A printed certificate is read as itself. -/
theorem print_parseC {N : List Nd} {V : List Dv} {c : Ce} (h0 : certE N V c = 0) (hl : (joinW (ceW V c)).length ≤ 256) : parseC N V (joinW (ceW V c)) = (c, 0) := by
  have h := certE_iff.1 h0
  have hn := net_names h.net
  have hsp := split_join (W := ceW V c) (by unfold ceW; simp) (ceW_sp h)
  have h1 := h.num
  have h2 := h.ask
  have h3 := h.giv
  have h4 := h.st
  have hf := lksE_rng h.lk
  have hnum : ∀ n : Int, 0 ≤ n → n ≤ 65536 → numP (txL n) 65536 = some n := fun n a b => by rw [txL_itoa, numP_itoa, if_neg (by omega), if_pos b]
  have w1 : wAt (ceW V c) 1 = txL c.ask := rfl
  have w2 : wAt (ceW V c) 2 = txL c.num := rfl
  have w4 : wAt (ceW V c) 4 = txL c.giv := rfl
  have w6 : wAt (ceW V c) 6 = txL c.st := rfl
  have hlen : (ceW V c).length = 7 + c.lk.length * 5 := by unfold ceW; rw [List.length_append, lkW_len5]; rfl
  have hdr : (ceW V c).drop 7 = c.lk.flatMap (lkW V) := rfl
  have hread : readR V (ceW V c) = some c := by
    unfold readR numsR
    rw [w1, w2, w4, w6, hnum _ (by omega) (by omega), hnum _ (by omega) (by omega), hnum _ (by omega) (by omega), hnum _ (by omega) (by omega)]
    rw [if_pos ⟨⟨by omega, by omega, rfl, rfl, rfl⟩, rfl⟩, hdr, show ((ceW V c).length - 7) / 5 = c.lk.length by omega, locksR_in hn.2 hn.1 c.lk [] hf, List.nil_append]
    unfold ceR
    rw [w1, w2, w4, w6, hnum _ (by omega) (by omega), hnum _ (by omega) (by omega), hnum _ (by omega) (by omega), hnum _ (by omega) (by omega)]
    rfl
  unfold parseC
  rw [if_neg (by rw [h.net]; decide), hsp, hread]
  dsimp only
  rw [if_neg (by omega), if_neg, if_neg (by rw [h0]; decide)]
  intro e
  rw [List.any_eq_true] at e
  obtain ⟨k, hk, hk2⟩ := e
  have := (faultE_rng (hf k hk)).1
  have hk3 : k.d < 0 := of_decide_eq_true hk2
  omega
end Go.Proofs.YtamihjgfncjdoaaGreatDoor
