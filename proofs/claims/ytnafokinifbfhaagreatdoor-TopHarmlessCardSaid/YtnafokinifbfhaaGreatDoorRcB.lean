/- What parts and colours mean, in plain words: nodes are in one part if closed devices that join lead from one to the other; a node is live (earthed) if a closed source (earth) is in its part; nothing is walked here; conditions: none / ref07.Parts, Colours and Faults, by the abstract machine: they answer what the program's functions do; conditions: a valid network, a state of it. -/
import Derived.Test.YtnafokinifbfhaaGreatDoorHzP
import Derived.Test.YtnafokinifbfhaaGreatDoorFdB
import Derived.Test.YtnafokinifbfhaaGreatDoorZg
set_option linter.unusedVariables false
set_option linter.unusedSimpArgs false
namespace Go.Proofs.YtnafokinifbfhaaGreatDoor
open Go Go.RowKit
theorem nS (v : Int) : ∀ (R : List Bool) (w : Nat) (o : List Int) (k : Nat), k < o.length → (qD v w R o)[k]? = if w ≤ k ∧ R.getD (k - w) false = true then some v else o[k]?
  | [], w, o, k, hk => by simp [qD]
  | b :: R, w, o, k, hk => by
    rw [qD, nS v R (w + 1) _ k (by split <;> simp [hk])]
    rcases Nat.lt_trichotomy k w with h | h | h
    · have e3 : (if b = true then o.set w v else o)[k]? = o[k]? := by
        split
        · rw [List.getElem?_set_ne (by omega)]
        · rfl
      have n1 : ¬ (w + 1 ≤ k ∧ R.getD (k - (w + 1)) false = true) := fun h2 => by omega
      have n2 : ¬ (w ≤ k ∧ (b :: R).getD (k - w) false = true) := fun h2 => by omega
      rw [if_neg n1, if_neg n2, e3]
    · subst h
      rw [if_neg (fun h2 => absurd h2.1 (by omega)), Nat.sub_self]
      cases b with
      | true => rw [if_pos rfl, if_pos ⟨Nat.le_refl _, rfl⟩, List.getElem?_set_self hk]
      | false => rw [if_neg (by decide), if_neg (fun h => by simp at h)]
    · have e : k - w = (k - (w + 1)) + 1 := by omega
      have e2 : (b :: R).getD (k - w) false = R.getD (k - (w + 1)) false := by rw [e]; rfl
      have e3 : (if b = true then o.set w v else o)[k]? = o[k]? := by
        split
        · rw [List.getElem?_set_ne (by omega)]
        · rfl
      rw [e2, e3]
      by_cases h2 : R.getD (k - (w + 1)) false = true
      · rw [if_pos ⟨by omega, h2⟩, if_pos ⟨by omega, h2⟩]
      · rw [if_neg (fun h => h2 h.2), if_neg (fun h => h2 h.2)]
section
variable {U : Nat → Bool} {V : List Dv} {n : Nat}
theorem Rch.lt (hV : ∀ d ∈ V, zj d n = true) {v w : Int} (h : Rch U V [v] w) (hv : v < n) : w < n := by
  induction h with
  | base h => simp at h; subst h; exact hv
  | step h hd hu hw h0 ih => exact (oQ (hV _ (List.mem_of_getElem? hd)) hw h0).1
theorem Rch.trans {u v w : Int} (h : Rch U V [u] v) (g : Rch U V [v] w) : Rch U V [u] w := g.tail h
theorem Rch.refl (v : Int) : Rch U V [v] v := .base (by simp)
structure PtInv (U : Nat → Bool) (V : List Dv) (n i : Nat) (o : List Int) : Prop where
  l : o.length = n
  ne : ∀ (x : Nat) (z : Int), o[x]? = some z → z = -1 ∨ ∃ p : Nat, z = p ∧ p < i ∧ p ≤ x ∧ Rch U V [(p : Int)] x
  cl : ∀ (x p : Nat), o[x]? = some (p : Int) → ∀ w : Nat, w < n → Rch U V [(p : Int)] w → o[w]? = some (p : Int)
  lo : ∀ x : Nat, x < i → x < n → ∃ p : Nat, o[x]? = some (p : Int)
theorem ptStep_ok (hV : ∀ d ∈ V, zj d n = true) {i : Nat} {o : List Int} (hi : i < n) (h : PtInv U V n i o) : PtInv U V n (i + 1) (cT U V n i o) := by
  obtain ⟨z, hz⟩ := zB (L := o) (k := i) (by rw [h.l]; exact hi)
  unfold cT
  rw [getD_some hz]
  by_cases h0 : 0 ≤ z
  · rw [if_pos h0]
    refine ⟨h.l, fun x y hy => ?_, h.cl, fun x hx hn => ?_⟩
    · rcases h.ne x y hy with e | ⟨p, e, e2, e3⟩
      · exact .inl e
      · exact .inr ⟨p, e, by omega, e3⟩
    · by_cases e : x = i
      · subst e
        exact ⟨z.toNat, by rw [Int.toNat_of_nonneg h0]; exact hz⟩
      · exact h.lo x (by omega) hn
  · rw [if_neg h0]
    have hL : ∀ v ∈ [(i : Int)], 0 ≤ v ∧ v < n := fun v hv => by simp at hv; subst hv; omega
    have hR : ∀ k : Nat, k < n → ((rd (flood U V n [(i : Int)])).getD k false = true ↔ Rch U V [(i : Int)] k) := fun k hk => by
      have := at0_rch (U := U) hV hL (x := (k : Int)) (by omega) (by omega)
      unfold at0 at this
      rw [Int.toNat_natCast] at this
      rw [rd_getD]
      exact this
    have hg : ∀ k : Nat, k < n → (qD i 0 (rd (flood U V n [(i : Int)])) o)[k]? = if (rd (flood U V n [(i : Int)])).getD k false = true then some (i : Int) else o[k]? := fun k hk => by
      rw [nS _ _ _ _ _ (by rw [h.l]; exact hk), Nat.sub_zero]
      by_cases h2 : (rd (flood U V n [(i : Int)])).getD k false = true
      · rw [if_pos ⟨Nat.zero_le _, h2⟩, if_pos h2]
      · rw [if_neg (fun h => h2 h.2), if_neg h2]
    have hlen : (qD i 0 (rd (flood U V n [(i : Int)])) o).length = n := by rw [gX, h.l]
    refine ⟨hlen, fun x y hy => ?_, fun x p hp w hw hr => ?_, fun x hx hn => ?_⟩
    · have hx := zM hy
      rw [hlen] at hx
      rw [hg x hx] at hy
      split at hy
      · rename_i h2
        injection hy with hy
        refine .inr ⟨i, hy.symm, by omega, ?_, (hR x hx).1 h2⟩
        rcases Nat.lt_or_ge x i with h3 | h3
        · exfalso
          obtain ⟨p, hp⟩ := h.lo x h3 hx
          have hpx : Rch U V [(p : Int)] x := by
            rcases h.ne x _ hp with e | ⟨q, e, _, _, e2⟩
            · omega
            · have : p = q := by omega
              rw [this]; exact e2
          have h4 : Rch U V [(x : Int)] i := (Rch.symm hV ((hR x hx).1 h2) (by omega)).1
          have := h.cl x p hp i hi (hpx.trans h4)
          rw [hz] at this
          injection this with this
          omega
        · exact h3
      · rcases h.ne x y hy with e | ⟨p, e, e2, e3⟩
        · exact .inl e
        · exact .inr ⟨p, e, by omega, e3⟩
    · have hx := zM hp
      rw [hlen] at hx
      rw [hg x hx] at hp
      rw [hg w hw]
      split at hp
      · injection hp with hp
        have : p = i := by omega
        subst this
        rw [if_pos ((hR w hw).2 hr)]
      · have hpw := h.cl x p hp w hw hr
        by_cases h2 : (rd (flood U V n [(i : Int)])).getD w false = true
        · exfalso
          have h4 : Rch U V [(w : Int)] i := (Rch.symm hV ((hR w hw).1 h2) (by omega)).1
          have := h.cl x p hp i hi (hr.trans h4)
          rw [hz] at this
          injection this with this
          omega
        · rw [if_neg h2]; exact hpw
    · rw [hg x hn]
      split
      · exact ⟨i, rfl⟩
      · rename_i h2
        by_cases e : x = i
        · subst e
          exact absurd ((hR x hn).2 (Rch.refl _)) h2
        · exact h.lo x (by omega) hn
theorem ptGo_ok (hV : ∀ d ∈ V, zj d n = true) : ∀ (m i : Nat) (o : List Int), i + m = n → PtInv U V n i o → PtInv U V n n (ptGo U V n m i o)
  | 0, i, o, hi, h => by rw [ptGo]; have : i = n := by omega
                         subst this; exact h
  | m + 1, i, o, hi, h => ptGo_ok hV m (i + 1) _ (by omega) (ptStep_ok hV (by omega) h)
/-- The least node of each node's part. -/
structure IsPt (U : Nat → Bool) (V : List Dv) (n : Nat) (P : List Int) : Prop where
  l : P.length = n
  at_ : ∀ x : Nat, x < n → ∃ p : Nat, P[x]? = some (p : Int) ∧ p ≤ x ∧ Rch U V [(p : Int)] x
  cl : ∀ x w : Nat, x < n → w < n → Rch U V [(x : Int)] w → P.getD x 0 = P.getD w 0
theorem iY (hV : ∀ d ∈ V, zj d n = true) : IsPt U V n (eF U V n) := by
  have hrep : ∀ (x : Nat) (z : Int), (List.replicate n (-1 : Int))[x]? = some z → z = -1 := fun x z hz => by
    rw [List.getElem?_replicate] at hz
    split at hz
    · injection hz with hz; exact hz.symm
    · cases hz
  have h : PtInv U V n n (eF U V n) := ptGo_ok hV n 0 _ (by omega) ⟨by simp, fun x z hz => .inl (hrep x z hz), fun x p hp => absurd (hrep x _ hp) (by omega), fun x hx => by omega⟩
  refine ⟨h.l, fun x hx => ?_, fun x w hx hw hr => ?_⟩
  · obtain ⟨p, hp⟩ := h.lo x hx hx
    rcases h.ne x _ hp with e | ⟨q, e, _, e2, e3⟩
    · omega
    · have : p = q := by omega
      subst this
      exact ⟨p, hp, e2, e3⟩
  · obtain ⟨p, hp⟩ := h.lo x hx hx
    rcases h.ne x _ hp with e | ⟨q, e, _, e2, e3⟩
    · omega
    · have : p = q := by omega
      subst this
      rw [getD_some hp, getD_some (h.cl x p hp w hw (e3.trans hr))]
theorem IsPt.uniq {P Q : List Int} (hV : ∀ d ∈ V, zj d n = true) (hP : IsPt U V n P) (hQ : IsPt U V n Q) : P = Q := by
  refine List.ext_getElem? fun x => ?_
  by_cases hx : x < n
  · obtain ⟨p, p1, p2, p3⟩ := hP.at_ x hx
    obtain ⟨q, q1, q2, q3⟩ := hQ.at_ x hx
    have hp4 := (Rch.symm hV p3 (by omega)).1
    have hq4 := (Rch.symm hV q3 (by omega)).1
    obtain ⟨a, a1, a2, a3⟩ := hP.at_ q (by omega)
    obtain ⟨b, b1, b2, b3⟩ := hQ.at_ p (by omega)
    have h1 := hP.cl x q hx (by omega) hq4
    have h2 := hQ.cl x p hx (by omega) hp4
    rw [getD_some p1, getD_some a1] at h1
    rw [getD_some q1, getD_some b1] at h2
    rw [p1, q1]
    have : p = q := by omega
    rw [this]
  · rw [List.getElem?_eq_none (by rw [hP.l]; omega), List.getElem?_eq_none (by rw [hQ.l]; omega)]
theorem IsPt.same (hV : ∀ d ∈ V, zj d n = true) {P : List Int} (hP : IsPt U V n P) {x w : Nat} (hx : x < n) (hw : w < n) : P.getD x 0 = P.getD w 0 ↔ Rch U V [(x : Int)] w := by
  refine ⟨fun h => ?_, hP.cl x w hx hw⟩
  obtain ⟨p, p1, p2, p3⟩ := hP.at_ x hx
  obtain ⟨q, q1, q2, q3⟩ := hP.at_ w hw
  rw [getD_some p1, getD_some q1] at h
  have : p = q := by omega
  subst this
  exact ((Rch.symm hV p3 (by omega)).1).trans q3
end
/-- A colour says whether a node is live, and whether it is earthed. -/
def yu (c : Int) (L E : Prop) : Prop := (c = 0 ∧ ¬ L ∧ ¬ E) ∨ (c = 1 ∧ L ∧ ¬ E) ∨ (c = 2 ∧ ¬ L ∧ E) ∨ (c = 3 ∧ L ∧ E)
theorem yu.uniq {a b : Int} {L E : Prop} (ha : yu a L E) (hb : yu b L E) : a = b := by
  unfold yu at ha hb
  by_cases hL : L <;> by_cases hE : E <;> simp [hL, hE] at ha hb <;> omega
theorem yu.congr {a : Int} {L E L' E' : Prop} (h : yu a L E) (hL : L ↔ L') (hE : E ↔ E') : yu a L' E' := by
  rw [← propext hL, ← propext hE]; exact h
theorem yu.or1 {c : Int} {L E : Prop} (h : yu c L E) : yu (bits .or .i64 c 1) True E := by
  have e0 : bits .or .i64 0 1 = 1 := by decide
  have e1 : bits .or .i64 1 1 = 1 := by decide
  have e2 : bits .or .i64 2 1 = 3 := by decide
  have e3 : bits .or .i64 3 1 = 3 := by decide
  unfold yu at h ⊢
  rcases h with ⟨rfl, _, h⟩ | ⟨rfl, _, h⟩ | ⟨rfl, _, h⟩ | ⟨rfl, _, h⟩
  · rw [e0]; simp [h]
  · rw [e1]; simp [h]
  · rw [e2]; simp [h]
  · rw [e3]; simp [h]
theorem yu.or2 {c : Int} {L E : Prop} (h : yu c L E) : yu (bits .or .i64 c 2) L True := by
  have e0 : bits .or .i64 0 2 = 2 := by decide
  have e1 : bits .or .i64 1 2 = 3 := by decide
  have e2 : bits .or .i64 2 2 = 2 := by decide
  have e3 : bits .or .i64 3 2 = 3 := by decide
  unfold yu at h ⊢
  rcases h with ⟨rfl, h, _⟩ | ⟨rfl, h, _⟩ | ⟨rfl, h, _⟩ | ⟨rfl, h, _⟩
  · rw [e0]; simp [h]
  · rw [e1]; simp [h]
  · rw [e2]; simp [h]
  · rw [e3]; simp [h]
theorem xY (p x q : Int) : ∀ B : List (Int × Int), bitV (bitS p x B) q = if q = p then x else bitV B q
  | [] => by
    unfold bitS bitV
    simp only [bitG]
    by_cases h : q = p
    · rw [if_pos h, if_pos h]; rfl
    · rw [if_neg h, if_neg h]
  | e :: B => by
    have ih := xY p x q B
    unfold bitV at ih ⊢
    rw [bitS]
    by_cases h : p = e.1
    · rw [if_pos h, bitG, bitG]
      simp only
      by_cases h2 : q = p
      · rw [if_pos h2, if_pos h2]; rfl
      · rw [if_neg h2, if_neg h2, if_neg (by rw [← h]; exact h2)]
    · rw [if_neg h, bitG, bitG]
      by_cases h2 : q = e.1
      · rw [if_pos h2, if_pos h2, if_neg (fun e => h (by rw [← e]; exact h2))]
      · rw [if_neg h2, if_neg h2]; exact ih
def pC (st pa : List Int) (p : Int) (i : Nat) (W : List Dv) : Prop := ∃ (j : Nat) (d : Dv), W[j]? = some d ∧ st.getD (i + j) 0 = 2 ∧ (d.k = 5 ∨ d.k = 6) ∧ pa.getD d.a.toNat 0 = p
def pJ (st pa : List Int) (p : Int) (i : Nat) (W : List Dv) : Prop := ∃ (j : Nat) (d : Dv), W[j]? = some d ∧ st.getD (i + j) 0 = 2 ∧ d.k = 4 ∧ pa.getD d.a.toNat 0 = p
theorem dI {st pa : List Int} {p : Int} {i : Nat} {d : Dv} {W : List Dv} : pC st pa p i (d :: W) ↔ (st.getD i 0 = 2 ∧ (d.k = 5 ∨ d.k = 6) ∧ pa.getD d.a.toNat 0 = p) ∨ pC st pa p (i + 1) W := by
  constructor
  · rintro ⟨j, e, h1, h2⟩
    cases j with
    | zero => simp at h1; subst h1; exact .inl h2
    | succ j => exact .inr ⟨j, e, by simpa using h1, by rw [show i + 1 + j = i + (j + 1) by omega]; exact h2⟩
  · rintro (h | ⟨j, e, h1, h2⟩)
    · exact ⟨0, d, rfl, h⟩
    · exact ⟨j + 1, e, by simpa using h1, by rw [show i + (j + 1) = i + 1 + j by omega]; exact h2⟩
theorem cQ {st pa : List Int} {p : Int} {i : Nat} {d : Dv} {W : List Dv} : pJ st pa p i (d :: W) ↔ (st.getD i 0 = 2 ∧ d.k = 4 ∧ pa.getD d.a.toNat 0 = p) ∨ pJ st pa p (i + 1) W := by
  constructor
  · rintro ⟨j, e, h1, h2⟩
    cases j with
    | zero => simp at h1; subst h1; exact .inl h2
    | succ j => exact .inr ⟨j, e, by simpa using h1, by rw [show i + 1 + j = i + (j + 1) by omega]; exact h2⟩
  · rintro (h | ⟨j, e, h1, h2⟩)
    · exact ⟨0, d, rfl, h⟩
    · exact ⟨j + 1, e, by simpa using h1, by rw [show i + (j + 1) = i + 1 + j by omega]; exact h2⟩
theorem colS_ok {st pa : List Int} {i : Nat} {d : Dv} {B : List (Int × Int)} {p : Int} {L E : Prop} (h : yu (bitV B p) L E) : yu (bitV (colS st pa i d B) p) ((st.getD i 0 = 2 ∧ (d.k = 5 ∨ d.k = 6) ∧ pa.getD d.a.toNat 0 = p) ∨ L) ((st.getD i 0 = 2 ∧ d.k = 4 ∧ pa.getD d.a.toNat 0 = p) ∨ E) := by
  unfold colS
  generalize st.getD i 0 = a
  generalize pa.getD d.a.toNat 0 = q
  by_cases hc : a = 2
  · rw [if_neg (by simp only [hc, not_true_eq_false, not_false_eq_true])]
    by_cases h4 : d.k = 4
    · rw [if_pos h4, xY]
      by_cases hp : p = q
      · rw [if_pos hp, ← hp]
        exact h.or2.congr (by simp [hc, h4]) (by simp [hc, h4])
      · rw [if_neg hp]
        exact h.congr (by simp [h4]) (by simp [Ne.symm hp])
    · rw [if_neg h4]
      by_cases h5 : d.k = 5 ∨ d.k = 6
      · rw [if_pos h5, xY]
        by_cases hp : p = q
        · rw [if_pos hp, ← hp]
          exact h.or1.congr (by simp [hc, h5]) (by simp [h4])
        · rw [if_neg hp]
          exact h.congr (by simp [Ne.symm hp]) (by simp [h4])
      · rw [if_neg h5]
        exact h.congr (by simp [h5]) (by simp [h4])
  · rw [if_pos hc]
    exact h.congr (by simp [hc]) (by simp [hc])
theorem vE {st pa : List Int} {p : Int} : ∀ (W : List Dv) (i : Nat) (B : List (Int × Int)) (L E : Prop), yu (bitV B p) L E → yu (bitV (gO st pa i W B) p) (L ∨ pC st pa p i W) (E ∨ pJ st pa p i W)
  | [], i, B, L, E, h => h.congr (by constructor
                                     · exact .inl
                                     · rintro (h | ⟨j, d, h, _⟩)
                                       · exact h
                                       · simp at h) (by constructor
                                                        · exact .inl
                                                        · rintro (h | ⟨j, d, h, _⟩)
                                                          · exact h
                                                          · simp at h)
  | d :: W, i, B, L, E, h => by
    rw [gO]
    refine (vE W (i + 1) _ _ _ (colS_ok h)).congr ?_ ?_
    · rw [dI, or_assoc, or_left_comm]
    · rw [cQ, or_assoc, or_left_comm]
def ye (V : List Dv) (st : List Int) (x : Int) : Prop := ∃ (i : Nat) (d : Dv), V[i]? = some d ∧ st.getD i 0 = 2 ∧ (d.k = 5 ∨ d.k = 6) ∧ Rch (clU st) V [d.a] x
def jW (V : List Dv) (st : List Int) (x : Int) : Prop := ∃ (i : Nat) (d : Dv), V[i]? = some d ∧ st.getD i 0 = 2 ∧ d.k = 4 ∧ Rch (clU st) V [d.a] x
theorem col_is {V : List Dv} {n : Nat} {st P : List Int} (hV : ∀ d ∈ V, zj d n = true) (hP : IsPt (clU st) V n P) {x : Nat} (hx : x < n) : yu (bitV (gO st P 0 V []) (P.getD x 0)) (ye V st x) (jW V st x) := by
  have h0 : yu (bitV [] (P.getD x 0)) False False := .inl ⟨rfl, id, id⟩
  have hs : ∀ d ∈ V, (P.getD d.a.toNat 0 = P.getD x 0 ↔ Rch (clU st) V [d.a] x) := fun d hd => by
    obtain ⟨a0, a1⟩ := qP (hV d hd)
    have := hP.same hV (x := d.a.toNat) (w := x) (by omega) hx
    rw [Int.toNat_of_nonneg a0] at this
    exact this
  refine (vE V 0 [] _ _ h0).congr ?_ ?_
  · rw [false_or]
    constructor
    · rintro ⟨j, d, h1, h2, h3, h4⟩
      rw [Nat.zero_add] at h2
      exact ⟨j, d, h1, h2, h3, (hs d (List.mem_of_getElem? h1)).1 h4⟩
    · rintro ⟨j, d, h1, h2, h3, h4⟩
      exact ⟨j, d, h1, by rw [Nat.zero_add]; exact h2, h3, (hs d (List.mem_of_getElem? h1)).2 h4⟩
  · rw [false_or]
    constructor
    · rintro ⟨j, d, h1, h2, h3, h4⟩
      rw [Nat.zero_add] at h2
      exact ⟨j, d, h1, h2, h3, (hs d (List.mem_of_getElem? h1)).1 h4⟩
    · rintro ⟨j, d, h1, h2, h3, h4⟩
      exact ⟨j, d, h1, by rw [Nat.zero_add]; exact h2, h3, (hs d (List.mem_of_getElem? h1)).2 h4⟩
/-- What a colour says. -/
theorem cV {N : List Nd} {V : List Dv} {st : List Int} (hV : ∀ d ∈ V, zj d N.length = true) {x : Nat} (hx : x < N.length) : yu ((zd N V st).getD x 0) (ye V st x) (jW V st x) := by
  have hP : IsPt (clU st) V N.length (ptsP N V st) := iY hV
  have h := col_is hV hP hx
  have e : (zd N V st).getD x 0 = bitV (gO st (ptsP N V st) 0 V []) ((ptsP N V st).getD x 0) := by
    unfold zd colP
    obtain ⟨p, hp⟩ := zB (L := ptsP N V st) (k := x) (by rw [hP.l]; exact hx)
    rw [List.getD_eq_getElem?_getD, List.getElem?_map, hp, getD_some hp]; rfl
  rw [e]; exact h
end Go.Proofs.YtnafokinifbfhaaGreatDoor
namespace Go.Proofs.YtnafokinifbfhaaGreatDoor
open Go Go.RowKit
set_option maxRecDepth 10000
variable {G : Nat → Option (List Value)}
def idL (i n : Nat) : List Int := (List.range i).map (fun k : Nat => (k : Int)) ++ List.replicate (n - i) 0
theorem tT {i n : Nat} (h : i ≤ n) : (idL i n).length = n := by simp [idL]; omega
theorem idL_set {i n : Nat} (h : i < n) : (idL i n).set i i = idL (i + 1) n := by
  obtain ⟨m, hm⟩ : ∃ m, n - i = m + 1 := ⟨n - i - 1, by omega⟩
  have hm2 : n - (i + 1) = m := by omega
  unfold idL
  rw [hm, hm2, List.set_append, if_neg (by simp), List.length_map, List.length_range, Nat.sub_self, List.replicate_succ, List.set_cons_zero, List.range_succ, List.map_append, List.append_assoc]
  rfl
def msum : List Int → Nat
  | [] => 0
  | x :: l => x.toNat + msum l
theorem oD : ∀ {L : List Int} {k : Nat} {x y : Int}, L[k]? = some x → msum (L.set k y) + x.toNat = msum L + y.toNat
  | [], k, x, y, h => by simp at h
  | z :: L, 0, x, y, h => by simp at h; subst h; simp [msum]; omega
  | z :: L, k + 1, x, y, h => by
    have := oD (L := L) (k := k) (x := x) (y := y) (by simpa using h)
    simp only [List.set_cons_succ, msum]; omega
structure RpInv (U : Nat → Bool) (V : List Dv) (n : Nat) (o : List Int) : Prop where
  l : o.length = n
  at_ : ∀ x : Nat, x < n → ∃ p : Nat, o[x]? = some (p : Int) ∧ p ≤ x ∧ Rch U V [(p : Int)] x
def mI (st : List Int) (o : List Int) (i : Nat) (d : Dv) : Prop := st.getD i 0 = 2 → yH d.k = true → o.getD d.a.toNat 0 = o.getD d.b.toNat 0
section
variable {U : Nat → Bool} {V : List Dv} {n : Nat}
theorem idL_inv : RpInv U V n (idL n n) := by
  refine ⟨tT (Nat.le_refl _), fun x hx => ⟨x, ?_, Nat.le_refl _, Rch.refl _⟩⟩
  unfold idL
  rw [List.getElem?_append_left (by simp; exact hx), List.getElem?_map, List.getElem?_range hx]; rfl
theorem fix_is {st : List Int} (hV : ∀ d ∈ V, zj d n = true) {o : List Int} (I : RpInv (clU st) V n o) (F : ∀ (i : Nat) (d : Dv), V[i]? = some d → mI st o i d) : IsPt (clU st) V n o := by
  refine ⟨I.l, I.at_, fun x w hx hw r => ?_⟩
  have key : ∀ y : Int, Rch (clU st) V [(x : Int)] y → o.getD x 0 = o.getD y.toNat 0 := by
    intro y r
    induction r with
    | base h => simp at h; subst h; rfl
    | @step u y i d r hd hu hy h0 ih =>
      rw [ih]
      have hc : st.getD i 0 = 2 := by unfold clU at hu; simpa using hu
      unfold acr at hy
      split at hy
      · rename_i hj
        have hf := F i d hd hc hj
        split at hy
        · rename_i e; rw [← e, ← hy]; exact hf
        · split at hy
          · rename_i e; rw [← e, ← hy]; exact hf.symm
          · omega
      · omega
  have := key w r
  rwa [Int.toNat_natCast] at this
/-- One device that joins two parts. -/
theorem rp_join {st : List Int} (hV : ∀ d ∈ V, zj d n = true) {o : List Int} (I : RpInv (clU st) V n o) {i : Nat} {d : Dv} (hd : V[i]? = some d) (hc : st.getD i 0 = 2) (hj : yH d.k = true) (hne : ¬ o.getD d.a.toNat 0 = o.getD d.b.toNat 0) :
    RpInv (clU st) V n ((o.set d.a.toNat (min (o.getD d.a.toNat 0) (o.getD d.b.toNat 0))).set d.b.toNat (min (o.getD d.a.toNat 0) (o.getD d.b.toNat 0))) ∧ msum ((o.set d.a.toNat (min (o.getD d.a.toNat 0) (o.getD d.b.toNat 0))).set d.b.toNat (min (o.getD d.a.toNat 0) (o.getD d.b.toNat 0))) < msum o := by
  have he := hV d (List.mem_of_getElem? hd)
  obtain ⟨a0, a1⟩ := qP he
  obtain ⟨b0, b1⟩ := eY he hj
  obtain ⟨p, p1, p2, p3⟩ := I.at_ d.a.toNat (by omega)
  obtain ⟨q, q1, q2, q3⟩ := I.at_ d.b.toNat (by omega)
  rw [Int.toNat_of_nonneg a0] at p3
  rw [Int.toNat_of_nonneg b0] at q3
  rw [getD_some p1, getD_some q1] at hne ⊢
  have hab : ¬ d.a.toNat = d.b.toNat := fun e => by rw [e, q1] at p1; injection p1 with p1; omega
  have hu : clU st i = true := by unfold clU; rw [hc]; rfl
  have hw : acr d d.a = d.b := by unfold acr; rw [if_pos hj, if_pos rfl]
  have rab : Rch (clU st) V [d.a] d.b := .step (Rch.refl _) hd hu hw b0
  have rba := (Rch.symm hV rab a0).1
  obtain ⟨m, hm⟩ : ∃ m : Nat, min (p : Int) (q : Int) = m := ⟨min p q, by omega⟩
  have hmp : m ≤ p := by omega
  have hmq : m ≤ q := by omega
  have ra : Rch (clU st) V [(m : Int)] d.a := by
    rcases Nat.le_total p q with h | h
    · have : m = p := by omega
      subst this; exact p3
    · have : m = q := by omega
      subst this; exact q3.trans rba
  have rb : Rch (clU st) V [(m : Int)] d.b := ra.trans rab
  rw [hm]
  have hbl : d.b.toNat < (o.set d.a.toNat (m : Int)).length := by simp [I.l]; omega
  have hal : d.a.toNat < o.length := by rw [I.l]; omega
  refine ⟨⟨by simp [I.l], fun x hx => ?_⟩, ?_⟩
  · by_cases e1 : x = d.b.toNat
    · subst e1
      exact ⟨m, List.getElem?_set_self hbl, by omega, by rw [Int.toNat_of_nonneg b0]; exact rb⟩
    · rw [List.getElem?_set_ne (Ne.symm e1)]
      by_cases e2 : x = d.a.toNat
      · subst e2
        exact ⟨m, List.getElem?_set_self hal, by omega, by rw [Int.toNat_of_nonneg a0]; exact ra⟩
      · rw [List.getElem?_set_ne (Ne.symm e2)]
        exact I.at_ x hx
  · have h1 := oD (y := (m : Int)) p1
    have q1' : (o.set d.a.toNat (m : Int))[d.b.toNat]? = some (q : Int) := by rw [List.getElem?_set_ne hab]; exact q1
    have h2 := oD (y := (m : Int)) q1'
    omega
end
set_option maxHeartbeats 16000000 in
theorem rparts_A (N : List Nd) (V : List Dv) (st : List Int) (U : NwU G N V) (S : StOk V st) : zJ Tryz.prog G 95 [yR N V, .sl 1 (st.map iv)] [] (.tu [.sl 1 ((ptsP N V st).map iv), .v (.int .i64 0)]) [] := by
  have hv := U.v
  have hn := U.n
  have hsl := S.l
  have hV := U.ends
  have hnl : (N.map Nd.av).length = N.length := by simp
  have hvl : (V.map Dv.av).length = V.length := by simp
  have hml : (st.map iv).length = st.length := by simp
  have hst := rstate_A (G := G) N V st U S
  refine zE tbOk (zA Tryz.func95 (by kernel_rfl) rfl) Tryz.func95 rfl _ Tryz.ntmps95 (Nat.le_of_ble_eq_true rfl) fun X hX => ?_
  subst hX
  refine zg0 ?_
  refine zG (hst) (by repeat' (first | exact trivial | exact Ren.sl _ _ | refine zO ?_ | refine ⟨?_, ?_⟩)) (by repeat' exact RenB.v _) ?_
  refine zg13 ?_
  with_reducible refine jz ?_
  refine qR (zc := iv 0) tbOk rfl rfl rfl rfl rfl (by decide) rfl (by intro z hz; simp at hz; subst hz; rfl) rfl rfl (by omega) (by omega) rfl ?_
  refine zg0 ?_
  refine zQ (ι := Nat) (fun i => i ≤ N.length) (fun i => N.length - i) (fun v i => [(1, .sl 1 (st.map iv)), (2, .ptr 2 (v 2) 0), (7, .own 22 (v 22)), (8, .v (.int .i64 (i : Nat)))]) (fun v i => [(2, .box [.sl 3 (N.map Nd.av), .sl 5 (V.map Dv.av)]), (22, .buf 3 1 ((idL i N.length).map iv))]) ?_ ?_
  · refine ⟨0, Nat.zero_le _, trivial, ⟨rfl, rfl, rfl, rfl, trivial⟩, ⟨rfl, zq ?_, trivial⟩⟩
    rw [hnl]; simp [idL]
  rintro v i hi
  have hil : ((idL i N.length).map iv).length = N.length := by rw [List.length_map, tT hi]
  have hil2 := tT hi
  refine zg3 ?_
  refine zF rfl (fun h => ?_) (fun h => ?_)
  · have hlt : i < N.length := by rw [hil] at h; simpa using h
    refine zg0 ?_
    (with_reducible refine zH ?_); refine zK tbOk rfl rfl rfl rfl rfl rfl ⟨by omega, by rw [List.length_map]; omega⟩ ?_
    refine zg1 ?_
    (with_reducible refine zt ?_); refine zz (L' := ((idL i N.length).set (i : Int).toNat i).map iv) tbOk rfl rfl rfl rfl rfl rfl rfl rfl rfl (by rw [yS, List.length_map]; omega) (by simp) (yY _) (jt _ _ _) ?_
    refine zg2 ?_
    exact ⟨i + 1, by omega, by omega, ⟨rfl, rfl, rfl, rfl, trivial⟩, ⟨rfl, zq (by rw [Int.toNat_natCast, idL_set hlt]), trivial⟩⟩
  obtain rfl : i = N.length := by rw [hil] at h; simp at h; omega
  have I0 := idL_inv (U := clU st) (V := V) (n := N.length)
  generalize idL N.length N.length = o0 at I0 ⊢
  clear hil hil2
  refine zg2 ?_
  refine zQ (ι := List Int × Bool) (fun s => RpInv (clU st) V N.length s.1 ∧ (s.2 = false → ∀ (i : Nat) (d : Dv), V[i]? = some d → mI st s.1 i d)) (fun s => 2 * msum s.1 + (bif s.2 then 1 else 0)) (fun v s => [(1, .sl 1 (st.map iv)), (2, .ptr 2 (v 2) 0), (7, .own 22 (v 22)), (9, .v (.bool s.2))]) (fun v s => [(2, .box [.sl 3 (N.map Nd.av), .sl 5 (V.map Dv.av)]), (22, .buf 3 1 (s.1.map iv))]) ?_ ?_
  · exact ⟨(o0, true), ⟨I0, (fun h => by cases h)⟩, trivial, ⟨rfl, rfl, rfl, rfl, trivial⟩, ⟨rfl, rfl, trivial⟩⟩
  clear v h hi I0
  clear o0
  rintro v ⟨o, ch⟩ ⟨I, hfix⟩
  dsimp only at I hfix ⊢
  refine zg1 ?_
  cases ch with
  | false =>
    have hP : o = ptsP N V st := IsPt.uniq hV (fix_is hV I (hfix rfl)) (iY hV)
    subst hP
    refine zg4 ?_
    refine jH (by first | exact .inr rfl | exact .inl rfl) rfl rfl rfl ?_
    repeat' (first | exact trivial | exact Ren.v _ | exact Ren.own _ _ _ _ ⟨_, rfl⟩ | refine zf ?_ | refine ⟨?_, ?_⟩)
  | true =>
    clear hfix
    refine zg7 ?_
    refine zQ (ι := Nat × List Int × Bool) (fun s => s.1 ≤ V.length ∧ RpInv (clU st) V N.length s.2.1 ∧ msum s.2.1 ≤ msum o ∧ (s.2.2 = true → msum s.2.1 < msum o) ∧ (s.2.2 = false → ∀ (i : Nat) (d : Dv), i < s.1 → V[i]? = some d → mI st s.2.1 i d)) (fun s => V.length - s.1) (fun v s => [(1, .sl 1 (st.map iv)), (2, .ptr 2 (v 2) 0), (7, .own 22 (v 22)), (9, .v (.bool s.2.2)), (10, .v (.int .i64 (s.1 : Nat)))]) (fun v s => [(2, .box [.sl 3 (N.map Nd.av), .sl 5 (V.map Dv.av)]), (22, .buf 3 1 (s.2.1.map iv))]) ?_ ?_
    · exact ⟨(0, o, false), ⟨Nat.zero_le _, I, Nat.le_refl _, (fun h => by cases h), (fun _ i d hi => absurd hi (Nat.not_lt_zero _))⟩, trivial, ⟨rfl, rfl, rfl, rfl, rfl, trivial⟩, ⟨rfl, rfl, trivial⟩⟩
    clear v
    rintro v ⟨i, q, b⟩ ⟨hi, J, hle, hlt', hfx⟩
    dsimp only at hi J hle hlt' hfx ⊢
    have hql := J.l
    have hqm : (q.map iv).length = q.length := by simp
    refine zg6 ?_
    refine zF rfl (fun h => ?_) (fun h => ?_)
    · have hlt : i < V.length := by simpa using h
      obtain ⟨d, hd⟩ := zB hlt
      have hy := gM hd
      have he := hV d (List.mem_of_getElem? hd)
      obtain ⟨a0, a1⟩ := qP he
      have hs := yU (L := st) (k := i) (by omega)
      have step : mI st q i d → (b = false → ∀ (j : Nat) (e : Dv), j < i + 1 → V[j]? = some e → mI st q j e) := fun hf hb j e hj hje => by
        by_cases hji : j = i
        · subst hji
          rw [hd] at hje
          injection hje with hje
          subst hje
          exact hf
        · exact hfx hb j e (by omega) hje
      refine zg14 ?_
      refine zX rfl rfl (fun c1 => ?_) (fun c1 => ?_)
      · have hf : mI st q i d := fun h => by rw [h] at c1; simp at c1
        refine zg7 ?_
        exact ⟨(i + 1, q, b), ⟨hlt, J, hle, hlt', step hf⟩, by show V.length - (i + 1) < V.length - i; omega, ⟨rfl, rfl, rfl, rfl, rfl, trivial⟩, ⟨rfl, rfl, trivial⟩⟩
      have hc2 : st.getD i 0 = 2 := by simpa using c1
      refine zg8 ?_
      refine zG (oV d.k) (by repeat' (first | exact trivial | exact Ren.v _ | refine ⟨?_, ?_⟩)) (by repeat' exact RenB.v _) ?_
      refine zg8 ?_
      rcases (show yH d.k = true ∨ yH d.k = false by cases yH d.k <;> simp) with hj | hj
      rotate_left
      · have hf : mI st q i d := fun _ h => by rw [hj] at h; cases h
        have hj' : (!yH d.k) = true := by rw [hj]; rfl
        refine zg7 ?_
        exact ⟨(i + 1, q, b), ⟨hlt, J, hle, hlt', step hf⟩, by show V.length - (i + 1) < V.length - i; omega, ⟨rfl, rfl, rfl, rfl, rfl, trivial⟩, ⟨rfl, rfl, trivial⟩⟩
      obtain ⟨b0, b1⟩ := eY he hj
      have hj' : (!yH d.k) = false := by rw [hj]; rfl
      refine zg8 ?_
      (with_reducible refine zH ?_); refine zK tbOk rfl rfl rfl rfl rfl rfl ⟨by omega, by rw [List.length_map]; omega⟩ ?_
      refine zg8 ?_
      (with_reducible refine ze ?_); refine zk tbOk rfl rfl rfl rfl (qG (by omega)) (by rw [List.length_map]; omega) ?_
      refine zg8 ?_
      (with_reducible refine zH ?_); refine zK tbOk rfl rfl rfl rfl rfl rfl ⟨by omega, by rw [List.length_map]; omega⟩ ?_
      refine zg8 ?_
      (with_reducible refine ze ?_); refine zk tbOk rfl rfl rfl rfl (qG (by omega)) (by rw [List.length_map]; omega) ?_
      refine zg9 ?_
      refine zF rfl (fun c => ?_) (fun c => ?_)
      · have hf : mI st q i d := fun _ _ => by simpa using c
        refine zg2 ?_
        exact ⟨(i + 1, q, b), ⟨hlt, J, hle, hlt', step hf⟩, by show V.length - (i + 1) < V.length - i; omega, ⟨rfl, rfl, rfl, rfl, rfl, trivial⟩, ⟨rfl, rfl, trivial⟩⟩
      have hne : ¬ q.getD d.a.toNat 0 = q.getD d.b.toNat 0 := fun e => by rw [e] at c; simp at c
      obtain ⟨J2, hlt2⟩ := rp_join hV J hd hc2 hj hne
      obtain ⟨low, hlow⟩ : ∃ low, low = min (q.getD d.a.toNat 0) (q.getD d.b.toNat 0) := ⟨_, rfl⟩
      rw [← hlow] at J2 hlt2
      refine zg7 ?_
      (with_reducible refine zH ?_); refine zK tbOk rfl rfl rfl rfl rfl rfl ⟨by omega, by rw [List.length_map]; omega⟩ ?_
      refine zg1 ?_
      (with_reducible refine ze ?_); refine zk tbOk rfl rfl rfl rfl (qG (by omega)) (by rw [List.length_map]; omega) ?_
      refine zg11 ?_
      (with_reducible refine zH ?_); refine zK tbOk rfl rfl rfl rfl rfl rfl ⟨by omega, by rw [List.length_map]; omega⟩ ?_
      refine zg1 ?_
      (with_reducible refine ze ?_); refine zk tbOk rfl rfl rfl rfl (qG (by omega)) (by rw [List.length_map]; omega) ?_
      refine zg1 ?_
      refine x_min rfl rfl ?_
      rw [← hlow]
      refine zg12 ?_
      (with_reducible refine zH ?_); refine zK tbOk rfl rfl rfl rfl rfl rfl ⟨by omega, by rw [List.length_map]; omega⟩ ?_
      refine zg1 ?_
      (with_reducible refine zt ?_); refine zz (L' := (q.set d.a.toNat low).map iv) tbOk rfl rfl rfl rfl rfl rfl rfl rfl rfl (by rw [yS, List.length_map]; omega) (by simp) (yY _) (jt _ _ _) ?_
      refine zg1 ?_
      (with_reducible refine zH ?_); refine zK tbOk rfl rfl rfl rfl rfl rfl ⟨by omega, by rw [List.length_map]; (simp; omega)⟩ ?_
      refine zg1 ?_
      (with_reducible refine zt ?_); refine zz (L' := ((q.set d.a.toNat low).set d.b.toNat low).map iv) tbOk rfl rfl rfl rfl rfl rfl rfl rfl rfl (by rw [yS, List.length_map]; (simp; omega)) (by simp) (yY _) (jt _ _ _) ?_
      refine zg10 ?_
      exact ⟨(i + 1, (q.set d.a.toNat low).set d.b.toNat low, true), ⟨hlt, J2, by dsimp only; omega, (fun _ => by dsimp only; omega), (fun h => by cases h)⟩, by show V.length - (i + 1) < V.length - i; omega, ⟨rfl, rfl, rfl, rfl, rfl, trivial⟩, ⟨rfl, rfl, trivial⟩⟩
    · have hge : ¬ i < V.length := by simpa using h
      refine zg2 ?_
      refine ⟨(q, b), ⟨J, fun hb j e hje => hfx hb j e (by have := zM hje; omega) hje⟩, ?_, ⟨rfl, rfl, rfl, rfl, trivial⟩, ⟨rfl, rfl, trivial⟩⟩
      dsimp only
      cases b with
      | false => simp only [cond_false, cond_true]; omega
      | true => have := hlt' rfl; simp only [cond_true]; omega
end Go.Proofs.YtnafokinifbfhaaGreatDoor
