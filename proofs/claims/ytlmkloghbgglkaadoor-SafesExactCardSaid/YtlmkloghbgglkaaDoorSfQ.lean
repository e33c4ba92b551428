/- What putting, taking, fixing and releasing do to valid safes: they stay valid; by plain functions; nothing of the program stands here. -/
import Derived.Test.YtlmkloghbgglkaaDoorSfC
set_option linter.unusedVariables false
set_option linter.unusedSimpArgs false
namespace Go.Proofs.YtlmkloghbgglkaaDoor
open Go Go.RowKit
theorem set_chk {L : List Sf} {j : Nat} {s s' : Sf} (hc : chkS L = 0) (hx : L[j]? = some s) (hok : SfOk s') (hn : s'.num = s.num) (hk : ∀ k ∈ s'.keys, k ∈ s.keys ∨ ∀ y ∈ L, k ∉ y.keys) : chkS (L.set j s') = 0 := by
  obtain ⟨h16, h1, h2⟩ := (chkS_iff L).1 hc
  rw [chkS_iff]
  refine ⟨by rw [List.length_set]; exact h16, fun y hy => ?_, ?_⟩
  · rcases List.mem_or_eq_of_mem_set hy with hy | rfl
    · exact h1 y hy
    · exact hok
  · rw [List.pairwise_iff_getElem] at h2 ⊢
    intro a b ha hb hab
    rw [List.length_set] at ha hb
    have h3 := h2 a b ha hb hab
    rw [List.getElem_set, List.getElem_set]
    have hs : L[j]'(lt_at hx) = s := (List.getElem?_eq_some_iff.1 hx).2
    by_cases e1 : j = a
    · subst e1
      rw [if_pos rfl, if_neg (by omega)]
      rw [hs] at h3
      refine ⟨by rw [hn]; exact h3.1, fun k hkb hks => ?_⟩
      rcases hk k hks with h | h
      · exact h3.2 k hkb h
      · exact h _ (List.getElem_mem hb) hkb
    · rw [if_neg e1]
      by_cases e2 : j = b
      · subst e2
        rw [if_pos rfl]
        rw [hs] at h3
        refine ⟨by rw [hn]; exact h3.1, fun k hks hka => ?_⟩
        rcases hk k hks with h | h
        · exact h3.2 k h hka
        · exact h _ (List.getElem_mem ha) hka
      · rw [if_neg e2]; exact h3
theorem openE_chk {L : List Sf} {n : Int} (h : openE L n = 0) : chkS L = 0 := by
  unfold openE at h
  split at h
  · rename_i c; exact absurd h c
  · rename_i c; simpa using c
theorem inS_no {L : List Sf} {k : Int} (hc : chkS L = 0) (h : ¬ 0 < inS L k) : ∀ y ∈ L, k ∉ y.keys := by
  unfold inS at h
  have e : inIdx L k = idxG (fun s => hasI s.keys k) L 0 := by unfold inIdx; rw [if_neg (by simp [hc])]
  by_cases h1 : inIdx L k < 0
  · intro y hy hk
    rw [e] at h1
    have := idxG_neg h1 y hy
    rw [hasI_iff.2 hk] at this
    cases this
  · rw [if_neg h1] at h
    obtain ⟨j, x, a, b, c⟩ := idxG_some (show 0 ≤ idxG (fun s : Sf => hasI s.keys k) L 0 by omega)
    rw [e, a, Nat.zero_add, Int.toNat_natCast, b] at h
    have := (((chkS_iff L).1 hc).2.1 x (List.mem_of_getElem? b)).num
    simp only at h
    omega
theorem inS_pos {L : List Sf} {k : Int} (hc : chkS L = 0) : (decide (inS L k > 0)) = hasP L k := by
  cases hp : hasP L k with
  | false =>
    have e : inIdx L k = idxG (fun s => hasI s.keys k) L 0 := by unfold inIdx; rw [if_neg (by simp [hc])]
    have := idxG_any (fun s : Sf => hasI s.keys k) L 0
    rw [show L.any (fun s => hasI s.keys k) = false from hp] at this
    have h1 : inIdx L k < 0 := by rw [e]; simp at this; omega
    unfold inS
    rw [if_pos h1]
    rfl
  | true =>
    rw [decide_eq_true_iff]
    apply Decidable.byContradiction
    intro h
    have := inS_no hc h
    unfold hasP at hp
    obtain ⟨y, hy, hk⟩ := List.any_eq_true.1 hp
    exact this y hy (hasI_iff.1 hk)
theorem putS_ok {L : List Sf} {n k : Int} (h : (putS L n k).2 = 0) : ∃ j, openE L n = 0 ∧ findS L n = ((j : Nat) : Int) ∧ L[j]? = some (atS L n) ∧ (atS L n).num = n ∧ (∀ y ∈ L, k ∉ y.keys) ∧ (putS L n k) = (L.set j ⟨n, insG ltI k (atS L n).keys, (atS L n).locked⟩, 0) ∧ chkS (putS L n k).1 = 0 := by
  unfold putS at h ⊢
  split at h
  · rename_i c; exact absurd h c
  rename_i c1
  split at h
  · cases h
  rename_i c2
  split at h
  · cases h
  rename_i c3
  have h0 : openE L n = 0 := by simpa using c1
  obtain ⟨hf, hlk⟩ := open_at h0
  obtain ⟨hc, j, e, hx, hn, hj⟩ := find_at hf
  have hok := atS_ok hf
  have hno := inS_no hc c3
  have hns : k ∉ (atS L n).keys := hno _ (List.mem_of_getElem? hx)
  rw [if_neg c1, if_neg c2, if_neg c3, e, Int.toNat_natCast]
  refine ⟨j, h0, rfl, hx, hn, hno, by rw [hn], ?_⟩
  refine set_chk hc hx ⟨hok.num, fun z hz => ?_, insG_asc ltI_ord hok.kasc hns, hok.len, hok.name, hok.nasc⟩ rfl fun z hz => ?_
  · rcases insG_mem.1 hz with rfl | hz
    · omega
    · exact hok.key z hz
  · rcases insG_mem.1 hz with rfl | hz
    · exact .inr hno
    · exact .inl hz
theorem takeS_ok {L : List Sf} {n k : Int} (h : (takeS L n k).2 = 0) : ∃ j, openE L n = 0 ∧ findS L n = ((j : Nat) : Int) ∧ L[j]? = some (atS L n) ∧ (atS L n).num = n ∧ k ∈ (atS L n).keys ∧ (takeS L n k) = (L.set j ⟨n, delG ltI k (atS L n).keys, (atS L n).locked⟩, 0) ∧ chkS (takeS L n k).1 = 0 := by
  unfold takeS at h ⊢
  split at h
  · rename_i c; exact absurd h c
  rename_i c1
  split at h
  · cases h
  rename_i c2
  have h0 : openE L n = 0 := by simpa using c1
  obtain ⟨hf, hlk⟩ := open_at h0
  obtain ⟨hc, j, e, hx, hn, hj⟩ := find_at hf
  have hok := atS_ok hf
  have hk : k ∈ (atS L n).keys := hasI_iff.1 (by simpa using c2)
  rw [if_neg c1, if_neg c2, e, Int.toNat_natCast]
  refine ⟨j, h0, rfl, hx, hn, hk, by rw [hn], ?_⟩
  exact set_chk hc hx ⟨hok.num, fun z hz => hok.key z ((delG_mem ltI_ord hok.kasc hk).1 hz).1, delG_asc hok.kasc, hok.len, hok.name, hok.nasc⟩ rfl fun z hz => .inl ((delG_mem ltI_ord hok.kasc hk).1 hz).1
theorem fixS_ok {L : List Sf} {n : Int} {k : ByteArray} (h : (fixS L n k).2 = 0) : ∃ j, chkS L = 0 ∧ findS L n = ((j : Nat) : Int) ∧ L[j]? = some (atS L n) ∧ (atS L n).num = n ∧ k ∉ (atS L n).locked ∧ (fixS L n k) = (L.set j ⟨n, (atS L n).keys, insG strLt k (atS L n).locked⟩, 0) ∧ chkS (fixS L n k).1 = 0 := by
  unfold fixS at h ⊢
  split at h
  · rename_i c; exact absurd h c
  rename_i c1
  split at h
  · cases h
  rename_i c2
  split at h
  · cases h
  rename_i c3
  split at h
  · cases h
  rename_i c4
  split at h
  · cases h
  rename_i c5
  obtain ⟨hc, j, e, hx, hn, hj⟩ := find_at c2
  have hok := atS_ok c2
  have hk : k ∉ (atS L n).locked := fun hk => c4 (hasS_iff.2 hk)
  rw [if_neg c1, if_neg c2, if_neg c3, if_neg c4, if_neg c5, e, Int.toNat_natCast]
  refine ⟨j, hc, rfl, hx, hn, hk, by rw [hn], ?_⟩
  refine set_chk hc hx ⟨hok.num, hok.key, hok.kasc, by rw [insG_len]; have := hok.len; omega, fun z hz => ?_, insG_asc strLt_ord hok.nasc hk⟩ rfl fun z hz => .inl hz
  rcases insG_mem.1 hz with rfl | hz
  · simpa using c3
  · exact hok.name z hz
theorem relS_ok {L : List Sf} {n : Int} {k : ByteArray} (h : (relS L n k).2 = 0) : ∃ j, chkS L = 0 ∧ findS L n = ((j : Nat) : Int) ∧ L[j]? = some (atS L n) ∧ (atS L n).num = n ∧ k ∈ (atS L n).locked ∧ (relS L n k) = (L.set j ⟨n, (atS L n).keys, delG strLt k (atS L n).locked⟩, 0) ∧ chkS (relS L n k).1 = 0 := by
  unfold relS at h ⊢
  split at h
  · rename_i c; exact absurd h c
  rename_i c1
  split at h
  · cases h
  rename_i c2
  split at h
  · cases h
  rename_i c4
  obtain ⟨hc, j, e, hx, hn, hj⟩ := find_at c2
  have hok := atS_ok c2
  have hk : k ∈ (atS L n).locked := hasS_iff.1 (by simpa using c4)
  rw [if_neg c1, if_neg c2, if_neg c4, e, Int.toNat_natCast]
  refine ⟨j, hc, rfl, hx, hn, hk, by rw [hn], ?_⟩
  refine set_chk hc hx ⟨hok.num, hok.key, hok.kasc, ?_, fun z hz => hok.name z ((delG_mem strLt_ord hok.nasc hk).1 hz).1, delG_asc hok.nasc⟩ rfl fun z hz => .inl hz
  have := delG_len ((lowG_mem strLt_ord hok.nasc).2 hk)
  have := hok.len
  show (delG strLt k (atS L n).locked).length ≤ 16
  omega
/-- How many keys a safe has at most; the rest is bounded by being valid. -/
def KeyMax (L : List Sf) (m : Nat) : Prop := ∀ s ∈ L, s.keys.length ≤ m
theorem name_small {s : ByteArray} (h : nameB s.data.toList = true) : s.size ≤ 12 := by
  unfold nameB at h
  simp at h
  exact h.2
theorem sfmax_of {L : List Sf} {m : Nat} (hc : chkS L = 0) (hk : KeyMax L m) (hm : m ≤ 900) : ∀ x ∈ L, SfMax x := fun x hx => by
  have hok := ((chkS_iff L).1 hc).2.1 x hx
  have := hk x hx
  have := hok.len
  exact ⟨by omega, by omega, fun n hn => by have := name_small (hok.name n hn); unfold maxLen; omega⟩
theorem KeyMax.set {L : List Sf} {m m' j : Nat} {s' : Sf} (h : KeyMax L m) (hm : m ≤ m') (hs : s'.keys.length ≤ m') : KeyMax (L.set j s') m' := fun y hy => by
  rcases List.mem_or_eq_of_mem_set hy with hy | rfl
  · have := h y hy; omega
  · exact hs
theorem putS_max {L : List Sf} {n k : Int} {m : Nat} (h : (putS L n k).2 = 0) (hk : KeyMax L m) : KeyMax (putS L n k).1 (m + 1) := by
  obtain ⟨j, -, -, hx, -, -, e, -⟩ := putS_ok h
  rw [e]
  exact hk.set (by omega) (by rw [insG_len]; have := hk _ (List.mem_of_getElem? hx); omega)
theorem delG_le {α : Type} {lt : α → α → Bool} (x : α) (L : List α) : (delG lt x L).length ≤ L.length := by
  unfold delG
  simp; omega
theorem takeS_max {L : List Sf} {n k : Int} {m : Nat} (h : (takeS L n k).2 = 0) (hk : KeyMax L m) : KeyMax (takeS L n k).1 m := by
  obtain ⟨j, -, -, hx, -, -, e, -⟩ := takeS_ok h
  rw [e]
  exact hk.set (Nat.le_refl _) (by have := hk _ (List.mem_of_getElem? hx); have := delG_le (lt := ltI) k (atS L n).keys; show (delG ltI k (atS L n).keys).length ≤ m; omega)
/-- How often a key is in safes. -/
def cntI (K : List Int) (k : Int) : Nat := K.countP fun x => decide (x = k)
def cntL (L : List Sf) (k : Int) : Nat := match L with
  | [] => 0
  | s :: l => cntI s.keys k + cntL l k
theorem cntI_asc {K : List Int} {k : Int} (h : AscG ltI K) : cntI K k = if hasI K k = true then 1 else 0 := by
  induction K with
  | nil => rfl
  | cons x K ih =>
    obtain ⟨h1, h2⟩ := List.pairwise_cons.1 h
    have ih := ih h2
    unfold cntI hasI at *
    rw [List.countP_cons, List.any_cons, ih]
    by_cases e : x = k
    · have hno : K.any (fun x => decide (x = k)) = false := by
        rw [List.any_eq_false]
        intro y hy
        have := h1 y hy
        simp [ltI] at this
        simp; omega
      rw [hno]; simp [e]
    · simp [e]
theorem cntL_ok {k : Int} : ∀ {L : List Sf}, (∀ s ∈ L, SfOk s) → L.Pairwise Before → cntL L k = if hasP L k = true then 1 else 0
  | [], _, _ => rfl
  | s :: l, h1, h2 => by
    obtain ⟨p1, p2⟩ := List.pairwise_cons.1 h2
    have ih := cntL_ok (k := k) (fun x hx => h1 x (by simp [hx])) p2
    rw [cntL, ih, cntI_asc (h1 s (by simp)).kasc]
    unfold hasP
    rw [List.any_cons]
    by_cases e : hasI s.keys k = true
    · have hno : l.any (fun s => hasI s.keys k) = false := by
        rw [List.any_eq_false]
        intro y hy hk
        exact (p1 y hy).2 k (hasI_iff.1 hk) (hasI_iff.1 e)
      rw [hno, e]; rfl
    · simp [e]
def once0 : List Sf := [⟨1, [], []⟩, ⟨2, [], []⟩, ⟨5, [], []⟩]
theorem once_chk : chkS once0 = 0 := by decide +kernel
def nAda : ByteArray := ⟨#[65, 100, 97]⟩
theorem aw1 : putS [⟨1, [], []⟩] 1 7 = ([⟨1, [7], []⟩], 0) := by decide +kernel
theorem aw2 : fixS [⟨1, [7], []⟩] 1 nAda = ([⟨1, [7], [nAda]⟩], 0) := by decide +kernel
theorem aw3 : takeS [⟨1, [7], [nAda]⟩] 1 7 = ([], 41) := by decide +kernel
theorem aw4 : inS [⟨1, [7], [nAda]⟩] 7 = 1 := by decide +kernel
theorem aw5 : lkS [⟨1, [7], [nAda]⟩] 1 nAda = true := by decide +kernel
def sf0 (n : Int) : List AV := [.v (.int .i64 n), .sl 1 [], .sl 1 []]
theorem sf0_imp (n : Int) : ImpL [.v (.int .i64 n), .v (.slice none 0 0), .v (.slice none 0 0)] (sf0 n) := ⟨.inl rfl, .inr ⟨rfl, 1, rfl⟩, .inr ⟨rfl, 1, rfl⟩, trivial⟩
end Go.Proofs.YtlmkloghbgglkaaDoor
