/- A cheap test for 'every order of a region comes to its lexical one', by bit masks: for long guarded regions; nothing of the program stands here. -/
import Derived.Deep.QuietTactic
import Derived.KernelRfl
set_option linter.unusedVariables false
set_option linter.unusedSimpArgs false
namespace Go.Proofs.Ytmicckgfpodahaa
open Go
def maskOf (l : List Nat) : Nat := l.foldr (fun t m => 2 ^ t ||| m) 0
theorem mem_mask {l : List Nat} {i : Nat} : (maskOf l).testBit i = true ↔ i ∈ l := by
  induction l with
  | nil => simp [maskOf]
  | cons t l ih =>
    have e : maskOf (t :: l) = 2 ^ t ||| maskOf l := rfl
    rw [e, Nat.testBit_or, Bool.or_eq_true, ih, Nat.testBit_two_pow, List.mem_cons]
    constructor
    · rintro (h | h)
      · exact .inl (of_decide_eq_true h).symm
      · exact .inr h
    · rintro (h | h)
      · exact .inl (by simp [h])
      · exact .inr h
theorem land_zero {m i : Nat} (h : (m &&& 2 ^ i == 0) = true) : m.testBit i = false := by
  have h0 : m &&& 2 ^ i = 0 := by simpa using h
  have h1 := congrArg (fun x => Nat.testBit x i) h0
  simp only [Nat.testBit_and, Nat.testBit_two_pow, Nat.zero_testBit] at h1
  simpa using h1
structure Sig where
  dst : Nat
  looks : Nat
  after : Nat
def dstMask (d : Option Tmp) : Nat := match d with | some d => 2 ^ d | none => 0
def sigOf (md : Region.Mode) (ops : Array Oper) (o : Oper) : Sig :=
  ⟨dstMask o.dst, maskOf (o.looksAt ops), maskOf ((o.after.toList.filter fun e => Region.binds md e).map (·.on))⟩
def apartM (s t : Sig) : Bool := (t.looks &&& s.dst == 0) && (t.dst &&& s.dst == 0) && (s.looks &&& t.dst == 0)
def okPairs (k : Nat) (s : Sig) : List Sig → Bool
  | [] => true
  | t :: r => (t.after.testBit k || apartM s t) && okPairs k s r
def okAll : Nat → List Sig → Bool
  | _, [] => true
  | k, s :: r => Nat.blt s.after (2 ^ k) && okPairs k s r && okAll (k + 1) r
theorem apart_of_sig {md : Region.Mode} {ops : Array Oper} {x y : Oper} (h : apartM (sigOf md ops x) (sigOf md ops y) = true) : x.apart ops y = true := by
  simp only [apartM, sigOf, Bool.and_eq_true] at h
  obtain ⟨⟨h1, h2⟩, h3⟩ := h
  unfold Oper.apart
  rw [Bool.and_eq_true]
  constructor
  · cases hx : x.dst with
    | none => rfl
    | some d =>
      rw [hx] at h1 h2
      have a1 := land_zero h1
      simp only [Bool.and_eq_true, Bool.not_eq_true', bne_iff_ne, ne_eq]
      refine ⟨?_, ?_⟩
      · rw [Bool.eq_false_iff]
        intro hc
        have := mem_mask.2 (List.contains_iff_mem.1 hc)
        rw [a1] at this
        cases this
      · intro hy
        rw [hy] at h2
        have a2 : (2 ^ d).testBit d = false := land_zero h2
        rw [Nat.testBit_two_pow] at a2
        simp at a2
  · cases hy : y.dst with
    | none => rfl
    | some d =>
      rw [hy] at h3
      have a1 := land_zero h3
      simp only [Bool.not_eq_true']
      rw [Bool.eq_false_iff]
      intro hc
      have := mem_mask.2 (List.contains_iff_mem.1 hc)
      rw [a1] at this
      cases this
theorem okPairs_at {k : Nat} {s : Sig} : ∀ {r : List Sig} {i : Nat} {t : Sig}, okPairs k s r = true → r[i]? = some t → t.after.testBit k = true ∨ apartM s t = true
  | [], i, t, _, h => by simp at h
  | u :: r, 0, t, h, ht => by
    simp only [List.getElem?_cons_zero, Option.some.injEq] at ht
    subst ht
    simp only [okPairs, Bool.and_eq_true, Bool.or_eq_true] at h
    exact h.1
  | u :: r, i + 1, t, h, ht => by
    simp only [okPairs, Bool.and_eq_true] at h
    exact okPairs_at h.2 (by simpa using ht)
theorem lexFrom_of_sigs {md : Region.Mode} {ops : Array Oper} : ∀ (fuel k : Nat) (listed : Array Bool), k + fuel = ops.size → (∀ i, i < k → listed.getD i false = true) → (∀ i, i < k → listed.getD i true = true) → (∀ i, k ≤ i → i < ops.size → listed.getD i true = false) →
    listed.size = ops.size → okAll k ((ops.toList.map (sigOf md ops)).drop k) = true → Region.lexFrom md ops fuel k listed = true
  | 0, k, listed, hk, h1, h1', h2, hsz, _ => by
    unfold Region.lexFrom
    rw [List.isEmpty_iff, List.eq_nil_iff_forall_not_mem]
    intro j hj
    obtain ⟨h0, o, ho, _⟩ := mem_ready.1 hj
    have hlt : j < ops.size := (Array.getElem?_eq_some_iff.1 ho).1
    rw [h1' j (by omega)] at h0
    cases h0
  | fuel + 1, k, listed, hk, h1, h1', h2, hsz, hc => by
    have hlt : k < ops.size := by omega
    have ho : ops[k]? = some ops[k] := Array.getElem?_eq_getElem hlt
    have hd : (ops.toList.map (sigOf md ops)).drop k = sigOf md ops ops[k] :: (ops.toList.map (sigOf md ops)).drop (k + 1) := by
      rw [List.drop_eq_getElem_cons (by simpa using hlt)]
      simp
    rw [hd] at hc
    simp only [okAll, Bool.and_eq_true] at hc
    obtain ⟨⟨ha, hp⟩, hr⟩ := hc
    have ha' : (sigOf md ops ops[k]).after < 2 ^ k := by simpa [Nat.blt_eq] using ha
    unfold Region.lexFrom
    rw [Bool.and_eq_true, Bool.and_eq_true]
    refine ⟨⟨?_, ?_⟩, ?_⟩
    · rw [List.contains_iff_mem, mem_ready]
      refine ⟨h2 k (Nat.le_refl _) hlt, _, ho, fun e he hb => ?_⟩
      have hm : e.on ∈ ((ops[k].after.toList.filter fun e => Region.binds md e).map (·.on)) := List.mem_map.2 ⟨e, List.mem_filter.2 ⟨by simpa using he, hb⟩, rfl⟩
      have hb2 := mem_mask.2 hm
      have hle := Nat.ge_two_pow_of_testBit hb2
      have : e.on < k := by
        rcases Nat.lt_or_ge e.on k with h | h
        · exact h
        · have := Nat.pow_le_pow_right (n := 2) (by omega) h
          have h3 : 2 ^ e.on ≤ (sigOf md ops ops[k]).after := hle
          omega
      exact h1 _ this
    · unfold Region.free
      rw [ho]
      simp only [List.all_eq_true, List.mem_range]
      intro j hj
      have hoj : ops[j]? = some ops[j] := Array.getElem?_eq_getElem hj
      by_cases hjk : j = k
      · simp [hjk]
      · by_cases hjl : j < k
        · rw [h1' j hjl]; simp
        · have hat : ((ops.toList.map (sigOf md ops)).drop (k + 1))[j - (k + 1)]? = some (sigOf md ops ops[j]) := by
            rw [List.getElem?_drop, show k + 1 + (j - (k + 1)) = j by omega, List.getElem?_map]
            simp [hj]
          rcases okPairs_at hp hat with h | h
          · obtain ⟨e, he, hek⟩ := List.mem_map.1 (mem_mask.1 h)
            obtain ⟨he1, he2⟩ := List.mem_filter.1 he
            rw [hoj]
            have : (ops[j].after.any fun e => Region.binds md e && e.on == k) = true := by
              rw [← Array.any_toList, List.any_eq_true]
              exact ⟨e, he1, by simp [he2, hek]⟩
            simp [this]
          · rw [hoj]
            simp [apart_of_sig h]
    · refine lexFrom_of_sigs fuel (k + 1) _ (by omega) (fun i hi => ?_) (fun i hi => ?_) (fun i hi hi2 => ?_) (by simpa using hsz) hr
      · by_cases e : i = k
        · subst e; simp [Array.getD_eq_getD_getElem?, hsz, hlt]
        · have := h1 i (by omega); simpa [Array.getD_eq_getD_getElem?, Array.getElem?_setIfInBounds_ne (show k ≠ i from fun h => e h.symm)] using this
      · by_cases e : i = k
        · subst e; simp [Array.getD_eq_getD_getElem?, hsz, hlt]
        · have := h1' i (by omega); simpa [Array.getD_eq_getD_getElem?, Array.getElem?_setIfInBounds_ne (show k ≠ i from fun h => e h.symm)] using this
      · have := h2 i (by omega) hi2; simpa [Array.getD_eq_getD_getElem?, Array.getElem?_setIfInBounds_ne (show k ≠ i by omega)] using this
theorem lexB_of_sigs {md : Region.Mode} {ops : Array Oper} (hs : Region.noSelect ops = true) (h : okAll 0 (ops.toList.map (sigOf md ops)) = true) : Region.lexB md ops = true := by
  unfold Region.lexB
  rw [Bool.and_eq_true]
  refine ⟨hs, lexFrom_of_sigs ops.size 0 _ (by omega) (fun i hi => by omega) (fun i hi => by omega) (fun i _ hi => ?_) (by simp) (by simpa using h)⟩
  simp [Array.getD_eq_getD_getElem?, hi]
/-- A long region that only reads: one walk in the text's order serves every order. -/
theorem wp_region_quiet_sig {P : Program} {id : Nat} {Q : Exit → Act → World → Prop} {a : Act} {w : World} {l : List Oper} (hm : P.follows .mixedOrders = true) (hs : Region.noSelect l.toArray = true) (hB : okAll 0 (l.toArray.toList.map (sigOf .any l.toArray)) = true)
    (h : wpQuiet P l.toArray (fun w' => ∃ n, w' = w.drewN n) (fun a' => ∀ w', (∃ n, w' = w.drewN n) → Q .normal a' w') l a) : (Code.region id l.toArray true).wp P Q a w :=
  wp_region_quiet_lit hm (lexB_of_sigs hs hB) h
end Go.Proofs.Ytmicckgfpodahaa
