/- Spans of time: that separated spans are told by their minutes, and what follows for joining them in any way; nothing of the program stands here. -/
import Derived.Test.YtdejgacclogaiaaDoorSnP
import Derived.Test.YtdejgacclogaiaaDoorSoK
set_option linter.unusedVariables false
set_option linter.unusedSimpArgs false
namespace Go.Proofs.YtdejgacclogaiaaDoor
open Go Go.RowKit Go.Sort
instance : Inhabited Spn := ⟨⟨0, 0⟩⟩
theorem sep_weak {lo hi : Int} {L : List Spn} (h : lo ≤ hi) (hL : SepL hi L) : SepL lo L := by
  cases L with
  | nil => trivial
  | cons s l => exact ⟨by have := hL.1; omega, hL.2⟩
theorem covS_cons (s : Spn) (L : List Spn) (t : Int) : covS (s :: L) t = ((decide (s.from_ ≤ t) && decide (t < s.until_)) || covS L t) := by unfold covS; rw [List.any_cons]
theorem sep_nocov {lo : Int} {L : List Spn} (h : SepL lo L) {t : Int} (ht : t ≤ lo) : covS L t = false := by
  cases hc : covS L t with
  | false => rfl
  | true =>
    obtain ⟨s, h1, h2, h3⟩ := covS_iff.1 hc
    have := sep_from h s h1
    omega
theorem sep_uniq : ∀ {A B : List Spn} {lo : Int}, SepL lo A → SepL lo B → (∀ t, covS A t = covS B t) → A = B
  | [], [], _, _, _, _ => rfl
  | [], b :: B, lo, _, hB, h => by
    have := h b.from_
    rw [covS_cons] at this
    have h2 := hB.2.1
    simp [covS, h2] at this
  | a :: A, [], lo, hA, _, h => by
    have := h a.from_
    rw [covS_cons] at this
    have h2 := hA.2.1
    simp [covS, h2] at this
  | a :: A, b :: B, lo, hA, hB, h => by
    obtain ⟨a1, a2, a3⟩ := hA
    obtain ⟨b1, b2, b3⟩ := hB
    have inA : ∀ t, covS (a :: A) t = true → a.from_ ≤ t := fun t ht => by
      obtain ⟨s, h1, h2, h3⟩ := covS_iff.1 ht
      rcases List.mem_cons.1 h1 with rfl | h1
      · exact h2
      · have := sep_from a3 s h1; omega
    have inB : ∀ t, covS (b :: B) t = true → b.from_ ≤ t := fun t ht => by
      obtain ⟨s, h1, h2, h3⟩ := covS_iff.1 ht
      rcases List.mem_cons.1 h1 with rfl | h1
      · exact h2
      · have := sep_from b3 s h1; omega
    have ca : covS (a :: A) a.from_ = true := covS_iff.2 ⟨a, by simp, by omega, a2⟩
    have cb : covS (b :: B) b.from_ = true := covS_iff.2 ⟨b, by simp, by omega, b2⟩
    have e1 : a.from_ = b.from_ := by
      have := inB _ (by rw [← h]; exact ca)
      have := inA _ (by rw [h]; exact cb)
      omega
    have e2 : a.until_ = b.until_ := by
      rcases Int.lt_trichotomy a.until_ b.until_ with hl | hl | hl
      · have c1 : covS (b :: B) a.until_ = true := covS_iff.2 ⟨b, by simp, by omega, hl⟩
        rw [← h, covS_cons, sep_nocov a3 (Int.le_refl _)] at c1
        simp at c1
      · exact hl
      · have c1 : covS (a :: A) b.until_ = true := covS_iff.2 ⟨a, by simp, by omega, hl⟩
        rw [h, covS_cons, sep_nocov b3 (Int.le_refl _)] at c1
        simp at c1
    have hab : a = b := by cases a; cases b; simp_all
    subst hab
    congr 1
    refine sep_uniq a3 b3 fun t => ?_
    have ht := h t
    rw [covS_cons, covS_cons] at ht
    by_cases hin : a.until_ < t
    · have : decide (t < a.until_) = false := by simp; omega
      rw [this, Bool.and_false, Bool.false_or, Bool.false_or] at ht
      exact ht
    · rw [sep_nocov a3 (by omega), sep_nocov b3 (by omega)]
theorem swo_S : SWO (ltOf cmpS) where
  irrefl x := by
    show ltS x x = false
    cases h : ltS x x with
    | false => rfl
    | true => rw [ltS_iff] at h; omega
  trans x y z h1 h2 := by
    have h1 : ltS x y = true := h1
    have h2 : ltS y z = true := h2
    show ltS x z = true
    rw [ltS_iff] at *; omega
  ntrans x y z h1 h2 := by
    have h1 : ltS x y = false := h1
    have h2 : ltS y z = false := h2
    show ltS x z = false
    cases h : ltS x z with
    | false => rfl
    | true =>
      rw [ltS_iff] at h
      have h3 : ¬ x.from_ < y.from_ := fun e => by rw [ltS_iff.2 e] at h1; cases h1
      have h4 : ¬ y.from_ < z.from_ := fun e => by rw [ltS_iff.2 e] at h2; cases h2
      omega
theorem asc_pw : ∀ {L : List Spn}, L.Pairwise (fun a b => ltOf cmpS b a = false) → Asc L
  | [], _ => trivial
  | s :: r, h => by
    obtain ⟨h1, h2⟩ := List.pairwise_cons.1 h
    refine ⟨fun x hx => ?_, asc_pw h2⟩
    have h3 : ltS x s = false := h1 x hx
    have h4 : ¬ x.from_ < s.from_ := fun e => by rw [ltS_iff.2 e] at h3; cases h3
    omega
theorem mrg_any {S L : List Spn} (ha : Asc S) (hp : S.Perm L) (h : ∀ s ∈ L, validB s = true) : mrg S = (unionP L).1 := by
  have hv : ∀ s ∈ S, validB s = true := fun s hs => h s (hp.mem_iff.1 hs)
  refine sep_uniq (lo := -1) ?_ (union_sep h) fun t => ?_
  · cases S with
    | nil => trivial
    | cons q R =>
      have hq := validB_iff.1 (hv q (by simp))
      exact mrgGo_sep R q (-1) (by omega) hq.2.1 fun s hs => (validB_iff.1 (hv s (by simp [hs]))).2.1
  · rw [union_cov h, ← covS_perm hp t]
    cases S with
    | nil => rfl
    | cons q R => exact mrgGo_cov R q t ha.2 fun s hs => ⟨ha.1 s hs, (validB_iff.1 (hv s (by simp [hs]))).2.1⟩
theorem mrg_pdq {L : List Spn} (h : ∀ s ∈ L, validB s = true) : mrg (pdqL cmpS L) = (unionP L).1 := mrg_any (asc_pw (pdqL_spec swo_S L).2) (pdqL_spec swo_S L).1 h
/-- The reference: one span more, in spans apart. -/
def absorb : Spn → List Spn → List Spn → Spn × List Spn
  | s, R, [] => (s, R)
  | s, R, o :: l => if o.until_ < s.from_ ∨ s.until_ < o.from_ then absorb s (R ++ [o]) l else absorb ⟨min s.from_ o.from_, max s.until_ o.until_⟩ R l
def atP (s : Spn) : List Spn → Nat
  | [] => 0
  | o :: l => if o.from_ < s.from_ then atP s l + 1 else 0
def rstep (out : List Spn) (s : Spn) : List Spn := (absorb s [] out).2.take (atP (absorb s [] out).1 (absorb s [] out).2) ++ (absorb s [] out).1 :: (absorb s [] out).2.drop (atP (absorb s [] out).1 (absorb s [] out).2)
theorem absorb_acc : ∀ (O : List Spn) (s : Spn) (R : List Spn), absorb s R O = ((absorb s [] O).1, R ++ (absorb s [] O).2)
  | [], s, R => by simp [absorb]
  | o :: l, s, R => by
    rw [absorb, absorb]
    split
    · rw [absorb_acc l s (R ++ [o]), absorb_acc l s ([] ++ [o])]
      simp
    · rw [absorb_acc l _ R]
theorem absorb_len : ∀ (O : List Spn) (s : Spn) (R : List Spn), (absorb s R O).2.length ≤ R.length + O.length
  | [], s, R => by simp [absorb]
  | o :: l, s, R => by
    rw [absorb]
    split
    · have := absorb_len l s (R ++ [o])
      simp only [List.length_append, List.length_cons, List.length_nil] at this ⊢
      omega
    · have := absorb_len l ⟨min s.from_ o.from_, max s.until_ o.until_⟩ R
      simp only [List.length_cons] at this ⊢
      omega
theorem absorb_far : ∀ {O : List Spn} {s : Spn} {R : List Spn}, (∀ o ∈ O, s.until_ < o.from_) → absorb s R O = (s, R ++ O)
  | [], s, R, _ => by simp [absorb]
  | o :: l, s, R, h => by
    rw [absorb, if_pos (.inr (h o (by simp))), absorb_far (fun x hx => h x (by simp [hx]))]
    simp
theorem absorb_spec : ∀ {O : List Spn} {s : Spn} {lo : Int}, SepL lo O → lo < s.from_ → s.from_ < s.until_ → ∃ K1 K2, (absorb s [] O).2 = K1 ++ K2 ∧ SepL lo (K1 ++ (absorb s [] O).1 :: K2) ∧ (∀ k ∈ K1, k.from_ < (absorb s [] O).1.from_) ∧ (∀ k ∈ K2, (absorb s [] O).1.from_ < k.from_) ∧
    (∀ t, covS (K1 ++ (absorb s [] O).1 :: K2) t = (covS O t || (decide (s.from_ ≤ t) && decide (t < s.until_)))) ∧ (absorb s [] O).1.from_ ≤ s.from_
  | [], s, lo, _, h1, h2 => ⟨[], [], rfl, ⟨h1, h2, trivial⟩, by simp, by simp, fun t => by simp [absorb, covS], by simp [absorb]⟩
  | o :: l, s, lo, hO, h1, h2 => by
    obtain ⟨o1, o2, o3⟩ := hO
    by_cases c1 : o.until_ < s.from_
    · have e : absorb s [] (o :: l) = ((absorb s [] l).1, o :: (absorb s [] l).2) := by
        rw [absorb, if_pos (.inl c1), absorb_acc]; rfl
      obtain ⟨K1, K2, k1, k2, k3, k4, k5, k6⟩ := absorb_spec o3 c1 h2
      have k7 : o.until_ < (absorb s [] l).1.from_ := by
        have := sep_from k2 (absorb s [] l).1 (by simp)
        omega
      refine ⟨o :: K1, K2, ?_, ?_, ?_, ?_, ?_, ?_⟩
      · rw [e, k1]; rfl
      · rw [e]; exact ⟨o1, o2, k2⟩
      · intro k hk
        rw [e]
        rcases List.mem_cons.1 hk with rfl | hk
        · show k.from_ < (absorb s [] l).1.from_; omega
        · exact k3 k hk
      · rw [e]; exact k4
      · intro t
        rw [e, List.cons_append, covS_cons, k5, covS_cons, Bool.or_assoc]
      · rw [e]; exact k6
    by_cases c2 : s.until_ < o.from_
    · have hfar : ∀ x ∈ o :: l, s.until_ < x.from_ := fun x hx => by
        rcases List.mem_cons.1 hx with rfl | hx
        · exact c2
        · have := sep_from o3 x hx; omega
      have e : absorb s [] (o :: l) = (s, o :: l) := by rw [absorb_far hfar]; rfl
      refine ⟨[], o :: l, ?_, ?_, by simp, ?_, ?_, ?_⟩
      · rw [e]; rfl
      · rw [e]; exact ⟨h1, h2, c2, o2, o3⟩
      · intro k hk; rw [e]; have := hfar k hk; show s.from_ < k.from_; omega
      · intro t
        rw [e, List.nil_append, covS_cons, Bool.or_comm]
      · rw [e]; exact Int.le_refl _
    · have e : absorb s [] (o :: l) = absorb ⟨min s.from_ o.from_, max s.until_ o.until_⟩ [] l := by
        rw [absorb, if_neg (by omega)]
      obtain ⟨K1, K2, k1, k2, k3, k4, k5, k6⟩ := absorb_spec (s := ⟨min s.from_ o.from_, max s.until_ o.until_⟩) (sep_weak (lo := lo) (by omega) o3) (by show lo < min s.from_ o.from_; omega) (by show min s.from_ o.from_ < max s.until_ o.until_; omega)
      refine ⟨K1, K2, by rw [e]; exact k1, by rw [e]; exact k2, by rw [e]; exact k3, by rw [e]; exact k4, fun t => ?_, by rw [e]; exact Int.le_trans k6 (Int.min_le_left _ _)⟩
      rw [e, k5, covS_cons]
      cases covS l t
      · rw [Bool.false_or, Bool.or_false, Bool.eq_iff_iff]
        simp only [Bool.and_eq_true, Bool.or_eq_true, decide_eq_true_eq]
        omega
      · simp
theorem atP_eq {s : Spn} : ∀ {K1 K2 : List Spn}, (∀ k ∈ K1, k.from_ < s.from_) → (∀ k ∈ K2, s.from_ < k.from_) → atP s (K1 ++ K2) = K1.length
  | [], [], _, _ => rfl
  | [], k :: K2, _, h => by
    show (if k.from_ < s.from_ then _ else 0) = 0
    rw [if_neg (by have := h k (by simp); omega)]
  | k :: K1, K2, h1, h2 => by
    rw [List.cons_append, atP, if_pos (h1 k (by simp)), atP_eq (fun x hx => h1 x (by simp [hx])) h2]; rfl
theorem rstep_spec {out : List Spn} {s : Spn} (h : SepL (-1) out) (hs : validB s = true) : SepL (-1) (rstep out s) ∧ ∀ t, covS (rstep out s) t = (covS out t || (decide (s.from_ ≤ t) && decide (t < s.until_))) := by
  have hv := validB_iff.1 hs
  obtain ⟨K1, K2, k1, k2, k3, k4, k5, -⟩ := absorb_spec h (s := s) (by omega) hv.2.1
  have e : rstep out s = K1 ++ (absorb s [] out).1 :: K2 := by
    unfold rstep
    rw [k1, atP_eq k3 k4, List.take_left', List.drop_left']
    · rfl
    · rfl
  rw [e]
  exact ⟨k2, k5⟩
theorem rstep_len (out : List Spn) (s : Spn) : (rstep out s).length ≤ out.length + 1 := by
  have := absorb_len out s []
  unfold rstep
  simp only [List.length_append, List.length_take, List.length_cons, List.length_drop, List.length_nil] at this ⊢
  omega
theorem fold_spec : ∀ (L out : List Spn), SepL (-1) out → (∀ s ∈ L, validB s = true) → SepL (-1) (L.foldl rstep out) ∧ ∀ t, covS (L.foldl rstep out) t = (covS out t || covS L t)
  | [], out, h, _ => ⟨h, fun t => by simp [covS]⟩
  | s :: l, out, h, hv => by
    obtain ⟨a, b⟩ := rstep_spec h (hv s (by simp))
    obtain ⟨c, d⟩ := fold_spec l (rstep out s) a (fun x hx => hv x (by simp [hx]))
    exact ⟨c, fun t => by rw [List.foldl_cons, d, b, covS_cons, Bool.or_assoc]⟩
theorem runP_eq {L : List Spn} (h : ∀ s ∈ L, validB s = true) : L.foldl rstep [] = (unionP L).1 := by
  obtain ⟨a, b⟩ := fold_spec L [] trivial h
  exact sep_uniq a (union_sep h) fun t => by rw [b, union_cov h]; simp [covS]
end Go.Proofs.YtdejgacclogaiaaDoor
