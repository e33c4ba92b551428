/- Spans of time: what joins them, and what this answers; nothing of the program stands here. -/
import Derived.Test.YtdejgacclogaiaaDoorIsA
set_option linter.unusedVariables false
set_option linter.unusedSimpArgs false
namespace Go.Proofs.YtdejgacclogaiaaDoor
open Go Go.RowKit
def validB (s : Spn) : Bool := decide (0 ≤ s.from_) && decide (s.from_ < s.until_) && decide (s.until_ ≤ 16777216)
theorem validB_iff {s : Spn} : validB s = true ↔ 0 ≤ s.from_ ∧ s.from_ < s.until_ ∧ s.until_ ≤ 16777216 := by
  unfold validB
  simp only [Bool.and_eq_true, decide_eq_true_eq, and_assoc]
def mrgGo (q : Spn) : List Spn → List Spn
  | [] => [q]
  | s :: r => if s.from_ ≤ q.until_ then mrgGo ⟨q.from_, max q.until_ s.until_⟩ r else q :: mrgGo s r
def mrg : List Spn → List Spn
  | [] => []
  | s :: r => mrgGo s r
def mrgFrom (A : List Spn) (R : List Spn) : List Spn := match A.getLast? with
  | none => mrg R
  | some q => A.dropLast ++ mrgGo q R
theorem mrgFrom_nil (R : List Spn) : mrgFrom [] R = mrg R := rfl
theorem mrgFrom_snoc (A : List Spn) (q : Spn) (R : List Spn) : mrgFrom (A ++ [q]) R = A ++ mrgGo q R := by
  unfold mrgFrom
  simp
def unionP (L : List Spn) : List Spn × Int := if L.all validB = true then (mrg (isort ltS L), 0) else ([], 11)
def lenS : List Spn → Int
  | [] => 0
  | s :: r => (s.until_ - s.from_) + lenS r
def covS (L : List Spn) (t : Int) : Bool := L.any fun s => decide (s.from_ ≤ t) && decide (t < s.until_)
theorem covS_iff {L : List Spn} {t : Int} : covS L t = true ↔ ∃ s ∈ L, s.from_ ≤ t ∧ t < s.until_ := by
  unfold covS
  simp [List.any_eq_true]
theorem mrgGo_len : ∀ (R : List Spn) (q : Spn), (mrgGo q R).length ≤ R.length + 1
  | [], q => by simp [mrgGo]
  | s :: R, q => by
    unfold mrgGo
    split
    · have := mrgGo_len R ⟨q.from_, max q.until_ s.until_⟩
      simp; omega
    · have := mrgGo_len R s
      simp; omega
theorem mrg_len (R : List Spn) : (mrg R).length ≤ R.length := by
  cases R with
  | nil => simp [mrg]
  | cons s R => exact mrgGo_len R s
theorem mrgGo_valid : ∀ (R : List Spn) (q : Spn), validB q = true → (∀ s ∈ R, validB s = true) → ∀ s ∈ mrgGo q R, validB s = true
  | [], q, h, _, s, hs => by
    simp [mrgGo] at hs
    subst hs
    exact h
  | x :: R, q, h, hR, s, hs => by
    have hx := hR x (by simp)
    have hR' : ∀ s ∈ R, validB s = true := fun s h => hR s (by simp [h])
    unfold mrgGo at hs
    split at hs
    · refine mrgGo_valid R _ ?_ hR' s hs
      rw [validB_iff] at h hx ⊢
      simp only
      omega
    · rcases List.mem_cons.1 hs with rfl | hs
      · exact h
      · exact mrgGo_valid R x hx hR' s hs
theorem mrg_valid {R : List Spn} (hR : ∀ s ∈ R, validB s = true) : ∀ s ∈ mrg R, validB s = true := by
  cases R with
  | nil => intro s h; cases h
  | cons q R => exact mrgGo_valid R q (hR q (by simp)) fun s h => hR s (by simp [h])
theorem union_valid (L : List Spn) : ∀ s ∈ (unionP L).1, validB s = true := by
  unfold unionP
  split
  · rename_i h
    exact mrg_valid fun s hs => List.all_eq_true.1 h s ((isort_perm L).mem_iff.1 hs)
  · intro s h; cases h
theorem union_len (L : List Spn) : (unionP L).1.length ≤ L.length := by
  unfold unionP
  split
  · exact Nat.le_trans (mrg_len _) (Nat.le_of_eq (isort_len L))
  · simp
theorem lenS_take {L : List Spn} (h : ∀ s ∈ L, validB s = true) : ∀ k, 0 ≤ lenS (L.take k) ∧ lenS (L.take k) ≤ k * 16777216 := by
  induction L with
  | nil => intro k; simp [lenS]; omega
  | cons s L ih =>
    intro k
    cases k with
    | zero => simp [lenS]
    | succ k =>
      have h1 := ih (fun x hx => h x (by simp [hx])) k
      have h2 := validB_iff.1 (h s (by simp))
      rw [List.take_succ_cons, lenS]
      push_cast
      omega
theorem lenS_app : ∀ (A B : List Spn), lenS (A ++ B) = lenS A + lenS B
  | [], B => by simp [lenS]
  | s :: A, B => by
    have := lenS_app A B
    simp only [List.cons_append, lenS, this]
    omega
theorem lenS_next {L : List Spn} {k : Nat} {s : Spn} (h : L[k]? = some s) : lenS (L.take (k + 1)) = lenS (L.take k) + (s.until_ - s.from_) := by
  rw [List.take_add_one, h, lenS_app]
  simp [lenS]
/-- Spans that stand one behind another and do not touch. -/
def SepL (lo : Int) : List Spn → Prop
  | [] => True
  | s :: r => lo < s.from_ ∧ s.from_ < s.until_ ∧ SepL s.until_ r
def Asc : List Spn → Prop
  | [] => True
  | s :: r => (∀ x ∈ r, s.from_ ≤ x.from_) ∧ Asc r
theorem asc_of : ∀ {L : List Spn}, SrtB ltS L L.length → Asc L
  | [], _ => trivial
  | s :: r, h => by
    refine ⟨fun x hx => ?_, asc_of fun a b x y hab hb hx hy => h (a + 1) (b + 1) x y (by omega) (by simp; omega) (by simpa using hx) (by simpa using hy)⟩
    obtain ⟨k, hk⟩ := List.getElem?_of_mem hx
    have := h 0 (k + 1) s x (by omega) (by have := lt_at hk; simp; omega) rfl (by simpa using hk)
    have h2 : ¬ (ltS x s = true) := by rw [this]; decide
    rw [ltS_iff] at h2
    omega
theorem ltS_swo : SwoB ltS := ⟨fun x y h => by
  cases hc : ltS y x with
  | false => rfl
  | true => rw [ltS_iff] at h hc; omega, fun x y z h => by
  rw [ltS_iff] at h
  by_cases hxy : x.from_ < y.from_
  · exact .inl (ltS_iff.2 hxy)
  · exact .inr (ltS_iff.2 (by omega))⟩
theorem isort_asc (L : List Spn) : Asc (isort ltS L) := asc_of (by rw [isort_len]; exact isort_sorted ltS_swo L)
theorem mrgGo_sep : ∀ (R : List Spn) (q : Spn) (lo : Int), lo < q.from_ → q.from_ < q.until_ → (∀ s ∈ R, s.from_ < s.until_) → SepL lo (mrgGo q R)
  | [], q, lo, h1, h2, _ => ⟨h1, h2, trivial⟩
  | x :: R, q, lo, h1, h2, hR => by
    have hx := hR x (by simp)
    unfold mrgGo
    split
    · exact mrgGo_sep R ⟨q.from_, max q.until_ x.until_⟩ lo h1 (by simp only; omega) fun s h => hR s (by simp [h])
    · exact ⟨h1, h2, mrgGo_sep R x q.until_ (by omega) hx fun s h => hR s (by simp [h])⟩
theorem mrgGo_cov : ∀ (R : List Spn) (q : Spn) (t : Int), Asc R → (∀ s ∈ R, q.from_ ≤ s.from_ ∧ s.from_ < s.until_) → covS (mrgGo q R) t = covS (q :: R) t
  | [], q, t, _, _ => rfl
  | x :: R, q, t, ha, hR => by
    have hx := hR x (by simp)
    have hR' : ∀ s ∈ R, q.from_ ≤ s.from_ ∧ s.from_ < s.until_ := fun s h => hR s (by simp [h])
    unfold mrgGo
    split
    · rename_i hle
      rw [mrgGo_cov R ⟨q.from_, max q.until_ x.until_⟩ t ha.2 hR']
      simp only [covS, List.any_cons]
      rw [← Bool.or_assoc]
      congr 1
      rw [Bool.eq_iff_iff]
      simp only [Bool.or_eq_true, Bool.and_eq_true, decide_eq_true_eq]
      omega
    · have := mrgGo_cov R x t ha.2 fun s h => ⟨ha.1 s h, (hR' s h).2⟩
      simp only [covS, List.any_cons] at this ⊢
      rw [this]
theorem covS_perm {A B : List Spn} (h : A.Perm B) (t : Int) : covS A t = covS B t := by
  rw [Bool.eq_iff_iff, covS_iff, covS_iff]
  constructor
  · rintro ⟨s, h1, h2⟩; exact ⟨s, h.mem_iff.1 h1, h2⟩
  · rintro ⟨s, h1, h2⟩; exact ⟨s, h.mem_iff.2 h1, h2⟩
theorem union_ok {L : List Spn} (h : ∀ s ∈ L, validB s = true) : unionP L = (mrg (isort ltS L), 0) := by
  unfold unionP
  rw [if_pos (List.all_eq_true.2 h)]
theorem union_cov {L : List Spn} (h : ∀ s ∈ L, validB s = true) (t : Int) : covS (unionP L).1 t = covS L t := by
  rw [union_ok h, ← covS_perm (isort_perm (lt := ltS) L) t]
  have ha := isort_asc L
  have hv : ∀ s ∈ isort ltS L, validB s = true := fun s hs => h s ((isort_perm L).mem_iff.1 hs)
  cases hR : isort ltS L with
  | nil => rfl
  | cons q R =>
    rw [hR] at ha hv
    exact mrgGo_cov R q t ha.2 fun s hs => ⟨ha.1 s hs, (validB_iff.1 (hv s (by simp [hs]))).2.1⟩
theorem union_sep {L : List Spn} (h : ∀ s ∈ L, validB s = true) : SepL (-1) (unionP L).1 := by
  rw [union_ok h]
  have hv : ∀ s ∈ isort ltS L, validB s = true := fun s hs => h s ((isort_perm L).mem_iff.1 hs)
  cases hR : isort ltS L with
  | nil => trivial
  | cons q R =>
    rw [hR] at hv
    have hq := validB_iff.1 (hv q (by simp))
    exact mrgGo_sep R q (-1) (by omega) hq.2.1 fun s hs => (validB_iff.1 (hv s (by simp [hs]))).2.1
theorem sep_from : ∀ {L : List Spn} {lo : Int}, SepL lo L → ∀ s ∈ L, lo < s.from_
  | [], _, _, s, h => by cases h
  | x :: r, lo, h, s, hs => by
    rcases List.mem_cons.1 hs with rfl | hs
    · exact h.1
    · have := sep_from h.2.2 s hs
      have := h.1
      have := h.2.1
      omega
theorem sep_at : ∀ {L : List Spn} {lo : Int} {k : Nat} {x y : Spn}, SepL lo L → L[k]? = some x → L[k + 1]? = some y → x.until_ < y.from_
  | [], _, _, _, _, _, hx, _ => by simp at hx
  | s :: r, lo, k, x, y, h, hx, hy => by
    cases k with
    | zero =>
      simp at hx hy
      subst hx
      cases r with
      | nil => simp at hy
      | cons z r =>
        simp at hy
        subst hy
        exact h.2.2.1
    | succ k => exact sep_at h.2.2 (by simpa using hx) (by simpa using hy)
theorem sep_lt : ∀ {L : List Spn} {lo : Int} {a b : Nat} {x y : Spn}, SepL lo L → a < b → L[a]? = some x → L[b]? = some y → x.from_ < y.from_
  | [], _, _, _, _, _, _, _, hx, _ => by simp at hx
  | s :: r, lo, a, b, x, y, h, hab, hx, hy => by
    obtain ⟨b, rfl⟩ : ∃ c, b = c + 1 := ⟨b - 1, by omega⟩
    cases a with
    | zero =>
      simp at hx hy
      subst hx
      have := sep_from h.2.2 y (List.mem_of_getElem? hy)
      have := h.2.1
      omega
    | succ a => exact sep_lt (a := a) (b := b) h.2.2 (by omega) (by simpa using hx) (by simpa using hy)
theorem outr_id {α : Type} {lt : α → α → Bool} {L : List α} (h : ∀ j, lessAt lt L (j + 1) j = false) : ∀ k, outr lt k L = L
  | 0 => rfl
  | k + 1 => by
    rw [outr, outr_id h k]
    cases k with
    | zero => rfl
    | succ k => rw [inn, h k]; rfl
theorem isort_sep {L : List Spn} {lo : Int} (h : SepL lo L) : isort ltS L = L := by
  refine outr_id (fun j => ?_) _
  unfold lessAt
  split
  · rename_i x y hx hy
    cases hc : ltS x y with
    | false => rfl
    | true =>
      rw [ltS_iff] at hc
      have := sep_lt h (Nat.lt_succ_self j) hy hx
      omega
  · rfl
theorem mrgGo_id : ∀ {R : List Spn} {q : Spn}, SepL q.until_ R → mrgGo q R = q :: R
  | [], q, _ => rfl
  | x :: R, q, h => by
    unfold mrgGo
    rw [if_neg (by have := h.1; omega), mrgGo_id h.2.2]
theorem mrg_id {L : List Spn} {lo : Int} (h : SepL lo L) : mrg L = L := by
  cases L with
  | nil => rfl
  | cons s r => exact mrgGo_id h.2.2
theorem union_union {L : List Spn} (h : ∀ s ∈ L, validB s = true) : unionP (unionP L).1 = ((unionP L).1, 0) := by
  rw [union_ok (union_valid L), isort_sep (union_sep h), mrg_id (union_sep h)]
/-- How many numbers below n have a property. -/
def cnt (p : Int → Bool) : Nat → Int
  | 0 => 0
  | n + 1 => cnt p n + if p (n : Int) = true then 1 else 0
theorem cnt_bound (p : Int → Bool) : ∀ n, 0 ≤ cnt p n ∧ cnt p n ≤ n
  | 0 => by simp [cnt]
  | n + 1 => by
    have := cnt_bound p n
    rw [cnt]
    split <;> push_cast <;> omega
theorem cnt_congr {p q : Int → Bool} (h : ∀ t, p t = q t) : ∀ n, cnt p n = cnt q n
  | 0 => rfl
  | n + 1 => by rw [cnt, cnt, cnt_congr h n, h]
theorem cnt_or {p q : Int → Bool} (h : ∀ t, p t = true → q t = false) : ∀ n, cnt (fun t => p t || q t) n = cnt p n + cnt q n
  | 0 => rfl
  | n + 1 => by
    rw [cnt, cnt, cnt, cnt_or h n]
    have := h n
    cases hp : p (n : Int)
    · simp; omega
    · rw [this hp]; simp; omega
theorem cnt_in (a b : Int) (ha : 0 ≤ a) (hab : a ≤ b) : ∀ n : Nat, cnt (fun t => decide (a ≤ t) && decide (t < b)) n = min b n - min a n
  | 0 => by simp [cnt]; omega
  | n + 1 => by
    rw [cnt, cnt_in a b ha hab n]
    simp only [Bool.and_eq_true, decide_eq_true_eq]
    split <;> push_cast <;> omega
theorem len_cnt : ∀ {L : List Spn} {lo : Int} {n : Nat}, SepL lo L → -1 ≤ lo → (∀ s ∈ L, s.until_ ≤ n) → lenS L = cnt (covS L) n
  | [], lo, n, _, _, _ => by
    have : ∀ n, cnt (covS []) n = 0 := fun n => by
      induction n with
      | zero => rfl
      | succ n ih => rw [cnt, ih]; rfl
    rw [this]; rfl
  | s :: r, lo, n, h, hlo, hu => by
    have h1 := h.1
    have h2 := h.2.1
    have h3 := hu s (by simp)
    have ih := len_cnt (lo := s.until_) (n := n) h.2.2 (by omega) fun x hx => hu x (by simp [hx])
    have e : cnt (covS (s :: r)) n = cnt (fun t => (decide (s.from_ ≤ t) && decide (t < s.until_)) || covS r t) n := cnt_congr (fun t => by simp only [covS, List.any_cons]) n
    rw [e, cnt_or (q := covS r) (fun t ht => ?_), ← ih, cnt_in _ _ (by omega) (by omega), lenS]
    · omega
    · simp only [Bool.and_eq_true, decide_eq_true_eq] at ht
      cases hc : covS r t with
      | false => rfl
      | true =>
        obtain ⟨x, hx, hx2⟩ := covS_iff.1 hc
        have := sep_from h.2.2 x hx
        omega
end Go.Proofs.YtdejgacclogaiaaDoor
