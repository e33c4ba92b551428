/- Ascending lists over a strict order: the place of an element, laying in, taking out; and the order of strings; nothing of the program stands here. -/
import Derived.Test.YtnfjlinffjhkpaaDoorAbsL
set_option linter.unusedVariables false
set_option linter.unusedSimpArgs false
namespace Go.Proofs.YtnfjlinffjhkpaaDoor
open Go Go.RowKit
structure StrictOrd {α : Type} (lt : α → α → Bool) : Prop where
  irr : ∀ a, lt a a = false
  tr : ∀ a b c, lt a b = true → lt b c = true → lt a c = true
  tot : ∀ a b, lt a b = false → lt b a = false → a = b
theorem StrictOrd.asymm {α : Type} {lt : α → α → Bool} (h : StrictOrd lt) {a b : α} (h1 : lt a b = true) : lt b a = false := by
  cases h2 : lt b a
  · rfl
  · have := h.tr a b a h1 h2; rw [h.irr] at this; cases this
theorem StrictOrd.ne {α : Type} {lt : α → α → Bool} (h : StrictOrd lt) {a b : α} (h1 : lt a b = true) : a ≠ b := fun e => by
  subst e; rw [h.irr] at h1; cases h1
def ltI (a b : Int) : Bool := decide (a < b)
theorem ltI_ord : StrictOrd ltI := ⟨fun a => by simp [ltI], fun a b c h1 h2 => by simp [ltI] at *; omega, fun a b h1 h2 => by simp [ltI] at *; omega⟩
theorem bytes_irr : ∀ x : List UInt8, Op.bytesLess x x = false
  | [] => rfl
  | a :: x => by simp only [Op.bytesLess]; simp [bytes_irr x]
theorem bytes_tr : ∀ x y z : List UInt8, Op.bytesLess x y = true → Op.bytesLess y z = true → Op.bytesLess x z = true
  | [], [], z, h, _ => by simp [Op.bytesLess] at h
  | [], b :: y, [], _, h => by simp [Op.bytesLess] at h
  | [], b :: y, c :: z, _, _ => by simp [Op.bytesLess]
  | a :: x, [], z, h, _ => by simp [Op.bytesLess] at h
  | a :: x, b :: y, [], _, h => by simp [Op.bytesLess] at h
  | a :: x, b :: y, c :: z, h1, h2 => by
    simp only [Op.bytesLess] at *
    have ih := bytes_tr x y z
    by_cases e1 : a = b
    · subst e1
      simp at h1
      by_cases e2 : a = c
      · subst e2
        simp at h2
        simp [ih h1 h2]
      · simp [e2] at h2 ⊢
        exact h2
    · simp [e1] at h1
      by_cases e2 : b = c
      · subst e2
        simp [e1, h1]
      · simp [e2] at h2
        have h3 : a < c := by
          have a1 := UInt8.lt_iff_toNat_lt.1 h1
          have a2 := UInt8.lt_iff_toNat_lt.1 h2
          exact UInt8.lt_iff_toNat_lt.2 (by omega)
        have e3 : ¬ a = c := fun e => by subst e; exact absurd h3 (by simp)
        simp [e3, h3]
theorem bytes_tot : ∀ x y : List UInt8, Op.bytesLess x y = false → Op.bytesLess y x = false → x = y
  | [], [], _, _ => rfl
  | [], b :: y, h, _ => by simp [Op.bytesLess] at h
  | a :: x, [], _, h => by simp [Op.bytesLess] at h
  | a :: x, b :: y, h1, h2 => by
    simp only [Op.bytesLess] at *
    by_cases e1 : a = b
    · subst e1
      simp at h1 h2
      rw [bytes_tot x y h1 h2]
    · have e2 : ¬ b = a := fun e => e1 e.symm
      simp [e1] at h1
      simp [e2] at h2
      exact absurd (UInt8.le_antisymm h2 h1) e1
theorem strLt_ord : StrictOrd strLt := ⟨fun a => bytes_irr _, fun a b c => bytes_tr _ _ _, fun a b h1 h2 => strEq_iff.1 (by unfold strEq; rw [bytes_tot _ _ h1 h2]; simp)⟩
section
variable {α : Type} (lt : α → α → Bool)
def lowG (x : α) : List α → Nat
  | [] => 0
  | y :: l => if lt y x = true then lowG x l + 1 else 0
def insG (x : α) (L : List α) : List α := L.take (lowG lt x L) ++ x :: L.drop (lowG lt x L)
def delG (x : α) (L : List α) : List α := L.take (lowG lt x L) ++ L.drop (lowG lt x L + 1)
def rinsG (x : α) : List α → List α
  | [] => [x]
  | y :: l => if lt x y = true then x :: y :: l else y :: rinsG x l
def AscG (L : List α) : Prop := L.Pairwise (fun a b => lt a b = true)
variable {lt}
theorem lowG_le (x : α) : ∀ L : List α, lowG lt x L ≤ L.length
  | [] => Nat.le_refl _
  | y :: l => by unfold lowG; split <;> simp [lowG_le x l]
theorem insG_cons (x y : α) (l : List α) : insG lt x (y :: l) = if lt y x = true then y :: insG lt x l else x :: y :: l := by
  unfold insG
  rw [lowG]
  split <;> simp
theorem delG_cons (x y : α) (l : List α) : delG lt x (y :: l) = if lt y x = true then y :: delG lt x l else l := by
  unfold delG
  rw [lowG]
  split <;> simp
theorem insG_mem {x z : α} : ∀ {L : List α}, z ∈ insG lt x L ↔ z = x ∨ z ∈ L
  | [] => by simp [insG, lowG]
  | y :: l => by
    rw [insG_cons]
    split
    · rw [List.mem_cons, insG_mem, List.mem_cons]
      constructor
      · rintro (h | h | h)
        · exact .inr (.inl h)
        · exact .inl h
        · exact .inr (.inr h)
      · rintro (h | h | h)
        · exact .inr (.inl h)
        · exact .inl h
        · exact .inr (.inr h)
    · rw [List.mem_cons]
theorem insG_len (x : α) (L : List α) : (insG lt x L).length = L.length + 1 := by
  have := lowG_le (lt := lt) x L
  unfold insG
  simp; omega
theorem insG_rins (ho : StrictOrd lt) {x : α} : ∀ {L : List α}, x ∉ L → insG lt x L = rinsG lt x L
  | [], _ => rfl
  | y :: l, h => by
    rw [insG_cons, rinsG]
    by_cases h1 : lt y x = true
    · rw [if_pos h1, if_neg (by rw [ho.asymm h1]; decide), insG_rins ho (fun hm => h (by simp [hm]))]
    · have h2 : lt x y = true := by
        cases h2 : lt x y
        · exact absurd (ho.tot x y h2 (by simpa using h1)) (fun e => h (by simp [e]))
        · rfl
      rw [if_neg h1, if_pos h2]
theorem insG_asc (ho : StrictOrd lt) {x : α} : ∀ {L : List α}, AscG lt L → x ∉ L → AscG lt (insG lt x L)
  | [], _, _ => by simp [insG, lowG, AscG]
  | y :: l, hp, hn => by
    obtain ⟨p1, p2⟩ := List.pairwise_cons.1 hp
    rw [insG_cons]
    by_cases h1 : lt y x = true
    · rw [if_pos h1]
      refine List.pairwise_cons.2 ⟨fun z hz => ?_, insG_asc ho p2 (fun hm => hn (by simp [hm]))⟩
      rcases insG_mem.1 hz with rfl | hz
      · exact h1
      · exact p1 z hz
    · have h2 : lt x y = true := by
        cases h2 : lt x y
        · exact absurd (ho.tot x y h2 (by simpa using h1)) (fun e => hn (by simp [e]))
        · rfl
      rw [if_neg h1]
      refine List.pairwise_cons.2 ⟨fun z hz => ?_, hp⟩
      rcases List.mem_cons.1 hz with rfl | hz
      · exact h2
      · exact ho.tr _ _ _ h2 (p1 z hz)
theorem lowG_mem (ho : StrictOrd lt) {x : α} : ∀ {L : List α}, AscG lt L → (L[lowG lt x L]? = some x ↔ x ∈ L)
  | [], _ => by simp [lowG]
  | y :: l, hp => by
    obtain ⟨p1, p2⟩ := List.pairwise_cons.1 hp
    rw [lowG]
    by_cases h1 : lt y x = true
    · rw [if_pos h1, List.getElem?_cons_succ, lowG_mem ho p2, List.mem_cons]
      exact ⟨.inr, fun h => h.resolve_left fun e => ho.ne h1 e.symm⟩
    · rw [if_neg h1, List.getElem?_cons_zero, List.mem_cons]
      constructor
      · intro e; injection e with e; exact .inl e.symm
      · rintro (e | h)
        · rw [e]
        · exact absurd (p1 x h) h1
theorem delG_mem (ho : StrictOrd lt) {x z : α} : ∀ {L : List α}, AscG lt L → x ∈ L → (z ∈ delG lt x L ↔ z ∈ L ∧ z ≠ x)
  | [], _, h => by simp at h
  | y :: l, hp, h => by
    obtain ⟨p1, p2⟩ := List.pairwise_cons.1 hp
    rw [delG_cons]
    by_cases h1 : lt y x = true
    · have hxl : x ∈ l := by
        rcases List.mem_cons.1 h with e | h
        · exact absurd e.symm (ho.ne h1)
        · exact h
      rw [if_pos h1, List.mem_cons, delG_mem ho p2 hxl, List.mem_cons]
      constructor
      · rintro (e | ⟨a, b⟩)
        · exact ⟨.inl e, by rw [e]; exact ho.ne h1⟩
        · exact ⟨.inr a, b⟩
      · rintro ⟨e | a, b⟩
        · exact .inl e
        · exact .inr ⟨a, b⟩
    · rw [if_neg h1]
      have e : x = y := by
        rcases List.mem_cons.1 h with e | h
        · exact e
        · exact absurd (p1 x h) h1
      subst e
      rw [List.mem_cons]
      constructor
      · intro hz; exact ⟨.inr hz, (ho.ne (p1 z hz)).symm⟩
      · rintro ⟨e | a, b⟩
        · exact absurd e b
        · exact a
theorem delG_filter [DecidableEq α] (ho : StrictOrd lt) {x : α} : ∀ {L : List α}, AscG lt L → x ∈ L → L.filter (fun z => !decide (z = x)) = delG lt x L
  | [], _, h => by simp at h
  | y :: l, hp, h => by
    obtain ⟨p1, p2⟩ := List.pairwise_cons.1 hp
    rw [delG_cons]
    by_cases h1 : lt y x = true
    · have hxl : x ∈ l := by
        rcases List.mem_cons.1 h with e | h
        · exact absurd e.symm (ho.ne h1)
        · exact h
      rw [if_pos h1, List.filter_cons_of_pos (by simpa using ho.ne h1), delG_filter ho p2 hxl]
    · rw [if_neg h1]
      have e : x = y := by
        rcases List.mem_cons.1 h with e | h
        · exact e
        · exact absurd (p1 x h) h1
      subst e
      rw [List.filter_cons_of_neg (by simp), List.filter_eq_self.2]
      intro z hz
      simpa using (ho.ne (p1 z hz)).symm
theorem delG_asc {x : α} : ∀ {L : List α}, AscG lt L → AscG lt (delG lt x L) := fun {L} h => by
  unfold delG
  refine List.pairwise_append.2 ⟨h.sublist (List.take_sublist _ _), h.sublist (List.drop_sublist _ _), fun a ha b hb => ?_⟩
  obtain ⟨i, hi⟩ := List.getElem?_of_mem ha
  obtain ⟨j, hj⟩ := List.getElem?_of_mem hb
  rw [List.getElem?_take] at hi
  split at hi
  · rw [List.getElem?_drop] at hj
    have h3 := List.pairwise_iff_getElem.1 h i (lowG lt x L + 1 + j) (lt_at hi) (lt_at hj) (by omega)
    rw [(List.getElem?_eq_some_iff.1 hi).2, (List.getElem?_eq_some_iff.1 hj).2] at h3
    exact h3
  · cases hi
theorem delG_len {x : α} {L : List α} (h : L[lowG lt x L]? = some x) : (delG lt x L).length + 1 = L.length := by
  have := lt_at h
  unfold delG
  simp; omega
theorem lowG_ins (ho : StrictOrd lt) {x : α} : ∀ {L : List α}, lowG lt x (insG lt x L) = lowG lt x L
  | [] => by
    show lowG lt x [x] = 0
    rw [lowG, if_neg (by rw [ho.irr]; decide)]
  | y :: l => by
    rw [insG_cons, lowG]
    by_cases h1 : lt y x = true
    · rw [if_pos h1, if_pos h1, lowG, if_pos h1, lowG_ins ho]
    · rw [if_neg h1, if_neg h1, lowG, if_neg (by rw [ho.irr]; decide)]
theorem del_ins (ho : StrictOrd lt) {x : α} {L : List α} : delG lt x (insG lt x L) = L := by
  have hl := lowG_ins (lt := lt) ho (x := x) (L := L)
  have hle := lowG_le (lt := lt) x L
  unfold delG
  rw [hl]
  unfold insG
  have e : (L.take (lowG lt x L)).length = lowG lt x L := by rw [List.length_take]; omega
  rw [List.take_append_of_le_length (by omega), List.drop_append, e, Nat.add_sub_cancel_left, List.drop_of_length_le (by rw [e]; omega)]
  rw [List.take_of_length_le (by omega)]
  simp
end
end Go.Proofs.YtnfjlinffjhkpaaDoor
