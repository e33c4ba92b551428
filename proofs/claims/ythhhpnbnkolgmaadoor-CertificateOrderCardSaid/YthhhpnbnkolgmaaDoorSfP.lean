/- Ascending lists over a strict order: the place of an element, laying in, taking out; and the order of strings; nothing of the program stands here / Safes with keys that people lock, by plain functions: which safes are valid, and what all functions return; nothing of the program stands here. -/
import Derived.Test.YthhhpnbnkolgmaaDoorAbsL
import Derived.Test.YthhhpnbnkolgmaaDoorLexP
set_option linter.unusedVariables false
set_option linter.unusedSimpArgs false
namespace Go.Proofs.YthhhpnbnkolgmaaDoor
open Go Go.RowKit
structure StrictOrd {α : Type} (lt : α → α → Bool) : Prop where
  irr : ∀ a, lt a a = false
  tr : ∀ a b c, lt a b = true → lt b c = true → lt a c = true
  tot : ∀ a b, lt a b = false → lt b a = false → a = b
theorem StrictOrd.asymm {α : Type} {lt : α → α → Bool} (h : StrictOrd lt) {a b : α} (h1 : lt a b = true) : lt b a = false := by
  cases h2 : lt b a
  · rfl
  · have := h.tr a b a h1 h2; rw [h.irr] at this; cases this
theorem StrictOrd.ne {α : Type} {lt : α → α → Bool} (h : StrictOrd lt) {a b : α} (h1 : lt a b = true) : a ≠ b := fun e => by
  subst e; rw [h.irr] at h1; cases h1
def ltI (a b : Int) : Bool := decide (a < b)
theorem ltI_ord : StrictOrd ltI := ⟨fun a => by simp [ltI], fun a b c h1 h2 => by simp [ltI] at *; omega, fun a b h1 h2 => by simp [ltI] at *; omega⟩
theorem bytes_irr : ∀ x : List UInt8, Op.bytesLess x x = false
  | [] => rfl
  | a :: x => by simp only [Op.bytesLess]; simp [bytes_irr x]
theorem bytes_tr : ∀ x y z : List UInt8, Op.bytesLess x y = true → Op.bytesLess y z = true → Op.bytesLess x z = true
  | [], [], z, h, _ => by simp [Op.bytesLess] at h
  | [], b :: y, [], _, h => by simp [Op.bytesLess] at h
  | [], b :: y, c :: z, _, _ => by simp [Op.bytesLess]
  | a :: x, [], z, h, _ => by simp [Op.bytesLess] at h
  | a :: x, b :: y, [], _, h => by simp [Op.bytesLess] at h
  | a :: x, b :: y, c :: z, h1, h2 => by
    simp only [Op.bytesLess] at *
    have ih := bytes_tr x y z
    by_cases e1 : a = b
    · subst e1
      simp at h1
      by_cases e2 : a = c
      · subst e2
        simp at h2
        simp [ih h1 h2]
      · simp [e2] at h2 ⊢
        exact h2
    · simp [e1] at h1
      by_cases e2 : b = c
      · subst e2
        simp [e1, h1]
      · simp [e2] at h2
        have h3 : a < c := by
          have a1 := UInt8.lt_iff_toNat_lt.1 h1
          have a2 := UInt8.lt_iff_toNat_lt.1 h2
          exact UInt8.lt_iff_toNat_lt.2 (by omega)
        have e3 : ¬ a = c := fun e => by subst e; exact absurd h3 (by simp)
        simp [e3, h3]
theorem bytes_tot : ∀ x y : List UInt8, Op.bytesLess x y = false → Op.bytesLess y x = false → x = y
  | [], [], _, _ => rfl
  | [], b :: y, h, _ => by simp [Op.bytesLess] at h
  | a :: x, [], _, h => by simp [Op.bytesLess] at h
  | a :: x, b :: y, h1, h2 => by
    simp only [Op.bytesLess] at *
    by_cases e1 : a = b
    · subst e1
      simp at h1 h2
      rw [bytes_tot x y h1 h2]
    · have e2 : ¬ b = a := fun e => e1 e.symm
      simp [e1] at h1
      simp [e2] at h2
      exact absurd (UInt8.le_antisymm h2 h1) e1
theorem strLt_ord : StrictOrd strLt := ⟨fun a => bytes_irr _, fun a b c => bytes_tr _ _ _, fun a b h1 h2 => strEq_iff.1 (by unfold strEq; rw [bytes_tot _ _ h1 h2]; simp)⟩
section
variable {α : Type} (lt : α → α → Bool)
def lowG (x : α) : List α → Nat
  | [] => 0
  | y :: l => if lt y x = true then lowG x l + 1 else 0
def insG (x : α) (L : List α) : List α := L.take (lowG lt x L) ++ x :: L.drop (lowG lt x L)
def delG (x : α) (L : List α) : List α := L.take (lowG lt x L) ++ L.drop (lowG lt x L + 1)
def rinsG (x : α) : List α → List α
  | [] => [x]
  | y :: l => if lt x y = true then x :: y :: l else y :: rinsG x l
def AscG (L : List α) : Prop := L.Pairwise (fun a b => lt a b = true)
variable {lt}
theorem lowG_le (x : α) : ∀ L : List α, lowG lt x L ≤ L.length
  | [] => Nat.le_refl _
  | y :: l => by unfold lowG; split <;> simp [lowG_le x l]
theorem insG_cons (x y : α) (l : List α) : insG lt x (y :: l) = if lt y x = true then y :: insG lt x l else x :: y :: l := by
  unfold insG
  rw [lowG]
  split <;> simp
theorem delG_cons (x y : α) (l : List α) : delG lt x (y :: l) = if lt y x = true then y :: delG lt x l else l := by
  unfold delG
  rw [lowG]
  split <;> simp
theorem insG_mem {x z : α} : ∀ {L : List α}, z ∈ insG lt x L ↔ z = x ∨ z ∈ L
  | [] => by simp [insG, lowG]
  | y :: l => by
    rw [insG_cons]
    split
    · rw [List.mem_cons, insG_mem, List.mem_cons]
      constructor
      · rintro (h | h | h)
        · exact .inr (.inl h)
        · exact .inl h
        · exact .inr (.inr h)
      · rintro (h | h | h)
        · exact .inr (.inl h)
        · exact .inl h
        · exact .inr (.inr h)
    · rw [List.mem_cons]
theorem insG_len (x : α) (L : List α) : (insG lt x L).length = L.length + 1 := by
  have := lowG_le (lt := lt) x L
  unfold insG
  simp; omega
theorem insG_rins (ho : StrictOrd lt) {x : α} : ∀ {L : List α}, x ∉ L → insG lt x L = rinsG lt x L
  | [], _ => rfl
  | y :: l, h => by
    rw [insG_cons, rinsG]
    by_cases h1 : lt y x = true
    · rw [if_pos h1, if_neg (by rw [ho.asymm h1]; decide), insG_rins ho (fun hm => h (by simp [hm]))]
    · have h2 : lt x y = true := by
        cases h2 : lt x y
        · exact absurd (ho.tot x y h2 (by simpa using h1)) (fun e => h (by simp [e]))
        · rfl
      rw [if_neg h1, if_pos h2]
theorem insG_asc (ho : StrictOrd lt) {x : α} : ∀ {L : List α}, AscG lt L → x ∉ L → AscG lt (insG lt x L)
  | [], _, _ => by simp [insG, lowG, AscG]
  | y :: l, hp, hn => by
    obtain ⟨p1, p2⟩ := List.pairwise_cons.1 hp
    rw [insG_cons]
    by_cases h1 : lt y x = true
    · rw [if_pos h1]
      refine List.pairwise_cons.2 ⟨fun z hz => ?_, insG_asc ho p2 (fun hm => hn (by simp [hm]))⟩
      rcases insG_mem.1 hz with rfl | hz
      · exact h1
      · exact p1 z hz
    · have h2 : lt x y = true := by
        cases h2 : lt x y
        · exact absurd (ho.tot x y h2 (by simpa using h1)) (fun e => hn (by simp [e]))
        · rfl
      rw [if_neg h1]
      refine List.pairwise_cons.2 ⟨fun z hz => ?_, hp⟩
      rcases List.mem_cons.1 hz with rfl | hz
      · exact h2
      · exact ho.tr _ _ _ h2 (p1 z hz)
theorem lowG_mem (ho : StrictOrd lt) {x : α} : ∀ {L : List α}, AscG lt L → (L[lowG lt x L]? = some x ↔ x ∈ L)
  | [], _ => by simp [lowG]
  | y :: l, hp => by
    obtain ⟨p1, p2⟩ := List.pairwise_cons.1 hp
    rw [lowG]
    by_cases h1 : lt y x = true
    · rw [if_pos h1, List.getElem?_cons_succ, lowG_mem ho p2, List.mem_cons]
      exact ⟨.inr, fun h => h.resolve_left fun e => ho.ne h1 e.symm⟩
    · rw [if_neg h1, List.getElem?_cons_zero, List.mem_cons]
      constructor
      · intro e; injection e with e; exact .inl e.symm
      · rintro (e | h)
        · rw [e]
        · exact absurd (p1 x h) h1
theorem delG_mem (ho : StrictOrd lt) {x z : α} : ∀ {L : List α}, AscG lt L → x ∈ L → (z ∈ delG lt x L ↔ z ∈ L ∧ z ≠ x)
  | [], _, h => by simp at h
  | y :: l, hp, h => by
    obtain ⟨p1, p2⟩ := List.pairwise_cons.1 hp
    rw [delG_cons]
    by_cases h1 : lt y x = true
    · have hxl : x ∈ l := by
        rcases List.mem_cons.1 h with e | h
        · exact absurd e.symm (ho.ne h1)
        · exact h
      rw [if_pos h1, List.mem_cons, delG_mem ho p2 hxl, List.mem_cons]
      constructor
      · rintro (e | ⟨a, b⟩)
        · exact ⟨.inl e, by rw [e]; exact ho.ne h1⟩
        · exact ⟨.inr a, b⟩
      · rintro ⟨e | a, b⟩
        · exact .inl e
        · exact .inr ⟨a, b⟩
    · rw [if_neg h1]
      have e : x = y := by
        rcases List.mem_cons.1 h with e | h
        · exact e
        · exact absurd (p1 x h) h1
      subst e
      rw [List.mem_cons]
      constructor
      · intro hz; exact ⟨.inr hz, (ho.ne (p1 z hz)).symm⟩
      · rintro ⟨e | a, b⟩
        · exact absurd e b
        · exact a
theorem delG_filter [DecidableEq α] (ho : StrictOrd lt) {x : α} : ∀ {L : List α}, AscG lt L → x ∈ L → L.filter (fun z => !decide (z = x)) = delG lt x L
  | [], _, h => by simp at h
  | y :: l, hp, h => by
    obtain ⟨p1, p2⟩ := List.pairwise_cons.1 hp
    rw [delG_cons]
    by_cases h1 : lt y x = true
    · have hxl : x ∈ l := by
        rcases List.mem_cons.1 h with e | h
        · exact absurd e.symm (ho.ne h1)
        · exact h
      rw [if_pos h1, List.filter_cons_of_pos (by simpa using ho.ne h1), delG_filter ho p2 hxl]
    · rw [if_neg h1]
      have e : x = y := by
        rcases List.mem_cons.1 h with e | h
        · exact e
        · exact absurd (p1 x h) h1
      subst e
      rw [List.filter_cons_of_neg (by simp), List.filter_eq_self.2]
      intro z hz
      simpa using (ho.ne (p1 z hz)).symm
theorem delG_asc {x : α} : ∀ {L : List α}, AscG lt L → AscG lt (delG lt x L) := fun {L} h => by
  unfold delG
  refine List.pairwise_append.2 ⟨h.sublist (List.take_sublist _ _), h.sublist (List.drop_sublist _ _), fun a ha b hb => ?_⟩
  obtain ⟨i, hi⟩ := List.getElem?_of_mem ha
  obtain ⟨j, hj⟩ := List.getElem?_of_mem hb
  rw [List.getElem?_take] at hi
  split at hi
  · rw [List.getElem?_drop] at hj
    have h3 := List.pairwise_iff_getElem.1 h i (lowG lt x L + 1 + j) (lt_at hi) (lt_at hj) (by omega)
    rw [(List.getElem?_eq_some_iff.1 hi).2, (List.getElem?_eq_some_iff.1 hj).2] at h3
    exact h3
  · cases hi
theorem delG_len {x : α} {L : List α} (h : L[lowG lt x L]? = some x) : (delG lt x L).length + 1 = L.length := by
  have := lt_at h
  unfold delG
  simp; omega
theorem lowG_ins (ho : StrictOrd lt) {x : α} : ∀ {L : List α}, lowG lt x (insG lt x L) = lowG lt x L
  | [] => by
    show lowG lt x [x] = 0
    rw [lowG, if_neg (by rw [ho.irr]; decide)]
  | y :: l => by
    rw [insG_cons, lowG]
    by_cases h1 : lt y x = true
    · rw [if_pos h1, if_pos h1, lowG, if_pos h1, lowG_ins ho]
    · rw [if_neg h1, if_neg h1, lowG, if_neg (by rw [ho.irr]; decide)]
theorem del_ins (ho : StrictOrd lt) {x : α} {L : List α} : delG lt x (insG lt x L) = L := by
  have hl := lowG_ins (lt := lt) ho (x := x) (L := L)
  have hle := lowG_le (lt := lt) x L
  unfold delG
  rw [hl]
  unfold insG
  have e : (L.take (lowG lt x L)).length = lowG lt x L := by rw [List.length_take]; omega
  rw [List.take_append_of_le_length (by omega), List.drop_append, e, Nat.add_sub_cancel_left, List.drop_of_length_le (by rw [e]; omega)]
  rw [List.take_of_length_le (by omega)]
  simp
end
end Go.Proofs.YthhhpnbnkolgmaaDoor
namespace Go.Proofs.YthhhpnbnkolgmaaDoor
open Go Go.RowKit
structure Sf where
  num : Int
  keys : List Int
  locked : List ByteArray
  deriving DecidableEq
instance : Inhabited Sf := ⟨⟨0, [], []⟩⟩
def hasI (K : List Int) (k : Int) : Bool := K.any fun x => decide (x = k)
def hasS (K : List ByteArray) (k : ByteArray) : Bool := K.any fun x => decide (x = k)
theorem hasI_iff {K : List Int} {k : Int} : hasI K k = true ↔ k ∈ K := by unfold hasI; simp
theorem hasS_iff {K : List ByteArray} {k : ByteArray} : hasS K k = true ↔ k ∈ K := by unfold hasS; simp
def hasP (P : List Sf) (k : Int) : Bool := P.any fun s => hasI s.keys k
def prevI (q : Option Int) (k : Int) : Bool := match q with | none => false | some q => decide (k ≤ q)
def prevS (q : Option ByteArray) (k : ByteArray) : Bool := match q with | none => false | some q => !strLt q k
def prevN (q : Option Sf) (s : Sf) : Bool := match q with | none => false | some q => decide (s.num ≤ q.num)
def keyE (P : List Sf) (q : Option Int) (k : Int) : Int := if k < 0 ∨ 65536 < k then 5 else if prevI q k = true then 14 else if hasP P k = true then 4 else 0
def keyGo (P : List Sf) : Option Int → List Int → Int
  | _, [] => 0
  | q, k :: l => if keyE P q k ≠ 0 then keyE P q k else keyGo P (some k) l
def nameE (q : Option ByteArray) (s : ByteArray) : Int := if nameB s.data.toList = false then 3 else if prevS q s = true then 14 else 0
def nameGo : Option ByteArray → List ByteArray → Int
  | _, [] => 0
  | q, s :: l => if nameE q s ≠ 0 then nameE q s else nameGo (some s) l
def peopleE (l : List ByteArray) : Int := if 16 < l.length then 1 else nameGo none l
def sfE (P : List Sf) (q : Option Sf) (s : Sf) : Int :=
  if s.num < 1 ∨ 16 < s.num then 5 else if prevN q s = true then 14 else if keyGo P none s.keys ≠ 0 then keyGo P none s.keys else peopleE s.locked
def sfGo (P : List Sf) (q : Option Sf) : List Sf → Int
  | [] => 0
  | s :: l => if sfE P q s ≠ 0 then sfE P q s else sfGo (P ++ [s]) (some s) l
def chkS (L : List Sf) : Int := if 16 < L.length then 1 else sfGo [] none L
/-- A safe that is right by itself. -/
structure SfOk (s : Sf) : Prop where
  num : 1 ≤ s.num ∧ s.num ≤ 16
  key : ∀ k ∈ s.keys, 0 ≤ k ∧ k ≤ 65536
  kasc : AscG ltI s.keys
  len : s.locked.length ≤ 16
  name : ∀ n ∈ s.locked, nameB n.data.toList = true
  nasc : AscG strLt s.locked
def Before (a b : Sf) : Prop := a.num < b.num ∧ ∀ k ∈ b.keys, k ∉ a.keys
theorem keyGo_iff (P : List Sf) : ∀ (K : List Int) (q : Option Int), keyGo P q K = 0 ↔ (∀ k ∈ K, (0 ≤ k ∧ k ≤ 65536) ∧ ∀ s ∈ P, k ∉ s.keys) ∧ (∀ x, q = some x → ∀ k ∈ K, x < k) ∧ AscG ltI K
  | [], q => by simp [keyGo, AscG]
  | k :: l, q => by
    have ih := keyGo_iff P l (some k)
    have hP : hasP P k = false ↔ ∀ s ∈ P, k ∉ s.keys := by
      unfold hasP
      rw [List.any_eq_false]
      constructor
      · intro h s hs hk; exact h s hs (hasI_iff.2 hk)
      · intro h s hs hk; exact h s hs (hasI_iff.1 hk)
    have hE : keyE P q k = 0 ↔ (0 ≤ k ∧ k ≤ 65536) ∧ (∀ x, q = some x → x < k) ∧ ∀ s ∈ P, k ∉ s.keys := by
      unfold keyE
      rw [← hP]
      cases q with
      | none =>
        by_cases h1 : k < 0 ∨ 65536 < k
        · rw [if_pos h1]; constructor
          · intro h; cases h
          · rintro ⟨h, -⟩; omega
        · rw [if_neg h1, if_neg (by simp [prevI])]
          cases h2 : hasP P k <;> simp <;> omega
      | some x =>
        by_cases h1 : k < 0 ∨ 65536 < k
        · rw [if_pos h1]; constructor
          · intro h; cases h
          · rintro ⟨h, -⟩; omega
        · rw [if_neg h1]
          by_cases h3 : k ≤ x
          · rw [if_pos (by simpa [prevI] using h3)]; constructor
            · intro h; cases h
            · rintro ⟨-, h, -⟩; have := h x rfl; omega
          · rw [if_neg (by simpa [prevI] using h3)]
            cases h2 : hasP P k <;> simp <;> omega
    unfold keyGo
    by_cases h0 : keyE P q k = 0
    · rw [if_neg (by simp [h0]), ih]
      obtain ⟨a, b, c⟩ := hE.1 h0
      constructor
      · rintro ⟨d, e, f⟩
        refine ⟨fun x hx => ?_, fun x hx y hy => ?_, List.pairwise_cons.2 ⟨fun y hy => by simpa [ltI] using e k rfl y hy, f⟩⟩
        · rcases List.mem_cons.1 hx with rfl | hx
          · exact ⟨a, c⟩
          · exact d x hx
        · rcases List.mem_cons.1 hy with rfl | hy
          · exact b x hx
          · have := b x hx; have := e k rfl y hy; omega
      · rintro ⟨d, e, f⟩
        obtain ⟨f1, f2⟩ := List.pairwise_cons.1 f
        exact ⟨fun x hx => d x (by simp [hx]), fun x hx y hy => by injection hx with hx; subst hx; simpa [ltI] using f1 y hy, f2⟩
    · rw [if_pos h0]
      constructor
      · intro h; exact absurd h h0
      · rintro ⟨d, e, f⟩
        exact absurd (hE.2 ⟨(d k (by simp)).1, fun x hx => e x hx k (by simp), (d k (by simp)).2⟩) h0
theorem nameGo_iff : ∀ (K : List ByteArray) (q : Option ByteArray), nameGo q K = 0 ↔ (∀ k ∈ K, nameB k.data.toList = true) ∧ (∀ x, q = some x → ∀ k ∈ K, strLt x k = true) ∧ AscG strLt K
  | [], q => by simp [nameGo, AscG]
  | k :: l, q => by
    have ih := nameGo_iff l (some k)
    have hE : nameE q k = 0 ↔ nameB k.data.toList = true ∧ (∀ x, q = some x → strLt x k = true) := by
      unfold nameE
      cases q with
      | none => cases h1 : nameB k.data.toList <;> simp [prevS]
      | some x => cases h1 : nameB k.data.toList <;> cases h2 : strLt x k <;> simp [prevS, h2]
    unfold nameGo
    by_cases h0 : nameE q k = 0
    · rw [if_neg (by simp [h0]), ih]
      obtain ⟨a, b⟩ := hE.1 h0
      constructor
      · rintro ⟨d, e, f⟩
        refine ⟨fun x hx => ?_, fun x hx y hy => ?_, List.pairwise_cons.2 ⟨fun y hy => e k rfl y hy, f⟩⟩
        · rcases List.mem_cons.1 hx with rfl | hx
          · exact a
          · exact d x hx
        · rcases List.mem_cons.1 hy with rfl | hy
          · exact b x hx
          · exact strLt_ord.tr _ _ _ (b x hx) (e k rfl y hy)
      · rintro ⟨d, e, f⟩
        obtain ⟨f1, f2⟩ := List.pairwise_cons.1 f
        exact ⟨fun x hx => d x (by simp [hx]), fun x hx y hy => by injection hx with hx; subst hx; exact f1 y hy, f2⟩
    · rw [if_pos h0]
      constructor
      · intro h; exact absurd h h0
      · rintro ⟨d, e, f⟩
        exact absurd (hE.2 ⟨d k (by simp), fun x hx => e x hx k (by simp)⟩) h0
theorem sfE_iff (P : List Sf) (q : Option Sf) (s : Sf) : sfE P q s = 0 ↔ SfOk s ∧ (∀ x, q = some x → x.num < s.num) ∧ ∀ x ∈ P, ∀ k ∈ s.keys, k ∉ x.keys := by
  have hk := keyGo_iff P s.keys none
  have hn := nameGo_iff s.locked none
  have hq : prevN q s = false ↔ ∀ x, q = some x → x.num < s.num := by
    cases q with
    | none => simp [prevN]
    | some x => simp [prevN]
  unfold sfE
  by_cases h1 : s.num < 1 ∨ 16 < s.num
  · rw [if_pos h1]
    constructor
    · intro h; cases h
    · rintro ⟨h, -⟩; have := h.num; omega
  rw [if_neg h1]
  by_cases h2 : prevN q s = true
  · rw [if_pos h2]
    constructor
    · intro h; cases h
    · rintro ⟨-, h, -⟩; rw [← hq, h2] at h; cases h
  rw [if_neg h2]
  have h2' := hq.1 (by simpa using h2)
  by_cases h3 : keyGo P none s.keys = 0
  · rw [if_neg (by simp [h3])]
    obtain ⟨a, -, b⟩ := hk.1 h3
    unfold peopleE
    by_cases h4 : 16 < s.locked.length
    · rw [if_pos h4]
      constructor
      · intro h; cases h
      · rintro ⟨h, -⟩; have := h.len; omega
    · rw [if_neg h4, hn]
      constructor
      · rintro ⟨c, -, d⟩
        exact ⟨⟨by omega, fun k hk => (a k hk).1, b, by omega, c, d⟩, h2', fun x hx k hk => (a k hk).2 x hx⟩
      · rintro ⟨h, -⟩
        exact ⟨h.name, by simp, h.nasc⟩
  · rw [if_pos h3]
    constructor
    · intro h; exact absurd h h3
    · rintro ⟨h, -, h5⟩
      exact absurd (hk.2 ⟨fun k hk => ⟨h.key k hk, fun x hx => h5 x hx k hk⟩, by simp, h.kasc⟩) h3
theorem sfGo_iff : ∀ (L P : List Sf) (q : Option Sf), sfGo P q L = 0 ↔ (∀ s ∈ L, SfOk s) ∧ (∀ x, q = some x → ∀ s ∈ L, x.num < s.num) ∧ (∀ x ∈ P, ∀ s ∈ L, ∀ k ∈ s.keys, k ∉ x.keys) ∧ L.Pairwise Before
  | [], P, q => by simp [sfGo]
  | s :: l, P, q => by
    have ih := sfGo_iff l (P ++ [s]) (some s)
    have hE := sfE_iff P q s
    unfold sfGo
    by_cases h0 : sfE P q s = 0
    · rw [if_neg (by simp [h0]), ih]
      obtain ⟨a, b, c⟩ := hE.1 h0
      constructor
      · rintro ⟨d, e, f, g⟩
        refine ⟨fun x hx => ?_, fun x hx y hy => ?_, fun x hx y hy => ?_, List.pairwise_cons.2 ⟨fun y hy => ⟨e s rfl y hy, fun k hk => f s (by simp) y hy k hk⟩, g⟩⟩
        · rcases List.mem_cons.1 hx with rfl | hx
          · exact a
          · exact d x hx
        · rcases List.mem_cons.1 hy with rfl | hy
          · exact b x hx
          · have := b x hx; have := e s rfl y hy; omega
        · rcases List.mem_cons.1 hy with rfl | hy
          · exact c x hx
          · exact f x (by simp [hx]) y hy
      · rintro ⟨d, e, f, g⟩
        obtain ⟨g1, g2⟩ := List.pairwise_cons.1 g
        refine ⟨fun x hx => d x (by simp [hx]), fun x hx y hy => by injection hx with hx; subst hx; exact (g1 y hy).1, fun x hx y hy => ?_, g2⟩
        rcases List.mem_append.1 hx with hx | hx
        · exact f x hx y (by simp [hy])
        · rw [List.mem_singleton] at hx; subst hx; exact (g1 y hy).2
    · rw [if_pos h0]
      constructor
      · intro h; exact absurd h h0
      · rintro ⟨d, e, f, g⟩
        exact absurd (hE.2 ⟨d s (by simp), fun x hx => e x hx s (by simp), fun x hx => f x hx s (by simp)⟩) h0
theorem chkS_iff (L : List Sf) : chkS L = 0 ↔ L.length ≤ 16 ∧ (∀ s ∈ L, SfOk s) ∧ L.Pairwise Before := by
  unfold chkS
  by_cases h : 16 < L.length
  · rw [if_pos h]
    constructor
    · intro h; cases h
    · rintro ⟨h, -⟩; omega
  · rw [if_neg h, sfGo_iff]
    constructor
    · rintro ⟨a, -, -, b⟩; exact ⟨by omega, a, b⟩
    · rintro ⟨-, a, b⟩; exact ⟨a, by simp, by simp, b⟩
/-- The first of which something holds, or -1. -/
def idxG {α : Type} (p : α → Bool) : List α → Nat → Int
  | [], _ => -1
  | x :: l, i => if p x = true then i else idxG p l (i + 1)
theorem idxG_at {α : Type} {p : α → Bool} {L : List α} {k : Nat} {x : α} (h : L[k]? = some x) : idxG p (L.drop k) k = if p x = true then (k : Int) else idxG p (L.drop (k + 1)) (k + 1) := by rw [drop_at h]; rfl
theorem idxG_any {α : Type} (p : α → Bool) : ∀ (L : List α) (i : Nat), decide (idxG p L i ≥ 0) = L.any p
  | [], i => by simp [idxG]
  | x :: L, i => by
    rw [idxG, List.any_cons]
    split
    · rename_i h; rw [h]; simp
    · rename_i h; rw [idxG_any p L (i + 1)]; simp [h]
theorem idxG_some {α : Type} {p : α → Bool} : ∀ {L : List α} {i : Nat}, 0 ≤ idxG p L i → ∃ j x, idxG p L i = ((i + j : Nat) : Int) ∧ L[j]? = some x ∧ p x = true
  | [], i, h => by simp [idxG] at h
  | x :: L, i, h => by
    rw [idxG] at h ⊢
    by_cases hp : p x = true
    · rw [if_pos hp]; exact ⟨0, x, rfl, rfl, hp⟩
    · rw [if_neg hp] at h ⊢
      obtain ⟨j, y, a, b, c⟩ := idxG_some h
      exact ⟨j + 1, y, by rw [a]; congr 1; omega, b, c⟩
theorem idxG_neg {α : Type} {p : α → Bool} {L : List α} {i : Nat} (h : idxG p L i < 0) : ∀ x ∈ L, p x = false := by
  have := idxG_any p L i
  rw [decide_eq_false (by omega)] at this
  exact fun x hx => by have := List.any_eq_false.1 this.symm x hx; simpa using this
def findS (L : List Sf) (n : Int) : Int := if chkS L ≠ 0 then -1 else idxG (fun s => decide (s.num = n)) L 0
def inIdx (L : List Sf) (k : Int) : Int := if chkS L ≠ 0 then -1 else idxG (fun s => hasI s.keys k) L 0
def inS (L : List Sf) (k : Int) : Int := if inIdx L k < 0 then 0 else match L[(inIdx L k).toNat]? with | some s => s.num | none => 0
def lkS (L : List Sf) (n : Int) (m : ByteArray) : Bool := if chkS L ≠ 0 then false else L.any fun s => decide (s.num = n) && hasS s.locked m
def atS (L : List Sf) (n : Int) : Sf := match L[(findS L n).toNat]? with | some s => s | none => ⟨0, [], []⟩
def openE (L : List Sf) (n : Int) : Int := if chkS L ≠ 0 then chkS L else if findS L n < 0 then 15 else if (atS L n).locked ≠ [] then 41 else 0
def putS (L : List Sf) (n k : Int) : List Sf × Int :=
  if openE L n ≠ 0 then ([], openE L n) else if k < 0 ∨ 65536 < k then ([], 5) else if 0 < inS L k then ([], 4)
  else (L.set (findS L n).toNat ⟨(atS L n).num, insG ltI k (atS L n).keys, (atS L n).locked⟩, 0)
def takeS (L : List Sf) (n k : Int) : List Sf × Int :=
  if openE L n ≠ 0 then ([], openE L n) else if hasI (atS L n).keys k = false then ([], 15)
  else (L.set (findS L n).toNat ⟨(atS L n).num, delG ltI k (atS L n).keys, (atS L n).locked⟩, 0)
def fixS (L : List Sf) (n : Int) (m : ByteArray) : List Sf × Int :=
  if chkS L ≠ 0 then ([], chkS L) else if findS L n < 0 then ([], 15) else if nameB m.data.toList = false then ([], 3) else if hasS (atS L n).locked m = true then ([], 4)
  else if (atS L n).locked.length = 16 then ([], 1) else (L.set (findS L n).toNat ⟨(atS L n).num, (atS L n).keys, insG strLt m (atS L n).locked⟩, 0)
def relS (L : List Sf) (n : Int) (m : ByteArray) : List Sf × Int :=
  if chkS L ≠ 0 then ([], chkS L) else if findS L n < 0 then ([], 15) else if hasS (atS L n).locked m = false then ([], 15)
  else (L.set (findS L n).toNat ⟨(atS L n).num, (atS L n).keys, delG strLt m (atS L n).locked⟩, 0)
end Go.Proofs.YthhhpnbnkolgmaaDoor
